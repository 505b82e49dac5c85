/- Texts of my own, one behind the other: HrP16, HrN2, HrN3, HrN4, HrE1, HrE2, HrR1, HrM1, HrM2, HrM3, HrM4, HrM5, HrN5, HrM6, HrS1, HrS2, HrS3, HrS4, HrS5, HrFlip, HrQ1, HrQ2, HrQ3, HrQ4, HrQ5, HrQ6, HrQ7, HrQ8, HrQ9, HrQ10, HrQ11, HrQ12, HrQ13, HrZ0, HrZ1, HrBk, HrJd1, HrJd2, HrJd3, HrJd4, HrJd5, HrZ4, HrZ5, HrZ2, HrZ3, HrZ6, HrQ14, HrDbR1, HrHub, HrWPp, HrWP, HrOKT, HrWhole, HrHx, HrBookP, HrS6. -/
import Derived.Test.YtjkjoincmkmglaaGreatDoorT5
import Derived.Lib.Mul64
import Derived.Lib.ParseIntBTie
import Derived.WalkKit
import Derived.WalkSpells
import Derived.Lib.SmallJoins
import Derived.IntWalk
set_option linter.defProp false
set_option linter.unusedVariables false
set_option linter.unusedSimpArgs false
open Decidable renaming decide→nP
open Option renaming some→Bm
open Option renaming none→Kk
open Bool renaming true→Qf
open Bool renaming false→Qg
noncomputable section
set_option maxRecDepth 20000
namespace Go.Eng
open Go.IntWalk
namespace Gz
def Cr:List Int->Int
 |[]=>0
 |x::r=>x+65536*Cr r
def pJ(h:Nat->Int):Nat->Int
 |0=>0
 |n+1=>pJ h n+h n*65536^n
theorem EA:∀(l:List Int)(x:Int),Cr (l++[x])=Cr l+x*65536^l.length
 |[],x=>by simp[Cr]
 |y::r,x=>by rw[List.cons_append,Cr,EA r x,Cr,av,Int.pow_succ,Int.mul_add,<-Int.mul_assoc x,Int.mul_comm 65536 (x*_),Int.add_assoc]
theorem vY(f:Nat->Int):∀n,Cr ((List.range n).map f)=pJ f n
 |0=>rfl
 |n+1=>by rw[List.range_succ,List.map_append,List.map_singleton,EA,vY f n,bj,List.length_range];rfl
def MA(l:List Int):Cr l=pJ (l.getD · 0) l.length:=by rw[<-vY,<-Hw l _ l.length (Nat.le_refl _) (λ_=>rfl),List.take_length]
theorem vX{f g:Nat->Int}:∀n,(∀i,i<n->f i=g i)->pJ f n=pJ g n
 |0,_=>rfl
 |n+1,h=>by rw[pJ,pJ,vX n (λi hi=>h i (by omega)),h n (by omega)]
theorem HY(f g:Nat->Int):∀n,pJ (λi=>f i+g i) n=pJ f n+pJ g n
 |0=>rfl
 |n+1=>by simp only[pJ];rw[HY f g n,Int.add_mul];omega
theorem yZ:∀n,pJ (λ_=>0) n=0
 |0=>rfl
 |n+1=>by simp only[pJ];rw[yZ n,Int.zero_mul];rfl
theorem HX{g:Nat->Int}{n:Nat}(h:∀i,n<=i->g i=0):∀k,pJ g (n+k)=pJ g n
 |0=>rfl
 |k+1=>by rw[<-Nat.add_assoc,pJ,HX h k,h _ (by omega),Int.zero_mul,Int.add_zero]
theorem A4(c:Int)(g:Nat->Int)(n:Nat):∀k,pJ (λm=>if n<=m then c*g (m -n)else 0) (n+k)=c*65536^n*pJ g k
 |0=>by rw[Nat.add_zero,vX (g:=λ_=>0) n (λi hi=>nO),yZ,pJ,Int.mul_zero]
 |k+1=>by rw[<-Nat.add_assoc,pJ,A4 c g n k,pJ];rw[pO,show n+k -n=k by omega,Int.mul_add,Int.pow_add,Int.mul_assoc c (g k),Int.mul_assoc c (65536^n) (g k*65536^k),<-Int.mul_assoc (g k),Int.mul_comm (g k) (65536^n),Int.mul_assoc (65536^n) (g k)]
theorem QW{f g:Nat->Int}{L:Nat}(hg:∀i,L<=i->g i=0)(N:Nat):∀n,n+L<=N+1->n<=N->pJ (λm=>T f g m n) N=pJ f n*pJ g L
 |0,_,_=>by rw[pJ,Int.zero_mul];exact yZ N
 |n+1,h,h2=>by have e:=A4 (f n) g n (N -n);rw[show n+(N -n)=N by omega]at e;have e2:pJ g (N -n)=pJ g L:=by{rw[show N -n=L+(N -n -L) by omega];exact HX hg _};have:=HY (λm=>T f g m n) (λm=>if n<=m then f n*g (m -n)else 0) N;rw[e,e2,QW hg N n (by omega) (by omega),<-Int.add_mul]at this;exact this
theorem MB(a b:List Int):Cr (conv a b)=Cr a*Cr b:=by
 by_cases na:a=[];{subst na;unfold conv;rw[ar (Or.inl rfl)];simp[Cr]}
 ·by_cases nb:b=[];{subst nb;unfold conv;rw[ar (Or.inr rfl)];simp[Cr]}
  ·have pa:=List.length_pos_iff.2 na;have pb:=List.length_pos_iff.2 nb;unfold conv
   rw[ak (by simp[na,nb]),vY,MA a,MA b];rw[vX (g:=λm=>T (a.getD · 0) (b.getD · 0) m a.length) _ (λi _=>(GI a b i _ (Nat.le_refl _)).symm)];exact QW (λi hi=>by show b.getD i 0=0;rw[ai,List.getElem?_eq_none (by omega)];rfl) _ _ (by omega) (by omega)
theorem Cq:∀a:List UInt16,Cr (a.map λd=>(d.toNat:Int))=(Nt.val a:Int)
 |[]=>rfl
 |d::r=>by rw[bc,Cr,Cq r,Nt.val];omega
theorem wP(a b:List Int):(conv a b).length=if a=[]\/b=[]then 0 else a.length+b.length -1:=by
 unfold conv
 split;{rfl};{rw[bj,List.length_range]}
def MT(a b:List Int)(ha:jP a=Qf)(hb:jP b=Qf)(la:a.length<=256)(i:Nat):0<=(conv a b).getD i 0/\(conv a b).getD i 0<=1099478073600:=by
 by_cases h:i<(conv a b).length
 ·have hl:=wP a b;by_cases c:a=[]\/b=[];{rw[hl,ar c]at h;omega}
  ·have e:(conv a b).getD i 0=JS a b i:=by
    rw[ai,au h];unfold conv
    simp only[ak c,List.getElem_map,List.getElem_range,Option.getD_some]
   rw[e,<-GI a b i _ (Nat.le_refl _)];have:=T5 (f:=(a.getD · 0)) (g:=(b.getD · 0)) (xy ha) (xy hb) i a.length;omega
 {rw[ai,List.getElem?_eq_none (by omega)];exact⟨by decide,by decide⟩}
end Gz
open Gz
theorem C1(acc:List UInt16)(c:Nat):Nt.val (acc++[UInt16.ofNat c])+65536^(acc.length+1)*(c/65536)=Nt.val acc+65536^acc.length*c:=by rw[Nt.gV];simp only[Nt.val,Nat.mul_zero,Nat.add_zero,Nt.dR];rw[Nat.pow_succ,Nat.mul_assoc,Nat.add_assoc,<-Nat.mul_add,Nat.mod_add_div]
def auy(R:Nat):∀(k:Nat)(acc:List UInt16)(c:Nat),c<65536^k->acc.length+k<=10000->Nt.val acc+65536^acc.length*c=R->acb acc c=Bm [.sl .ws (Nt.of R)]:=by
 intro k;induction k with
 |zero=>intro acc c hc hl hv;obtain rfl:c=0:=by{simpa using hc};apply ajS;intro v1 h1 v2 h2;rw[cF,j5,<-hv,Nat.mul_zero,Nat.add_zero]
 |succ k ih=>intro acc c hc hl hv;apply ajS;intro v1 h1 v2 h2;by_cases c0:c=0;{subst c0;rw[cF,j5,<-hv,Nat.mul_zero,Nat.add_zero]};{rw[rz]at h1;rw[Cp]at h2;rw[cT,h1,h2,bA (dD (by rw[aw];omega) (by rw[aw];omega))];exact ih _ _ (by rw[Nat.pow_succ]at hc;exact Nat.div_lt_of_lt_mul (by rw[Nat.mul_comm];exact hc)) (by rw[af,aw];omega) (by rw[af,aw,C1];exact hv)}
def auz(l:List Int)(hl:l.length<=600)(hb:∀i,0<=l.getD i 0/\l.getD i 0<=1099478073600)(R:Nat):∀(m i:Nat)(acc:List UInt16)(c:Nat),i+m=l.length->acc.length=i->c<=1099511627776->((Nt.val acc:Nat):Int)+65536^i*(c+Cr (l.drop i))=R->aaV acc c l l.length i=Bm [.sl .ws (Nt.of R)]:=by
 intro m;induction m with
 |zero=>intro i acc c hi ha hc hv;apply ajT;intro v1 h1 v2 h2 v3 h3 v4 h4;rw[aD (by omega),Cr,Int.add_zero]at hv;rw[cF];refine auy R 3 acc c (by omega) (by omega) ?_;rw[ha];have e:((65536^i*c:Nat):Int)=65536^i*(c:Int):=by{rw[Int.natCast_mul,Int.natCast_pow];rfl};omega
 |succ m ih=>intro i acc c hi ha hc hv;apply ajT;intro v1 h1 v2 h2 v3 h3 v4 h4;rw[aq]at h1;have hx:=hb i;rw[<-h1]at hx;obtain⟨x,rfl⟩:=Int.eq_ofNat_of_zero_le hx.1;have e0:IntKind.i64.wrap ((c:Int)+(x:Int))=((c+x:Nat):Int):=by{rw[iw];omega};rw[e0]at h2 h3;rw[rz]at h2;rw[Cp]at h3;have e4:v4=((i+1:Nat):Int):=by{rw[h4,iw];omega};rw[cT,ll,bA (dD (by rw[aw];omega) (by rw[aw];omega)),h2,h3,e4];refine ih (i+1) _ _ (by omega) (by rw[af,aw];omega) (by omega) ?_;rw[Ua (show i<l.length by omega) 0,Cr,<-h1]at hv;have hm:=C1 acc (c+x);rw[ha]at hm;have Gn:((Nt.val (acc++[UInt16.ofNat (c+x)]):Nat):Int)+65536^(i+1)*(((c+x)/65536:Nat):Int)=(Nt.val acc:Int)+65536^i*((c+x:Nat):Int):=by{have:=congrArg (Nat.cast:Nat->Int) hm;rw[Int.natCast_add,Int.natCast_add,Int.natCast_mul,Int.natCast_mul,Int.natCast_pow,Int.natCast_pow]at this;exact this};generalize Cr (l.drop (i+1))=E at*;rw[Int.mul_add,<-Int.add_assoc,Gn,<-hv,Int.pow_succ,Int.mul_assoc,Int.add_assoc,<-Int.mul_add];congr 2;omega
def ahj(a b:List UInt16)(hp:(Nt.is a&&Nt.is b)=Qf):auB a b=Bm [.sl .ws (Nt.of (Nt.val a*Nt.val b))]:=by simp only[ah]at hp;obtain⟨ha,hb⟩:=hp;have la:=Nt.lF ha;have lb:=Nt.lF hb;have hd:∀a:List UInt16,Gz.jP (a.map λd=>(d.toNat:Int))=Qf:=λa=>by{unfold Gz.jP;rw[aI];intro x hx;obtain⟨d,_,rfl⟩:=bo.1 hx;have:=d.toNat_lt;exact dT};apply auA;intro v1 h1 v2 h2 v3 h3 v4 h4;have e1:v1=Qg:=by{rw[h1,ha,hb];rfl};have l2:v2.length=a.length:=by{rw[h2,bj]};have l3:v3.length=b.length:=by{rw[h3,bj]};have d2:Gz.jP v2=Qf:=by{rw[h2];exact hd a};have d3:Gz.jP v3=Qf:=by{rw[h3];exact hd b};have c1:(nP (v2.length<=256/\v3.length<=256)&&(Gz.jP v2&&Gz.jP v3))=Qf:=by{rw[d2,d3,aa ⟨by omega,by omega⟩];rfl};rw[e1,ha,h4,bA c1,aa (show a.length<=1099511627776 by omega),aa (show b.length<=1099511627776 by omega),aa (show a.length<=256 by omega),aa (show b.length<=256 by omega)];refine Eq.trans (b:=aaV [] 0 (Gz.conv v2 v3) (Gz.conv v2 v3).length 0) rfl ?_;have hl:(Gz.conv v2 v3).length<=600:=by{rw[Gz.wP];split<;>omega};refine auz _ hl (Gz.MT _ _ d2 d3 (by omega)) _ (Gz.conv v2 v3).length 0 [] 0 (by omega) rfl (by omega) ?_;rw[aX,Gz.MB,h2,h3,Gz.Cq,Gz.Cq,Int.natCast_mul];simp[Nt.val]
end Go.Eng
namespace Go.Eng
open Go.IntWalk
namespace Nr
def xh{a:Nat}(h:0<a)(e:Int):0<lB a e:=Nat.mul_pos h (Nat.two_pow_pos _)
def pt(Q F:Nat):Nat:=if Q<4503599627370496 then Q else(F+1)*4503599627370496+(Q -4503599627370496)
def Qs{Q F:Nat}(h:4503599627370496<=Q\/F=0)(h2:Q<9007199254740992):rj (pt Q F)=Q/\sh (pt Q F)=F:=by unfold pt;split;{rename_i c;obtain rfl:F=0:=by{omega};unfold rj sh;rw[ar c,show Q/4503599627370496=0 by omega];exact⟨rfl,rfl⟩};{rename_i c;exact Nw (by omega) h2}
theorem RZ(Q F:Nat):pt Q F%2=Q%2:=by unfold pt;split<;>omega
def Nv{a b Q:Nat}{E:Int}{F:Nat}(hb:0<b)(hE:E+1074=F)(hQ:Q=lP a E/lB b E)(h:4503599627370496<=Q\/F=0)(h2:Q<9007199254740992):(V (pt Q F)*b<=a*2^1074/\a*2^1074<V (pt Q F+1)*b)/\(iZ a b (pt Q F)↔(lB b E<2*(lP a E% lB b E)\/(lB b E=2*(lP a E% lB b E)/\Q%2=1))):=by obtain⟨m1,m2⟩:=Qs h h2;have hB:=xh hb E;have Uu:=Nat.div_add_mod (lP a E) (lB b E);have hr:=Nat.mod_lt (lP a E) hB;rw[<-hQ]at Uu;generalize hR:lP a E% lB b E=R at*;have S4:V (pt Q F)=Q*2^F:=by{unfold V;rw[m1,m2]};have Ux:V (pt Q F+1)=(Q+1)*2^F:=by{rw[CH,m1,m2]};have k1:∀n:Nat,n*2^F*b*2^(-E).toNat=n*lB b E*2^1074:=λn=>by{unfold lB;exact Ll (Dw (a:=F) (b:=(-E).toNat) (c:=E.toNat) (d:=1074) (by omega))};have k2:a*2^1074*2^(-E).toNat=lP a E*2^1074:=by{unfold lP;rw[Nat.mul_right_comm]};have hp:=Nat.two_pow_pos (-E).toNat;have AV:=Nat.two_pow_pos 1074;refine⟨⟨?_,?_⟩,?_⟩;{refine Nat.le_of_mul_le_mul_right ?_ hp;rw[S4,k1,k2];refine aA _ ?_;rw[Nat.mul_comm];omega};{refine Nat.lt_of_mul_lt_mul_right (a:=2^(-E).toNat) ?_;rw[Ux,k1,k2];refine Nat.mul_lt_mul_of_pos_right ?_ AV;rw[Nat.add_mul,Nat.mul_comm Q];omega};{unfold iZ;rw[qL,S4,Ux,RZ,<-Nat.add_mul];have e:a*lV*2^(-E).toNat=2*lP a E*2^1074:=by{rw[mul_two (a:=a) oC,Nat.mul_assoc 2,k2,<-Nat.mul_assoc]};have k3:=k1 (Q+(Q+1));have g1:((Q+(Q+1))*2^F*b<a*lV)↔(Q+(Q+1))*lB b E<2*lP a E:=by{constructor;{intro h;have:=Nat.mul_lt_mul_of_pos_right h hp;rw[k3,e]at this;exact Nat.lt_of_mul_lt_mul_right this};{intro h;refine Nat.lt_of_mul_lt_mul_right (a:=2^(-E).toNat) ?_;rw[k3,e];exact Nat.mul_lt_mul_of_pos_right h AV}};have g2:((Q+(Q+1))*2^F*b=a*lV)↔(Q+(Q+1))*lB b E=2*lP a E:=by{constructor;{intro h;have this:(Q+(Q+1))*2^F*b*2^(-E).toNat=a*lV*2^(-E).toNat:=by{rw[h]};rw[k3,e]at this;exact Nat.eq_of_mul_eq_mul_right AV this};{intro h;refine Nat.eq_of_mul_eq_mul_right hp ?_;rw[k3,e,h]}};rw[g1,g2,Nat.add_mul,Nat.add_mul,Nat.one_mul];have hc:Q*lB b E=lB b E*Q:=Nat.mul_comm _ _;omega}
def vA(A B:Nat):(zD A B=A/B+1/\(B<2*(A% B)\/(B=2*(A% B)/\A/B%2=1)))\/(zD A B=A/B/\¬(B<2*(A% B)\/(B=2*(A% B)/\A/B%2=1))):=by unfold zD;split;{rename_i h;exact .inl ⟨rfl,h⟩};{rename_i h;exact .inr ⟨rfl,h⟩}
def Av{a b:Nat}{E:Int}(hb:0<b)(hE:-1074<=E)(h:4503599627370496<=lP a E/lB b E\/E=-1074)(h2:lP a E/lB b E<9007199254740992):kz a b=join Qg (zD (lP a E) (lB b E)) E:=by classical obtain⟨F,hF⟩:=Int.eq_ofNat_of_zero_le (show 0<=E+1074 by omega);generalize hQ:lP a E/lB b E=Q at*;have hQF:4503599627370496<=Q\/F=0:=by{omega};obtain⟨⟨a1,a2⟩,a3⟩:=Nv hb hF hQ.symm hQF h2;obtain⟨m1,m2⟩:=Qs hQF h2;have S4:V (pt Q F)=Q*2^F:=by{unfold V;rw[m1,m2]};have Ux:V (pt Q F+1)=(Q+1)*2^F:=by{rw[CH,m1,m2]};have ex:(-(E+1074)).toNat=0:=by{omega};have ey:(E+1074).toNat=F:=by{omega};have hj:∀p M,V p=M*2^F->join Qg M E=if p<=top then Bm p else Kk:=λp M hv=>by{split;{rename_i ht;exact join_some Qg ht (by rw[ex,ey,Nat.pow_zero,Nat.mul_one,hv])};{rename_i ht;refine join_none Qg λq hq e=>ht ?_;rw[ex,ey,Nat.pow_zero,Nat.mul_one,<-hv]at e;exact Rk e▸hq}};have hr:=vA (lP a E) (lB b E);rw[hQ]at hr;by_cases hp:pt Q F<=top;{rw[OY hb a1 a2 hp];rcases hr with⟨r1,r2⟩|⟨r1,r2⟩;{rw[ar (a3.2 r2),r1,hj _ _ Ux]};{rw[ak (λh=>r2 (a3.1 h)),r1,hj _ _ S4,ar hp]}};{rw[Lk hb a1 (by omega)];rcases hr with⟨r1,r2⟩|⟨r1,r2⟩;{rw[r1,hj _ _ Ux,nO]};{rw[r1,hj _ _ S4,ak hp]}}
end Nr
def sJ(a b:Nat):(Nt.cmp a b=-1/\a<b)\/(Nt.cmp a b=0/\a=b)\/(Nt.cmp a b=1/\b<a):=by unfold Nt.cmp;by_cases c:a<b;{rw[ar c];exact .inl ⟨rfl,c⟩};{rw[ak c];by_cases d:a=b;{rw[ar d];exact .inr (.inl ⟨rfl,d⟩)};{rw[ak d];exact .inr (.inr ⟨rfl,by omega⟩)}}
def OO{n:Nat}(h:n<2^64):(Nt.of n).length<=4:=(Nt.mu n 4).2 (by rw[show(65536:Nat)^4=2^64 by decide];exact h)
def avS(A B:Nat)(hB:0<B)(hA:A<2^4090)(hB2:B<2^4090)(S8:A<2^60*B):acx (Nt.of A) (Nt.of B)=Bm [.u64 (UInt64.ofNat (Nr.zD A B)),.b (Nr.pr A B)]:=by have hpw:(2:Nat)^(6+4090)=64*2^4090:=Nr.RX 4090;apply avR;intro v1 h1 v2 h2 v3 h3 v4 h4 v5 h5 v6 h6 v7 h7 v8 h8 v9 h9;rw[Nt.fv,Nt.fv]at h1 h2;have hr:=Nat.mod_lt A hB;have hq:A/B<2^60:=(Nat.div_lt_iff_lt_mul hB).2 S8;have e1:Nt.val v1=A/B:=by{rw[h1,Nt.fv]};have e2:Nt.val v2=A% B:=by{rw[h2,Nt.fv]};have e3:Nt.val v3=2*(A% B):=by{rw[h3,Nt.fv,e2];exact Nat.mul_comm ..};rw[e3,Nt.fv]at h4;have i1:Nt.is (Nt.of A)=Qf:=Nt.tn (by omega);have i2:Nt.is (Nt.of B)=Qf:=Nt.tn (by omega);have i3:Nt.is v1=Qf:=by{rw[h1];exact Nt.tn (by omega)};have i4:Nt.is v2=Qf:=by{rw[h2];exact Nt.tn (by omega)};have i5:Nt.is v3=Qf:=by{rw[h3];exact Nt.tn (by rw[e2];show A% B*2^1<_;omega)};have nb:Nt.of B≠[]:=by{rw[Nt.oI hB];simp};have l4:v1.length<=4:=by{rw[h1];exact OO (Nat.lt_of_lt_of_le hq (Nat.pow_le_pow_right (by omega) (by omega)))};rw[i1,i2,i3,i4,i5,aa nb];refine(bA (by rfl)).trans ?_;rw[bA (aa ⟨rfl,l4⟩)];refine(bA (by rfl)).trans ?_;refine(bA (by rfl)).trans ?_;rw[e1]at h6 h9⊢;have hb60:(2:Nat)^60=1152921504606846976:=by{decide};have e6:nP (v6=1)=nP (A/B%2=1):=by{have e6:v6.toNat=A/B%2:=by{rw[h6,UInt64.toNat_mod,fV];show A/B%18446744073709551616%2=_;omega};by_cases c:A/B%2=1;{rw[aa c,aa (gQ (by rw[e6,c];rfl))]};{rw[ab c,ab (λh=>c (by rw[<-e6,h];rfl))]}};have e9:v9=UInt64.ofNat (A/B+1):=gQ (by rw[h9,UInt64.toNat_add,fV,fV];show(A/B%18446744073709551616+1)%18446744073709551616=_;omega);have e9':nP (v9=9007199254740992)=nP (A/B+1=9007199254740992):=by{by_cases c:A/B+1=9007199254740992;{rw[aa c,e9,c];rfl};{rw[ab c,ab (λh=>c (by have:=congrArg UInt64.toNat h;rw[e9,fV]at this;have e0:(9007199254740992:UInt64).toNat=9007199254740992:=rfl;omega))]}};rw[e6]at h7;rcases sJ (2*(A% B)) B with⟨q1,q2⟩|⟨q1,q2⟩|⟨q1,q2⟩;{rw[q1]at h4;subst h4;have e7:v7=Qg:=h7;have e8:v8=Qg:=by{rw[h8,e7];rfl};have e5:v5=Qg:=h5;have hn:Nr.zD A B=A/B:=by{unfold Nr.zD;rw[nO]};have hu:Nr.pr A B=Qg:=by{unfold Nr.pr;rw[hn];exact dF};rw[e8,e5,hn,hu];rfl};{rw[q1]at h4;subst h4;have e7:v7=nP (A/B%2=1):=h7;have e8:v8=nP (A/B%2=1):=by{rw[h8,e7];rfl};have e5:v5=Qf:=h5;rw[e8,e5];refine Eq.trans (b:=cond (nP (A/B%2=1)) (Bm [.u64 v9,.b (nP (v9=9007199254740992))]) (Bm [.u64 (UInt64.ofNat (A/B)),.b Qg])) rfl ?_;by_cases c:A/B%2=1;{have hn:Nr.zD A B=A/B+1:=by{unfold Nr.zD;rw[ar (.inr ⟨q2.symm,c⟩)]};have hu:Nr.pr A B=nP (A/B+1=9007199254740992):=by{unfold Nr.pr;rw[hn];by_cases d:A/B+1=9007199254740992;{rw[aa d,aa ⟨rfl,d⟩]};{rw[ab d,ab (λh=>d h.2)]}};rw[cT c,e9',e9,hn,hu]};{have hn:Nr.zD A B=A/B:=by{unfold Nr.zD;rw[nO]};have hu:Nr.pr A B=Qg:=by{unfold Nr.pr;rw[hn];exact dF};rw[cF c,hn,hu]}};{rw[q1]at h4;subst h4;have e7:v7=Qg:=h7;have e8:v8=Qf:=by{rw[h8];rfl};have e5:v5=Qg:=h5;have hn:Nr.zD A B=A/B+1:=by{unfold Nr.zD;rw[ar (.inl q2)]};have hu:Nr.pr A B=nP (A/B+1=9007199254740992):=by{unfold Nr.pr;rw[hn];by_cases d:A/B+1=9007199254740992;{rw[aa d,aa ⟨rfl,d⟩]};{rw[ab d,ab (λh=>d h.2)]}};rw[e8,e5];refine Eq.trans (b:=Bm [.u64 v9,.b (nP (v9=9007199254740992))]) rfl ?_;rw[e9',e9,hn,hu]}
def ahK(a b:List UInt16)(e:Int)(hp:(Nt.is a&&Nt.is b&&nP (-4096<=e/\e<=4096/\0<Nt.val b/\Nr.lP (Nt.val a) e<2^4090/\Nr.lB (Nt.val b) e<2^4090/\Nr.lP (Nt.val a) e<2^60*Nr.lB (Nt.val b) e))=Qf):avU a b e=Bm [.u64 (UInt64.ofNat (Nr.zD (Nr.lP (Nt.val a) e) (Nr.lB (Nt.val b) e))),.b (Nr.pr (Nr.lP (Nt.val a) e) (Nr.lB (Nt.val b) e))]:=by simp only[ah,aC]at hp;obtain⟨⟨ha,hb⟩,p1,p2,p3,p4,p5,p6⟩:=hp;have key:=avS (Nr.lP (Nt.val a) e) (Nr.lB (Nt.val b) e) (Nr.xh p3 e) p4 p5 p6;apply avT;intro v1 h1 v2 h2;by_cases c:e<0;{have ew:IntKind.i64.wrap (0 -e)=-e:=by{rw[iw];omega};rw[ew]at h1;have eB:Nr.lB (Nt.val b) e=Nt.val b:=by{unfold Nr.lB;rw[show e.toNat=0 by omega,Nat.pow_zero,Nat.mul_one]};rw[cT c,ew,ha,aa (show 0<=-e/\-e<=4096 by omega)];refine(bA (by rfl)).trans ?_;rw[h1,<-Nt.cq (Nt.lp hb)];rw[eB]at key;rw[Nt.fv,eB];exact key};{have eA:Nr.lP (Nt.val a) e=Nt.val a:=by{unfold Nr.lP;rw[show(-e).toNat=0 by omega,Nat.pow_zero,Nat.mul_one]};rw[cF c,hb,aa (show 0<=e/\e<=4096 by omega)];refine(bA (by rfl)).trans ?_;rw[h2,<-Nt.cq (Nt.lp ha)];rw[eA]at key;rw[Nt.fv,eA];exact key}
namespace Nr
def KX{a b i j t:Nat}{E:Int}(ha:a<2^i)(hb:2^(j -1)<=b)(hj:0<j)(h:(i:Int) -j+1 -E<=t):lP a E<2^t*lB b E:=by unfold lP lB;have h1:a*2^(-E).toNat<2^(i+(-E).toNat):=by{rw[Nat.pow_add];exact Nat.mul_lt_mul_of_pos_right ha (Nat.two_pow_pos _)};have h2:2^(t+(j -1)+E.toNat)<=2^t*(b*2^E.toNat):=by{rw[Nat.pow_add,Nat.pow_add,Nat.mul_assoc];exact Nat.mul_le_mul_left _ (aA _ hb)};have h3:2^(i+(-E).toNat)<=2^(t+(j -1)+E.toNat):=Nat.pow_le_pow_right (by omega) (by omega);exact Nat.lt_of_lt_of_le h1 (Nat.le_trans h3 h2)
def U8{a b i j t:Nat}{E:Int}(ha:2^(i -1)<=a)(hi:0<i)(hb:b<2^j)(h:(t:Int)<=(i:Int) -1 -j -E):2^t*lB b E<=lP a E:=by unfold lP lB;have h1:2^(i -1+(-E).toNat)<=a*2^(-E).toNat:=by{rw[Nat.pow_add];exact aA _ ha};have h2:2^t*(b*2^E.toNat)<=2^(t+j+E.toNat):=by{rw[Nat.pow_add,Nat.pow_add,Nat.mul_assoc];exact Nat.mul_le_mul_left _ (aA _ (Nat.le_of_lt hb))};have h3:2^(t+j+E.toNat)<=2^(i -1+(-E).toNat):=Nat.pow_le_pow_right (by omega) (by omega);exact Nat.le_trans h2 (Nat.le_trans h3 h1)
def Oy(a b:Nat)(E:Int):(lP a (E+1)=lP a E/\lB b (E+1)=2*lB b E)\/(lP a E=2*lP a (E+1)/\lB b (E+1)=lB b E):=by unfold lP lB;by_cases c:0<=E;{left;rw[show(-(E+1)).toNat=0 by omega,show(-E).toNat=0 by omega,show(E+1).toNat=E.toNat+1 by omega,Nat.pow_succ,<-Nat.mul_assoc,Nat.mul_comm _ 2];exact⟨rfl,rfl⟩};{right;rw[show(-E).toNat=(-(E+1)).toNat+1 by omega,show(E+1).toNat=0 by omega,show E.toNat=0 by omega,Nat.pow_succ,<-Nat.mul_assoc,Nat.mul_comm _ 2];exact⟨rfl,rfl⟩}
end Nr
def mq{a i k:Nat}(h:a<2^i)(hk:i<=k):a<2^k:=Nat.lt_of_lt_of_le h (Nat.pow_le_pow_right (by omega) hk)
def yi{a i j k:Nat}(h:a<2^i)(hk:i+j<=k):a*2^j<2^k:=by refine mq (i:=i+j) ?_ hk;rw[Nat.pow_add];exact Nat.mul_lt_mul_of_pos_right h (Nat.two_pow_pos _)
def ajZ (E : Int) (M : Nat) (hM : M < 2 ^ 64) (hE : -1074 ≤ E ∧ E ≤ 2000) (a b : Nat) (h : Nr.kz a b = Nr.join Qg M E) : ack E (UInt64.ofNat M) = Bm [.u64 (Nr.pat (Nr.kz a b)), .b (Nr.kz a b).isSome] := by
  apply au3
  intro v1 h1 v2 h2
  have e : (UInt64.ofNat M).toNat = M := by rw [fV]; have : (2 : Nat) ^ 64 = 18446744073709551616 := by decide
                                            omega
  rw [e, ← h] at h1 h2
  rw [j5, h1, h2]
def ahs(a b:List UInt16)(hp:(Nt.is a&&Nt.is b&&nP (0<Nt.val a/\0<Nt.val b/\Nt.val a<2^1100/\Nt.val b<2^2200))=Qf):au5 a b=Bm [.u64 (Nr.pat (Nr.kz (Nt.val a) (Nt.val b))),.b (Nr.kz (Nt.val a) (Nt.val b)).isSome]:=by simp only[ah,aC]at hp;obtain⟨⟨ha,hb⟩,p1,p2,p3,p4⟩:=hp;apply au4;intro v1 h1 v2 h2 v3 h3 v4 h4 v5 h5 v6 h6 v7 h7 v8 h8;obtain⟨i1,i2,i3⟩:=Nt.lk p1;obtain⟨j1,j2,j3⟩:=Nt.lk p2;have i4:=Nt.nA p3;have j4:=Nt.nA p4;generalize Nt.bits (Nt.val a)=i at*;generalize Nt.bits (Nt.val b)=j at*;generalize Nt.val a=A at*;generalize Nt.val b=B at*;have e1:v1=(i:Int) -j:=by{rw[h1,iw]};have e2:v2=(i:Int) -j -53:=by{rw[h2,e1,iw]};have em:pQ v2 (-1074)=max ((i:Int) -j -53) (-1074):=by{rw[e2];unfold pQ;split<;>omega};rw[em]at h3 h4 h6⊢;generalize hE:max ((i:Int) -j -53) (-1074)=E at*;have hEb:-1074<=E/\E<=1046:=by{omega};have e6:v6=E+1:=by{rw[h6,iw]};rw[e6]at h7 h8;have hAb:∀E:Int,-1074<=E->E<=1047->Nr.lP A E<2^4090/\Nr.lB B E<2^4090:=λE h1 h2=>by{unfold Nr.lP Nr.lB;constructor;{exact yi (k:=4090) i2 (by omega)};{exact yi (k:=4090) j2 (by omega)}};obtain⟨a1,a2⟩:=hAb E (by omega) (by omega);obtain⟨a3,a4⟩:=hAb (E+1) (by omega) (by omega);have t54:Nr.lP A E<2^54*Nr.lB B E:=Nr.KX i2 j1 j3 (by omega);have t60:Nr.lP A E<2^60*Nr.lB B E:=Nr.KX i2 j1 j3 (by omega);have Yy:Nr.lP A (E+1)<2^60*Nr.lB B (E+1):=Nr.KX i2 j1 j3 (by omega);have hB:=Nr.xh p2 E;have hB1:=Nr.xh p2 (E+1);have hn:=Nr.Oy A B E;have q54:Nr.lP A E/Nr.lB B E<2^54:=(Nat.div_lt_iff_lt_mul hB).2 t54;have ZZ:(2:Nat)^54=18014398509481984:=by{decide};have hd64:(2:Nat)^64=18446744073709551616:=by{decide};rw[ha,hb,bA rfl,bA rfl,e6,aa (show -4096<=E/\E<=4096/\0<B/\Nr.lP A E<2^4090/\Nr.lB B E<2^4090/\Nr.lP A E<2^60*Nr.lB B E from⟨by omega,by omega,p2,a1,a2,t60⟩),aa (show -4096<=E+1/\E+1<=4096/\0<B/\Nr.lP A (E+1)<2^4090/\Nr.lB B (E+1)<2^4090/\Nr.lP A (E+1)<2^60*Nr.lB B (E+1) from⟨by omega,by omega,p2,a3,a4,Yy⟩)];refine(bA (by rfl)).trans ?_;have sW:∀b:Bool,(!b||b)=Qf:=by{decide};rw[bA (sW _),bA (sW _)];have hr:=Nr.vA (Nr.lP A E) (Nr.lB B E);have hup:Nr.pr (Nr.lP A E) (Nr.lB B E)=nP (Nr.zD (Nr.lP A E) (Nr.lB B E)=Nr.lP A E/Nr.lB B E+1/\Nr.zD (Nr.lP A E) (Nr.lB B E)=9007199254740992):=rfl;rw[hup]at h4;generalize hQ:Nr.lP A E/Nr.lB B E=Q at*;generalize hM:Nr.zD (Nr.lP A E) (Nr.lB B E)=M at*;have e3:nP ((9007199254740992:UInt64)<=v3)=nP (9007199254740992<=M):=by{have ev:v3.toNat=M:=by{rw[h3,fV];omega};by_cases c:9007199254740992<=M;{rw[aa c,aa (aK.2 (by rw[ev];exact c))]};{rw[ab c,ab (λh=>c (by have:=aK.1 h;rw[ev]at this;exact this))]}};have e5:v5=nP (9007199254740992<=M/\¬(M=Q+1/\M=9007199254740992)):=by{rw[h5,e3,h4];by_cases c:9007199254740992<=M;{rw[cT c];by_cases d:M=Q+1/\M=9007199254740992;{rw[aa d,ab (λh=>h.2 d)];rfl};{rw[ab d,aa ⟨c,d⟩];rfl}};{rw[cF c,ab (λh=>c h.1)]}};by_cases c:9007199254740992<=M/\¬(M=Q+1/\M=9007199254740992);{have hQ53:9007199254740992<=Q:=by{omega};rw[e5,cT c];refine(bA (by rfl)).trans ?_;have g1:9007199254740992*Nr.lB B E<=Nr.lP A E:=(Nat.le_div_iff_mul_le hB).1 (by rw[hQ];exact hQ53);have g2:4503599627370496<=Nr.lP A (E+1)/Nr.lB B (E+1):=(Nat.le_div_iff_mul_le hB1).2 (by rcases hn with⟨n1,n2⟩|⟨n1,n2⟩<;>rw[n2]<;>omega);have g3:Nr.lP A (E+1)/Nr.lB B (E+1)<9007199254740992:=(Nat.div_lt_iff_lt_mul hB1).2 (by rw[ZZ]at t54;rcases hn with⟨n1,n2⟩|⟨n1,n2⟩<;>rw[n2]<;>omega);have J8:=Nr.vA (Nr.lP A (E+1)) (Nr.lB B (E+1));rw[h7];exact ajZ (E+1) _ (by omega) (by omega) A B (Nr.Av p2 (by omega) (.inl g2) g3)};{rw[e5,cF c,h3];have g3:Q<9007199254740992:=by{omega};refine ajZ E M (by omega) (by omega) A B ?_;rw[<-hM];refine Nr.Av p2 (by omega) ?_ (by rw[hQ];exact g3);by_cases d:E=-1074;{exact .inr d};{left;refine(Nat.le_div_iff_mul_le hB).2 ?_;have:=Nr.U8 (t:=52) (E:=E) i1 i3 j2 (by omega);rw[show(2:Nat)^52=4503599627370496 by decide]at this;exact this}}
namespace Nr
theorem OQ(b:bE):∀n:Nat,b.foldl (λn c=>10*n+(c.toNat -48)) n=n*10^b.length+num b:=by
 induction b with
 |nil=>intro n;simp[num]
 |cons c r ih=>intro n;unfold num;rw[List.foldl_cons,List.foldl_cons,ih,ih,av,Nat.pow_succ,Nat.mul_zero,Nat.zero_add,Nat.add_mul,Nat.mul_comm 10 n,Nat.mul_assoc,Nat.mul_comm 10 (10^_)];omega
theorem iP(a b:bE):num (a++b)=num a*10^b.length+num b:=by unfold num;rw[List.foldl_append,OQ];rfl
theorem DF(c:UInt8)(r:bE):num (c::r)=(c.toNat -48)*10^r.length+num r:=by have:=iP [c] r;rw[List.singleton_append]at this;rw[this];simp[num]
theorem mv(t:Nat):num (List.replicate t 48)=0:=by
 induction t with
 |zero=>rfl
 |succ t ih=>rw[List.replicate_succ,DF,ih];simp
theorem lW(p:UInt8->Bool):∀d:bE,∃a,d=a++d.dropWhile p/\a.all p=Qf/\(d.dropWhile p=[]\/p ((d.dropWhile p).getD 0 0)=Qg)
 |[]=>⟨[],rfl,rfl,.inl rfl⟩
 |c::r=>by rw[List.dropWhile_cons];cases h:p c;{rw[ak (by simp)];exact⟨[],rfl,rfl,.inr h⟩};{rw[ar rfl];obtain⟨a,h1,h2,h3⟩:=lW p r;exact⟨c::a,by rw[List.cons_append,<-h1],by rw[List.all_cons,h,h2];rfl,h3⟩}
theorem GR:∀{a:bE},(a.all (· ==48))=Qf->a=List.replicate a.length 48
 |[],_=>rfl
 |c::r,h=>by rw[List.all_cons,ah]at h;rw[av,List.replicate_succ,<-GR h.2];congr 1;simpa using h.1
def BP(d:bE):∃z,d=List.replicate z 48++yq d/\(yq d=[]\/(yq d).getD 0 0≠48):=by obtain⟨a,h1,h2,h3⟩:=lW (· ==48) d;refine⟨a.length,?_,?_⟩;{rw[<-GR h2];exact h1};{rcases h3 with h3|h3;{exact .inl h3};{exact .inr (by unfold yq;simpa using h3)}}
def oi(d:bE):∃t,d=iE d++List.replicate t 48/\(iE d=[]\/(iE d).getLast?≠Bm 48):=by
 obtain⟨a,h1,h2,h3⟩:=lW (· ==48) d.reverse;refine⟨a.length,?_,?_⟩;{have e:d=(a++d.reverse.dropWhile (· ==48)).reverse:=by{rw[<-h1,List.reverse_reverse]};rw[List.reverse_append,GR h2,List.reverse_replicate]at e;exact e}
 ·rcases h3 with h3|h3;{left;unfold iE;rw[h3];rfl}
  ·right;unfold iE;rw[List.getLast?_reverse];intro h;cases hd:d.reverse.dropWhile (· ==48)with
   |nil=>rw[hd]at h;cases h
   |cons c r=>rw[hd]at h h3;have:c=48:=by{simpa using h};subst this;simp at h3
def zW(b:UInt8):([48,49,50,51,52,53,54,55,56,57]:bE).contains b=fu b:=by have h:∀n,n<256->([48,49,50,51,52,53,54,55,56,57]:bE).contains (UInt8.ofNat n)=fu (UInt8.ofNat n):=by{decide+kernel};have:=h b.toNat b.toNat_lt;rwa[UInt8.ofNat_toNat]at this
theorem Kx(d:bE):Lib.trimLeftS d [48]=yq d:=by rw[Lib.trimLeftS_one];rfl
theorem C5(d:bE):Lib.trimRightS d [48]=iE d:=by rw[Lib.trimRightS_one];rfl
theorem dropWhile_nil{p:UInt8->Bool}:∀{l:bE},l.dropWhile p=[]↔l.all p=Qf
 |[]=>by simp
 |c::r=>by rw[List.dropWhile_cons,List.all_cons];cases h:p c;{simp};{rw[ar rfl,dropWhile_nil];simp}
def wB(d:bE):(Lib.trimS d [48,49,50,51,52,53,54,55,56,57]=[])↔d.all fu=Qf:=by
 have e:(λb=>([48,49,50,51,52,53,54,55,56,57]:bE).contains b)=fu:=funext zW;have h1:∀l:bE,Lib.trimLeftS l [48,49,50,51,52,53,54,55,56,57]=l.dropWhile fu:=λl=>by{unfold Lib.trimLeftS;rw[e]};have h2:∀l:bE,Lib.trimRightS l [48,49,50,51,52,53,54,55,56,57]=(l.reverse.dropWhile fu).reverse:=λl=>by{unfold Lib.trimRightS;rw[e]};unfold Lib.trimS;rw[h1,h2,dropWhile_nil,List.all_reverse];constructor
 ·intro h;obtain⟨a,q1,q2,q3⟩:=lW fu d.reverse;have hn:d.reverse.dropWhile fu=[]:=by
   rcases q3 with q3|q3;{exact q3}
   ·cases hd:d.reverse.dropWhile fu with
    |nil=>rfl
    |cons c r=>rw[hd]at h q3;rw[List.all_cons,ah]at h;have:fu c=Qg:=q3;rw[this]at h;cases h.1
  rw[dropWhile_nil,List.all_reverse]at hn;exact hn
 {intro h;rw[(dropWhile_nil (l:=d.reverse)).2 (by rw[List.all_reverse];exact h)];rfl}
def BM{d:bE}(h:d.all fu=Qf)(h0:d≠[])(h1:d.getD 0 0≠48):10^(d.length -1)<=num d:=by
 cases d with
 |nil=>exact(h0 rfl).elim
 |cons c r=>rw[List.all_cons,ah]at h;have hc:=qi.1 h.1;have h1:c≠48:=h1;have Gp:c.toNat≠48:=λe=>h1 (UInt8.toNat_inj.1 e);rw[DF,av,Nat.add_sub_cancel];have:1*10^r.length<=(c.toNat -48)*10^r.length:=aA _ (by omega);omega
def FA:lV<=10^324:=by decide+kernel
def FB:Bt<=10^309:=by decide+kernel
def gL(k:Nat):0<10^k:=Nat.pow_pos (by omega)
def pM{a b:Nat}(h:a<=b):10^a<=10^b:=Nat.pow_le_pow_right (by omega) h
def Oh{a b i j k:Nat}(h1:a<=10^i)(h2:b<=10^j)(h:i+j<=k):a*b<=10^k:=by refine Nat.le_trans (Nat.mul_le_mul h1 h2) ?_;rw[<-Nat.pow_add];exact pM h
def KC{a b i j k l:Nat}(h1:a<=10^i)(h2:10^k<=b)(h:i+j<=k+l):a*10^j<=b*10^l:=by refine Nat.le_trans (aA _ h1) (Nat.le_trans ?_ (aA _ h2));rw[<-Nat.pow_add,<-Nat.pow_add];exact pM h
def K4{N L:Nat}{k:Int}(hN:N<10^L)(h:k+L<=-324):rd N k=Bm 0:=by unfold rd;refine Li (gL _) ?_;rw[show k.toNat=0 by omega,Nat.pow_zero,Nat.mul_one];exact Oh (Nat.le_of_lt hN) FA (by omega)
def Hh{N L:Nat}{k:Int}(hN:10^(L -1)<=N)(hL:0<L)(h:310<=k+L):rd N k=Kk:=by unfold rd;refine IZ (gL _) ?_;exact KC FB hN (by omega)
theorem OD(k:Int):rd 0 k=Bm 0:=by unfold rd;rw[Nat.zero_mul];exact IY _ (gL _)
theorem yc(N t:Nat)(k:Int):rd (N*10^t) k=rd N (k+t):=by unfold rd;refine F3 (gL _) (gL _) ?_;rw[Nat.mul_assoc,Nat.mul_assoc,Nat.mul_assoc,<-Nat.pow_add,<-Nat.pow_add,<-Nat.pow_add];congr 2;omega
def jK{p:UInt8->Bool}{d a b:bE}(h:d.all p=Qf)(e:d=a++b):a.all p=Qf/\b.all p=Qf:=by rw[e,List.all_append,ah]at h;exact h
end Nr
def kf{n i:Nat}(h:n<2^i)(hi:i<=4096):Nt.is (Nt.of n)=Qf:=Nt.tn (mq (k:=4096) h hi)
def ajM(A B:Nat)(hA:0<A)(hB:0<B)(hA2:A<2^1100)(hB2:B<2^2200):ab8 (Nt.of A) (Nt.of B)=Bm [.u64 (Nr.pat (Nr.kz A B)),.b (Nr.kz A B).isSome]:=by apply aug;intro v1 h1 v2 h2;rw[Nt.fv,Nt.fv]at h1 h2;rw[Nt.fv,Nt.fv,kf hA2 (by omega),kf hB2 (by omega),aa ⟨hA,hB,hA2,hB2⟩];refine(bA (by rfl)).trans ?_;rw[h1,h2]
def G4:(10:Nat)^310<2^1100/\(10:Nat)^631<2^2200:=by decide+kernel
def ahb(d:bE)(x:Int):aui d x=Bm [.u64 (Nr.pat (Nr.read d x)),.b (Nr.read d x).isSome]:=by apply auh;intro v1 h1 v2 h2 v3 h3 v4 h4 v5 h5 v6 h6 v7 h7 v8 h8 v9 h9 v10 kv v11 nK v12 mS;have sW:∀b:Bool,(!(!b)||!b)=Qf/\(b||!b)=Qf:=by{decide};have e1:v1=!decide (1<=d.length/\d.length<=300):=by{rw[h1];by_cases c:1<=d.length/\d.length<=300;{rw[aa c,cF,dF];rfl};{rw[ab c];by_cases d0:(d.length:Int)<1;{rw[aa d0];rfl};{rw[cF d0,dT];rfl}}};have e3:v3=!Nr.valid d:=by{unfold Nr.valid;rw[h3,e1,h2];have:nP (Lib.trimS d [48,49,50,51,52,53,54,55,56,57]=[])=d.all Nr.fu:=by{by_cases c:d.all Nr.fu=Qf;{rw[c,aa ((Nr.wB d).2 c)]};{rw[ab (λh=>c ((Nr.wB d).1 h))];exact(Bool.eq_false_iff.2 c).symm}};rw[this];cases nP (1<=d.length/\d.length<=300)<;>cases d.all Nr.fu<;>rfl};rw[bA (sW _).1,bA (sW _).1,bA (sW _).2];have c4:(!(!v1)||((!v1)&&(nP (d.length<=1099511627776/\([48,49,50,51,52,53,54,55,56,57]:bE).length<=100)&&([48,49,50,51,52,53,54,55,56,57]:bE).all (λb=>nP (b.toNat<128)))))=Qf:=by{rw[e1];by_cases c:1<=d.length/\d.length<=300;{rw[aa c,aa (show d.length<=1099511627776/\([48,49,50,51,52,53,54,55,56,57]:bE).length<=100 from⟨by omega,by decide⟩)];rfl};{rw[ab c];rfl}};rw[bA c4,bA (sW _).1,bA (sW _).2,e3];unfold Nr.read;cases hv:Nr.valid d;{rfl};{rw[ar rfl];refine Eq.trans (b:=_) (ae _ _) ?_;unfold Nr.valid at hv;rw[ah]at hv;obtain⟨hl,hd⟩:=hv;obtain⟨l1,l2⟩:=ao hl;rw[Nr.Kx]at h4;rw[Nr.C5]at h7;obtain⟨z,z1,z2⟩:=Nr.BP d;rw[<-h4]at z1 z2;obtain⟨t,t1,t2⟩:=Nr.oi v4;rw[<-h7]at t1 t2;have hd4:=(Nr.jK hd z1).2;have ZY:=(Nr.jK hd4 t1).1;have lz:d.length=z+v4.length:=by{have:=congrArg List.length z1;rw[af,List.length_replicate]at this;exact this};have lt:v4.length=v7.length+t:=by{have:=congrArg List.length t1;rw[af,List.length_replicate]at this;exact this};have nz:Nr.num d=Nr.num v4:=by{have:=congrArg Nr.num z1;rw[Nr.iP,Nr.mv,Nat.zero_mul,Nat.zero_add]at this;exact this};have nt:Nr.num v4=Nr.num v7*10^t:=by{have:=congrArg Nr.num t1;rw[Nr.iP,Nr.mv,List.length_replicate,Nat.add_zero]at this;exact this};have Wj:∀s:bE,s.length<=300->(nP (s.length<=1099511627776/\([48]:bE).length<=100)&&([48]:bE).all (λb=>nP (b.toNat<128)))=Qf:=λs hs=>by{rw[aa (show s.length<=1099511627776/\([48]:bE).length<=100 from⟨by omega,by decide⟩)];rfl};rw[bA (Wj d l2),bA (sW _).1,bA (sW _).2,nz];by_cases c0:v4=[];{have e5:v5=Qf:=by{rw[h5,aa c0];rfl};rw[e5,aj,c0];rw[show Nr.num []=0 from rfl,Nr.OD];rfl};{rw[cF c0]at h5;have z2:v4.getD 0 0≠48:=z2.resolve_left c0;have p4:0<v4.length:=List.length_pos_iff.2 c0;have b1:=Nr.BL v4 hd4;have b2:=Nr.BM hd4 c0 z2;by_cases c1:x< -1000;{rw[h5,cT c1,Nr.K4 b1 (by omega)];rfl};{rw[h5,cF c1];by_cases c2:1000<x;{rw[cT c2,Nr.Hh b2 p4 (by omega)];rfl};{have e6:v6=z:=by{rw[h6,iw];omega};have ex:IntKind.i64.wrap (x -v6)=x -z:=by{rw[e6,iw]};rw[cF c2,bA (Wj v4 (by omega)),ex];by_cases c3:x -z< -330;{rw[cT c3,Nr.K4 b1 (by omega)];rfl};{rw[cF c3];by_cases c4:310<x -(z:Int);{rw[cT c4,Nr.Hh b2 p4 (by omega)];rfl};{rw[cF c4];have n7:v7≠[]:=by{intro e;rw[e]at nt;have:=Nr.gL (v4.length -1);rw[show Nr.num []=0 from rfl,Nat.zero_mul]at nt;omega};have p7:0<v7.length:=List.length_pos_iff.2 n7;have g7:v7.getD 0 0=v4.getD 0 0:=by{rw[t1,ai,ai,List.getElem?_append_left (by omega)]};have e9:v9=x -z -v7.length:=by{rw[h9,ex,iw]};have w7:=Nr.BL v7 ZY;have w7':=Nr.BM ZY n7 (by rw[g7];exact z2);have w7p:0<Nr.num v7:=Nat.lt_of_lt_of_le (Nr.gL _) w7';have SG:Nr.rd (Nr.num v4) (x -(d.length:Int))=Nr.rd (Nr.num v7) v9:=by{rw[nt,Nr.yc];congr 1;omega};rw[SG,bA (by rw[aa (show 1<=v7.length/\v7.length<=300/\v7.getD 0 0≠48 from⟨by omega,by omega,by rw[g7];exact z2⟩),ZY];rfl)];have hB:∀k:Nat,k<=631->(10:Nat)^k<2^2200:=λk hk=>Nat.lt_of_le_of_lt (Nr.pM hk) G4.2;have hA:∀k:Nat,k<=310->(10:Nat)^k<2^1100:=λk hk=>Nat.lt_of_le_of_lt (Nr.pM hk) G4.1;by_cases c5:0<=v9;{have ep:Nr.num v7*10^v9.toNat<10^(v7.length+v9.toNat):=by{rw[Nat.pow_add];exact Nat.mul_lt_mul_of_pos_right w7 (Nr.gL _)};have y8:v10=Nt.of (10^v9.toNat):=kv;have H2:v11=Nt.of (Nr.num v7*10^v9.toNat):=by{rw[nK,y8,Nt.fv,Nt.fv]};have e8:v8=Nt.of 1:=h8;rw[cT c5,bA (aa ⟨by omega,by omega,by omega,by omega,mq (k:=4096) (hB v9.toNat (by omega)) (by omega)⟩),y8,kf (hB v9.toNat (by omega)) (by omega),kf (Nat.lt_trans w7 (hB v7.length (by omega))) (by omega)];refine(bA (by rfl)).trans ?_;rw[H2,e8,ajM _ 1 (Nat.mul_pos w7p (Nr.gL _)) (by omega) (Nat.lt_trans ep (hA _ (by omega))) (hB 0 (by omega))];unfold Nr.rd;rw[show(-v9).toNat=0 by omega,Nat.pow_zero]};{have ew:IntKind.i64.wrap (0 -v9)=-v9:=by{rw[iw];omega};rw[ew]at mS;have Ct:v12=Nt.of (10^(-v9).toNat):=mS;rw[cF c5,ew,bA (aa ⟨by omega,by omega,by omega,by omega,mq (k:=4096) (hB (-v9).toNat (by omega)) (by omega)⟩),Ct];rw[ajM _ _ w7p (Nr.gL _) (Nat.lt_trans w7 (hA v7.length (by omega))) (hB _ (by omega))];unfold Nr.rd;rw[show v9.toNat=0 by omega,Nat.pow_zero,Nat.mul_one]}}}}}}}
namespace Nr
end Nr
namespace Nr
theorem Dr(s:bE)(c:UInt8):iE (s++[c])=if c=48 then iE s else s++[c]:=by unfold iE;rw[List.reverse_append,List.reverse_singleton,List.singleton_append,List.dropWhile_cons];by_cases h:c=48;{rw[ar (by simp[h]),ar h]};{rw[ak (by simp[h]),ak h];simp}
def FF(s:bE):s=[]\/∃a c,s=a++[c]:=by
 cases h:s.reverse with
 |nil=>left;simpa using h
 |cons c r=>right;exact⟨r.reverse,c,by have:=congrArg List.reverse h;simpa using this⟩
def uL{c:UInt8}(h:fu c=Qf):c=UInt8.ofNat (48+(c.toNat -48)):=by have:=qi.1 h;rw[show 48+(c.toNat -48)=c.toNat by omega,UInt8.ofNat_toNat]
def zd:∀(n:Nat)(s:bE),s.length=n->s.all fu=Qf->s≠[]->s.getD 0 0≠48->s=dec (num s):=by
 intro n;induction n with
 |zero=>intro s hs _ h0 _;exact(h0 (List.length_eq_zero_iff.1 hs)).elim
 |succ n ih=>intro s hs hd h0 h1;rcases FF s with h|⟨a,c,rfl⟩;{exact(h0 h).elim};{obtain⟨d1,d2⟩:=jK hd rfl;rw[List.all_cons,ah]at d2;have hc:=qi.1 d2.1;rw[ym];by_cases ha:a=[];{subst ha;rw[show num []=0 from rfl,qo (by omega)];rw[Nat.mul_zero,Nat.zero_add,<-uL d2.1];rfl};{have ha1:a.getD 0 0≠48:=by{have hl:=List.length_pos_iff.2 ha;rw[ai,List.getElem?_append_left hl,<-ai]at h1;exact h1};have hg:=BM d1 ha ha1;have:=gL (a.length -1);rw[uY (by omega),show(10*num a+(c.toNat -48))/10=num a by omega,show(10*num a+(c.toNat -48))%10=c.toNat -48 by omega,<-uL d2.1];rw[af,aw]at hs;rw[<-ih a (by omega) d1 ha ha1]}}
def me(n:Nat):(dec n).all fu=Qf/\num (dec n)=n/\(dec n≠[])/\(0<n->(dec n).getD 0 0≠48):=by
 induction n using Nat.strongRecOn with
 |_ n ih=>have VU:∀k,k<10->fu (UInt8.ofNat (48+k))=Qf/\(UInt8.ofNat (48+k)).toNat=48+k:=λk hk=>by{have:(UInt8.ofNat (48+k)).toNat=48+k:=by{simp;omega};exact⟨qi.2 (by omega),this⟩};by_cases c:n<10;{rw[qo c];obtain⟨h1,h2⟩:=VU n c;refine⟨by rw[List.all_cons,h1];rfl,by simp only[num,List.foldl_cons,List.foldl_nil,h2];omega,by simp,λh e=>?_⟩;have:=congrArg UInt8.toNat e;have e2:([UInt8.ofNat (48+n)].getD 0 0).toNat=48+n:=h2;rw[e2]at this;have e3:(48:UInt8).toNat=48:=rfl;omega};{obtain⟨i1,i2,i3,i4⟩:=ih (n/10) (by omega);obtain⟨h1,h2⟩:=VU (n%10) (by omega);rw[uY c];refine⟨by rw[List.all_append,i1,List.all_cons,h1];rfl,by rw[ym,i2,h2];omega,by simp,λ_=>?_⟩;rw[ai,List.getElem?_append_left (List.length_pos_iff.2 i3),<-ai];exact i4 (by omega)}
def o9(n:Nat):1<=(dec n).length:=List.length_pos_iff.2 (me n).2.2.1
end Nr
namespace Nr
def PJ{m:Nat}(h:0<m)(e:Int):0<UA m e:=Nat.mul_pos (Nat.mul_pos h (Nat.two_pow_pos _)) (Nat.pow_pos (by omega))
end Nr
end Go.Eng
namespace Go.Eng
namespace Sh
open Nr (V rj sh top kz rd sU iZ)
def Lj{a b p:Nat}(hb:0<b):kz a b=Bm p↔p<=top/\¬iZ a b p/\(p=0\/iZ a b (p -1)):=by constructor;{intro h;classical have s1:p<=top/\¬iZ a b p/\∀r,r<p->iZ a b r:=by{unfold kz at h;split at h;{rename_i hx;cases h;exact hx.choose_spec};{cases h}};refine⟨s1.1,s1.2.1,?_⟩;by_cases c:p=0;{exact .inl c};{exact .inr (s1.2.2 _ (by omega))}};{rintro⟨h1,h2,h3⟩;exact Nr.qf hb h1 h2 h3}
def RW{p N:Nat}{k:Int}(hp:0<p):rd N k=Bm p↔p<=top/\(2*(N*10^k.toNat*2^1074)<sU p*10^(-k).toNat\/(2*(N*10^k.toNat*2^1074)=sU p*10^(-k).toNat/\p%2=0))/\(sU (p -1)*10^(-k).toNat<2*(N*10^k.toNat*2^1074)\/(sU (p -1)*10^(-k).toNat=2*(N*10^k.toNat*2^1074)/\p%2=0)):=by unfold rd;rw[Lj (Nr.gL _)];unfold iZ;have e:=Nr.mul_two (a:=N*10^k.toNat) Nr.oC;rw[e];generalize 2*(N*10^k.toNat*2^1074)=X;generalize sU p*10^(-k).toNat=Y;generalize sU (p -1)*10^(-k).toNat=Z;constructor;{rintro⟨h1,h2,h3⟩;refine⟨h1,?_,?_⟩<;>omega};{rintro⟨h1,h2,h3⟩;refine⟨h1,?_,.inr ?_⟩<;>omega}
def xl{p:Nat}(hp:0<p):0<rj p:=by unfold rj;split<;>omega
def KW{m s:Nat}(K:Nat):m*2^((s:Int) -K).toNat*2^K=m*2^s*2^(-((s:Int) -K)).toNat:=by rw[Nat.mul_assoc,Nat.mul_assoc,<-Nat.pow_add,<-Nat.pow_add];congr 2;omega
def Rg(p:Nat):mB p*2^1074=V p*jM p:=KW 1074
def pL(p:Nat):0<jM p:=Nat.two_pow_pos _
def H3{p:Nat}(hp:0<p):10^(dx p -1).toNat*jM p<=mB p*10^(-(dx p -1)).toNat/\mB p*10^(-(dx p)).toNat<10^(dx p).toNat*jM p:=by have hm:=xl hp;generalize he:(sh p:Int) -1074=e;obtain⟨d1,d2,d3,d4⟩:=Nr.me (Nr.UA (rj p) e);have hN:=Nr.PJ hm e;have g1:=Nr.BM d1 d3 (d4 hN);have g2:=Nr.BL _ d1;rw[d2]at g1 g2;have hl:=List.length_pos_iff.2 d3;have hx:dx p=(Nr.dec (Nr.UA (rj p) e)).length+min e 0:=by{unfold dx;rw[he];rfl};have ea:mB p=rj p*2^e.toNat:=by{unfold mB;rw[he]};have eb:jM p=2^(-e).toNat:=by{unfold jM;rw[he]};have eN:Nr.UA (rj p) e=rj p*2^e.toNat*5^(-e).toNat:=rfl;generalize Nr.UA (rj p) e=N at*;generalize(Nr.dec N).length=L at*;rw[ea,eb,hx];have t25:∀k:Nat,(10:Nat)^k=2^k*5^k:=λk=>by{rw[<-Nat.mul_pow]};by_cases c:0<=e;{have h0:(-e).toNat=0:=by{omega};rw[h0,Nat.pow_zero,Nat.mul_one]at eN⊢;rw[Nat.mul_one];rw[<-eN,show((L:Int)+min e 0 -1).toNat=L -1 by omega,show(-((L:Int)+min e 0 -1)).toNat=0 by omega,show(-((L:Int)+min e 0)).toNat=0 by omega,show((L:Int)+min e 0).toNat=L by omega,Nat.pow_zero,Nat.mul_one];exact⟨g1,g2⟩};{have h0:e.toNat=0:=by{omega};rw[h0,Nat.pow_zero,Nat.mul_one]at eN⊢;have ZL:min e 0=e:=by{omega};rw[ZL];generalize hj:(-e).toNat=j at*;have hp5:0<(5:Nat)^j:=Nat.pow_pos (by omega);have key:∀a b:Nat,a+j=L -1+b->10^a*2^j<=rj p*10^b:=λa b Ke=>by{refine Nat.le_of_mul_le_mul_right (c:=5^j) ?_ hp5;rw[Nat.mul_assoc,<-t25,<-Nat.pow_add,Ke,Nat.pow_add,Nat.mul_right_comm,<-eN];exact aA _ g1};have Zg:∀a b:Nat,a+j=L+b->rj p*10^b<10^a*2^j:=λa b Ke=>by{refine Nat.lt_of_mul_lt_mul_right (a:=5^j) ?_;rw[Nat.mul_assoc (10^a),<-t25,<-Nat.pow_add,Ke,Nat.pow_add,Nat.mul_right_comm,<-eN];exact Nat.mul_lt_mul_of_pos_right g2 (Nr.gL _)};exact⟨key _ _ (by omega),Zg _ _ (by omega)⟩}
def qD{p N:Nat}{k:Int}(h:rd N k=Bm p):reads p N k=Bm (Nr.iE (Nr.dec N),(Nr.dec N).length+k):=ar h
def tD{p N:Nat}{k:Int}(h:¬rd N k=Bm p):reads p N k=Kk:=ak h
def Mi{p:Nat}(hp:0<p):V p<=9007199254740992*2^sh (p -1)/\V p=V (p -1)+2^sh (p -1):=by have h1:=Nr.CH (p -1);have h2:=Nr.zC (p -1);rw[show p -1+1=p by omega]at h1 h2;refine⟨?_,h2⟩;rw[h1];exact aA _ (by have:=Nr.yp (p -1);omega)
def Tf(p:Nat):V p<9007199254740992*2^sh p/\V (p+1)=V p+2^sh p:=⟨Nat.mul_lt_mul_of_pos_right (Nr.yp p) (Nat.two_pow_pos _),Nr.zC p⟩
def unit_eq{a b V' K P Q:Nat}{S T:Nat}(h:a*K=V'*b)(hP:P=a*T)(hQ:Q=b*S)(N:Nat):N*S*K*b=N*Q*K/\P*K=V'*T*b:=by constructor;{rw[hQ];simp only[Nat.mul_assoc,Nat.mul_comm,Nat.mul_left_comm]};{rw[hP,Nat.mul_right_comm,h,Nat.mul_right_comm]}
end Sh
namespace Sh
open Nr (V rj sh top kz rd sU iZ)
def By{b:Nat}(h:0<b)(k:Int):0<tB b k:=Nat.mul_pos h (Nr.gL _)
def OE{p:Nat}(hp:0<p)(ht:p<=top)(x n:Int)(K:Nat)(hK:mB p*K=V p*jM p)(Kf:K=2^1074)(N:Nat):rd N (x -n)=Bm p↔(2*(N*tB (jM p) (n -x)*K)<2*(tA (mB p) (n -x)*K)+2^sh p*10^(n -x).toNat*jM p\/(2*(N*tB (jM p) (n -x)*K)=2*(tA (mB p) (n -x)*K)+2^sh p*10^(n -x).toNat*jM p/\p%2=0))/\(2*(tA (mB p) (n -x)*K)<2*(N*tB (jM p) (n -x)*K)+2^sh (p -1)*10^(n -x).toNat*jM p\/(2*(tA (mB p) (n -x)*K)=2*(N*tB (jM p) (n -x)*K)+2^sh (p -1)*10^(n -x).toNat*jM p/\p%2=0)):=by rw[RW hp,<-Kf];have hb:=pL p;rw[show(-(x -n))=n -x by omega];obtain⟨u1,u2⟩:=unit_eq (S:=10^(x -n).toNat) (T:=10^(n -x).toNat) (Q:=tB (jM p) (n -x)) (P:=tA (mB p) (n -x)) hK rfl (by unfold tB;rw[show(-(n -x))=x -n by omega]) N;rw[u2,<-u1];have m1:sU p=2*V p+2^sh p:=by{rw[Nr.qL,Nr.zC];omega};have m2:2*V p=sU (p -1)+2^sh (p -1):=by{have:=(Mi hp).2;rw[Nr.qL,show p -1+1=p by omega];omega};generalize 10^(n -x).toNat=T;generalize hX:N*10^(x -n).toNat*K=X;have c1:sU p*T*jM p=2*(V p*T*jM p)+2^sh p*T*jM p:=by{rw[m1];simp only[Nat.add_mul,Nat.mul_assoc]};have c2:2*(V p*T*jM p)=sU (p -1)*T*jM p+2^sh (p -1)*T*jM p:=by{have:2*(V p*T*jM p)=2*V p*T*jM p:=by{simp only[Nat.mul_assoc]};rw[this,m2];simp only[Nat.add_mul]};have c3:2*(X*jM p)=2*X*jM p:=by{rw[Nat.mul_assoc]};rw[c3,c2,Nat.add_lt_add_iff_right,Nat.add_right_cancel_iff,<-c2,<-c1];rw[Nat.mul_lt_mul_right hb,Nat.mul_lt_mul_right hb];have e1:2*X*jM p=sU p*T*jM p↔2*X=sU p*T:=⟨Nat.eq_of_mul_eq_mul_right hb,λh=>by rw[h]⟩;have e2:sU (p -1)*T*jM p=2*X*jM p↔sU (p -1)*T=2*X:=⟨Nat.eq_of_mul_eq_mul_right hb,λh=>by rw[h]⟩;rw[e1,e2];exact⟨λh=>h.2,λh=>⟨ht,h⟩⟩
def C6{a b:Nat}{y k m:Int}(hm:0<=m)(h:m=y+k):(10^y.toNat*b<=a*10^(-y).toNat->10^m.toNat*tB b k<=tA a k)/\(a*10^(-y).toNat<10^y.toNat*b->tA a k<10^m.toNat*tB b k):=by have he:m.toNat+(-k).toNat+(-y).toNat=y.toNat+k.toNat:=by{omega};have l:10^m.toNat*tB b k*10^(-y).toNat=10^y.toNat*b*10^k.toNat:=by{unfold tB;rw[<-Nat.mul_assoc,Nat.mul_right_comm (10^m.toNat),<-Nat.pow_add,Nat.mul_right_comm,<-Nat.pow_add,he,Nat.pow_add,Nat.mul_right_comm]};have r:tA a k*10^(-y).toNat=a*10^(-y).toNat*10^k.toNat:=by{unfold tA;rw[Nat.mul_right_comm]};have h1:=Nr.gL (-y).toNat;have h2:=Nr.gL k.toNat;constructor;{intro h;refine Nat.le_of_mul_le_mul_right ?_ h1;rw[l,r];exact aA _ h};{intro h;refine Nat.lt_of_mul_lt_mul_right (a:=10^(-y).toNat) ?_;rw[l,r];exact Nat.mul_lt_mul_of_pos_right h h2}
def xL{p:Nat}(hp:0<p){n:Int}(hn:1<=n):10^(n -1).toNat*tB (jM p) (n -dx p)<=tA (mB p) (n -dx p)/\tA (mB p) (n -dx p)<10^n.toNat*tB (jM p) (n -dx p):=by obtain⟨h1,h2⟩:=H3 hp;exact⟨(C6 (y:=dx p -1) (k:=n -dx p) (m:=n -1) (by omega) (by omega)).1 h1,(C6 (y:=dx p) (k:=n -dx p) (m:=n) (by omega) (by omega)).2 h2⟩
def Dh{p a b:Nat}{x n:Int}(h:rd (tA a (n -x)/tB b (n -x)) (x -n)=Bm p\/rd (tA a (n -x)/tB b (n -x)+1) (x -n)=Bm p):(some_ p a b x n).isSome=Qf:=by unfold some_;simp only;split;{rename_i c;exact c.1};{rename_i c;rcases h with h|h;{by_cases h2:rd (tA a (n -x)/tB b (n -x)+1) (x -n)=Bm p;{rw[qD h2];rfl};{exact(c ⟨by rw[qD h];rfl,.inl (by rw[tD h2];rfl)⟩).elim}};{rw[qD h];rfl}}
def RO{p:Nat}(hp:0<p)(ht:p<=top):(some_ p (mB p) (jM p) (dx p) 17).isSome=Qf:=by obtain⟨r1,r2⟩:=xL hp (n:=17) (by omega);have hQ:=By (pL p) (17 -dx p);obtain⟨K,hK⟩:∃K,K=2^1074:=⟨_,rfl⟩;have Xs:0<K:=by{rw[hK];exact Nat.two_pow_pos 1074};have Ke:=Rg p;rw[<-hK]at Ke;have gd:=(Mi hp).1;have gu:=(Tf p).1;have ru:=OE hp ht (dx p) 17 K Ke hK;have hPK:tA (mB p) (17 -dx p)*K=V p*10^(17 -dx p).toNat*jM p:=by{unfold tA;rw[Nat.mul_right_comm,Ke,Nat.mul_right_comm]};refine Dh ?_;have hT:0<10^(17 -dx p).toNat*jM p:=Nat.mul_pos (Nr.gL _) (pL p);have bd:V p*10^(17 -dx p).toNat*jM p<=9007199254740992*(2^sh (p -1)*10^(17 -dx p).toNat*jM p):=by{rw[Nat.mul_assoc (V p),Nat.mul_assoc (2^sh (p -1)),<-Nat.mul_assoc 9007199254740992];exact aA _ gd};have bu:V p*10^(17 -dx p).toNat*jM p<9007199254740992*(2^sh p*10^(17 -dx p).toNat*jM p):=by{rw[Nat.mul_assoc (V p),Nat.mul_assoc (2^sh p),<-Nat.mul_assoc 9007199254740992];exact Nat.mul_lt_mul_of_pos_right gu hT};rw[<-hPK]at bd bu;generalize tA (mB p) (17 -dx p)=P at*;generalize tB (jM p) (17 -dx p)=Q at*;generalize 2^sh (p -1)*10^(17 -dx p).toNat*jM p=D at*;generalize 2^sh p*10^(17 -dx p).toNat*jM p=G at*;have Q3:(10:Nat)^((17:Int) -1).toNat=10000000000000000:=by{decide};rw[Q3]at r1;have hr:=Nat.mod_lt P hQ;have Uu:=Nat.div_add_mod P Q;have q1:10000000000000000*(Q*K)<=P*K:=by{rw[<-Nat.mul_assoc];exact aA K r1};have hQK:0<Q*K:=Nat.mul_pos hQ Xs;have hPK2:P*K=P/Q*Q*K+P% Q*K:=by{rw[<-Nat.add_mul,Nat.mul_comm (P/Q)];rw[Uu]};have hrK:P% Q*K<Q*K:=Nat.mul_lt_mul_of_pos_right hr Xs;by_cases c:2*(P% Q)<=Q;{left;have c':2*(P% Q*K)<=Q*K:=by{rw[<-Nat.mul_assoc];exact aA K c};rw[ru];exact⟨.inl (by omega),.inl (by omega)⟩};{right;have c':Q*K<=2*(P% Q*K):=by{rw[<-Nat.mul_assoc];exact aA K (by omega)};have hN:(P/Q+1)*Q*K=P/Q*Q*K+Q*K:=by{rw[Nat.add_mul,Nat.add_mul,Nat.one_mul]};rw[ru,hN];exact⟨.inl (by omega),.inl (by omega)⟩}
end Sh
namespace Sh
open Nr (V rj sh top kz rd sU iZ)
def go_hit{p f i:Nat}{r:bE×Int}(h:some_ p (mB p) (jM p) (dx p) i=Bm r):go p (f+1) i=r:=by rw[go_succ,h];rfl
def go_miss{p f i:Nat}(h:some_ p (mB p) (jM p) (dx p) i=Kk):go p (f+1) i=go p f (i+1):=by rw[go_succ,h];rfl
def go_some{p:Nat}{r:bE×Int}{n:Nat}(h4:some_ p (mB p) (jM p) (dx p) n=Bm r):∀(m i f:Nat),i+m=n->m<f->(∀j:Nat,i<=j->j<n->some_ p (mB p) (jM p) (dx p) j=Kk)->go p f i=r:=by
 intro m;induction m with
 |zero=>intro i f h1 h2 h3;have h1:i=n:=h1;obtain⟨f,rfl⟩:∃g,f=g+1:=⟨f -1,by omega⟩;rw[h1];exact go_hit h4
 |succ m ih=>intro i f h1 h2 h3;obtain⟨f,rfl⟩:∃g,f=g+1:=⟨f -1,by omega⟩;rw[go_miss (h3 i (Nat.le_refl _) (by omega))];exact ih (i+1) f (by omega) (by omega) (λj a b=>h3 j (by omega) b)
def first{p:Nat}(hp:0<p)(ht:p<=top):∃n:Nat,1<=n/\n<=17/\(∀j:Nat,1<=j->j<n->some_ p (mB p) (jM p) (dx p) j=Kk)/\some_ p (mB p) (jM p) (dx p) n=Bm (digits p):=by
 have Ei:=RO hp ht;have key:∀m i:Nat,i+m=17->1<=i->(∀j:Nat,1<=j->j<i->some_ p (mB p) (jM p) (dx p) j=Kk)->∃n:Nat,1<=n/\n<=17/\(∀j:Nat,1<=j->j<n->some_ p (mB p) (jM p) (dx p) j=Kk)/\(some_ p (mB p) (jM p) (dx p) n).isSome=Qf:=by
  intro m;induction m with
  |zero=>intro i hi h1 hn;have hi:i=17:=hi;exact⟨17,by omega,by omega,by rw[<-hi];exact hn,Ei⟩
  |succ m ih=>
   intro i hi h1 hn;cases hs:some_ p (mB p) (jM p) (dx p) i with
   |some r=>exact⟨i,h1,by omega,hn,by rw[hs];rfl⟩
   |none=>refine ih (i+1) (by omega) (by omega) λj a b=>?_;by_cases c:j=i;{rw[c];exact hs};{exact hn j a (by omega)}
 obtain⟨n,n1,n2,n3,n4⟩:=key 16 1 rfl (by omega) (λj a b=>by omega);obtain⟨r,hr⟩:=Option.isSome_iff_exists.1 n4;refine⟨n,n1,n2,n3,?_⟩;have hg:digits p=r:=go_some hr (n -1) 1 17 (by omega) (by omega) n3;rw[hr,hg]
def Jc{a b:Nat}(h:10^a<10^b):a<b:=by rcases Nat.lt_or_ge a b with c|c;{exact c};{have:=Nr.pM c;omega}
def FQ{M:Nat}(h:0<M):Nr.iE (Nr.dec (10*M))=Nr.iE (Nr.dec M):=by rw[Nr.uY (show¬10*M<10 by omega),Nr.Dr,show 10*M%10=0 by omega,ar (by rfl),show 10*M/10=M by omega]
theorem xZ:∀n:Nat,Nr.iE (Nr.dec (10^n))=[49]
 |0=>by decide+kernel
 |n+1=>by rw[Nat.pow_succ,Nat.mul_comm,FQ (Nr.gL n),xZ n]
def IH(d:bE):(Nr.iE d).length<=d.length:=by obtain⟨t,h,_⟩:=Nr.oi d;have:=congrArg List.length h;rw[af]at this;omega
def M8{N n:Nat}(hn:1<=n)(h:N<=10^n):(Nr.iE (Nr.dec N)).length<=n:=by rcases Nat.lt_or_eq_of_le h with c|c;{exact Nat.le_trans (IH _) (Nr.jT n N c hn)};{rw[c,xZ];exact hn}
def Ak{N:Nat}{k:Int}(h:0<N)(hl:(Nr.dec N).length<=300):Nr.read (Nr.iE (Nr.dec N)) ((Nr.dec N).length+k)=rd N k:=by obtain⟨d1,d2,d3,d4⟩:=Nr.me N;obtain⟨t,t1,t2⟩:=Nr.oi (Nr.dec N);have hn:=congrArg Nr.num t1;rw[Nr.iP,Nr.mv,List.length_replicate,Nat.add_zero,d2]at hn;have hL:=congrArg List.length t1;rw[af,List.length_replicate]at hL;have ne:Nr.iE (Nr.dec N)≠[]:=by{intro e0;rw[e0,show Nr.num []=0 from rfl,Nat.zero_mul]at hn;omega};have:=List.length_pos_iff.2 ne;unfold Nr.read Nr.valid;rw[(Nr.jK d1 t1).1,aa (show 1<=(Nr.iE (Nr.dec N)).length/\(Nr.iE (Nr.dec N)).length<=300 by omega),ar (by rfl)];have e:rd N k=rd (Nr.num (Nr.iE (Nr.dec N))*10^t) k:=by{rw[<-hn]};rw[e,Nr.yc,show((Nr.dec N).length:Int)+k -(Nr.iE (Nr.dec N)).length=k+t by omega]
def Iz{p a b:Nat}{x n:Int}{r:bE×Int}(h:some_ p a b x n=Bm r):∃N,(N=tA a (n -x)/tB b (n -x)\/N=tA a (n -x)/tB b (n -x)+1)/\rd N (x -n)=Bm p/\r=(Nr.iE (Nr.dec N),(Nr.dec N).length+(x -n)):=by unfold some_ at h;simp only at h;have key:∀N,reads p N (x -n)=Bm r->rd N (x -n)=Bm p/\r=(Nr.iE (Nr.dec N),(Nr.dec N).length+(x -n)):=λN hN=>by{unfold reads at hN;split at hN;{rename_i c;cases hN;exact⟨c,rfl⟩};{cases hN}};split at h;{exact⟨_,.inl rfl,key _ h⟩};{exact⟨_,.inr rfl,key _ h⟩}
def A8{p:Nat}(hp:0<p)(ht:p<=top):∃n N:Nat,1<=n/\n<=17/\0<N/\N<=10^n/\rd N (dx p -n)=Bm p/\digits p=(Nr.iE (Nr.dec N),(Nr.dec N).length+(dx p -n))/\(∀j:Nat,1<=j->j<n->some_ p (mB p) (jM p) (dx p) j=Kk):=by
 obtain⟨n,n1,n2,n3,n4⟩:=first hp ht
 obtain⟨N,N1,N2,N3⟩:=Iz n4;obtain⟨r1,r2⟩:=xL hp (n:=n) (by omega);have hQ:=By (pL p) (n -dx p);rw[aq]at r2;have lo:=(Nat.le_div_iff_mul_le hQ).2 r1;have hi:=(Nat.div_lt_iff_lt_mul hQ).2 r2;have:=Nr.gL ((n:Int) -1).toNat;refine⟨n,N,n1,n2,?_,?_,N2,N3,n3⟩<;>rcases N1 with h|h<;>omega
def EH{p:Nat}(hp:0<p)(ht:p<=top):Nr.read (digits p).1 (digits p).2=Bm p:=by obtain⟨n,N,n1,n2,n3,n4,n5,n6,n7⟩:=A8 hp ht;rw[n6,Ak n3 ?_,n5];refine Nat.le_trans (Nr.jT (n+1) N ?_ (by omega)) (by omega);exact Nat.lt_of_le_of_lt n4 (Nat.pow_lt_pow_right (by omega) (by omega))
end Sh
namespace Sh
open Nr (V rj sh top kz rd sU iZ)
structure GV (d:bE):Prop where
 dg:d.all Nr.fu=Qf
 n:d≠[]
 h:d.getD 0 0≠48
def GV.fk{c:bE}(h:GV c)(j:Nat):GV (c++List.replicate j 48):=by refine⟨?_,by simp[h.n],?_⟩;{rw[List.all_append,h.dg,Bool.true_and];rw[aI];intro x hx;rw[List.eq_of_mem_replicate hx];rfl};{rw[ai,List.getElem?_append_left (List.length_pos_iff.2 h.n),<-ai];exact h.h}
def F1(c:bE)(j:Nat):Nr.num (c++List.replicate j 48)=Nr.num c*10^j:=by rw[Nr.iP,Nr.mv,List.length_replicate,Nat.add_zero]
def AE{d:bE}(h:GV d){n:Nat}(h1:1<=n)(h2:n<=d.length):GV (d.take n):=by refine⟨(Nr.jK h.dg (List.take_append_drop n d).symm).1,?_,?_⟩;{intro e;have:=congrArg List.length e;rw[aJ,ay]at this;omega};{rw[ai,List.getElem?_take_of_lt (by omega),<-ai];exact h.h}
end Sh
open Go.IntWalk
namespace Nr
structure Shape (t a b fr ex e:bE):Prop where
 eq:t=a++fr++ex
 a0:a≠[]
 ad:a.all fu=Qf
 fr:(fr=[]/\b=[])\/(fr=46::b/\b≠[])
 bd:b.all fu=Qf
 ex:(ex=[]/\e=[])\/(∃c,isE c=Qf/\ex=c::e/\signed e≠[])
 ed:(signed e).all fu=Qf
section
variable{s a b fr ex e:bE}(h:Shape (body s) a b fr ex e)
include h
end
end Nr
end Go.Eng
namespace Go.Eng
namespace Sh
open Nr (V rj sh top kz rd sU iZ fu isE signed run pA tN body kA)
theorem vj(n:Int):(fk n).all fu=Qf:=by unfold fk;rw[aI];intro x hx;rw[List.eq_of_mem_replicate hx];rfl
def zt{d:bE}(h:d.all fu=Qf)(n:Nat):(d.drop n).all fu=Qf/\(d.take n).all fu=Qf:=by have:=Nr.jK h (List.take_append_drop n d).symm;exact⟨this.2,this.1⟩
def sG{v:Int}(h:0<=v):Nr.itoa v=Nr.dec v.toNat/\(Nr.itoa v).all fu=Qf/\Nr.num (Nr.itoa v)=v.toNat/\Nr.itoa v≠[]:=by have e:Nr.itoa v=Nr.dec v.toNat:=by{rw[Nr.pC,nO,show v.natAbs=v.toNat by omega]};obtain⟨d1,d2,d3,d4⟩:=Nr.me v.toNat;rw[e];exact⟨rfl,d1,d2,d3⟩
def Mv{v:Int}(h:0<=v):Nr.Ez (45::Nr.itoa v)=-v/\signed (45::Nr.itoa v)=Nr.itoa v:=by obtain⟨_,d1,d2,d3⟩:=sG h;have e:signed (45::Nr.itoa v)=Nr.itoa v:=by{rw[Nr.rB,ar (.inr rfl)]};refine⟨?_,e⟩;unfold Nr.Ez;simp only;rw[e,d2,ar (by rfl)];omega
def Mu{v:Int}(h:0<=v):Nr.Ez (43::Nr.itoa v)=v/\signed (43::Nr.itoa v)=Nr.itoa v:=by obtain⟨_,d1,d2,d3⟩:=sG h;have e:signed (43::Nr.itoa v)=Nr.itoa v:=by{rw[Nr.rB,ar (.inl rfl)]};refine⟨?_,e⟩;unfold Nr.Ez;simp only;rw[e,d2,ak (by show¬((43:UInt8)=45);decide)];omega
def Hg{D E:bE}{x y:Int}{j:Nat}(h1:Nr.valid D=Qf)(h2:Nr.valid E=Qf)(hn:Nr.num D=Nr.num E*10^j)(hx:x -D.length+j=y -E.length):Nr.read D x=Nr.read E y:=by unfold Nr.read;rw[ar h1,ar h2,hn,Nr.yc,hx]
def xK{D:bE}(h:D.all fu=Qf)(h1:1<=D.length)(h2:D.length<=300):Nr.valid D=Qf:=by unfold Nr.valid;rw[h,aa ⟨h1,h2⟩];rfl
def xv{v:Int}(h:0<=v)(h2:v<1000):(Nr.itoa v).length<=3:=by rw[(sG h).1];exact Nr.jT 3 v.toNat (by show v.toNat<1000;omega) (by omega)
def Ga{d:bE}(hd:GV d)(hl:d.length<=17){x:Int}(hx:-900<=x/\x<=900):∃a b fr ex e,Nr.Shape (laid d x) a b fr ex e/\(a=[48]\/a.getD 0 0≠48)/\(laid d x).length<=24/\Nr.read (a++b) ((a.length:Int)+Nr.Ez e)=Nr.read d x:=by have hn:=List.length_pos_iff.2 hd.n;have hv:=xK hd.dg hn (by omega);unfold laid;by_cases c1:1<=x/\x<=21/\(d.length:Int)<=x;{rw[ar c1];have hz:=hd.fk (x -d.length).toNat;have HK:(d++fk (x -d.length)).length=x.toNat:=by{unfold fk;rw[af,List.length_replicate];omega};refine⟨d++fk (x -d.length),[],[],[],[],⟨by simp,hz.n,hz.dg,.inl ⟨rfl,rfl⟩,rfl,.inl ⟨rfl,rfl⟩,rfl⟩,.inr hz.h,by omega,?_⟩;rw[aR];refine Hg (j:=(x -d.length).toNat) (xK hz.dg (by omega) (by omega)) hv (F1 d _) ?_;rw[HK,show Nr.Ez []=0 from rfl];omega};{rw[ak c1];by_cases c2:1<=x/\x<=21;{rw[ar c2];have ht:=AE hd (n:=x.toNat) (by omega) (by omega);have QI:(d.take x.toNat).length=x.toNat:=by{rw[aJ];omega};have SY:(d.drop x.toNat).length=d.length -x.toNat:=aZ ..;refine⟨d.take x.toNat,d.drop x.toNat,46::d.drop x.toNat,[],[],⟨by simp,ht.n,ht.dg,.inr ⟨rfl,?_⟩,(zt hd.dg _).1,.inl ⟨rfl,rfl⟩,rfl⟩,.inr ht.h,?_,?_⟩;{intro e;rw[e,ay]at SY;omega};{rw[af,af,aw,QI,SY];omega};{rw[List.take_append_drop,QI,show Nr.Ez []=0 from rfl,show((x.toNat:Nat):Int)+0=x by omega]}};{rw[ak c2];by_cases c3:-5<=x/\x<=0;{rw[ar c3];have HK:(fk (-x)++d).length=(-x).toNat+d.length:=by{unfold fk;rw[af,List.length_replicate]};have Zl:(fk (-x)++d).all fu=Qf:=by{rw[List.all_append,vj,hd.dg];rfl};refine⟨[48],fk (-x)++d,46::(fk (-x)++d),[],[],⟨by simp,by simp,by rfl,.inr ⟨rfl,?_⟩,Zl,.inl ⟨rfl,rfl⟩,rfl⟩,.inl rfl,?_,?_⟩;{intro e;rw[e,ay]at HK;omega};{rw[af,HK];show 2+_<=24;omega};{have hd1:([48]++(fk (-x)++d)).all fu=Qf:=by{rw[List.all_append,Zl];rfl};have NI:([48]++(fk (-x)++d)).length=1+((-x).toNat+d.length):=by{rw[af,HK];rfl};refine Hg (j:=0) (xK hd1 (by omega) (by omega)) hv ?_ ?_;{rw[Nr.iP,Nr.iP];have:Nr.num (fk (-x))=0:=Nr.mv _;rw[this,show Nr.num [48]=0 by decide];omega};{rw[NI,show Nr.Ez []=0 from rfl,aw];omega}}};{rw[ak c3];have ht:=AE hd (n:=1) (by omega) hn;have QI:(d.take 1).length=1:=by{rw[aJ];omega};have SY:(d.drop 1).length=d.length -1:=aZ ..;have Uq:((if 1<d.length then 46::d.drop 1 else[]:bE)=[]/\d.drop 1=[])\/((if 1<d.length then 46::d.drop 1 else[]:bE)=46::d.drop 1/\d.drop 1≠[]):=by{by_cases k:1<d.length;{right;rw[ar k];refine⟨rfl,λe=>?_⟩;rw[e,ay]at SY;omega};{left;rw[ak k];exact⟨rfl,List.length_eq_zero_iff.1 (by omega)⟩}};have L8:(if 1<d.length then 46::d.drop 1 else[]:bE).length<=17:=by{split;{rw[av,SY];omega};{simp}};generalize hF:(if 1<d.length then 46::d.drop 1 else[]:bE)=F at*;by_cases c4:x<1;{rw[ar c4];obtain⟨i1,i2,i3,i4⟩:=sG (v:=1 -x) (by omega);obtain⟨e1,e2⟩:=Mv (v:=1 -x) (by omega);have il:=xv (v:=1 -x) (by omega) (by omega);refine⟨d.take 1,d.drop 1,F,101::45::Nr.itoa (1 -x),45::Nr.itoa (1 -x),⟨by simp,ht.n,ht.dg,Uq,(zt hd.dg _).1,.inr ⟨101,by decide,rfl,by rw[e2];exact i4⟩,by rw[e2];exact i2⟩,.inr ht.h,?_,?_⟩;{rw[af,af,QI,af];show 1+F.length+(2+_)<=24;omega};{rw[List.take_append_drop,QI,e1,show((1:Nat):Int)+-(1 -x)=x by omega]}};{rw[ak c4];obtain⟨i1,i2,i3,i4⟩:=sG (v:=x -1) (by omega);obtain⟨e1,e2⟩:=Mu (v:=x -1) (by omega);have il:=xv (v:=x -1) (by omega) (by omega);refine⟨d.take 1,d.drop 1,F,101::43::Nr.itoa (x -1),43::Nr.itoa (x -1),⟨by simp,ht.n,ht.dg,Uq,(zt hd.dg _).1,.inr ⟨101,by decide,rfl,by rw[e2];exact i4⟩,by rw[e2];exact i2⟩,.inr ht.h,?_,?_⟩;{rw[af,af,QI,af];show 1+F.length+(2+_)<=24;omega};{rw[List.take_append_drop,QI,e1,show((1:Nat):Int)+(x -1)=x by omega]}}}}}
end Sh
open Go.IntWalk
def Vf(x:UInt64)(h:x.toNat<4503599627370496):((4503599627370496:UInt64)|||x)=UInt64.ofNat (4503599627370496+x.toNat):=by apply gQ;rw[UInt64.toNat_or,fV];have:=qI (a:=1) (k:=52) (b:=x.toNat) h;show 4503599627370496|||x.toNat=_;rw[show(4503599627370496:Nat)=1*2^52 by decide,this];have:(1:Nat)*2^52=4503599627370496:=by{decide};omega
def agT(b:UInt64):atw b=Bm [.i .i64 (Nr.split b).1,.b (Nr.split b).2.1,.u64 (Nr.split b).2.2.1,.i .i64 (Nr.split b).2.2.2]:=by apply atv;intro v1 h1 v2 h2 v3 h3 v4 h4 v5 h5 v6 h6 v7 h7 v8 h8;have hb:=b.toNat_lt;have hv4:v4.toNat=b.toNat/9223372036854775808:=by{rw[h4,iX];rfl};have hv1:v1.toNat=b.toNat/4503599627370496:=by{rw[h1,iX];rfl};have e2:v2=((b.toNat/4503599627370496%2048:Nat):Int):=by{rw[h2,Sc,hv1,iw]};have e3:v3.toNat=b.toNat%4503599627370496:=by{rw[h3,Lr]};have en:nP (v4=1)=nP (9223372036854775808<=b.toNat):=by{by_cases c:9223372036854775808<=b.toNat;{rw[aa c,aa (gQ (by rw[hv4];show _=1;omega))]};{rw[ab c,ab (λh=>by have:=congrArg UInt64.toNat h;rw[hv4]at this;have e1:(1:UInt64).toNat=1:=rfl;omega)]}};have ef:nP (v3=0)=nP (b.toNat%4503599627370496=0):=by{by_cases c:b.toNat%4503599627370496=0;{rw[aa c,aa (gQ (by rw[e3];exact c))]};{rw[ab c,ab (λh=>by have:=congrArg UInt64.toNat h;rw[e3]at this;exact c this)]}};have X2:v3=UInt64.ofNat (b.toNat%4503599627370496):=gQ (by rw[e3,fV];omega);have e7:v7=UInt64.ofNat (4503599627370496+b.toNat%4503599627370496):=by{rw[h7,Vf _ (by omega),e3]};have e8:v8=((b.toNat/4503599627370496%2048:Nat):Int) -1075:=by{rw[h8,e2,iw]};have sW:∀b:Bool,(!b||b)=Qf:=by{decide};rw[bA (sW _),bA (sW _),bA (sW _),bA (sW _),en];unfold Nr.split;simp only;rw[ef]at h5 h6;generalize b.toNat/4503599627370496%2048=x at*;by_cases c1:x=2047;{rw[ar c1];have We:nP (v2=2047)=Qf:=dT;rw[We,aj]at h5;rw[h5,We];by_cases c2:b.toNat%4503599627370496=0;{rw[aa c2,ar c2];rfl};{rw[ab c2,ak c2];rfl}};{rw[ak c1];have We:nP (v2=2047)=Qg:=dF;rw[We,ae]at h5;rw[h5,We,ae,ae];by_cases c2:x=0;{have Wf:nP (v2=0)=Qf:=dT;rw[Wf,aj]at h6;rw[h6,Wf,ar c2];by_cases c3:b.toNat%4503599627370496=0;{rw[aa c3,ar c3];rfl};{rw[ab c3,ak c3,X2];rfl}};{have Wf:nP (v2=0)=Qg:=dF;rw[Wf,ae]at h6;rw[h6,Wf,ak c2,ae,ae,e7,e8]}}
def agw(v:Int)(hp:Nr.i64 v=Qf):asy v=Bm [.s (Nr.itoa v)]:=by rw[asx,hp];rfl
def Bx(k:Nat)(h:k<=400):10^k<2^1400:=by have hk:∀n:Nat,n=400->10^k<=10^n:=λn hn=>Nat.pow_le_pow_right (by omega) (by omega);exact Nat.lt_of_le_of_lt (hk 400 rfl) (by decide+kernel)
def qK{a b i j k:Nat}(h1:a<2^i)(h2:b<2^j)(h:i+j<=k):a*b<2^k:=by refine mq (i:=i+j) ?_ h;rw[Nat.pow_add];exact Nat.mul_lt_mul'' h1 h2
def Qn{a:Nat}{k:Int}(ha:a<2^1100)(hk:-400<=k/\k<=400):Sh.tA a k<2^2500:=qK (i:=1100) (j:=1400) (k:=2500) ha (Bx _ (by omega)) (by omega)
def Qm{a:Nat}{k:Int}(ha:a<2^1100)(hk:-400<=k/\k<=400):Sh.tB a k<2^2500:=qK (i:=1100) (j:=1400) (k:=2500) ha (Bx _ (by omega)) (by omega)
def afZ(a b:List UInt16)(k:Int)(hp:(Nt.is a&&Nt.is b&&nP (-400<=k/\k<=400/\Nt.val a<2^1100/\Nt.val b<2^1100))=Qf):arx a b k=Bm [.sl .ws (Nt.of (Sh.tA (Nt.val a) k)),.sl .ws (Nt.of (Sh.tB (Nt.val b) k))]:=by rw[ah,ah]at hp;obtain⟨⟨ha,hb⟩,hp⟩:=hp;obtain⟨k1,k2,k3,k4⟩:=ao hp;apply arw;intro v1 h1 v2 h2 v3 h3 v4 h4;by_cases c:0<=k;{have h1:v1=Nt.of (10^k.toNat):=h1;have e:=Bx k.toNat (by omega);have is1:Nt.is v1=Qf:=by{rw[h1];exact kf (i:=1400) e (by omega)};rw[cT c,bA (aa ⟨by omega,by omega,c,by omega,mq (i:=1400) (k:=4096) e (by omega)⟩),ha,is1];refine(bA (by rfl)).trans ?_;rw[h2,h1,Nt.fv];unfold Sh.tA Sh.tB;rw[show(-k).toNat=0 by omega,Nat.pow_zero,Nat.mul_one,Nt.cq (Nt.lp hb)]};{have ew:IntKind.i64.wrap (0 -k)=-k:=by{rw[iw];omega};rw[ew]at h3;have h3:v3=Nt.of (10^(-k).toNat):=h3;have e:=Bx (-k).toNat (by omega);have is3:Nt.is v3=Qf:=by{rw[h3];exact kf (i:=1400) e (by omega)};rw[cF c,ew,bA (aa ⟨by omega,by omega,by omega,by omega,mq (i:=1400) (k:=4096) e (by omega)⟩),hb,is3];refine(bA (by rfl)).trans ?_;rw[h4,h3,Nt.fv];unfold Sh.tA Sh.tB;rw[show k.toNat=0 by omega,Nat.pow_zero,Nat.mul_one,Nt.cq (Nt.lp ha)]}
def afJ(a b:List UInt16)(x:Int)(hp:(Nt.is a&&Nt.is b&&nP (-400<=x/\x<=400/\Nt.val a<2^1100/\Nt.val b<2^1100))=Qf):aqX a b x=Bm [.b (nP (Sh.tB (Nt.val b) (-x)<=Sh.tA (Nt.val a) (-x)))]:=by have Pr:=hp;rw[ah,ah]at hp;obtain⟨⟨ha,hb⟩,hp⟩:=hp;obtain⟨k1,k2,k3,k4⟩:=ao hp;apply aqW;intro v1 h1 v2 h2 v3 h3;have ew:IntKind.i64.wrap (0 -x)=-x:=by{rw[iw];omega};rw[ew]at h1 h2⊢;have i1:Nt.is v1=Qf:=by{rw[h1];exact kf (i:=2500) (Qn k3 (by omega)) (by omega)};have i2:Nt.is v2=Qf:=by{rw[h2];exact kf (i:=2500) (Qm k4 (by omega)) (by omega)};rw[ha,hb,aa (⟨by omega,by omega,k3,k4⟩:-400<=-x/\-x<=400/\Nt.val a<2^1100/\Nt.val b<2^1100),i1,i2];refine(bA (by rfl)).trans ((bA (by rfl)).trans ?_);rw[h3,h1,h2,Nt.fv,Nt.fv];rcases sJ (Sh.tA (Nt.val a) (-x)) (Sh.tB (Nt.val b) (-x))with⟨k,l⟩|⟨k,l⟩|⟨k,l⟩;{rw[k,dF,dF]};{rw[k,dT,dT]};{rw[k,dT,dT]}
def RD:(10:Nat)^200<2^665:=by decide+kernel
def afK(b:UInt64)(a:List UInt16)(p:Int)(hp:(Nt.is a&&nP (-1000<=p/\p<=1000/\0<Nt.val a/\Nt.val a<10^200))=Qf):aq0 b a p=Bm [.s ((Sh.nn b.toNat (Nt.val a) p).getD ([],0)).1,.i .i64 ((Sh.nn b.toNat (Nt.val a) p).getD ([],0)).2,.b (Sh.nn b.toNat (Nt.val a) p).isSome]:=by
 rw[ah]at hp;obtain⟨ha,hp⟩:=hp;obtain⟨k1,k2,k3,k4⟩:=ao hp;apply aqZ;intro v1 h1 v2 h2 v3 h3 v4 h4 v5 h5;rw[Sh.Ac]at h1 h2⊢;rw[Sh.Aj];have hl:=Nr.jT 200 (Nt.val a) k4 (by omega);rw[Nr.C5]at h2;have e1:IntKind.i64.wrap (v1+p)=(Nr.dec (Nt.val a)).length+p:=by{rw[h1,iw]};rw[e1,h2,Sh.Ak k3 (by omega)]at h3 h4;have sW:∀b:Bool,(!(!b)||((!b)&&(!b)))=Qf/\(b||!b)=Qf:=by{decide};have VX:∀b:Bool,(!(!(!b))||((!(!b))&&(!(!b))))=Qf/\((!b)||(!(!b)))=Qf:=by{decide};rw[ha,bK,aa (show(Nr.dec (Nt.val a)).length<=1099511627776/\([48]:bE).length<=100 from⟨by omega,by decide⟩)];refine(bA (by rfl)).trans ?_;rw[bA (VX _).1,bA (VX _).2,e1];cases hq:Nr.rd (Nt.val a) p with
 |none=>rw[hq]at h4;have e4:v4=Qg:=h4;rw[e4]at h5;have e5:v5=Qf:=h5;rw[e5,Sh.tD (by rw[hq];simp)];rfl
 |some q=>have hle:q<=9218868437227405311:=by{unfold Nr.rd at hq;exact Nr.OZ hq};rw[hq]at h3 h4;have e4:v4=Qf:=h4;have e3:v3=UInt64.ofNat q:=h3;have X2:v3.toNat=q:=by{rw[e3,fV];omega};rw[e4,aF,ae]at h5;by_cases c:q=b.toNat;{have e5:v5=Qg:=by{rw[h5,aa (gQ (by rw[X2,c]))];rfl};rw[e5,Sh.qD (by rw[hq,c]),h2];rfl};{have e5:v5=Qf:=by{rw[h5,ab (λe=>c (by rw[<-X2,e]))];rfl};rw[e5,Sh.tD (by rw[hq];simp[c])];rfl}
def Hp{d:List UInt16}{n:Nat}(hv:Nt.val d=n)(hl:d=[]\/65536^(d.length -1)<=n):d=Nt.of n:=by rw[<-hv,Nt.cq];rcases hl with h|h;{rw[h];rfl};{by_cases h0:d=[];{rw[h0];rfl};{have Xf:=List.length_pos_iff.2 h0;rw[qe h0];simp only[Bool.not_eq_true',decide_eq_false_iff_not];intro e0;have NF:=dO d (d.length -1) (by omega);rw[show d.length -1+1=d.length by omega,List.take_length,e0]at NF;have gS:=Nt.jI (d.take (d.length -1));rw[aJ,Nat.min_eq_left (by omega)]at gS;have Wg:(0:UInt16).toNat=0:=rfl;rw[Wg,Nat.mul_zero]at NF;omega}}
def Ru{a:List UInt16}(hn:Nt.norm a=Qf)(h0:a≠[]):65536^(a.length -1)<=Nt.val a:=by obtain⟨h1,h2⟩:=qc hn h0;have:65536^(a.length -1)*1<=65536^(a.length -1)*(a.getD (a.length -1) 0).toNat:=Nat.mul_le_mul_left _ h1;omega
def avK(a b:List UInt16)(ha:a.length<=1000000)(Ke:b.length<=a.length)(hn:Nt.norm a=Qf):∀(m i:Nat)(d:List UInt16)(k:Nat),i+m=a.length->d.length=i->k<=1->Nt.val d+65536^i*k=Nt.val (a.take i)+Nt.val (b.take i)->acs b k a.length i (d++a.drop i)=Bm [.sl .ws (Nt.of (Nt.val a+Nt.val b))]:=by
 intro m;induction m with
 |zero=>
  intro i d k hi hl hk hv;have hi:i=a.length:=hi;subst hi;apply akd;intro v1 h1 v2 h2 v3 h3 v4 h4 v5 h5 v6 h6;rw[List.take_of_length_le (Nat.le_refl _),List.take_of_length_le Ke]at hv;rw[cF,List.drop_length,aR];by_cases c0:k=0
  ·subst c0;rw[Nat.mul_zero,Nat.add_zero]at hv;have:d=Nt.of (Nt.val a+Nt.val b):=Hp hv (by
    by_cases h0:a=[];{left;rw[h0]at hl;exact List.length_eq_zero_iff.1 hl}
    ·right;rw[hl];have:=Ru hn h0;omega)
   rw[cF,ake,<-this]
  {have Jr:k=1:=by{omega};subst Jr;have e6:v6=[(1:UInt16)]:=h6;rw[cT,e6,bA (dD (by rw[aw];omega) (by rw[aw];omega)),ake];have hv2:Nt.val (d++[1])=Nt.val a+Nt.val b:=by{rw[Nt.gV,hl,<-hv];rfl};have:d++[1]=Nt.of (Nt.val a+Nt.val b):=Hp hv2 (.inr (by rw[af,aw,Nat.add_sub_cancel,hl];omega));rw[this]}
 |succ m ih=>
  intro i d k hi hl hk hv;apply akd;intro v1 h1 v2 h2 v3 h3 v4 h4 v5 h5 v6 h6;rw[aq]at h1 h3;have Ut:a.drop i=a.getD i 0::a.drop (i+1):=Ua (by omega) 0;have hL:(d++a.drop i).length=a.length:=by{rw[af,aZ];omega};have e1:v1=a.getD i 0:=by{rw[h1,ai,aW (by omega),hl,Nat.sub_self,Ut];rfl};have hd:=v1.toNat_lt;have hd3:=v3.toNat_lt;rw[iw]at h2 h4;have hx:bH (i:Int) (d++a.drop i).length=Qf:=ez (by omega) (by omega);have CN:nP ((i:Int).toNat<(d++a.drop i).length)=Qf:=dT;have Po:∀y:UInt16,(d++a.drop i).set i y=(d++[y])++a.drop (i+1):=λy=>by{rw[List.set_append_right _ _ (by omega),hl,Nat.sub_self,Ut,aB];rfl};have next:∀q:Nat,q<=131071->q=k+v1.toNat+(if i<b.length then(b.getD i 0).toNat else 0)->acu b q i a.length i (d++a.drop i)=Bm [.sl .ws (Nt.of (Nt.val a+Nt.val b))]:=by intro q zS hq;apply avH;intro w1 g1 w2 g2 w3 g3;rw[aq,rz,Po]at g1;have e2:w2=((q/65536:Nat):Int):=by{rw[g2];exact Cp q};have e3:w3=((i+1:Nat):Int):=by{rw[g3,iw];omega};rw[hx,CN,bK,bK,g1,e2,e3];refine ih (i+1) _ _ (by omega) (by rw[af,hl];rfl) (by omega) ?_;have hb:Nt.val (b.take (i+1))=Nt.val (b.take i)+65536^i*(if i<b.length then(b.getD i 0).toNat else 0):=by{by_cases c:i<b.length;{rw[ar c,dO b i c]};{rw[ak c,List.take_of_length_le (by omega),List.take_of_length_le (by omega)];omega}};rw[hb,dO a i (by omega),<-e1,Nt.gV,hl];simp only[Nt.val,Nat.mul_zero,Nat.add_zero,Nt.dR];rw[Nat.pow_succ,Nat.mul_assoc,Nat.add_assoc,<-Nat.mul_add];have:q%65536+65536*(q/65536)=q:=Nat.mod_add_div q 65536;rw[this,hq,Nat.mul_add,Nat.mul_add];omega
  rw[cT,hx,CN,bK,bK];by_cases c:i<b.length;{have e5:v5=((k+v1.toNat+v3.toNat:Nat):Int):=by{rw[h5,h2,h4,i64_in ((k:Int)+v1.toNat) (by omega),iw];omega};rw[cT,ll,e5];exact next _ (by omega) (by rw[ar c,h3])};{have e5:IntKind.i64.wrap ((k:Int)+v2)=((k+v1.toNat:Nat):Int):=by{rw[h2,iw];omega};rw[cF,e5];exact next _ (by omega) (by rw[ak c,Nat.add_zero])}
def ahH(a b:List UInt16)(hp:(Nt.is a&&Nt.is b)=Qf):avM a b=Bm [.sl .ws (Nt.of (Nt.val a+Nt.val b))]:=by
 rw[ah]at hp;obtain⟨ha,hb⟩:=hp;have la:=Nt.lF ha;have lb:=Nt.lF hb;apply avL;intro v1 h1;have e1:v1=Qg:=by{rw[h1,ha,hb];rfl};have key:∀a b:List UInt16,Nt.is a=Qf->Nt.is b=Qf->b.length<=a.length->acv a b=Bm [.sl .ws (Nt.of (Nt.val a+Nt.val b))]/\True:=λa b ha hb h=>⟨by
  have la:=Nt.lF ha;have:=avK a b (by omega) h (Nt.lp ha) a.length 0 [] 0 (by omega) rfl (by omega) (by simp[Nt.val]);rw[aX,bh]at this;rw[avJ];first
  |(rw[UD];exact this)
  ,trivial⟩
 rw[j5,ha,bA (by rw[aa (show b.length<=1099511627776 by omega)];rfl),bA (by rfl),bA (by rfl),e1,ae];by_cases c:(a.length:Int)<b.length
 ·rw[cT c];first
  |exact((key b a hb ha (by omega)).1).trans (by rw[Nat.add_comm])
  |exact(key a b ha hb (by omega)).1
 ·rw[cF c];first
  |exact(key a b ha hb (by omega)).1
  |exact((key b a hb ha (by omega)).1).trans (by rw[Nat.add_comm])
def MN{n:Nat}(h:10000<=n):Nr.dec n=Nr.dec (n/10000)++(Sh.fk (4 -((Nr.dec (n%10000)).length:Int))++Nr.dec (n%10000)):=by obtain⟨q1,q2,q3,q4⟩:=Nr.me (n/10000);obtain⟨r1,r2,r3,r4⟩:=Nr.me (n%10000);have rl:=Nr.jT 4 (n%10000) (by show n%10000<10000;omega) (by omega);have hz:=Sh.vj (4 -((Nr.dec (n%10000)).length:Int));have HK:(Sh.fk (4 -((Nr.dec (n%10000)).length:Int))++Nr.dec (n%10000)).length=4:=by{unfold Sh.fk;rw[af,List.length_replicate];omega};have Zk:Nr.num (Sh.fk (4 -((Nr.dec (n%10000)).length:Int)))=0:=Nr.mv _;have SM:Nr.num (Nr.dec (n/10000)++(Sh.fk (4 -((Nr.dec (n%10000)).length:Int))++Nr.dec (n%10000)))=n:=by{rw[Nr.iP,HK,Nr.iP,Zk,q2,r2,Nat.zero_mul,Nat.zero_add];show n/10000*10000+_=n;omega};have hu:=Nr.zd _ (Nr.dec (n/10000)++(Sh.fk (4 -((Nr.dec (n%10000)).length:Int))++Nr.dec (n%10000))) rfl (by rw[List.all_append,List.all_append,q1,hz,r1];rfl) (by simp[q3]) (by rw[ai,List.getElem?_append_left (List.length_pos_iff.2 q3),<-ai];exact q4 (by omega));rw[SM]at hu;exact hu.symm
def Lc{n K:Nat}(h:n<10000^K):(Nt.of n).length<=K:=(Nt.mu n K).2 (Nat.lt_of_lt_of_le h (Nat.pow_le_pow_left (by omega) K))
def awm:∀(K n:Nat)(ps:List bE),n<10000^K->(n=0->ps≠[])->ps.length+K<=5000->(ps.map List.length).sum<=4*ps.length->
  aa6 (Nt.of n) ps=Bm [.s ((if n=0 then[]else Nr.dec n)++ps.reverse.flatten)]:=by
 intro K
 induction K with
 |zero=>
  intro n ps hn h0 hl hs
  have L3:n=0:=by rw[Nat.pow_zero]at hn;omega
  exact fin n ps L3 (h0 L3) (by omega) hs
 |succ K ih=>
  intro n ps hn h0 hl hs
  by_cases c:n=0
  ·exact fin n ps c (h0 c) (by omega) hs
  ·apply akq
   intro v1 h1 v2 h2 v3 h3 v4 h4 v5 h5 v6 h6
   rw[Nt.fv]at h1 h2
   have h1:v1=Nt.of (n/10000):=h1
   have e2:v2.toNat=n%10000:=by
    rw[h2,Nt.dR];show n%10000%65536=_;omega
   have e3:v3=((n%10000:Nat):Int):=by rw[h3,e2,iw]
   have ei:Nr.itoa v3=Nr.dec (n%10000):=by rw[(Sh.sG (by omega)).1,e3,aq]
   have i3:Nr.i64 v3=Qf:=dT
   have rl:=Nr.jT 4 (n%10000) (by show n%10000<10000;omega) (by omega)
   have e5:v5=4 -((Nr.dec (n%10000)).length:Int):=by rw[h5,h4,ei,iw]
   have hL:=Lc hn
   have tQ:0<(Nt.of n).length:=by rw[Nt.oI (by omega)];simp
   have hq:n/10000<10000^K:=by
    rw[Nat.div_lt_iff_lt_mul (by omega),<-Nat.pow_succ];exact hn
   have kv:((10000:UInt16)≠0):=by decide
   rw[aa (show(0:Int)<((Nt.of n).length:Int) by omega),aj,bA (aa ⟨by omega,kv⟩),i3,bK,h1]
   by_cases c1:n/10000=0
   ·rw[c1,Nt.jS]
    rw[ab (by simp),ae,akp,bA (dD (by rw[aw];omega) (by rw[aw];omega)),ei]
    have:=ih 0 (ps++[Nr.dec (n%10000)]) (by exact Nat.pow_pos (by omega)) (λ_=>by simp) (by rw[af,aw];omega) (by
     rw[List.map_append,List.sum_append,af,aw]
     simp only[bc,bt,List.sum_cons,List.sum_nil];omega)
    rw[Nt.jS]at this
    rw[this,ar rfl,ak c,List.reverse_append,List.reverse_singleton,List.singleton_append,List.flatten_cons,show n%10000=n by omega];rfl
   ·have Gl:0<(Nt.of (n/10000)).length:=by rw[Nt.oI (by omega)];simp
    have HK:(Sh.fk v5).length<=4:=by unfold Sh.fk;rw[List.length_replicate];omega
    have e6:v6.length=4:=by
     rw[h6,ei,e5];unfold Sh.fk;rw[af,List.length_replicate];omega
    rw[cT,bA (aa ⟨rfl,by omega,by omega⟩),bA (aa (by rw[ei];omega)),akp,bA (dD (by rw[aw];omega) (by rw[aw];omega))]
    rw[ih (n/10000) (ps++[v6]) hq (λh=>(c1 h).elim) (by rw[af,aw];omega) (by
     rw[List.map_append,List.sum_append,af,aw]
     simp only[bc,bt,List.sum_cons,List.sum_nil];omega)]
    rw[ak c1,ak c,List.reverse_append,List.reverse_singleton,List.singleton_append,List.flatten_cons,MN (show 10000<=n by omega),h6,ei,e5]
    simp only[aB]
where
 fin (n:Nat) (ps:List bE) (h:n=0) (h0:ps≠[]) (hl:ps.length<=5000) (hs:(ps.map List.length).sum<=4*ps.length):aa6 (Nt.of n) ps=Bm [.s ((if n=0 then[]else Nr.dec n)++ps.reverse.flatten)]:=by
  subst h
  rw[Nt.jS]
  apply akq
  intro v1 h1 v2 h2 v3 h3 v4 h4 v5 h5 v6 h6
  have he:ps.isEmpty=Qg:=by cases ps<;>simp at h0⊢
  have hf:ps.reverse.flatten.length<=20000:=by
   rw[List.length_flatten,List.map_reverse,List.sum_reverse];omega
  rw[ab (by simp),ae,bA (aa (show ps.length<=100000 by omega))]
  rw[bA (aa ⟨rfl,by rw[List.length_reverse];omega,by omega⟩),ar rfl];rfl
def Oe:(2:Nat)^4096<=10000^2000:=by decide+kernel
def ahW(a:List UInt16)(hp:Nt.is a=Qf):awo a=Bm [.s (Sh.vq (Nt.val a))]:=by have hl:=Nt.lF hp;rw[awn,j5,hp,Sh.Ac];refine Eq.trans (b:=_) (ae _ _) ?_;by_cases c:a=[];{subst c;show _=Bm [TV.s (Nr.dec 0)];rw[Nr.qo (by omega)];rfl};{have h0:=List.length_pos_iff.2 c;have tQ:=Nt.uC (Nt.lp hp) c;rw[cF];have:=awm 2000 (Nt.val a) [] (Nat.lt_of_lt_of_le (Nt.is_lt hp) Oe) (λh=>by omega) (by simp) (by simp);rw[Nt.cq (Nt.lp hp),nO]at this;rw[this];simp}
open Nr (V rj sh top kz rd)
def Kr(N:Nat):(UInt16.ofNat N%2=0)↔N%2=0:=by constructor;{intro h;have:=congrArg UInt16.toNat h;rw[UInt16.toNat_mod,Nt.dR]at this;have e:N%65536%2=0:=this;omega};{intro h;apply UInt16.toNat_inj.1;rw[UInt16.toNat_mod,Nt.dR];show N%65536%2=0;omega}
def Ql:(10:Nat)^17<10^200:=by decide+kernel
def afD(b:UInt64)(p q:List UInt16)(x n:Int)(hp:(Nt.is p&&Nt.is q&&Sh.sz (Nt.val p) (Nt.val q) x n)=Qf):aqI b p q x n=Bm [.s ((Sh.tg b.toNat (Nt.val p) (Nt.val q) x n).getD ([],0)).1,.i .i64 ((Sh.tg b.toNat (Nt.val p) (Nt.val q) x n).getD ([],0)).2,.b (Sh.tg b.toNat (Nt.val p) (Nt.val q) x n).isSome]:=by rw[ah,ah]at hp;obtain⟨⟨ha,hb⟩,hp⟩:=hp;unfold Sh.sz at hp;obtain⟨n1,n2,x1,x2,a0,a1,b0,b1,r1,r2⟩:=ao hp;rw[Sh.xU];apply aqH;intro v1 h1 v2 h2 v3 h3 v4 h4 v5 h5 v6 h6 v7 h7 v8 h8 v9 h9 v10 kv v11 nK v12 mS jQ rm iW s0 jb sZ lU yU sQ Ei s9 Eh pn HS;have ew:IntKind.i64.wrap (n -x)=n -x:=iw;have ew2:IntKind.i64.wrap (x -n)=x -n:=iw;have hP:=Qn (k:=n -x) a1 (by omega);have hQ:=Qm (k:=n -x) b1 (by omega);have S6:0<Sh.tB (Nt.val q) (n -x):=Sh.By b0 _;rw[ew]at h1 h2⊢;rw[ew2]at h5 h6 h7 kv nK mS⊢;unfold Sh.some_;simp only;generalize S7:Sh.tA (Nt.val p) (n -x)=P at*;generalize hQQ:Sh.tB (Nt.val q) (n -x)=Q at*;have w1:Nt.val v1=P:=by{rw[h1,Nt.fv]};have w2:Nt.val v2=Q:=by{rw[h2,Nt.fv]};rw[w1,w2]at h3 h4;have w3:Nt.val v3=P/Q:=by{rw[h3,Nt.fv]};have w4:Nt.val v4=P% Q:=by{rw[h4,Nt.fv]};have w8:Nt.val v8=1:=by{rw[h8,Nt.fv];rfl};rw[w3,w8]at h9;have w9:Nt.val v9=P/Q+1:=by{rw[h9,Nt.fv]};rw[w3]at h5 h6 h7⊢;rw[w9]at kv nK mS⊢;rw[w4]at rm;have w13:Nt.val jQ=P% Q*2:=by{rw[rm,Nt.fv];rfl};rw[w13,w2]at s0;have N1:1<=P/Q:=(Nat.le_div_iff_mul_le S6).2 (by omega);have N2:P/Q<10^17:=(Nat.div_lt_iff_lt_mul S6).2 r2;have N3:P/Q<2^2500:=Nat.lt_of_le_of_lt (Nat.div_le_self _ _) hP;have N4:P/Q+1<10^200:=Nat.lt_of_le_of_lt (Nat.succ_le_of_lt N2) Ql;have R1:P% Q<2^2500:=Nat.lt_trans (Nat.mod_lt _ S6) hQ;have i1:Nt.is v1=Qf:=by{rw[h1];exact kf (i:=2500) hP (by omega)};have i2:Nt.is v2=Qf:=by{rw[h2];exact kf (i:=2500) hQ (by omega)};have i3:Nt.is v3=Qf:=by{rw[h3];exact kf (i:=2500) N3 (by omega)};have i4:Nt.is v4=Qf:=by{rw[h4];exact kf (i:=2500) R1 (by omega)};have i8:Nt.is v8=Qf:=by{rw[h8];exact kf (i:=1) (by decide) (by omega)};have i9:Nt.is v9=Qf:=by{rw[h9];exact kf (i:=665) (Nat.lt_trans N4 RD) (by omega)};have i13:Nt.is jQ=Qf:=by{rw[rm];exact kf (i:=2502) (qK (i:=2500) (j:=2) (k:=2502) R1 (by decide) (by omega)) (by omega)};have ne2:v2≠[]:=by{intro e;rw[e]at w2;simp[Nt.val]at w2;omega};have ne3:v3≠[]:=by{intro e;rw[e]at w3;simp[Nt.val]at w3;omega};have l3:=List.length_pos_iff.2 ne3;have UC:sQ=UInt16.ofNat (P/Q):=by{rw[Ei,h3,Nt.oI (by omega)];rfl};have c1:(nP (-400<=n -x/\n -x<=400/\Nt.val p<2^1100/\Nt.val q<2^1100))=Qf:=aa ⟨by omega,by omega,a1,b1⟩;have c3:(nP (-1000<=x -n/\x -n<=1000/\0<P/Q/\P/Q<10^200))=Qf:=aa ⟨by omega,by omega,by omega,Nat.lt_trans N2 Ql⟩;have c9:(nP (-1000<=x -n/\x -n<=1000/\0<P/Q+1/\P/Q+1<10^200))=Qf:=aa ⟨by omega,by omega,by omega,N4⟩;have hx:bH (0:Int) v3.length=Qf:=ez (by omega) (by omega);rw[ha,hb,c1,i1,i2,aa ne2,i3,c3,i8,i9,c9,i4,i13,hx];refine(bA (by rfl)).trans ((bA (by rfl)).trans ((bA (by rfl)).trans ((bA (by rfl)).trans ((bA (by rfl)).trans ((bA (by rfl)).trans ((bA (by rfl)).trans ?_))))));have Tw:s9=nP (P% Q*2=Q/\P/Q%2=0):=by{have e0:nP (UInt16.ofNat (P/Q)%2=0)=nP (P/Q%2=0):=aU.2 (Kr _);rw[Eh,UC,e0,s0];rcases sJ (P% Q*2) Q with⟨k,l⟩|⟨k,l⟩|⟨k,l⟩;{rw[k,ab (by decide),ae,dF]};{rw[k,aa (by decide),aj,aU];omega};{rw[k,ab (by decide),ae,dF]}};have zV:nP (iW<0)=nP (P% Q*2<Q):=by{rw[s0,aU];rcases sJ (P% Q*2) Q with⟨k,l⟩|⟨k,l⟩|⟨k,l⟩<;>rw[k]<;>omega};rw[zV]at sZ;have hB:∀v7 v12 jb c:Bool,(!v7||v7)=Qf/\(!(v7&&(!(!v12)))||(v7&&(!(!v12))))=Qf/\(!v7||(v7&&((!v12)||(v7&&(!(!v12))))))=Qf/\(!(v7&&(!jb))||(v7&&(!jb)))=Qf/\(!((v7&&(!jb))&&c)||(((v7&&(!jb))&&c)&&Qf))=Qf/\(!((v7&&(!jb))&&c)||((v7&&(!jb))&&c))=Qf/\(!(v7&&(!jb))||((v7&&(!jb))&&(!c||((v7&&(!jb))&&c))))=Qf/\(!v7||(v7&&(jb||(v7&&(!jb)))))=Qf:=by{decide};obtain⟨t1,t2,t3,t4,t5,t6,t7,t8⟩:=hB v7 v12 jb (nP (iW=0));rw[<-yU]at t5 t6 t7;have hz:(!decide ((2:UInt16)=0))=Qf:=rfl;rw[hz,bA t1,bA t1,bA t2,bA t3,bA t1,bA t4,bA t4,bA t5,bA t6,bA t5,bA t6,bA t7,bA t8,bA t1];rw[Sh.Aj]at h5 h6 h7 kv nK mS;generalize Sh.reads b.toNat (P/Q) (x -n)=u at*;generalize Sh.reads b.toNat (P/Q+1) (x -n)=o at*;have Q2:pn=nP (u.isSome=Qf/\(o.isSome=Qg\/2*(P% Q)<Q\/(2*(P% Q)=Q/\P/Q%2=0))):=by{rw[HS,sZ,Tw,h7,mS];have q1:nP (P% Q*2<Q)=nP (2*(P% Q)<Q):=aU.2 (by omega);have q2:nP (P% Q*2=Q/\P/Q%2=0)=nP (2*(P% Q)=Q/\P/Q%2=0):=aU.2 (by omega);rw[q1,q2];by_cases k1:2*(P% Q)<Q<;>by_cases k2:(2*(P% Q)=Q/\P/Q%2=0)<;>cases u.isSome<;>cases o.isSome<;>simp[k1,k2]};by_cases hc:u.isSome=Qf/\(o.isSome=Qg\/2*(P% Q)<Q\/(2*(P% Q)=Q/\P/Q%2=0));{rw[Q2,cT hc,ar hc,h5,h6,hc.1]};{rw[Q2,cF hc,ak hc,kv,nK,mS]}
theorem zr(b:UInt64):(b&&&~~~(9223372036854775808:UInt64)).toNat=Sh.mX b:=by have e:(~~~(9223372036854775808:UInt64))=9223372036854775807:=by{decide};rw[e,UInt64.toNat_and];exact Nat.and_two_pow_sub_one_eq_mod b.toNat 63
def Af{b:UInt64}(h:(Nr.split b).1=2):0<Sh.mX b/\Sh.mX b<=top/\(Nr.split b).2.2.1.toNat=rj (Sh.mX b)/\(Nr.split b).2.2.2=(sh (Sh.mX b):Int) -1074:=by have hb:=b.toNat_lt;have hx:b.toNat/4503599627370496%2048=Sh.mX b/4503599627370496:=by{unfold Sh.mX;omega};have hf:b.toNat%4503599627370496=Sh.mX b%4503599627370496:=by{unfold Sh.mX;omega};have hm:Sh.mX b<9223372036854775808:=Nat.mod_lt _ (by omega);unfold Nr.split at h⊢;simp only[hx,hf]at h⊢;generalize Sh.mX b=p at*;unfold rj sh top;by_cases c1:p/4503599627370496=2047;{rw[ar c1]at h;by_cases c2:p%4503599627370496=0;{rw[ar c2]at h;simp at h};{rw[ak c2]at h;simp at h}};{rw[ak c1]at h⊢;by_cases c2:p/4503599627370496=0;{rw[ar c2]at h⊢;by_cases c3:p%4503599627370496=0;{rw[ar c3]at h;simp at h};{rw[ak c3,ar (show p<4503599627370496 by omega)];refine⟨by omega,by omega,?_,?_⟩;{show(UInt64.ofNat _).toNat=_;rw[fV];omega};{show(-1074:Int)=_;omega}}};{rw[ak c2,ak (show¬p<4503599627370496 by omega)];refine⟨by omega,by omega,?_,?_⟩;{show(UInt64.ofNat _).toNat=_;rw[fV];omega};{show((p/4503599627370496:Nat):Int) -1075=_;omega}}}
def Ce(i:Nat):Bool:=
 let k:Int:=(i:Int) -1100
 let x:=Int.tdiv (k*30103) 100000 -2
 nP (10^(x -1).toNat*2^(-(k -1)).toNat<=2^(k -1).toNat*10^(-(x -1)).toNat)&&nP (-390<=x)
def Ju:∀i,i<2201->Ce i=Qf:=by have h:(List.range 2201).all Ce=Qf:=by{decide+kernel};intro i hi;exact aI.1 h i (List.mem_range.2 hi)
def qM(a b:Int):a<b\/b<=a:=by omega
def EW(n:Nat)(h:0<n):2^(Nt.bits n -1)<=n/\n<2^Nt.bits n/\0<Nt.bits n:=Nt.lk h
def Hl{a b:Nat}(h:a<b):2^a<2^b:=Nat.pow_lt_pow_right (by omega) h
def zB(p:Nat)(ht:p<=top):Sh.mB p<2^1100/\Sh.jM p<2^1100/\Nt.bits (Sh.mB p)<=1100/\Nt.bits (Sh.jM p)<=1080:=by have h1:=Nr.yp p;have h2:=Nr.FI ht;have hm:rj p<2^53:=h1;have ha:Sh.mB p<2^1100:=qK (i:=53) (j:=972) (k:=1100) hm (Hl (b:=972) (by omega)) (by omega);have hb:Sh.jM p<2^1080:=Hl (b:=1080) (by omega);refine⟨ha,mq (i:=1080) (k:=1100) hb (by omega),?_,?_⟩;{exact Nt.nA (k:=1100) ha};{exact Nt.nA (k:=1080) hb}
def RB:(2:Nat)^1024<10^310:=by decide+kernel
def RA:(2:Nat)^1074<10^330:=by decide+kernel
def Nx{p:Nat}(h:p<=top):V p<2^1024*2^1074:=by have h1:=Nr.Wy h;have h2:=Nr.sP top;have h3:V (top+1)=2^1024*2^1074:=by{decide+kernel};rw[<-h3];exact Nat.lt_of_le_of_lt h1 h2
def Wi{a b A K T V':Nat}(hb:0<b)(h:a*K=V'*b)(hV:V'<T*K)(hA:T<A):a<A*b:=by by_cases c:K=0;{subst c;rw[Nat.mul_zero]at hV;omega};{have hK:0<K:=by{omega};refine Nat.lt_of_mul_lt_mul_right (a:=K) ?_;rw[h];have:V'*b<T*K*b:=Nat.mul_lt_mul_of_pos_right hV hb;refine Nat.lt_trans this ?_;rw[Nat.mul_right_comm];exact Nat.mul_lt_mul_of_pos_right (Nat.mul_lt_mul_of_pos_right hA hb) hK}
def Wh{a b A K V':Nat}(ha:0<a)(h:a*K=V'*b)(hV:0<V')(hA:K<A):b<a*A:=by have h1:1*b<=V'*b:=aA _ hV;have h2:a*K<a*A:=Nat.mul_lt_mul_of_pos_left hA ha;omega
def Tx{a b n d:Nat}(hn:n<=d)(h:10^d*b<=a)(g:a<10^n*b):False:=by have:=aA b (Nr.pM hn);omega
def Cu{p:Nat}(hp:0<p)(ht:p<=top):-330<=Sh.dx p/\Sh.dx p<=311:=by obtain⟨h1,h2⟩:=Sh.H3 hp;have Ke:=Sh.Rg p;have hb:=Sh.pL p;have hV:0<V p:=by{have:=Nr.E8 hp;omega};have ha:0<Sh.mB p:=Nat.mul_pos (Sh.xl hp) (Nat.two_pow_pos _);constructor;{rcases qM (Sh.dx p) (-330)with c|c;{exfalso;have g:=Wh ha Ke hV RA;have e0:(Sh.dx p).toNat=0:=by{omega};rw[e0,Nat.pow_zero,Nat.one_mul]at h2;have e1:Sh.mB p*10^330<=Sh.mB p*10^(-(Sh.dx p)).toNat:=Nat.mul_le_mul_left _ (Nr.pM (a:=330) (by omega));exact Nat.lt_irrefl _ (Nat.lt_trans g (Nat.lt_of_le_of_lt e1 h2))};{exact c}};{rcases qM 311 (Sh.dx p)with c|c;{exfalso;have g:=Wi hb Ke (Nx ht) RB;have e0:(-(Sh.dx p -1)).toNat=0:=by{omega};rw[e0,Nat.pow_zero,Nat.mul_one]at h1;exact Tx (n:=310) (by omega) h1 g};{exact c}}
def Bj{p:Nat}(hp:0<p)(x:Int):Sh.tB (Sh.jM p) (-x)<=Sh.tA (Sh.mB p) (-x)↔x<Sh.dx p:=by obtain⟨h1,h2⟩:=Sh.H3 hp;have hb:=Sh.By (Sh.pL p) (-x);constructor;{intro h;rcases qM x (Sh.dx p)with c|c;{exact c};{exfalso;have key:Sh.tA (Sh.mB p) (-x)<Sh.tB (Sh.jM p) (-x):=by{unfold Sh.tA Sh.tB;refine Nat.lt_of_mul_lt_mul_right (a:=10^(-(Sh.dx p)).toNat) ?_;rw[Nat.mul_right_comm];refine Nat.lt_of_lt_of_le (Nat.mul_lt_mul_of_pos_right h2 (Nr.gL _)) ?_;rw[Nat.mul_comm (10^(Sh.dx p).toNat),Nat.mul_assoc,Nat.mul_assoc,<-Nat.pow_add,<-Nat.pow_add];exact Nat.mul_le_mul_left _ (Nr.pM (by omega))};omega}};{intro h;have h3:10^(Sh.dx p -1).toNat*Sh.jM p*10^(-x).toNat<=Sh.mB p*10^(-(Sh.dx p -1)).toNat*10^(-x).toNat:=aA _ h1;unfold Sh.tA Sh.tB;refine Nat.le_of_mul_le_mul_right (c:=10^(-(Sh.dx p -1)).toNat) ?_ (Nr.gL _);rw[Nat.mul_right_comm (Sh.mB p)];refine Nat.le_trans ?_ h3;rw[Nat.mul_assoc,<-Nat.pow_add,Nat.mul_comm (10^(Sh.dx p -1).toNat),Nat.mul_assoc,<-Nat.pow_add];exact Nat.mul_le_mul_left _ (Nr.pM (by omega))}
def Me{p:Nat}(hp:0<p)(ht:p<=top):Int.tdiv ((((Nt.bits (Sh.mB p):Nat):Int) -(Nt.bits (Sh.jM p):Nat))*30103) 100000 -2<=Sh.dx p/\-390<=Int.tdiv ((((Nt.bits (Sh.mB p):Nat):Int) -(Nt.bits (Sh.jM p):Nat))*30103) 100000 -2:=by have ha:0<Sh.mB p:=Nat.mul_pos (Sh.xl hp) (Nat.two_pow_pos _);obtain⟨a1,a2,a3⟩:=EW _ ha;obtain⟨b1,b2,b3⟩:=EW _ (Sh.pL p);obtain⟨_,_,ba,bb⟩:=zB p ht;obtain⟨h1,h2⟩:=Sh.H3 hp;generalize hi:(Nt.bits (Sh.mB p)+1100 -Nt.bits (Sh.jM p))=i;have g:=Ju i (by omega);unfold Ce at g;have ek:(i:Int) -1100=((Nt.bits (Sh.mB p):Nat):Int) -(Nt.bits (Sh.jM p):Nat):=by{omega};simp only[ek,ah,aC]at g;obtain⟨g1,g2⟩:=g;refine⟨?_,g2⟩;generalize Int.tdiv ((((Nt.bits (Sh.mB p):Nat):Int) -(Nt.bits (Sh.jM p):Nat))*30103) 100000 -2=x at*;rcases qM (Sh.dx p) x with c|c;{exfalso;generalize Nt.bits (Sh.mB p)=u at*;generalize Nt.bits (Sh.jM p)=v at*;generalize Sh.mB p=a at*;generalize Sh.jM p=b at*;generalize Sh.dx p=d at*;have s1:2^(u -1)*10^(-d).toNat<10^d.toNat*2^v:=by{refine Nat.lt_of_le_of_lt (aA _ a1) (Nat.lt_trans h2 ?_);exact Nat.mul_lt_mul_of_pos_left b2 (Nr.gL _)};have s5:10^(x -1).toNat*2^(-(((u:Nat):Int) -(v:Nat) -1)).toNat*(2^v*10^(-d).toNat)<=2^(((u:Nat):Int) -(v:Nat) -1).toNat*10^(-(x -1)).toNat*(2^v*10^(-d).toNat):=aA _ g1;have e4:2^(((u:Nat):Int) -(v:Nat) -1).toNat*10^(-(x -1)).toNat*(2^v*10^(-d).toNat)=(2^(u -1)*10^(-d).toNat)*(2^(-(((u:Nat):Int) -(v:Nat) -1)).toNat*10^(-(x -1)).toNat):=by{have:2^(((u:Nat):Int) -(v:Nat) -1).toNat*2^v=2^(u -1)*2^(-(((u:Nat):Int) -(v:Nat) -1)).toNat:=Nr.Dw (by omega);rw[show 2^(((u:Nat):Int) -(v:Nat) -1).toNat*10^(-(x -1)).toNat*(2^v*10^(-d).toNat)=(2^(((u:Nat):Int) -(v:Nat) -1).toNat*2^v)*(10^(-(x -1)).toNat*10^(-d).toNat) by simp only[Nat.mul_assoc,Nat.mul_comm,Nat.mul_left_comm],this];simp only[Nat.mul_assoc,Nat.mul_comm,Nat.mul_left_comm]};rw[e4]at s5;have s6:(2^(u -1)*10^(-d).toNat)*(2^(-(((u:Nat):Int) -(v:Nat) -1)).toNat*10^(-(x -1)).toNat)<(10^d.toNat*2^v)*(2^(-(((u:Nat):Int) -(v:Nat) -1)).toNat*10^(-(x -1)).toNat):=Nat.mul_lt_mul_of_pos_right s1 (Nat.mul_pos (Nat.two_pow_pos _) (Nr.gL _));have s7:=Nat.lt_of_le_of_lt s5 s6;have e5:10^(x -1).toNat*2^(-(((u:Nat):Int) -(v:Nat) -1)).toNat*(2^v*10^(-d).toNat)=10^((x -1).toNat+(-d).toNat)*(2^(-(((u:Nat):Int) -(v:Nat) -1)).toNat*2^v):=by{rw[Nat.pow_add 10];simp only[Nat.mul_assoc,Nat.mul_comm,Nat.mul_left_comm]};have e6:10^d.toNat*2^v*(2^(-(((u:Nat):Int) -(v:Nat) -1)).toNat*10^(-(x -1)).toNat)=10^(d.toNat+(-(x -1)).toNat)*(2^(-(((u:Nat):Int) -(v:Nat) -1)).toNat*2^v):=by{rw[Nat.pow_add 10];simp only[Nat.mul_assoc,Nat.mul_comm,Nat.mul_left_comm]};rw[e5,e6]at s7;have s8:=Sh.Jc (Nat.lt_of_mul_lt_mul_right s7);omega};{exact c}
def ayM(u:UInt64)(p:Nat)(hu:u.toNat=p)(hp:0<p)(ht:p<=top)(x2 x3:List UInt16)(i2:Nt.is x2=Qf)(i3:Nt.is x3=Qf)(w2:Nt.val x2=Sh.mB p)(w3:Nt.val x3=Sh.jM p)(n0:Nat)(hn:n0<=17)(h0:∀j:Nat,1<=j->j<n0->Sh.some_ p (Sh.mB p) (Sh.jM p) (Sh.dx p) j=Kk)(h1:Sh.some_ p (Sh.mB p) (Sh.jM p) (Sh.dx p) n0=Bm (Sh.digits p)):∀m i:Nat,i+m=n0->1<=i->adl u (Sh.dx p) x2 x3 i=Bm [.s (Sh.digits p).1,.i .i64 (Sh.digits p).2,.b Qf]:=by
 obtain⟨d1,d2⟩:=Cu hp ht;obtain⟨al,bl,_,_⟩:=zB p ht;have ha:0<Sh.mB p:=Nat.mul_pos (Sh.xl hp) (Nat.two_pow_pos _);have pre:∀i:Nat,1<=i->i<=17->Sh.sz (Sh.mB p) (Sh.jM p) (Sh.dx p) i=Qf:=λi h1 h2=>by{obtain⟨r1,r2⟩:=Sh.xL hp (n:=i) (by omega);have t1:1*Sh.tB (Sh.jM p) (i -Sh.dx p)<=10^((i:Int) -1).toNat*Sh.tB (Sh.jM p) (i -Sh.dx p):=aA _ (Nr.gL _);have t2:10^(i:Int).toNat*Sh.tB (Sh.jM p) (i -Sh.dx p)<=10^17*Sh.tB (Sh.jM p) (i -Sh.dx p):=aA _ (Nr.pM (by omega));unfold Sh.sz;exact aa ⟨by omega,by omega,by omega,by omega,ha,al,Sh.pL p,bl,by omega,Nat.lt_of_lt_of_le r2 t2⟩};intro m;induction m with
 |zero=>intro i hi X1;have hi:i=n0:=hi;subst hi;apply alb;intro v1 g1 v2 g2 v3 g3 v4 g4;rw[w2,w3,hu,Sh.xU,h1]at g1 g2 g3;have e3:v3=Qf:=g3;rw[i2,i3,w2,w3,pre i X1 hn,e3];refine(bA (by rfl)).trans ?_;rw[Option.getD_some]at g1 g2;rw[aj,g1,g2]
 |succ m ih=>intro i hi X1;apply alb;intro v1 g1 v2 g2 v3 g3 v4 g4;rw[w2,w3,hu,Sh.xU,h0 i X1 (by omega)]at g3;have e3:v3=Qg:=g3;have e4:v4=((i+1:Nat):Int):=by{rw[g4,iw];omega};rw[i2,i3,w2,w3,pre i X1 (by omega),e3];refine(bA (by rfl)).trans ?_;rw[ae,e4];exact ih (i+1) (by omega) (by omega)
def ayI(u:UInt64)(p:Nat)(hu:u.toNat=p)(hp:0<p)(ht:p<=top)(x2 x3:List UInt16)(i2:Nt.is x2=Qf)(i3:Nt.is x3=Qf)(w2:Nt.val x2=Sh.mB p)(w3:Nt.val x3=Sh.jM p):∀(m:Nat)(x:Int),x+m=Sh.dx p->-390<=x->adm u x x2 x3=Bm [.s (Sh.digits p).1,.i .i64 (Sh.digits p).2,.b Qf]:=by
 obtain⟨d1,d2⟩:=Cu hp ht;obtain⟨al,bl,_,_⟩:=zB p ht;intro m;induction m with
 |zero=>intro x hx CN;have hx:x=Sh.dx p:=by{omega};subst hx;apply alc;intro v1 g1;have VD:¬(Sh.tB (Sh.jM p) (-(Sh.dx p))<=Sh.tA (Sh.mB p) (-(Sh.dx p))):=λh=>by{have:=(Bj hp _).1 h;omega};rw[i2,i3,w2,w3,aa (⟨by omega,by omega,al,bl⟩:-400<=Sh.dx p/\Sh.dx p<=400/\Sh.mB p<2^1100/\Sh.jM p<2^1100)];refine(bA (by rfl)).trans ?_;rw[cF VD];obtain⟨n,n1,n2,n3,n4⟩:=Sh.first hp ht;exact ayM u p hu hp ht x2 x3 i2 i3 w2 w3 n n2 n3 n4 (n -1) 1 (by omega) (by omega)
 |succ m ih=>intro x hx CN;apply alc;intro v1 g1;have e1:v1=x+1:=by{rw[g1,iw]};rw[i2,i3,w2,w3,aa (⟨by omega,by omega,al,bl⟩:-400<=x/\x<=400/\Sh.mB p<2^1100/\Sh.jM p<2^1100)];refine(bA (by rfl)).trans ?_;rw[aa ((Bj hp x).2 (by omega)),aj,e1];exact ih (x+1) (by omega) (by omega)
def Yw{α β γ:Type}(a:α)(b:β)(c:γ)(x:α×β×γ)(h:x=(a,b,c)):x.1=a/\x.2.1=b/\x.2.2=c:=by subst h;exact⟨rfl,rfl,rfl⟩
def MK{b:UInt64}(h:(Nr.split b).1=2):(Sh.dg b).1=(Sh.digits (Sh.mX b)).1/\(Sh.dg b).2.1=(Sh.digits (Sh.mX b)).2/\(Sh.dg b).2.2=Qf:=Yw _ _ _ _ ((Sh.Q5 b).trans (ar h))
def TA{b:UInt64}(h:¬(Nr.split b).1=2):(Sh.dg b).1=[]/\(Sh.dg b).2.1=0/\(Sh.dg b).2.2=Qg:=by rw[Sh.Q5];unfold Sh.X6;rw[ak h];exact⟨rfl,rfl,rfl⟩
def ayK(u:UInt64)(p:Nat)(hu:u.toNat=p)(hp:0<p)(ht:p<=top)(x1 x2:List UInt16)(j1:Nt.is x1=Qf)(j2:Nt.is x2=Qf)(k1:Nt.val x1=Sh.mB p)(k2:Nt.val x2=Sh.jM p):abv u x1 x2=Bm [.s (Sh.digits p).1,.i .i64 (Sh.digits p).2,.b Qf]:=by obtain⟨al,bl,ba,bb⟩:=zB _ ht;apply ayJ;intro u1 g1 u2 g2 u3 g3 u4 g4 u5 g5;rw[k1]at g1;rw[k2]at g2;obtain⟨q1,q2⟩:=Me hp ht;obtain⟨r1,r2⟩:=Cu hp ht;generalize hA:Nt.bits (Sh.mB p)=A at*;generalize hB:Nt.bits (Sh.jM p)=B at*;have e3:u3=((A:Int) -(B:Int))*30103:=by{rw[g3,g1,g2,i64_in ((A:Int) -(B:Int)) (by omega),iw]};have e4:u4=Int.tdiv (((A:Int) -(B:Int))*30103) 100000:=by{rw[g4,e3,iw]};have e5:u5=Int.tdiv (((A:Int) -(B:Int))*30103) 100000 -2:=by{rw[g5,e4,iw]};have hz:(!decide ((100000:Int)=0))=Qf:=by{decide};rw[j1,j2,bK,bK,hz,bK];rw[<-e5]at q1 q2;exact ayI u p hu hp ht x1 x2 j1 j2 k1 k2 (Sh.dx p -u5).toNat u5 (by omega) (by omega)
def aiM(b:UInt64):ayN b=Bm [.s (Sh.dg b).1,.i .i64 (Sh.dg b).2.1,.b (Sh.dg b).2.2]:=by apply ayL;intro v1 h1 v2 h2 v3 h3 v4 h4 v5 h5 v6 h6;by_cases c:(Nr.split b).1=2;{obtain⟨z1,z2,z3⟩:=MK c;rw[z1,z2,z3,aa c,aF,ae];clear z1 z2 z3;obtain⟨hp,ht,hm,he⟩:=Af c;have hu:v1.toNat=Sh.mX b:=by{rw[h1];exact zr b};obtain⟨al,bl,ba,bb⟩:=zB _ ht;have SF:=Nr.FI ht;have Jp:=Nr.yp (Sh.mX b);rw[hm]at h2;have w2:Nt.val v2=rj (Sh.mX b):=by{rw[h2,Nt.fv]};have w3:Nt.val v3=1:=by{rw[h3,Nt.fv];rfl};have i2:Nt.is v2=Qf:=by{rw[h2];exact kf (i:=53) Jp (by omega)};have i3:Nt.is v3=Qf:=by{rw[h3];exact kf (i:=1) (by decide) (by omega)};have key:∀x1 x2:List UInt16,Nt.is x1=Qf->Nt.is x2=Qf->Nt.val x1=Sh.mB (Sh.mX b)->Nt.val x2=Sh.jM (Sh.mX b)->abv v1 x1 x2=Bm [.s (Sh.digits (Sh.mX b)).1,.i .i64 (Sh.digits (Sh.mX b)).2,.b Qf]:=ayK v1 _ hu hp ht;rw[he]at h4 h5⊢;by_cases c2:0<=(sh (Sh.mX b):Int) -1074;{have w4:Nt.val v4=Sh.mB (Sh.mX b):=by{rw[h4,Nt.fv,w2];rfl};have i4:Nt.is v4=Qf:=by{rw[h4,w2];exact kf (i:=1100) al (by omega)};have w3':Nt.val v3=Sh.jM (Sh.mX b):=by{rw[w3];unfold Sh.jM;rw[show(-((sh (Sh.mX b):Int) -1074)).toNat=0 by omega,Nat.pow_zero]};rw[cT c2,i2,aa (show 0<=(sh (Sh.mX b):Int) -1074/\(sh (Sh.mX b):Int) -1074<=4096 by omega)];refine(bA (by rfl)).trans ?_;exact key v4 v3 i4 i3 w4 w3'};{have e5:v5=-((sh (Sh.mX b):Int) -1074):=by{rw[h5,iw];omega};have w6:Nt.val v6=Sh.jM (Sh.mX b):=by{rw[h6,Nt.fv,w3,e5,Nat.one_mul];rfl};have i6:Nt.is v6=Qf:=by{rw[h6,w3,e5,Nat.one_mul];exact kf (i:=1100) bl (by omega)};have w2':Nt.val v2=Sh.mB (Sh.mX b):=by{rw[w2];unfold Sh.mB;rw[show((sh (Sh.mX b):Int) -1074).toNat=0 by omega,Nat.pow_zero,Nat.mul_one]};rw[cF c2,i3,e5,aa (show 0<=-((sh (Sh.mX b):Int) -1074)/\-((sh (Sh.mX b):Int) -1074)<=4096 by omega)];refine(bA (by rfl)).trans ?_;exact key v2 v6 i2 i6 w2' w6}};{obtain⟨z1,z2,z3⟩:=TA c;rw[z1,z2,z3,ab c];rfl}
theorem vi(n:Int):(Sh.fk n).length=n.toNat:=by unfold Sh.fk;rw[List.length_replicate]
def D3{v:Int}(h:-1000000<=v/\v<=1000000):Nr.i64 v=Qf:=dT
def ajN(x:Int)(t:bE)(hx:-900<=x/\x<=900)(ht:t.length<=1000):ab9 x t=Bm [.s (t++(if x<1 then[101,45]++Nr.itoa (1 -x)else[101,43]++Nr.itoa (x -1)))]:=by apply aul;intro v1 h1 v2 h2 v3 h3 v4 h4;have e1:v1=1 -x:=by{rw[h1,iw]};have e3:v3=x -1:=by{rw[h3,iw]};by_cases c:x<1;{have il:=Sh.xv (v:=1 -x) (by omega) (by omega);have i1:Nr.i64 v1=Qf:=by{rw[e1];exact D3 (by omega)};rw[cT c,ar c,i1,bA (aa (by show t.length+2<=_;omega)),bK,bA (aa (by rw[af,e1];show t.length+2+_<=_;omega)),h2,e1,aB]};{have il:=Sh.xv (v:=x -1) (by omega) (by omega);have i3:Nr.i64 v3=Qf:=by{rw[e3];exact D3 (by omega)};rw[cF c,ak c,i3,bA (aa (by show t.length+2<=_;omega)),bK,bA (aa (by rw[af,e3];show t.length+2+_<=_;omega)),h4,e3,aB]}
def ahc(d:bE)(x:Int)(hp:nP (1<=d.length/\d.length<=17/\-900<=x/\x<=900)=Qf):aun d x=Bm [.s (Sh.yE d x)]:=by obtain⟨p1,p2,p3,p4⟩:=ao hp;rw[Sh.DY];unfold Sh.laid;apply aum;intro v1 h1 v2 h2 v3 h3 v4 h4 v5 h5 v6 h6 v7 h7 v8 h8 v9 h9 v10 kv v11 nK;have sW:∀b:Bool,(!b||b)=Qf/\(!b||(b&&b))=Qf:=by{decide};have e1:v1=nP (1<=x/\x<=21):=by{rw[h1];by_cases c:1<=x<;>simp[c]};have e2:v2=nP (1<=x/\x<=21/\(d.length:Int)<=x):=by{rw[h2,e1];by_cases c:1<=x/\x<=21;{rw[cT c,aU];omega};{rw[cF c,dF]}};have e6:v6=nP (-5<=x/\x<=0):=by{rw[h6];by_cases c:-5<=x<;>simp[c]};have e3:v3=x -d.length:=by{rw[h3,iw]};have ew:IntKind.i64.wrap (0 -x)=-x:=by{rw[iw];omega};rw[ew]at h7⊢;rw[bA (sW _).1,bA (sW _).1,bA (sW _).2,bA (sW _).1,e2];by_cases c1:1<=x/\x<=21/\(d.length:Int)<=x;{rw[cT c1,ar c1,bA (aa ⟨rfl,by omega,by omega⟩),bA (aa (by rw[vi];omega)),e3]};{rw[cF c1,ak c1,bA (sW _).1,bA (sW _).1,e1];by_cases c2:1<=x/\x<=21;{have l4:v4.length<=18:=by{rw[h4,af,aJ];show min _ _+1<=18;omega};rw[cT c2,ar c2,JV,bA (aa (by rw[aJ];show min _ _+1<=_;omega)),JV,bA (aa (by rw[aZ];omega)),h5,h4,aB]};{rw[cF c2,ak c2,bA (sW _).1,bA (sW _).1,e6];by_cases c3:-5<=x/\x<=0;{rw[cT c3,ar c3,bA (aa ⟨rfl,by omega,by omega⟩),bA (aa (by rw[h7,vi];show 2+_<=_;omega)),bA (aa (by rw[af,h7,vi];show 2+_+_<=_;omega)),h8,h7,aB]};{have l9:v9.length<=1:=by{rw[h9,aJ];show min 1 _<=1;omega};have l10:v10.length<=17:=by{rw[kv,aZ];omega};have g9:v9=d.take 1:=h9;have g10:v10=d.drop 1:=kv;rw[cF c3,ak c3,JV];by_cases c4:1<d.length;{rw[cT,JV,bA (aa (by show 1+v10.length<=_;omega)),bA (aa (by rw[af];show v9.length+(1+v10.length)<=_;omega)),ajN x v11 ⟨p3,p4⟩ (by rw[nK,af,af];show v9.length+(1+v10.length)<=_;omega),ar c4,nK,g9,g10];rfl};{rw[cF,ajN x v9 ⟨p3,p4⟩ (by omega),ak c4,aR,g9]}}}}
def MJ{b:UInt64}(h:(Nr.split b).1=2):(1<=(Sh.dg b).1.length/\(Sh.dg b).1.length<=17/\-900<=(Sh.dg b).2.1/\(Sh.dg b).2.1<=900)/\Sh.GV (Sh.dg b).1/\Nr.read (Sh.dg b).1 (Sh.dg b).2.1=Bm (Sh.mX b):=by obtain⟨hp,ht,hm,he⟩:=Af h;obtain⟨z1,z2,z3⟩:=MK h;obtain⟨n,N,n1,n2,n3,n4,n5,n6,n7⟩:=Sh.A8 hp ht;obtain⟨d1,d2⟩:=Cu hp ht;have hl:=Sh.M8 n1 n4;have hN:N<10^(n+1):=Nat.lt_of_le_of_lt n4 (Nat.pow_lt_pow_right (by omega) (by omega));have hL:=Nr.jT (n+1) N hN (by omega);have hr:=Sh.EH hp ht;obtain⟨q1,q2,q3,q4⟩:=Nr.me N;obtain⟨t,t1,t2⟩:=Nr.oi (Nr.dec N);have ne:Nr.iE (Nr.dec N)≠[]:=by{intro e0;have hn:=congrArg Nr.num t1;rw[Nr.iP,Nr.mv,List.length_replicate,Nat.add_zero,q2,e0,show Nr.num []=0 from rfl,Nat.zero_mul]at hn;omega};have hL0:=Nr.o9 N;have nc:=List.length_pos_iff.2 ne;rw[z1,z2];refine⟨?_,?_,hr⟩;{rw[n6];refine⟨nc,Nat.le_trans hl n2,?_,?_⟩;{show -900<=((Nr.dec N).length:Int)+(Sh.dx (Sh.mX b) -n);omega};{show((Nr.dec N).length:Int)+(Sh.dx (Sh.mX b) -n)<=900;omega}};{rw[n6];refine⟨(Nr.jK q1 t1).1,ne,?_⟩;have:=q4 n3;rw[t1,ai,List.getElem?_append_left nc,<-ai]at this;exact this}
def xR(b:UInt64):(Nr.split b).1=1\/(Nr.split b).1=2\/(Nr.split b).1=3\/(Nr.split b).1=4:=by unfold Nr.split;simp only;by_cases c1:b.toNat/4503599627370496%2048=2047;{rw[ar c1];by_cases c2:b.toNat%4503599627370496=0;{rw[ar c2];exact .inr (.inr (.inl rfl))};{rw[ak c2];exact .inr (.inr (.inr rfl))}};{rw[ak c1];by_cases c2:b.toNat/4503599627370496%2048=0;{rw[ar c2];by_cases c3:b.toNat%4503599627370496=0;{rw[ar c3];exact .inl rfl};{rw[ak c3];exact .inr (.inl rfl)}};{rw[ak c2];exact .inr (.inl rfl)}}
def DX{b:UInt64}(h:(Nr.split b).1=2):(Sh.laid (Sh.dg b).1 (Sh.dg b).2.1).length<=24:=by obtain⟨⟨_,r2,r3,r4⟩,hL,_⟩:=MJ h;obtain⟨_,_,_,_,_,_,_,hlen,_⟩:=Sh.Ga hL r2 ⟨r3,r4⟩;exact hlen
def aed(b:UInt64)(t:bE)(ht:t.length<=1000):aaP (Nr.split b).2.1 t=Bm [.s (Sh.sign b++t)]:=by
 rw[atM];unfold Sh.sign;cases(Nr.split b).2.1 with
 |true=>rw[aj,bA (aa (by show 1+t.length<=_;omega)),ar rfl]
 |false=>rw[ae,ak (by decide)];rfl
def ag0(b:UInt64):atO b=Bm [.s (Sh.text b)]:=by apply atN;intro v1 h1;rw[Sh.DY]at h1;rw[Sh.Bw];unfold Sh.Ad;by_cases c4:(Nr.split b).1=4;{rw[cT c4,ar c4]};{rw[cF c4,ak c4];by_cases c3:(Nr.split b).1=3;{rw[cT c3,ar c3,aed b _ (by decide)]};{rw[cF c3,ak c3];by_cases c1:(Nr.split b).1=1;{rw[cT c1,ar c1,aed b _ (by decide)]};{have c2:(Nr.split b).1=2:=by{have:=xR b;omega};have hl:=DX c2;rw[cF c1,ak c1,bA (aa (MJ c2).1),h1,aed b _ (by omega)]}}}
end Go.Eng
namespace Go.Eng
open Nr (rj sh top)
namespace Sh
def Qz(m:Nat):Int:=if m/4503599627370496=2047 then(if m%4503599627370496=0 then 3 else 4)else if m/4503599627370496=0 then(if m%4503599627370496=0 then 1 else 2)else 2
def sy(b:UInt64):(Nr.split b).1=Qz (mX b)/\(Nr.split b).2.1=nP (9223372036854775808<=b.toNat):=by have hb:=b.toNat_lt;have hx:b.toNat/4503599627370496%2048=mX b/4503599627370496:=by{unfold mX;omega};have hf:b.toNat%4503599627370496=mX b%4503599627370496:=by{unfold mX;omega};unfold Nr.split Qz;simp only[hx,hf];generalize mX b=p;by_cases c1:p/4503599627370496=2047;{rw[ar c1,ar c1];by_cases c2:p%4503599627370496=0;{rw[ar c2,ar c2];exact⟨rfl,rfl⟩};{rw[ak c2,ak c2];exact⟨rfl,rfl⟩}};{rw[ak c1,ak c1];by_cases c2:p/4503599627370496=0;{rw[ar c2,ar c2];by_cases c3:p%4503599627370496=0;{rw[ar c3,ar c3];exact⟨rfl,rfl⟩};{rw[ak c3,ak c3];exact⟨rfl,rfl⟩}};{rw[ak c2,ak c2];exact⟨rfl,rfl⟩}}
def tb(b:UInt64):bE:=if(Nr.split b).1=3 then[73,110,102,105,110,105,116,121]else if(Nr.split b).1=1 then[48]else laid (dg b).1 (dg b).2.1
def KA{b:UInt64}(h:(Nr.split b).1=4):text b=[78,97,78]:=by rw[Bw];unfold Ad;rw[ar h]
def Og{b:UInt64}(h:¬(Nr.split b).1=4):text b=sign b++tb b:=by rw[Bw];unfold Ad tb;rw[ak h];by_cases c3:(Nr.split b).1=3;{rw[ar c3,ar c3]};{rw[ak c3,ak c3];by_cases c1:(Nr.split b).1=1;{rw[ar c1,ar c1]};{rw[ak c1,ak c1]}}
def RG{b:UInt64}(h:¬(Nr.split b).1=4):(tb b).length<=24:=by unfold tb;by_cases c3:(Nr.split b).1=3;{rw[ar c3];decide};{rw[ak c3];by_cases c1:(Nr.split b).1=1;{rw[ar c1];decide};{rw[ak c1];exact DX (by have:=xR b;omega)}}
def ui(b:UInt64):(text b).length<=25:=by by_cases c:(Nr.split b).1=4;{rw[KA c];decide};{rw[Og c,af];have:=RG c;have hs:(sign b).length<=1:=by{unfold sign;split<;>decide};omega}
end Sh
end Go.Eng
namespace Go.Eng
open Go.IntWalk
def cc1(a:Bool):(!a||a)=Qf:=by cases a<;>rfl
def Dz{t s:bE}(h:t.length<=s.length):List.isPrefixOf t s=nP (s.take t.length=t):=by rw[bf,List.isPrefixOf_iff_prefix,aC,List.prefix_iff_eq_take];exact⟨λh=>h.symm,λh=>h.symm⟩
def agO(s t:bE):ath s t=Bm [.b (List.isPrefixOf t s)]:=by
 apply atg;intro v1 h1 v2 h2;rw[mV,bA ?_,bA ?_,mV]
 ·congr 3;rw[h2,h1];by_cases h:t.length<=s.length;{rw[cT,Dz h];rfl}
  ·rw[cF];cases hb:List.isPrefixOf t s with
   |false=>rfl
   |true=>exact absurd (List.isPrefixOf_iff_prefix.1 hb).length_le h
 {cases nP ((t.length:Int)<=s.length)<;>rfl};{by_cases h:t.length<=s.length;{rw[GH (by omega) (by omega) (by omega)];cases nP ((t.length:Int)<=s.length)<;>rfl};{rw[dF];rfl}}
def ahg(s t:bE):auw s t=Bm [.b (List.isPrefixOf t s)]:=auv s t
def agQ(s:bE)(c:UInt8):atn s c=Bm [.i .i64 (Lib.indexByte s c)]:=atm s c
theorem E6(x:UInt64):(x&&&(4294967295:UInt64)).toNat=x.toNat%4294967296:=by rw[UInt64.toNat_and];exact Nat.and_two_pow_sub_one_eq_mod x.toNat 32
theorem xX(x:UInt64):(dc x (32:UInt64).toNat).toNat=x.toNat/4294967296:=iX x 32
def afi(a b:UInt64):apZ a b=Bm [.u64 (UInt64.ofNat (a.toNat*b.toNat/18446744073709551616)),.u64 (UInt64.ofNat (a.toNat*b.toNat))]:=by apply apY;intro v1 h1 v2 h2 v3 h3 v4 h4 v5 h5 v6 h6 v7 h7 v8 h8;have ha:=a.toNat_lt;have hb:=b.toNat_lt;obtain⟨k1,k2,k3,k4⟩:=Lib.mul64_hi a.toNat b.toNat ha hb;have e1:v1.toNat=a.toNat%4294967296:=by{rw[h1,E6]};have e2:v2.toNat=a.toNat/4294967296:=by{rw[h2,xX]};have e3:v3.toNat=b.toNat%4294967296:=by{rw[h3,E6]};have e4:v4.toNat=b.toNat/4294967296:=by{rw[h4,xX]};have m:∀x y:UInt64,x.toNat<=4294967295->y.toNat<=4294967295->(x*y).toNat=x.toNat*y.toNat:=λx y hx hy=>by{rw[UInt64.toNat_mul,Nat.mod_eq_of_lt];have:=Lib.half_mul_le hx hy;omega};have e5:v5.toNat=a.toNat%4294967296*(b.toNat%4294967296)/4294967296:=by{rw[h5,xX,m _ _ (by omega) (by omega),e1,e3]};have e56:(v2*v3+v5).toNat=a.toNat/4294967296*(b.toNat%4294967296)+a.toNat%4294967296*(b.toNat%4294967296)/4294967296:=by{rw[UInt64.toNat_add,m _ _ (by omega) (by omega),e2,e3,e5];exact Nat.mod_eq_of_lt k2};have e6:v6.toNat=(a.toNat/4294967296*(b.toNat%4294967296)+a.toNat%4294967296*(b.toNat%4294967296)/4294967296)%4294967296:=by{rw[h6,E6,e56]};have e7:v7.toNat=(a.toNat/4294967296*(b.toNat%4294967296)+a.toNat%4294967296*(b.toNat%4294967296)/4294967296)/4294967296:=by{rw[h7,xX,e56]};have e8:v8.toNat=((a.toNat/4294967296*(b.toNat%4294967296)+a.toNat%4294967296*(b.toNat%4294967296)/4294967296)%4294967296+a.toNat%4294967296*(b.toNat/4294967296))/4294967296:=by{rw[h8,xX,UInt64.toNat_add,m _ _ (by omega) (by omega),e6,e1,e4];congr 1;exact Nat.mod_eq_of_lt k3};have hi:((v2*v4)+v7)+v8=UInt64.ofNat (a.toNat*b.toNat/18446744073709551616):=by{apply gQ;rw[UInt64.toNat_add,UInt64.toNat_add,m _ _ (by omega) (by omega),e2,e4,e7,e8,fV,<-k4];omega};have lo:a*b=UInt64.ofNat (a.toNat*b.toNat):=by{apply gQ;rw[UInt64.toNat_mul,fV]};rw[hi,lo]
def US{a b:iD}:iD.val a=iD.val b↔a.high=b.high/\a.low=b.low:=by rw[iD.nh,iD.nh];have:=a.low.toNat_lt;have:=b.low.toNat_lt;exact⟨λh=>⟨gQ (by omega),gQ (by omega)⟩,λh=>by rw[h.1,h.2]⟩
def UR{a b:iD}:iD.val a<iD.val b↔a.high<b.high\/(a.high=b.high/\a.low<b.low):=by rw[iD.nh,iD.nh,aT,aT,<-aY];have:=a.low.toNat_lt;have:=b.low.toNat_lt;omega
def ae1(a b:iD):apn a b=Bm [.i .i64 (cond (nP (iD.val a=iD.val b)) 0 (cond (nP (iD.val a<iD.val b)) (-1) 1))]:=by apply apm;intro v1 h1 v2 h2 v3 h3 v4 h4;have c6:(!(!decide (a.high<b.high))||((!decide (a.high<b.high))&&(!decide (a.high=b.high)||v2)))=Qf:=by{rw[h2];cases nP (a.high<b.high)<;>cases nP (a.high=b.high)<;>rfl};have c7:(!v2||(v2&&v2))=Qf:=by{cases v2<;>rfl};have c8:∀x:Bool,(!(!x)||((!x)&&(!x)))=Qf:=by{decide};rw[mV,mV,bA (c8 _),mV,mV,mV,bA c7,bA c6,TC];have hv1:v1=nP (iD.val a=iD.val b):=by{rw[h1,aU.2 US,Bool.decide_and]};have hv4:v4=nP (iD.val a<iD.val b):=by{rw[h4,h3,aU.2 UR,Bool.decide_or,Bool.decide_and];cases nP (a.high<b.high)<;>cases nP (a.high=b.high)<;>rfl};rw[hv1,hv4];cases nP (iD.val a=iD.val b)<;>cases nP (iD.val a<iD.val b)<;>rfl
def ae4(a b:UInt64):apu a b=Bm [.ag (iD.cells (iD.of (a.toNat*b.toNat)))]:=by apply apt;intro v1 h1 v2 h2;rw[h1,h2];rfl
def UO{n:Nat}(h:n<340282366920938463463374607431768211456):(iD.of n).val=n:=by rw[iD.nh];unfold iD.of;simp only[fV];omega
def UQ{x v:UInt64}{z:Nat}(_:x.toNat<18446744073709551616)(hz:z<18446744073709551616)(h:v=UInt64.ofNat z):iD.of (x.toNat*18446744073709551616+z)=⟨x,v⟩:=by have h1:UInt64.ofNat ((x.toNat*18446744073709551616+z)/18446744073709551616)=x:=by{apply gQ;rw[fV];omega};have h2:UInt64.ofNat (x.toNat*18446744073709551616+z)=v:=by{rw[h];apply gQ;rw[fV,fV];omega};unfold iD.of;rw[h1,h2]
def ae3(a:iD)(b:UInt64)(hp:(nP (9223372036854775808<=b.toNat))=Qf):apr a b=Bm [.ag (iD.cells (iD.of (iD.val a/b.toNat))),.u64 (UInt64.ofNat (iD.val a% b.toNat)),.b Qf]:=by have hb:=ao hp;apply apq;intro v1 h1 v2 h2 v3 h3 v4 h4;have hl:=b.toNat_lt;have ha:=a.high.toNat_lt;have Fg:=a.low.toNat_lt;have h0:(0:UInt64).toNat=0:=rfl;rw[h0,Nat.zero_mul,Nat.zero_add]at h1 h2;have e2:v2.toNat=a.high.toNat% b.toNat:=by{rw[h2,fV];have:=Nat.mod_lt a.high.toNat (show 0<b.toNat by omega);omega};have e1:v1.toNat=a.high.toNat/b.toNat:=by{rw[h1,fV];exact Nat.mod_eq_of_lt (Nat.lt_of_le_of_lt (Nat.div_le_self ..) ha)};have hr:=Nat.mod_lt a.high.toNat (show 0<b.toNat by omega);rw[ab (λh=>by rw[h]at hb;simp at hb),ae,bA (aa (by rw[h0];omega)),bA (aa (by rw[e2];omega))];have key:iD.val a=b.toNat*(a.high.toNat/b.toNat*18446744073709551616)+(a.high.toNat% b.toNat*18446744073709551616+a.low.toNat):=by{rw[iD.nh];(conv=>lhs;rw[<-Nat.div_add_mod a.high.toNat b.toNat,Nat.add_mul,Nat.mul_assoc]);omega};have kd:iD.val a/b.toNat=a.high.toNat/b.toNat*18446744073709551616+(a.high.toNat% b.toNat*18446744073709551616+a.low.toNat)/b.toNat:=by{rw[key,Nat.mul_add_div (by omega)]};have km:iD.val a% b.toNat=(a.high.toNat% b.toNat*18446744073709551616+a.low.toNat)% b.toNat:=by{rw[key,Nat.mul_add_mod]};have hq:(a.high.toNat% b.toNat*18446744073709551616+a.low.toNat)/b.toNat<18446744073709551616:=by{rw[Nat.div_lt_iff_lt_mul (by omega)];have:(a.high.toNat% b.toNat+1)*18446744073709551616<=b.toNat*18446744073709551616:=aA _ hr;omega};rw[e2]at h3 h4;rw[h4,<-km];have hd:=Nat.lt_of_le_of_lt (Nat.div_le_self a.high.toNat b.toNat) ha;rw[<-e1]at kd hd;have ew:iD.of (iD.val a/b.toNat)=⟨v1,v3⟩:=by{rw[kd];exact UQ hd hq h3};rw[ew];rfl
def agv(v:UInt64)(hp:(nP (9223372036854775808<=v.toNat))=Qf):asw v=Bm [.i .i64 0]:=by have hb:=ao hp;apply asv;intro v1 h1;have hl:=v.toNat_lt;have e:Nt.bits v.toNat=64:=Nt.Ia (k:=63) hb hl;rw[h1,e];rfl
section
variable{B u d yh yl q r:Nat}
theorem Gc:q*(yh*B+yl)=q*yh*B+q*yl:=by rw[Nat.mul_add,Nat.mul_assoc]
theorem xn(hp:0<yh*B+yl)(hu:u=q*yh+r)(hq:(u*B+d)/(yh*B+yl)<=q)(h:q*yl<=r*B+d):(u*B+d)/(yh*B+yl)=q:=by refine Nat.le_antisymm hq ((Nat.le_div_iff_mul_le hp).2 ?_);rw[Gc,hu,Nat.add_mul];omega
theorem Qy(hp:0<yh*B+yl)(hd:d<B)(QG:u<yh*B+yl)(hu:u=q*yh+r)(h:B<=q\/r*B+d<q*yl):1<=q/\u=(q -1)*yh+(r+yh)/\(u*B+d)/(yh*B+yl)<=q -1:=by have zS:1<=q:=by{rcases h with h|h;{omega};{rcases Nat.eq_zero_or_pos q with e|e;{rw[e]at h;omega};{exact e}}};refine⟨zS,?_,?_⟩;{have:q*yh=(q -1)*yh+yh:=by{conv=>lhs;rw[show q=q -1+1 by omega,Nat.add_mul,Nat.one_mul]};omega};{refine Nat.le_sub_one_of_lt ?_;rw[Nat.div_lt_iff_lt_mul hp];rcases h with h|h;{have h1:B*(yh*B+yl)<=q*(yh*B+yl):=aA _ h;have h2:(u+1)*B<=(yh*B+yl)*B:=aA _ QG;rw[Nat.mul_comm (yh*B+yl) B]at h2;rw[Nat.add_mul]at h2;omega};{rw[Gc,hu,Nat.add_mul];omega}}
theorem Sj(hy:B<=2*yh)(Uk:yl<B)(QG:u<yh*B+yl):u/yh<=B+1:=by refine Nat.le_of_lt_succ ?_;have hp:0<yh:=by{omega};rw[Nat.div_lt_iff_lt_mul hp];have e:(B+1+1)*yh=yh*B+2*yh:=by{rw[Nat.add_assoc,Nat.add_mul,Nat.mul_comm B yh]};show u<(B+1+1)*yh;rw[e];omega
theorem LI(hp:0<yh)(hB:0<B)(hd:d<B):(u*B+d)/(yh*B+yl)<=u/yh:=by refine Nat.le_of_lt_succ ?_;have hm:0<yh*B:=Nat.mul_pos hp hB;rw[Nat.div_lt_iff_lt_mul (by omega)];have h:=Nat.lt_mul_div_succ u hp;have h2:(u+1)*B<=yh*(u/yh+1)*B:=aA _ h;rw[Nat.add_mul]at h2;show _<(u/yh+1)*(yh*B+yl);rw[Gc,Nat.mul_comm (u/yh+1) yh];omega
end
def ay2{Q u:Nat}:∀(k:Nat)(x0 x1 x2 x3 x4 x5 x6 x7 x8:UInt64),4294967296<=x8.toNat+k->2147483648<=x2.toNat->x3.toNat<4294967296->x5.toNat<4294967296->u<x2.toNat*4294967296+x3.toNat->x8.toNat<4294967296->x2.toNat<4294967296->x7.toNat<=4294967297->u=x7.toNat*x2.toNat+x8.toNat->(u*4294967296+x5.toNat)/(x2.toNat*4294967296+x3.toNat)<=x7.toNat->Q=(u*4294967296+x5.toNat)/(x2.toNat*4294967296+x3.toNat)->adq x0 x1 x2 x3 x4 x5 x6 x7 x8=ads x0 x1 x2 x3 x4 x5 x6 (UInt64.ofNat Q):=by
 intro k;induction k with
 |zero=>intro x0 x1 x2 x3 x4 x5 x6 x7 x8 hk;intros;omega
 |succ k ih=>intro x0 x1 x2 x3 x4 x5 x6 x7 x8 hk hy Uk hd QG hr Jh hq hu hQ eQ;apply ayX;intro v1 h1 v2 h2;have hv1:v1.toNat=x8.toNat*4294967296+x5.toNat:=by{rw[h1,UInt64.toNat_add,UInt64.toNat_mul,show(4294967296:UInt64).toNat=4294967296 from rfl];omega};have hm:(x7*x3).toNat=x7.toNat*x3.toNat:=by{rw[UInt64.toNat_mul];refine Nat.mod_eq_of_lt ?_;have:=Nat.mul_le_mul hq (show x3.toNat<=4294967295 by omega);omega};have c1:∀b:Bool,(!(!b)||((!b)&&(!b)))=Qf:=by{decide};rw[bA (c1 _),mV,bA (c1 _),bA (c1 _),TC];have hB:((4294967296:UInt64)<=x7)↔4294967296<=x7.toNat:=aK;have hL:v1<x7*x3↔x8.toNat*4294967296+x5.toNat<x7.toNat*x3.toNat:=by{rw[aT,hv1,hm]};have hv2:v2=nP (4294967296<=x7.toNat\/x8.toNat*4294967296+x5.toNat<x7.toNat*x3.toNat):=by{rw[h2,aU.2 hB,aU.2 hL,Bool.decide_or];cases nP (4294967296<=x7.toNat)<;>rfl};have hp:0<x2.toNat*4294967296+x3.toNat:=by{omega};by_cases c:4294967296<=x7.toNat\/x8.toNat*4294967296+x5.toNat<x7.toNat*x3.toNat;{rw[hv2,cT c];obtain⟨g1,g2,g3⟩:=Qy hp hd QG hu c;have zS:(x7 -(1:UInt64)).toNat=x7.toNat -1:=by{exact UInt64.toNat_sub_of_le _ _ (aK.2 (show(1:UInt64).toNat<=_ from g1))};have J8:(x8+x2).toNat=x8.toNat+x2.toNat:=by{rw[UInt64.toNat_add];omega};by_cases c2:4294967296<=x8.toNat+x2.toNat;{rw[aa (aK.2 (by rw[J8];exact c2)),aj];have h3:(x7.toNat -1)*x3.toNat<=(x8.toNat+x2.toNat)*4294967296+x5.toNat:=by{have:=Nat.mul_le_mul (show x7.toNat -1<=4294967296 by omega) (show x3.toNat<=4294967296 by omega);have:=aA 4294967296 c2;omega};have:=xn hp g2 g3 h3;rw[show x7 -(1:UInt64)=UInt64.ofNat Q from gQ (by rw[zS,fV,eQ,this];omega)]};{rw[ab (λh=>c2 (by have:=aK.1 h;rwa[J8]at this)),ae];exact ih x0 x1 x2 x3 x4 x5 x6 _ _ (by rw[J8];omega) hy Uk hd QG (by rw[J8];omega) Jh (by rw[zS];omega) (by rw[zS,J8];exact g2) (by rw[zS];exact g3) eQ}};{rw[hv2,cF c];have:=xn hp hu hQ (by omega);rw[show x7=UInt64.ofNat Q from gQ (by rw[fV,eQ,this];omega)]}
def ay3{Q u:Nat}:∀(k:Nat)(x0 x1 x2 x3 x4 x5 x6 x7 x8:UInt64),4294967296<=x6.toNat+k->2147483648<=x2.toNat->x3.toNat<4294967296->x4.toNat<4294967296->u<x2.toNat*4294967296+x3.toNat->x6.toNat<4294967296->x2.toNat<4294967296->x8.toNat<=4294967297->u=x8.toNat*x2.toNat+x6.toNat->(u*4294967296+x4.toNat)/(x2.toNat*4294967296+x3.toNat)<=x8.toNat->Q=(u*4294967296+x4.toNat)/(x2.toNat*4294967296+x3.toNat)->adp x0 x1 x2 x3 x4 x5 x6 x7 x8=adr x0 x1 x4 x5 x7 (UInt64.ofNat Q):=by
 intro k;induction k with
 |zero=>intro x0 x1 x2 x3 x4 x5 x6 x7 x8 hk;intros;omega
 |succ k ih=>intro x0 x1 x2 x3 x4 x5 x6 x7 x8 hk hy Uk hd QG hr Jh hq hu hQ eQ;apply ay5;intro v1 h1 v2 h2;have hv1:v1.toNat=x6.toNat*4294967296+x4.toNat:=by{rw[h1,UInt64.toNat_add,UInt64.toNat_mul,show(4294967296:UInt64).toNat=4294967296 from rfl];omega};have hm:(x8*x3).toNat=x8.toNat*x3.toNat:=by{rw[UInt64.toNat_mul];refine Nat.mod_eq_of_lt ?_;have:=Nat.mul_le_mul hq (show x3.toNat<=4294967295 by omega);omega};have c1:∀b:Bool,(!(!b)||((!b)&&(!b)))=Qf:=by{decide};rw[bA (c1 _),mV,bA (c1 _),bA (c1 _),TC];have hB:((4294967296:UInt64)<=x8)↔4294967296<=x8.toNat:=aK;have hL:v1<x8*x3↔x6.toNat*4294967296+x4.toNat<x8.toNat*x3.toNat:=by{rw[aT,hv1,hm]};have hv2:v2=nP (4294967296<=x8.toNat\/x6.toNat*4294967296+x4.toNat<x8.toNat*x3.toNat):=by{rw[h2,aU.2 hB,aU.2 hL,Bool.decide_or];cases nP (4294967296<=x8.toNat)<;>rfl};have hp:0<x2.toNat*4294967296+x3.toNat:=by{omega};by_cases c:4294967296<=x8.toNat\/x6.toNat*4294967296+x4.toNat<x8.toNat*x3.toNat;{rw[hv2,cT c];obtain⟨g1,g2,g3⟩:=Qy hp hd QG hu c;have zS:(x8 -(1:UInt64)).toNat=x8.toNat -1:=by{exact UInt64.toNat_sub_of_le _ _ (aK.2 (show(1:UInt64).toNat<=_ from g1))};have J8:(x6+x2).toNat=x6.toNat+x2.toNat:=by{rw[UInt64.toNat_add];omega};by_cases c2:4294967296<=x6.toNat+x2.toNat;{rw[aa (aK.2 (by rw[J8];exact c2)),aj];have h3:(x8.toNat -1)*x3.toNat<=(x6.toNat+x2.toNat)*4294967296+x4.toNat:=by{have:=Nat.mul_le_mul (show x8.toNat -1<=4294967296 by omega) (show x3.toNat<=4294967296 by omega);have:=aA 4294967296 c2;omega};have:=xn hp g2 g3 h3;rw[show x8 -(1:UInt64)=UInt64.ofNat Q from gQ (by rw[zS,fV,eQ,this];omega)]};{rw[ab (λh=>c2 (by have:=aK.1 h;rwa[J8]at this)),ae];exact ih x0 x1 x2 x3 x4 x5 _ x7 _ (by rw[J8];omega) hy Uk hd QG (by rw[J8];omega) Jh (by rw[zS];omega) (by rw[zS,J8];exact g2) (by rw[zS];exact g3) eQ}};{rw[hv2,cF c];have:=xn hp hu hQ (by omega);rw[show x8=UInt64.ofNat Q from gQ (by rw[fV,eQ,this];omega)]}
theorem RR(x:UInt64):kZ x (UInt64.ofInt 0).toNat=x:=by apply gQ;unfold kZ;rw[fV,show(UInt64.ofInt 0).toNat=0 from rfl];have:=x.toNat_lt;omega
theorem YV(x:UInt64):dc x (UInt64.ofInt 0).toNat=x:=by apply gQ;rw[iX,show(UInt64.ofInt 0).toNat=0 from rfl];omega
def LA{a d q y:UInt64}{N Q t:Nat}(hN:N=a.toNat*4294967296+d.toNat)(hQ:q.toNat=Q)(ht:N=Q*y.toNat+t)(h:t<18446744073709551616):(((a*(4294967296:UInt64))+d) -(q*y)).toNat=t:=by have e1:((a*(4294967296:UInt64))+d).toNat=N%18446744073709551616:=by{rw[UInt64.toNat_add,UInt64.toNat_mul,show(4294967296:UInt64).toNat=4294967296 from rfl,hN];omega};have e2:(q*y).toNat=(Q*y.toNat)%18446744073709551616:=by{rw[UInt64.toNat_mul,hQ]};rw[UInt64.toNat_sub,e1,e2,ht];generalize Q*y.toNat=P;omega
theorem Ok{x y:UInt64}:(x -x/y*y).toNat=x.toNat% y.toNat:=by have h:=Nat.div_add_mod x.toNat y.toNat;rw[Nat.mul_comm]at h;have hl:=x.toNat_lt;have e:(x/y*y).toNat=x.toNat/y.toNat*y.toNat:=by{rw[UInt64.toNat_mul,UInt64.toNat_div];exact Nat.mod_eq_of_lt (by omega)};rw[UInt64.toNat_sub_of_le _ _ (aK.2 (by rw[e];omega)),e];omega
def Q4{n y q:Nat}(hy:0<y)(h:n/y=q):∃t,n=q*y+t/\t<y:=⟨n% y,by rw[<-h,Nat.mul_comm];exact(Nat.div_add_mod ..).symm,Nat.mod_lt _ hy⟩
def Wk{x z:Nat}(hx:x<4294967296)(hz:z<4294967296):UInt64.ofNat x*(4294967296:UInt64)+UInt64.ofNat z=UInt64.ofNat (x*4294967296+z):=by apply gQ;rw[UInt64.toNat_add,UInt64.toNat_mul,show(4294967296:UInt64).toNat=4294967296 from rfl];simp only[fV];omega
def Od{N hi b d1 d0 y q1 q0 t1 t0:Nat}(h1:hi*4294967296+d1=q1*y+t1)(h0:t1*4294967296+d0=q0*y+t0)(ht:t0<y)(hb:b=d1*4294967296+d0)(hN:N=hi*18446744073709551616+b):N/y=q1*4294967296+q0/\N% y=t0:=by have e:N=y*(q1*4294967296+q0)+t0:=by{have x2:∀B:Nat,y*(q1*B+q0)=q1*y*B+q0*y:=λB=>by{rw[Nat.mul_add,Nat.mul_comm y q0,<-Nat.mul_assoc,Nat.mul_comm y q1]};have x3:=x2 4294967296;omega};rw[e,Nat.mul_add_div (by omega),Nat.div_eq_of_lt ht,Nat.add_zero,Nat.mul_add_mod,Nat.mod_eq_of_lt ht];exact⟨rfl,rfl⟩
def aiT(a b y:UInt64)(hp:(nP (9223372036854775808<=y.toNat/\a.toNat<y.toNat))=Qf):ay6 a b y=Bm [.u64 (UInt64.ofNat ((a.toNat*18446744073709551616+b.toNat)/y.toNat)),.u64 (UInt64.ofNat ((a.toNat*18446744073709551616+b.toNat)% y.toNat))]:=by
 obtain⟨hy,ha⟩:=ao hp;have Uk:=y.toNat_lt;have Js:=b.toNat_lt;rw[ay1,ab (λh=>by rw[h]at hy;exact absurd hy (by decide)),ae,ayZ,ab (λh=>by have:=aK.1 h;omega),ae];apply ay0;intro v1 h1 v2 h2 v3 h3 v4 h4 v5 h5 v6 h6 v7 h7 v8 h8 v9 h9;have hy0:(!decide (y=0))=Qf:=by{rw[ab (λh=>by rw[h]at hy;exact absurd hy (by decide))];rfl};by_cases c:a=0
 ·rw[cT c,bA hy0,c,show(0:UInt64).toNat=0 from rfl,Nat.zero_mul,Nat.zero_add];rw[show b/y=UInt64.ofNat (b.toNat/y.toNat) from gQ (by rw[UInt64.toNat_div,fV];exact(Nat.mod_eq_of_lt (Nat.lt_of_le_of_lt (Nat.div_le_self ..) Js)).symm),
   show b% y=UInt64.ofNat (b.toNat% y.toNat) from gQ (by rw[UInt64.toNat_mod,fV];exact(Nat.mod_eq_of_lt (Nat.lt_of_le_of_lt (Nat.mod_le ..) Js)).symm),bA hy0]
 rw[cF c,bA (aa hy)];have e1:v1=y:=by{rw[h1,RR]};have e4:v4=a:=by{rw[h4,RR]};have e7:v7=b:=by{rw[h7,RR]};have e5:v5.toNat=64:=by{rw[h5];rfl};have e6:v6=a:=by{rw[h6,e4,e5];have:dc b 64=0:=by{apply gQ;rw[iX];show _=0;omega};rw[this];apply gQ;rw[UInt64.toNat_or];exact Nat.or_zero _};have n2:v2.toNat=y.toNat/4294967296:=by{rw[h2,e1,xX]};have n3:v3.toNat=y.toNat%4294967296:=by{rw[h3,e1,E6]};have n8:v8.toNat=b.toNat/4294967296:=by{rw[h8,e7,xX]};have n9:v9.toNat=b.toNat%4294967296:=by{rw[h9,e7,E6]};have hv2:(!decide (v2=0))=Qf:=by{rw[ab (λh=>by rw[h]at n2;have:(0:UInt64).toNat=0:=rfl;omega)];rfl};have hY:v2.toNat*4294967296+v3.toNat=y.toNat:=by{omega};have h8l:v8.toNat<4294967296:=by{omega};have h9l:v9.toNat<4294967296:=by{omega};have h3l:v3.toNat<4294967296:=by{omega};have h2l:v2.toNat<4294967296:=by{omega};have h2g:2147483648<=v2.toNat:=by{omega};have first:∀(u:UInt64)(d:Nat),u.toNat<y.toNat->d<4294967296->(u/v2).toNat<=4294967297/\u.toNat=(u/v2).toNat*v2.toNat+(u -u/v2*v2).toNat/\(u.toNat*4294967296+d)/(v2.toNat*4294967296+v3.toNat)<=(u/v2).toNat/\(u -u/v2*v2).toNat<4294967296:=λu d hu hd=>by rw[Ok,UInt64.toNat_div];refine⟨Sj (B:=4294967296) (by omega) h3l (by rw[hY];exact hu),?_,LI (by omega) (by omega) hd,?_⟩;{rw[Nat.mul_comm];exact(Nat.div_add_mod ..).symm};{have:=Nat.mod_lt u.toNat (show 0<v2.toNat by omega);omega}
 rw[bA hv2,e1,e6];obtain⟨f1,f2,f3,f4⟩:=first a v8.toNat ha h8l
 obtain⟨Q1,hQ1⟩:∃q,(a.toNat*4294967296+v8.toNat)/y.toNat=q:=⟨_,rfl⟩;rw[ay2 (Q:=Q1) (u:=a.toNat) 4294967296 y (UInt64.ofInt 0) v2 v3 a v8 v9 (a/v2) (a -a/v2*v2) (by omega) h2g h3l h8l (by rw[hY];exact ha) f4 h2l f1 f2 f3 (by rw[hY,hQ1])];apply ay7;intro w1 g1 w2 g2;have q1l:Q1<4294967296:=by{rw[<-hQ1,Nat.div_lt_iff_lt_mul (by omega)];have:=aA 4294967296 (show a.toNat+1<=y.toNat from ha);rw[Nat.mul_comm 4294967296 y.toNat];omega};obtain⟨t1,hN1,ht1⟩:=Q4 (show 0<y.toNat by omega) hQ1;have QH:(w1 -UInt64.ofNat Q1*y).toNat=t1:=by{rw[g1];exact LA rfl (by rw[fV];omega) hN1 (by omega)};rw[bA hv2,g2];obtain⟨u1,hu⟩:∃u,w1 -UInt64.ofNat Q1*y=u:=⟨_,rfl⟩;rw[hu]at QH⊢;obtain⟨k1,k2,k3,k4⟩:=first u1 v9.toNat (by rw[QH];exact ht1) h9l
 obtain⟨Q0,S6⟩:∃q,(t1*4294967296+v9.toNat)/y.toNat=q:=⟨_,rfl⟩;rw[ay3 (Q:=Q0) (u:=u1.toNat) 4294967296 y (UInt64.ofInt 0) v2 v3 v9 (UInt64.ofNat Q1) (u1 -u1/v2*v2) u1 (u1/v2) (by omega) h2g h3l h9l (by rw[hY,QH];exact ht1) k4 h2l k1 k2 k3 (by rw[hY,QH,S6])];apply ay4;intro z1 j1 z2 j2 z3 j3;have q0l:Q0<4294967296:=by{rw[<-S6,Nat.div_lt_iff_lt_mul (by omega)];have:=aA 4294967296 (show t1+1<=y.toNat from ht1);rw[Nat.mul_comm 4294967296 y.toNat];omega};obtain⟨t0,QU,ht0⟩:=Q4 (show 0<y.toNat by omega) S6;have hr:z3.toNat=t0:=by{rw[j3,YV,j2];exact LA (N:=t1*4294967296+v9.toNat) (by rw[QH]) (by rw[fV];omega) QU (by omega)};rw[j1,Wk q1l q0l,show z3=UInt64.ofNat t0 from gQ (by rw[hr,fV];omega)];obtain⟨x1,x2⟩:=Od (hi:=a.toNat) (b:=b.toNat) hN1 QU ht0 (by omega) rfl;rw[x1,x2]
def afX:arv=Bm [.ag (iD.cells Cn.yo)]:=by refine aru ?_;intro v1 h1;have:iD.of ((100000000000000000:UInt64).toNat*(100000000000000000:UInt64).toNat)=Cn.yo:=by{kernel_rfl};rw[h1,this]
theorem Lm:iD.val Cn.yo=10000000000000000000000000000000000:=by rw[iD.nh];rfl
def TH{a b:Nat}:(0:Int)<=cond (nP (a=b)) 0 (cond (nP (a<b)) (-1) 1)↔b<=a:=by by_cases h:a=b;{rw[aa h];simp;omega};{rw[cF h];by_cases h2:a<b;{rw[cT h2];omega};{rw[cF h2];omega}}
def m14(x:UInt64):((x&&&(16383:UInt64)).toNat:Int)<16384:=by rw[UInt64.toNat_and,show(16383:UInt64).toNat=2^14 -1 from rfl,Nat.and_two_pow_sub_one_eq_mod];omega
theorem Mw(x:UInt64):IntKind.i64.wrap (IntKind.i64.wrap ((x&&&(16383:UInt64)).toNat:Int) -6176)=((x&&&(16383:UInt64)).toNat:Int) -6176:=by have:=m14 x;rw[show IntKind.i64.wrap ((x&&&(16383:UInt64)).toNat:Int)=((x&&&(16383:UInt64)).toNat:Int) from iw,iw]
theorem EM(a:Nat):nP ((0:Int)<=cond (nP (a=iD.val Cn.yo)) 0 (cond (nP (a<iD.val Cn.yo)) (-1) 1))=nP (10000000000000000000000000000000000<=a):=aU.2 (TH.trans (by rw[Lm]))
theorem zq(a b:Bool):cond a b Qg=(a&&b):=by cases a<;>rfl
def ahZ(h l:UInt64):awv h l=Bm [.i .i64 (Cn.split h l).1,.b (Cn.split h l).2.1,.ag (iD.cells (Cn.split h l).2.2.1),.i .i64 (Cn.split h l).2.2.2]:=by apply awu;intro v1 h1 v2 h2 v3 h3 v4 h4 v5 h5 v6 h6 v7 h7 v8 h8 v9 h9 v10 kv;rw[Cn.xS];unfold Cn.vv;simp only;have e1:v1=dc h 63:=h1;have e2:v2=dc h 58:=h2;have e6:v6=dc h 47:=h6;have e8:v8=((dc h 47&&&16383).toNat:Int) -6176:=by{rw[h8,h7,e6];exact Mw _};have e5:v5=dc (dc h 58&&&31) 3:=by{rw[h5,e2];rfl};rw[h3,h4,e1,e2,e5,e8];by_cases c1:dc h 58&&&31=31;{rw[cT c1,ar c1];rfl};rw[cF c1,ak c1];by_cases c2:dc h 58&&&31=30;{rw[cT c2,ar c2];rfl};rw[cF c2,ak c2];by_cases c3:dc (dc h 58&&&31) 3=3;{rw[cT c3,ar c3];rfl};rw[cF c3,ak c3,kv,EM,h9];by_cases c4:iD.val ⟨h&&&562949953421311,l⟩<10000000000000000000000000000000000;{rw[cF,ar c4];apply akt;intro w1 g1 w2 g2 w3 g3;rw[g3,g2,Mw,g1];rfl};{rw[cT,ak c4];apply akt;intro w1 g1 w2 g2 w3 g3;rw[g3,g2,Mw,g1];rfl}
def agC(n:Bool)(c:iD)(x:Int)(hp:(Nr.i64 x)=Qf):asH n c x=Bm [.u64 (Cn.join n c x).1,.u64 (Cn.join n c x).2.1,.b (Cn.join n c x).2.2]:=by apply asG;intro v1 h1 v2 h2 v3 h3 v4 h4 v5 h5 v6 h6;have c1:∀b:Bool,(!(!b)||(!b))=Qf:=by{decide};rw[bA (c1 _),TC,bA (c1 _),TC];rw[Cn.join_eq];unfold Cn.HD;have e3:v3=nP (10000000000000000000000000000000000<=c.val\/x< -6176\/6111<x):=by{rw[h3,h2,h1,EM,Bool.decide_or,Bool.decide_or];cases nP (10000000000000000000000000000000000<=c.val)<;>cases nP (x< -6176)<;>rfl};rw[e3];by_cases k:10000000000000000000000000000000000<=c.val\/x< -6176\/6111<x;{rw[cT k,ar k]};{rw[cF k,ak k];have e4:v4=x+6176:=by{rw[h4,iw]};have e5:v5=kZ (UInt64.ofInt (x+6176)) 49:=by{rw[h5,e4];rfl};rw[ajq,ajq,h6,e5];cases n<;>rfl}
def sd(x:Int):Nr.i64 (IntKind.i64.wrap x)=Qf:=by have h:=IntKind.wrap_i64 x;unfold Nr.i64;exact dT
def vt(h l:UInt64):-6176<=(Cn.split h l).2.2.2/\(Cn.split h l).2.2.2<16384:=by rw[Cn.xS];unfold Cn.vv;simp only;have:=m14 (dc h 47);have:=m14 (dc h 49);split;{exact⟨show(-6176:Int)<=0 by decide,show(0:Int)<16384 by decide⟩};split;{exact⟨show(-6176:Int)<=0 by decide,show(0:Int)<16384 by decide⟩};split<;>dsimp only<;>omega
def af3(h l:UInt64):arC h l=Bm [.b (Cn.vC h l)]:=by apply arB;intro v1 h1 v2 h2 v3 h3 v4 h4 v5 h5 v6 h6 v7 h7 v8 h8;have c6:∀x:Bool,(!x||(x&&x))=Qf:=by{decide};have hx:=vt h l;have hx6:Nr.i64 (Cn.split h l).2.2.2=Qf:=dT;rw[mV,mV,mV,mV,bA hx6,bA (c6 _),mV,bA (c6 _),mV];unfold Cn.vC;simp only;by_cases c1:(Cn.split h l).1=3;{rw[cT c1,ar c1,h1,zq]};rw[cF c1,ak c1];by_cases c2:(Cn.split h l).1=2;{rw[cT c2,ar c2,h3,h2,zq]};rw[cF c2,ak c2,h8,h7,h6,h5,h4,zq,zq]
def PR{n k p:Nat}(hp:p=10^k)(hk:1<=k)(h:p<=n):Nr.dec n=Nr.dec (n/p)++(Sh.fk ((k:Int) -((Nr.dec (n% p)).length:Int))++Nr.dec (n% p)):=by have Pr:0<p:=by{rw[hp];exact Nat.pow_pos (by omega)};obtain⟨q1,q2,q3,q4⟩:=Nr.me (n/p);obtain⟨r1,r2,r3,r4⟩:=Nr.me (n% p);have rl:=Nr.jT k (n% p) (by rw[<-hp];exact Nat.mod_lt _ Pr) hk;have hz:=Sh.vj ((k:Int) -((Nr.dec (n% p)).length:Int));have HK:(Sh.fk ((k:Int) -((Nr.dec (n% p)).length:Int))++Nr.dec (n% p)).length=k:=by{unfold Sh.fk;rw[af,List.length_replicate];omega};have Zk:Nr.num (Sh.fk ((k:Int) -((Nr.dec (n% p)).length:Int)))=0:=Nr.mv _;have SM:Nr.num (Nr.dec (n/p)++(Sh.fk ((k:Int) -((Nr.dec (n% p)).length:Int))++Nr.dec (n% p)))=n:=by{rw[Nr.iP,HK,Nr.iP,Zk,q2,r2,Nat.zero_mul,Nat.zero_add,<-hp];exact Nat.div_add_mod' n p};have hu:=Nr.zd _ (Nr.dec (n/p)++(Sh.fk ((k:Int) -((Nr.dec (n% p)).length:Int))++Nr.dec (n% p))) rfl (by rw[List.all_append,List.all_append,q1,hz,r1];rfl) (by simp[q3]) (by rw[ai,List.getElem?_append_left (List.length_pos_iff.2 q3),<-ai];exact q4 (Nat.div_pos h Pr));rw[SM]at hu;exact hu.symm
def Rt{N:Nat}(hl:(Nr.dec N).length<=1000):aar (Nr.dec N)=Bm [.s (Nr.dec N)]:=by
 obtain⟨q1,q2,q3,q4⟩:=Nr.me N;have NI:=Nr.o9 N;apply awD;intro v1 h1 v2 h2 v3 h3;have e1:v1=((Nr.dec N).length -1:Nat):=by{rw[h1,iw];omega};have e2:v2=(Nr.dec N).take ((Nr.dec N).length -1):=by
  rw[h2,e1,aq];unfold Lib.trimLeftS;by_cases c:N<10;{rw[Nr.qo c];rfl}
  ·have h48:=q4 (by omega);have hlen:2<=(Nr.dec N).length:=by{rw[Nr.uY c,af];have:=Nr.o9 (N/10);simp;omega};generalize Nr.dec N=s at*;match s,hlen,h48 with
   |x::y::r,_,h48=>have hx:x≠48:=h48;simp[hx]
 have e3:v3=Nr.dec N:=by{rw[h3,e2,e1,aq,List.take_append_drop]};rw[JV,bA ?_,JV,bA (aa ?_),e3];{rw[e2,e1,aq];simp only[aJ,aZ];omega};{rw[ah];refine⟨aa ⟨?_,by decide⟩,by decide⟩;simp only[aJ];omega}
theorem t19:(10:Nat)^19=10000000000000000000:=by decide
theorem t20:(10:Nat)^20=100000000000000000000:=by decide
theorem t38:(10000000000000000000:Nat)^2=100000000000000000000000000000000000000:=by decide
theorem t40:(10:Nat)^40=10000000000000000000000000000000000000000:=by decide
theorem p19:(10000000000000000000:UInt64).toNat=10000000000000000000:=rfl
def awE:∀(k:Nat)(a:iD)(t:bE),a.val<18446744073709551616*10000000000000000000^k->(t=[]\/1<=a.val)->t.length+20*k<=900->abc t a.high a.low=aar (Nr.dec a.val++t):=by
 have last:∀(a:iD)(t:bE),a.high=0->(t=[]\/1<=a.val)->t.length<=900->abc t a.high a.low=aar (Nr.dec a.val++t):=λa t h0 ht hl=>by{apply akv;intro v1 h1 v2 h2 v3 h3 v4 h4 v5 h5 v6 h6;have hv:a.val=a.low.toNat:=by{rw[iD.nh,h0];show 0*_+_=_;omega};have hd:=Nr.jT 20 a.low.toNat (by rw[t20];have:=a.low.toNat_lt;omega) (by omega);rw[aa h0,aF,ae,bA (by cases nP (t=([]:bE))<;>rfl),bA (by cases nP (t=([]:bE))<;>rfl),TC];have e6:v6=Qf:=by{rw[h6];rcases ht with rfl|ht;{rfl};{rw[ab (p:=a.low=0) (λe=>by rw[hv,e]at ht;exact absurd ht (by decide))];cases nP (t=([]:bE))<;>rfl}};rw[e6,aj,bA (by rfl),j5,hv]};intro k;induction k with
 |zero=>intro a t h ht hl;refine last a t (gQ ?_) ht (by omega);rw[iD.nh]at h;show _=0;omega
 |succ k ih=>
  intro a t h ht hl;by_cases h0:a.high=0;{exact last a t h0 ht (by omega)};have SP:18446744073709551616<=a.val:=by{rw[iD.nh];have:0<a.high.toNat:=by{rcases Nat.eq_zero_or_pos a.high.toNat with e|e;{exact(h0 (gQ e)).elim};{exact e}};omega};apply akv;intro v1 h1 v2 h2 v3 h3 v4 h4 v5 h5 v6 h6;rw[p19]at h1 h2;have hm:=Nat.mod_lt a.val (show 0<10000000000000000000 by omega);have e1:v1=iD.of (a.val/10000000000000000000):=h1;have e2:v2.toNat=a.val%10000000000000000000:=by{rw[h2];show(UInt64.ofNat (a.val%10000000000000000000)).toNat=_;rw[fV];omega};have SA:a.val<340282366920938463463374607431768211456:=by{rw[iD.nh];have:=a.high.toNat_lt;have:=a.low.toNat_lt;omega};have ev:v1.val=a.val/10000000000000000000:=by{rw[e1,UO (by omega)]};have hd:=Nr.jT 19 (a.val%10000000000000000000) (by rw[t19];exact hm) (by omega);have hd1:=Nr.o9 (a.val%10000000000000000000);rw[e2]at h3 h5;have e4:v4=(19:Nat) -((Nr.dec (a.val%10000000000000000000)).length:Int):=by{rw[h4,h3,iw];rfl};have hz:(Sh.fk v4).length=v4.toNat:=by{unfold Sh.fk;rw[List.length_replicate]};have h5l:v5.length<=20:=by{rw[h5,af,hz];omega};rw[ab h0,aH,aj,bA (by rfl),bA (by rfl),bA (aa ⟨rfl,by omega,by omega⟩),e2,bA (aa (by rw[hz];omega)),j5];rw[ih v1 (v5++t) (by rw[ev,Nat.div_lt_iff_lt_mul (by omega),Nat.mul_assoc,<-Nat.pow_succ];exact h) (.inr (by rw[ev];omega)) (by rw[af];omega),ev,
   PR (n:=a.val) (k:=19) (p:=10000000000000000000) (by decide) (by omega) (by omega),h5,e4,aB,aB,aB]
def ah4(a:iD):awG a=Bm [.s (Nr.dec a.val)]:=by have SA:a.val<340282366920938463463374607431768211456:=by{rw[iD.nh];have:=a.high.toNat_lt;have:=a.low.toNat_lt;omega};rw[awF,awE 2 a [] (by rw[t38];omega) (.inl rfl) (by simp),aR];exact Rt (Nat.le_trans (Nr.jT 40 a.val (by rw[t40];omega) (by omega)) (by omega))
theorem vh(n:Int):Sh.fk n=List.replicate n.toNat 48:=rfl
def ahr(d:bE)(x:Int)(hp:(nP (1<=d.length/\d.length<=40/\-10000<=x/\x<=100000))=Qf):au1 d x=Bm [.s (Cn.laid d x)]:=by obtain⟨l1,l2,x1,x2⟩:=ao hp;apply au0;intro v1 h1 v2 h2 v3 h3 v4 h4 v5 h5 v6 h6 v7 h7 v8 h8;unfold Cn.laid;simp only;by_cases c0:x=0;{rw[cT c0,ar c0]};rw[cF c0,ak c0,mV,mV];have e1:v1=x+d.length:=by{rw[h1,iw]};have e2:v2=x+d.length -1:=by{rw[h2,e1,iw]};have e3:v3=nP (x<0/\-6<=x+d.length -1):=by{rw[h3,e2,Bool.decide_and,zq]};have e5:v5=1 -x -d.length:=by{rw[h5,h4,i64_in (1 -x) (by omega),iw]};have en:IntKind.i64.wrap (0 -x)=-x:=by{rw[iw];omega};rw[e3,en];by_cases c1:x<0/\-6<=x+d.length -1;{rw[cT c1,ar c1];have key:∀s:bE,s.length<=200->-x<=s.length->acj s x (s.length:Int)=Bm [.s (s.take (s.length+x).toNat++46::s.drop (s.length+x).toNat)]:=λs hs hx=>by{apply auZ;intro w1 g1 w2 g2;have e:IntKind.i64.wrap ((s.length:Int)+x)=s.length+x:=iw;rw[e]at g1 g2⊢;rw[JV,bA (aa ?_),JV,bA (aa ?_),g1,g2];{simp};{rw[g1,g2];simp;omega};{rw[g1];simp;omega}};by_cases c2:(d.length:Int)<=-x;{rw[cT c2,ar c2,bA (aa ⟨by trivial,by omega,by omega⟩),bA (aa (by rw[vh,List.length_replicate];omega)),h6,e5];exact key _ (by rw[af,vh,List.length_replicate];omega) (by rw[af,vh,List.length_replicate];omega)};{rw[cF c2,ak c2];exact key _ (by omega) (by omega)}};{rw[cF c1,ak c1,JV];have e7:v7=d.take 1:=h7;have e8:v8=d.drop 1:=h8;have key:∀s:bE,s.length<=200->aci v2 s=Bm [.s (if x+d.length -1<0 then s++[69,45]++Nr.itoa (-(x+d.length -1))else s++[69,43]++Nr.itoa (x+d.length -1))]:=λs hs=>by{apply auY;intro w1 g1 w2 g2 w3 g3;have hi:∀v:Int,-1000000<=v->v<=1000000->Nr.i64 v=Qf/\(Nr.itoa v).length<=30:=λv a b=>by{refine⟨dT,?_⟩;rw[Nr.pC];have:=Nr.jT 20 v.natAbs (by rw[t20];omega) (by omega);split;{simp only[av];omega};{omega}};have ew:IntKind.i64.wrap (0 -v2)=-(x+d.length -1):=by{rw[e2,iw];omega};rw[ew]at g1⊢;rw[g2,g3,g1,e2];by_cases c:x+(d.length:Int) -1<0;{rw[cT c,ar c,bA (aa (by simp;omega)),bA (hi _ (by omega) (by omega)).1,bA (aa ?_)];have:=(hi (-(x+d.length -1)) (by omega) (by omega)).2;simp;omega};{rw[cF c,ak c,bA (aa (by simp;omega)),bA (hi _ (by omega) (by omega)).1,bA (aa ?_)];have:=(hi (x+d.length -1) (by omega) (by omega)).2;simp;omega}};by_cases c2:(1:Int)<d.length;{rw[cT c2,ar c2,JV,bA (aa (by rw[e8];simp;omega)),bA (aa (by rw[e8,e7];simp;omega)),e7,e8];exact key _ (by simp;omega)};{rw[cF c2,ak c2,e7];exact key _ (by simp;omega)}}
def xT(h l:UInt64):(Cn.split h l).2.2.1.val<10000000000000000000000000000000000:=by have z:iD.val ⟨0,0⟩=0:=by{rw[iD.nh];rfl};rw[Cn.xS];unfold Cn.vv;simp only;split;{rw[z];omega};split;{rw[z];omega};split;{rw[z];omega};{dsimp only;split;{assumption};{rw[z];omega}}
theorem t34:(10:Nat)^34=10000000000000000000000000000000000:=by decide
def A7{d:bE}{x:Int}(h1:d.length<=40)(h2:-10000<=x)(h3:x<=100000):(Cn.laid d x).length<=20000:=by unfold Cn.laid;simp only;have hi:∀v:Int,-1000000<=v->v<=1000000->(Nr.itoa v).length<=30:=λv a b=>by{rw[Nr.pC];have:=Nr.jT 20 v.natAbs (by rw[t20];omega) (by omega);split;{simp only[av];omega};{omega}};have i1:=hi (-(x+d.length -1)) (by omega) (by omega);have i2:=hi (x+d.length -1) (by omega) (by omega);have tl:(if(1:Int)<(d.length:Int)then d.take 1++46::d.drop 1 else d.take 1).length<=60:=by{split<;>simp<;>omega};split;{omega};split;{split<;>simp<;>omega};{split<;>rw[af,af]<;>simp only[av,ay]<;>omega}
def agE(h l:UInt64):asQ h l=Bm [.s (Cn.y9 h l)]:=by
 apply asP;intro v1 h1 v2 h2;have hx:=vt h l;have hc:=xT h l;have hd:=Nr.jT 34 _ (by rw[t34];exact hc) (by omega);have hd1:=Nr.o9 (Cn.split h l).2.2.1.val;unfold Cn.y9;simp only;by_cases c1:(Cn.split h l).1=3;{rw[cT c1,ar c1]};rw[cF c1,ak c1];have key:∀t:bE,t.length<=20000->abV (Cn.split h l).2.1 t=Bm [.s (cond (Cn.split h l).2.1 (45::t) t)]:=λt ht=>by
  rw[asO];cases(Cn.split h l).2.1 with
  |true=>rw[aj,bA (aa (by simp;omega))];rfl
  |false=>rfl
 by_cases c2:(Cn.split h l).1=2;{rw[cT c2,ar c2];exact key _ (by decide)};rw[cF c2,ak c2,bA (aa (by rw[h1];omega)),h2,h1];exact key _ (A7 (by omega) (by omega) (by omega))
theorem RT:Cn.KJ.length=64:=rfl
def Ag(n:UInt8)(h:n.toNat<64):bH (n.toNat:Int) Cn.KJ.length=Qf:=ez (by omega) (by rw[RT];omega)
theorem RS(x:UInt8)(k:Nat):(oF x k).toNat=x.toNat/2^k:=by unfold oF;rw[UInt8.toNat_ofNat'];exact Nat.mod_eq_of_lt (Nat.lt_of_le_of_lt (Nat.div_le_self ..) x.toNat_lt)
def TR(x:UInt8):(oF x 2).toNat<64:=by rw[RS];have:=x.toNat_lt;omega
def P5(x:UInt8):(x&&&(63:UInt8)).toNat<64:=by rw[UInt8.toNat_and,show(63:UInt8).toNat=2^6 -1 from rfl,Nat.and_two_pow_sub_one_eq_mod];omega
def Rd(x:UInt8):(pj (x&&&3) 4).toNat<64/\16∣(pj (x&&&3) 4).toNat:=by have h:(x&&&(3:UInt8)).toNat=x.toNat%4:=by{rw[UInt8.toNat_and,show(3:UInt8).toNat=2^2 -1 from rfl,Nat.and_two_pow_sub_one_eq_mod]};unfold pj;rw[h,UInt8.toNat_ofNat'];omega
def Re(x:UInt8):(pj (x&&&15) 2).toNat<64/\4∣(pj (x&&&15) 2).toNat:=by have h:(x&&&(15:UInt8)).toNat=x.toNat%16:=by{rw[UInt8.toNat_and,show(15:UInt8).toNat=2^4 -1 from rfl,Nat.and_two_pow_sub_one_eq_mod]};unfold pj;rw[h,UInt8.toNat_ofNat'];omega
def Wm{a b:UInt8}(h:a.toNat<64)(k:b.toNat<64):(a|||b).toNat<64:=by rw[UInt8.toNat_or];exact Nat.or_lt_two_pow (n:=6) h k
def Rc(x:UInt8)(k:Nat)(h:2<=k):(oF x k).toNat<64:=by rw[RS];have h1:x.toNat/2^k<=x.toNat/2^2:=Nat.div_le_div_left (Nat.pow_le_pow_right (by omega) h) (by decide);have:=x.toNat_lt;omega
theorem EY:∀l:bE,(Cn.base l).length<=2*l.length+4
 |[]=>by simp[Cn.base]
 |[_]=>by simp[Cn.base]
 |[_,_]=>by simp[Cn.base]
 |_::_::_::r=>by have:=EY r;simp[Cn.base];omega
def awa:∀(n:Nat)(l t:bE),l.length<=n->l.length<=1099511627776->t.length+2*l.length<=5000000000000->acD l t=Bm [.s (t++Cn.base l)]:=by
 intro n;induction n with
 |zero=>intro l t h _ _;have:l=[]:=bm (by omega);subst this;apply akk;intros;rw[ab (by simp),ae,ab (by simp),ae,ab (by simp),ae,acC];simp[Cn.base]
 |succ n ih=>
  intro l t h hl ht;apply akk;intro v1 h1 v2 h2 v3 h3 v4 h4 v5 h5 v6 h6 v7 h7 v8 h8 v9 h9 v10 kv v11 nK v12 mS jQ rm iW s0 jb sZ lU yU sQ Ei s9 Eh;have e2:v2=oF v1 2:=h2;have e4:v4=pj (v1&&&3) 4:=h4;have e6:v6=oF v5 4:=h6;have e8:v8=pj (v5&&&15) 2:=h8;have y8:v10=oF v9 6:=kv;have i1:=Ag v2 (by rw[e2];exact TR _);have i2:=Ag (v4|||v6) (Wm (by rw[e4];exact(Rd _).1) (by rw[e6];exact Rc _ _ (by omega)));have i3:=Ag (v8|||v10) (Wm (by rw[e8];exact(Re _).1) (by rw[y8];exact Rc _ _ (by omega)));have i4:=Ag (v9&&&63) (P5 _);have i5:=Ag v4 (by rw[e4];exact(Rd _).1);have i6:=Ag v8 (by rw[e8];exact(Re _).1);have s3:v3=Cn.sign v2:=h3;have s7:v7=Cn.sign (v4|||v6):=h7;have s11:v11=Cn.sign (v8|||v10):=nK;have s12:v12=Cn.sign (v9&&&63):=mS;have s15:jb=Cn.sign v4:=sZ;have s17:sQ=Cn.sign v8:=Ei;change bH _ (([65,66,67,68,69,70,71,72,73,74,75,76,77,78,79,80,81,82,83,84,85,86,87,88,89,90,97,98,99,100,101,102,103,104,105,106,107,108,109,110,111,112,113,114,115,116,117,118,119,120,121,122,48,49,50,51,52,53,54,55,56,57,43,47]:bE)).length=Qf at i1 i2 i3 i4 i5 i6;rw[i1,i2,i3,i4,i5,i6];match l,h,hl,ht with
  |[],_,_,_=>rw[ab (by simp),ae,ab (by simp),ae,ab (by simp),ae,acC];simp[Cn.base]
  |[a],_,_,ht=>have ea:v1=a:=h1;simp only[av,ay]at ht;rw[ab (by simp),ae,aa (by simp),aj,bA (by rfl),bK,bA (by rfl),bK,bA (dD (by rw[yU];simp;omega) (by rw[yU];simp;omega)),acC];rw[yU,s3,s15,e4,e2,ea];rfl
  |[a,b],_,_,ht=>have ea:v1=a:=h1;have eb:v5=b:=h5;simp only[av,ay]at ht;rw[ab (by simp),ae,ab (by simp),ae,aa (by simp),aj,bA (by rfl),bK,bA (by rfl),bA (by rfl),bK,bA (by rfl),bK,bA (dD (by rw[Eh];simp;omega) (by rw[Eh];simp;omega)),acC];rw[Eh,s3,s7,s17,e8,e6,e4,e2,ea,eb];rfl
  |a::b::c::r,h,hl,ht=>
   have ea:v1=a:=h1;have eb:v5=b:=h5;have ec:v9=c:=h9;have er:iW=r:=s0;simp only[av]at h hl ht;have x:∀k:Int,0<=k->k<3->bH k (a::b::c::r).length=Qf:=λk h1 h2=>ez h1 (by simp;omega);rw[aa (by simp;omega),aj,bA (x _ (by omega) (by omega)),bK,bA (x _ (by omega) (by omega)),bA (x _ (by omega) (by omega)),bK,bA (x _ (by omega) (by omega)),bA (x _ (by omega) (by omega)),bK,bA (x _ (by omega) (by omega)),bK,
    bA (dD (by rw[rm];simp;omega) (by rw[rm];simp;omega)),bA (GH (by omega) (by simp;omega) (by simp)),er,
    ih r _ (by omega) (by omega) (by rw[rm];simp;omega)]
   rw[rm,s3,s7,s11,s12,y8,e8,e6,e4,e2,ea,eb,ec,aB];rfl
def ahQ(b:bE)(hp:(nP (b.length<=1099511627776))=Qf):awc b=Bm [.s (Cn.base b)]:=by have hp:=ao hp;rw[awb,awa b.length b [] (Nat.le_refl _) hp (by simp;omega)];rfl
def afe(s:bE):apO s=Bm [.ag (eV.cells (Cn.str s))]:=apN s
def afb(v:Int)(hp:(Nr.i64 v)=Qf):apK v=Bm [.ag (eV.cells (Cn.num v))]:=by rw[apJ,bA hp];rfl
def afd(s:bE)(j:eV):apM s j=Bm [.ag (eV.cells (Cn.one s j))]:=by apply apL;intro v1 h1;rw[h1];rfl
def aff(s:bE)(j:eV)(t:bE)(k:eV):apQ s j t k=Bm [.ag (eV.cells (Cn.two s j t k))]:=by apply apP;intro v1 h1;rw[h1];rfl
theorem ajA(v:UInt64):∀(m:Nat)(b:bE),b.length+m<=100->ab2 v (8*(m:Int) -8) b=Bm [.s (pT.text (b++((List.range m).reverse.map λk=>UInt8.ofInt ((dc v (8*k)).toNat:Int))))]
 |0,b,hb=>by refine ajB _ _ _ ?_;intro v1 h1 v2 h2;rw[ab (by omega),ae,j5];simp
 |m+1,b,hb=>by refine ajB _ _ _ ?_;intro v1 h1 v2 h2;have e2:v2=8*(m:Int) -8:=by{rw[h2,iw];omega};have ek:(8*((m+1:Nat):Int) -8).toNat=8*m:=by{omega};rw[ek]at h1;rw[aa (by omega),aj,bK,bA (dD (by simp;omega) (by simp;omega)),e2,ajA v m (b++[v1]) (by simp;omega),h1];rw[List.range_succ,List.reverse_append];simp
def agS(v:UInt64):att v=Bm [.s (Cn.high v)]:=by rw[ats,show(56:Int)=8*((8:Nat):Int) -8 by omega,ajA v 8 [] (by simp)];rfl
theorem mP:∀l:bE,(pT.text l).length=2*l.length
 |[]=>rfl
 |x::r=>by have:=mP r;simp only[pT.text,pT.two,af,av,ay,this];omega
def lR(v:UInt64):(Cn.high v).length<=100:=by unfold Cn.high Cn.b8;rw[mP];simp
def ags(v:Val):asr v=Bm [.ag (eV.cells (Cn.tH v).1),.b (Cn.tH v).2]:=by
 apply asq;intro v1 h1 v2 h2 v3 h3 v4 h4 v5 h5 v6 h6 v7 h7 v8 h8 v9 h9 v10 kv v11 nK v12 mS jQ rm iW s0 jb sZ lU yU sQ Ei s9 Eh pn HS v20 Gr v21 S9 v22 Xz;unfold Cn.tH;have i6:Nr.i64 v6=Qf:=by{rw[h6];exact sd _};by_cases k1:v.kind=1
 ·rw[cT k1,ar k1,mV,mV,mV,h1,zq];cases(nP (Sh.text v.bits=([78,97,78]:bE))&&!decide (v.bits=9221120237041090560))with
  |true=>rw[aj,ar rfl,h3,h2]
  |false=>rw[ae,ak (by simp),h5,h4]
 rw[cF k1,ak k1];by_cases k2:v.kind=9;{rw[cT k2,ar k2,bA i6,h8,h7,h6];rfl};rw[cF k2,ak k2];by_cases k3:v.kind=16;{rw[cT k3,ar k3,bA (sd _),nK,kv,h9];rfl};rw[cF k3,ak k3];by_cases k4:v.kind=18;{rw[cT k4,ar k4,bA i6,h7,h6];rfl};rw[cF k4,ak k4];by_cases k5:v.kind=17;{rw[cT k5,ar k5,bA (by rw[rm];exact sd _),bA (by rw[sZ];exact sd _),Ei,yU,sZ,s0,rm,mS];rfl};rw[cF k5,ak k5];by_cases k6:v.kind=19
 ·rw[cT k6,ar k6,Eh];cases Cn.vC v.high v.low with
  |true=>rw[aj,ar rfl,Gr,HS]
  |false=>have:=lR v.high;have:=lR v.low;rw[ae,ak (by simp),j5,Xz,S9]
 {rw[cF k6,ak k6];rfl}
def afq(v:Val)(hp:(nP (bB.bC (bB.of [] v)<=1099511627776))=Qf):aqd v=Bm [.ag (eV.cells (Cn.wC v))]:=by have hp:=ao hp;have hb:v.bytes.length<=1099511627776:=by{simp only[bB.of,bB.bC]at hp;omega};apply aqc;intro v1 h1 v2 h2 v3 h3 v4 h4 v5 h5 v6 h6 v7 h7 v8 h8 v9 h9 v10 kv v11 nK v12 mS;unfold Cn.wC;by_cases k1:v.kind=5;{rw[cT k1,ar k1,bA (aa hb),bA (aa (by rw[h2];simp)),h4,h3,h2,h1]};rw[cF k1,ak k1];by_cases k2:v.kind=7;{rw[cT k2,ar k2,bA (aa hb),h6,h5]};rw[cF k2,ak k2];by_cases k3:v.kind=11;{rw[cT k3,ar k3,h8,h7]};rw[cF k3,ak k3];by_cases k4:v.kind=12;{rw[cT k4,ar k4,bA (aa hb),kv,h9,h6,h5]};rw[cF k4,ak k4];by_cases k5:v.kind=13;{rw[cT k5,ar k5,nK]};rw[cF k5,ak k5];by_cases k6:v.kind=14;{rw[cT k6,ar k6,mS]};rw[cF k6,ak k6]
def PH:∀f:bB,1<=bB.bC f
 |.mk _ _ _ _ _ _ _ _ _ _=>by simp only[bB.bC];omega
theorem oZ:∀l:List bB,l.length<=bB.bD l
 |[]=>by simp[bB.bD]
 |f::r=>by have:=oZ r;have:=PH f;simp only[bB.bD,av];omega
def xu(f:bB):bB.bC (bB.of [] f.val)<=bB.bC f:=by cases f;simp only[bB.of,bB.val,bB.kind,bB.bits,bB.high,bB.low,bB.text,bB.more,bB.sub,bB.bytes,bB.kids,bB.bC,ay];omega
def Cm{l:List bB}{i:Nat}(h:i<l.length)(d:bB):bB.bC (l.getD i d)<=bB.bD l:=by
 induction l generalizing i with
 |nil=>simp at h
 |cons f r ih=>
  cases i with
  |zero=>simp[bB.bD]
  |succ i=>have:=ih (i:=i) (by simpa using h);simp only[List.getD_cons_succ,bB.bD];omega
theorem Mo(f:bB):Cn.vU f=Cn.C2 f.val:=by cases f;simp only[Cn.C2,bB.of,bB.val,bB.kind,bB.bits,bB.high,bB.low,bB.text,bB.more,bB.sub,bB.bytes,bB.kids,Cn.vU]
theorem Ay:∀l:List bB,(Cn.lj l).length=l.length
 |[]=>by simp[Cn.lj]
 |f::r=>by simp[Cn.lj,Ay r]
theorem aj8(n:Nat)(l:List bB)(hb:bB.bD l<=1099511627776)(hn:2*bB.bD l<n)(x3:Int)(x4:bE)(x7:List Mem):∀(m i:Nat)(acc:List Mem),i+m=l.length->acc.length=i->
  acq n l (l.length:Int) (i:Int) x3 x4 7 [] x7 acc=Bm [.ag [.i .i64 7,.s [],.sl .ml (acc++Cn.lj (l.drop i))]]
 |0,i,acc,hi,ha=>by apply aj9;intro v1 h1 v2 h2 v3 h3 v4 h4 v5 h5 v6 h6;rw[cF,aD (by omega)];simp[Cn.lj]
 |m+1,i,acc,hi,ha=>by
  have hlen:=oZ l;apply aj9;intro v1 h1 v2 h2 v3 h3 v4 h4 v5 h5 v6 h6;rw[aq]at h1;have hf:=Cm (l:=l) (i:=i) (by omega) (eu.dH .fl);rw[<-h1]at hf;have hv:=xu v1;have e6:v6=((i+1:Nat):Int):=by{rw[h6,iw];omega};have cB:((nP (bB.bC (bB.of [] (bB.val v1))<=1099511627776))&&nP ((2*bB.bC (bB.of [] (bB.val v1)))<n))=Qf:=by{rw[ah];exact⟨dT,dT⟩};rw[cT,ll,bA cB,bA (dD (by rw[h5];simp;omega) (by rw[h5];simp;omega)),e6,
   aj8 n l hb hn x3 x4 x7 m (i+1) (acc++v5) (by omega) (by rw[h5];simp;omega),Ua (l:=l) (i:=i) (by omega) (eu.dH .fl),<-h1]
  have e5:v5=[Mem.of v1.name (Cn.vU v1)]:=by{rw[h5,h2,h3,h4,Mo];rfl};rw[e5,aB];simp[Cn.lj]
def ahE(n:Nat)(l:List bB)(hp:((nP (bB.bD l<=1099511627776))&&nP ((2*bB.bD l+1)<n+1))=Qf):avw n l=Bm [.ag (eV.cells (Cn.tV l))]:=by rw[ah]at hp;have h1:=ao hp.1;have h2:=ao hp.2;rw[avv];exact aj8 n l h1 (by omega) 0 [] [] l.length 0 [] (by omega) rfl
theorem ajW(n:Nat)(x2:Int)(x3:bE)(x5:bE)(x6:List Mem)(l:List Mem)(hl:l.length<=1099511627776):∀(m i:Nat)(acc:List Mem),i+m=l.length->acc=(l.take i).map Cn.rO++l.drop i->
  acf n (l.length:Int) (i:Int) x2 x3 6 x5 x6 acc=Bm [.ag [.i .i64 6,.s x5,.sl .ml (l.map Cn.rO)]]
 |0,i,acc,hi,ha=>by apply ajX;intro v1 h1 v2 h2;rw[cF,ha,aD (by omega),List.take_of_length_le (by omega),aR]
 |m+1,i,acc,hi,ha=>by have V2:acc.length=l.length:=by{rw[ha];simp;omega};have pG:i<l.length:=by{omega};apply ajX;intro v1 h1 v2 h2;rw[aq]at h1⊢;have e2:v2=((i+1:Nat):Int):=by{rw[h2,iw];omega};rw[cT,ll,j5,e2];refine ajW n x2 x3 x5 x6 l hl m (i+1) v1 (by omega) ?_;have eg:acc.getD i (eu.dH .ml)=l[i]:=by{rw[ha,ai,aW (by simp;omega)];simp only[bj,aJ,Nat.min_eq_left (Nat.le_of_lt pG),Nat.sub_self,List.getElem?_drop,Nat.add_zero];rw[au pG];rfl};rw[h1,eg,ha,List.set_append_right _ _ (by simp;omega)];simp only[bj,aJ,Nat.min_eq_left (Nat.le_of_lt pG),Nat.sub_self];rw[List.drop_eq_getElem_cons pG,List.set_cons_zero,List.take_succ_eq_append_getElem pG,List.map_append,aB];rfl
def aho(n:Nat)(v:Val)(hp:((nP (bB.bC (bB.of [] v)<=1099511627776))&&nP ((2*bB.bC (bB.of [] v))<n+1))=Qf):auS n v=Bm [.ag (eV.cells (Cn.C2 v))]:=by
 rw[ah]at hp;have hb:=ao hp.1;have hn:=ao hp.2;have hk:bB.bD v.kids+1<=bB.bC (bB.of [] v):=by{simp only[bB.of,bB.bC];omega};have hlen:=oZ v.kids;apply auR;intro v1 h1 v2 h2 v3 h3 v4 h4 v5 h5 v6 h6 v7 h7 v8 h8 v9 h9 v10 kv v11 nK v12 mS jQ rm iW s0 jb sZ lU yU;have cA:((nP (bB.bD v.kids<=1099511627776))&&nP ((2*bB.bD v.kids+1)<n))=Qf:=by{rw[ah];exact⟨dT,dT⟩};have hd:(⟨v6,v7,v5⟩:eV)=Cn.tV v.kids:=by{rw[h5,h6,h7]};have e5:v5=Cn.lj v.kids:=h5;have e6:v6=7:=h6;have e7:v7=[]:=h7;unfold Cn.C2;simp only[bB.of,Cn.vU];by_cases k1:v.kind=3
 ·have e4:v4=Cn.o7 v.kids:=by
   rw[h4,h3,h2,h1];unfold Cn.o7;cases v.kids with
   |nil=>rfl
   |cons f r=>
    rw[aa (by simp),aj];show List.isPrefixOf [36] f.name=nP (f.name.take 1=[36]);generalize f.name=s;cases s with
    |nil=>rfl
    |cons c t=>by_cases e:c=36;{subst e;simp[List.isPrefixOf]};{have e':¬(36:UInt8)=c:=λh=>e h.symm;simp[List.isPrefixOf,e,e']}
  have ci:(!(nP ((0:Int)<v1))||((nP ((0:Int)<v1))&&(bH (0:Int) v.kids.length)))=Qf:=by{by_cases c:(0:Int)<v1;{rw[ez (by omega) (by omega)];cases nP ((0:Int)<v1)<;>rfl};{rw[ab c];rfl}};rw[cT k1,ar k1,mV,bA ci,mV,mV,mV,mV,bA cA,bA cA,e4,h8,hd,e5,e6,e7];cases Cn.o7 v.kids<;>rfl
 rw[cF k1,ak k1];by_cases k2:v.kind=4
 ·rw[cT k2,ar k2,bA cA,j5,h9,kv,hd,e5,e7];cases Tree.regular v.kids with
  |false=>rfl
  |true=>rw[aF,ae,aj];have:=ajW n 0 [] [] [] (Cn.lj v.kids) (by rw[Ay];omega) (Cn.lj v.kids).length 0 (Cn.lj v.kids) (by omega) (by simp);exact this
 rw[cF k2,ak k2];by_cases k3:v.kind=15;{rw[cT k3,ar k3,bA cA,nK,hd];rfl};rw[cF k3,ak k3];have i1:Nr.i64 1=Qf:=aa (by decide);unfold Cn.AD;by_cases k4:v.kind=6;{rw[cT k4,ar k4,mS]};rw[cF k4,ak k4];by_cases k5:v.kind=8;{rw[cT k5,ar k5,s0,rm];rfl};rw[cF k5,ak k5];by_cases k6:v.kind=10;{rw[cT k6,ar k6];rfl};rw[cF k6,ak k6];by_cases k7:v.kind=255;{rw[cT k7,ar k7,bA i1,sZ]};rw[cF k7,ak k7];by_cases k8:v.kind=127;{rw[cT k8,ar k8,bA i1,yU]};rw[cF k8,ak k8];show cond (Cn.tH v).2 _ _=Bm [TV.ag (eV.cells (if(Cn.tH v).2=Qf then(Cn.tH v).1 else Cn.wC v))];cases(Cn.tH v).2 with
 |true=>rw[aj,ar rfl]
 |false=>rw[ae,ak (by simp)];exact bA hp.1
def afU(v:Val)(hp:(nP (bB.bC (bB.of [] v)<=1099511627776))=Qf):arq v=Bm [.ag (eV.cells (Cn.pB v)),.ag [.i .i64 (Cn.jO v).2,.i .i64 0,.sl .is (Cn.jO v).1]]:=by have hb:=ao hp;have hk:bB.bD v.kids+1<=bB.bC (bB.of [] v):=by{simp only[bB.of,bB.bC];omega};apply arp;intro v1 h1 v2 h2 v3 h3 v4 h4 v5 h5;rw[bA hp];unfold Cn.pB;by_cases c:(Tree.gw (bB.of [] v) []).2=0;{rw[h2,aa c,aF,ae];by_cases k:v.kind=3;{have e:Cn.jO v=([],0):=by{unfold Cn.jO;rw[ak (by simp[c]),ar k]};rw[aa k,aF,ae,j5,e,ar rfl,h3,h4,h5];rfl};{have e:Cn.jO v=([],5):=by{unfold Cn.jO;rw[ak (by simp[c]),ak k]};rw[ab k,aH,aj,e,ak (by decide)];rfl}};{have e:Cn.jO v=Tree.gw (bB.of [] v) []:=by{unfold Cn.jO;rw[ar c]};rw[h2,ab c,aH,aj,e,ak c,h1];rfl}
def aeR(s:bE)(hp:(nP (s.length<=1099511627776))=Qf):aoV s=Bm [.b (fJ.whole s)]:=by rw[aoU,bA (sL (ao hp)),bA hp]
theorem QB:∀(l:bE)(c:UInt8),(l=[]\/Lib.indexByte l c<(l.length:Int))/\-1<=Lib.indexByte l c
 |[],c=>⟨.inl rfl,by show(-1:Int)<=-1;omega⟩
 |d::r,c=>by obtain⟨h1,h2⟩:=QB r c;rw[yL];refine⟨.inr ?_,?_⟩;{split;{simp only[av];omega};{split;{simp only[av];omega};{rename_i h;rcases h1 with rfl|h1;{exact(h (by rfl)).elim};{simp only[av];omega}}}};{split;{omega};{split<;>omega}}
def HZ(c:UInt8):(Cn.NP c).length<=6:=by unfold Cn.NP;split;{simp};split;{rw[af,mP];simp};{simp}
theorem EB:∀s:bE,(s.flatMap Cn.NP).length<=6*s.length
 |[]=>by simp
 |c::r=>by have:=EB r;have:=HZ c;simp only[List.flatMap_cons,af,av];omega
def qE(s:bE):(Cn.mK s).length<=6*s.length+2:=by
 unfold Cn.mK;cases fJ.whole s with
 |false=>simp
 |true=>have:=EB s;simp only[aj,Cn.quote,av,af,ay];omega
theorem akD(s:bE)(hs:s.length<=1000000000000):∀(m i:Nat)(b:bE),i+m=s.length->b.length+6*m<=7000000000000->
  acP s (s.length:Int) (i:Int) b=Bm [.s (b++((s.drop i).flatMap Cn.NP++[34])),.b Qf]
 |0,i,b,hi,hb=>by apply akE;intro v1 h1 v2 h2 v3 h3 v4 h4 v5 h5 v6 h6 v7 h7;rw[cF,bA (dD (by rw[h7];simp;omega) (by rw[h7];simp;omega)),h7,aD (by omega)];rfl
 |m+1,i,b,hi,hb=>by
  apply akE;intro v1 h1 v2 h2 v3 h3 v4 h4 v5 h5 v6 h6 v7 h7;rw[aq]at h1;have Uo:=QB [34,92,8,12,10,13,9] v1;rw[<-h2]at Uo;have Uo:=Uo.1.resolve_left (by simp);have next:∀e:bE,e=Cn.NP v1->abi s (s.length:Int) (i:Int) (b++e)=Bm [.s (b++((s.drop i).flatMap Cn.NP++[34])),.b Qf]:=λe he=>by apply axe;intro w1 g1;have e1:w1=((i+1:Nat):Int):=by{rw[g1,iw];omega};have hl:=HZ v1;rw[e1,akD s hs m (i+1) (b++e) (by omega) (by rw[he,af];omega),Ua (l:=s) (i:=i) (by omega) (0:UInt8),<-h1,he,List.flatMap_cons];simp only[aB]
  rw[cT,ll];by_cases c:(0:Int)<=v2
  ·rw[cT c,bA (ez c (by simp at Uo⊢;omega)),bA (dD (by rw[h4];simp;omega) (by rw[h4];simp;omega))];refine next _ ?_
   unfold Cn.NP;rw[<-h2,ar c,h4,h3];rfl
  ·rw[cF c];by_cases c2:v1<32
   ·rw[cT c2,bA (dD (by simp;omega) (by simp;omega)),bA (aa (by simp)),bA (dD (by rw[h5,h6,mP];simp;omega) (by rw[h5,h6,mP];simp;omega)),h5,aB];refine next _ ?_
    unfold Cn.NP;rw[<-h2,ak c,ar c2,h6]
   ·rw[cF c2,bA (dD (by simp;omega) (by simp;omega))];refine next _ ?_
    unfold Cn.NP;rw[<-h2,ak c,ak c2]
def aii(s:bE)(hp:(nP (s.length<=1000000000000))=Qf):axg s=Bm [.s (Cn.mK s),.b (fJ.whole s)]:=by
 have hs:=ao hp;apply axf;intro v1 h1;rw[j5];unfold Cn.mK;cases fJ.whole s with
 |false=>rfl
 |true=>rw[aF,ae,aj,h1];exact akD s hs s.length 0 [34] (by omega) (by simp;omega)
def agP(b s:bE)(hp:(nP (b.length+6*s.length<=5000000000000))=Qf):atk b s=Bm [.sl .bs (b++Cn.mK s)]:=by have h:=ao hp;have:=qE s;rw[atj,j5,UD]
def agm(j:eV)(hp:(nP (12*eV.bC j<=1000000000000))=Qf):asb j=Bm [.s (Cn.oH j),.i .i64 (Cn.pS j)]:=by have h:=ao hp;apply asa;intro v1 h1;rw[j5,bA (aa (by simp;omega)),h1,bh];unfold Cn.oH;by_cases c:Cn.pS j=0;{rw[aa c,aF,ae,aj,c]};{rw[ab c,aH,aj,ae]}
def Ht(f:Mem):eV.bC f.val<=Mem.bC f:=by cases f;simp only[eV.bC,Mem.of,Mem.val,Mem.kind,Mem.text,Mem.kids,Mem.bC,ay];omega
def Ln{l:List Mem}{i:Nat}(h:i<l.length)(d:Mem):Mem.bC (l.getD i d)<=Mem.bD l:=by
 induction l generalizing i with
 |nil=>simp at h
 |cons f r ih=>
  cases i with
  |zero=>simp[Mem.bD]
  |succ i=>have:=ih (i:=i) (by simpa using h);simp only[List.getD_cons_succ,Mem.bD];omega
def O2:∀f:Mem,1<=Mem.bC f
 |.mk _ _ _ _=>by simp only[Mem.bC];omega
theorem uF:∀l:List Mem,l.length<=Mem.bD l
 |[]=>by simp[Mem.bD]
 |f::r=>by have:=uF r;have:=O2 f;simp only[Mem.bD,av];omega
def uK(j:eV):eV.bC j=1+j.text.length+Mem.bD j.kids:=by simp only[eV.bC,Mem.of,Mem.bC,ay]
def DJ(f:Mem):f.name.length+eV.bC f.val=Mem.bC f:=by cases f;simp only[eV.bC,Mem.of,Mem.val,Mem.name,Mem.kind,Mem.text,Mem.kids,Mem.bC,ay];omega
theorem M5(f:Mem):Cn.JU f=Cn.pS f.val:=by cases f;simp only[Cn.pS,Mem.of,Mem.val,Mem.kind,Mem.text,Mem.kids,Cn.JU]
theorem akX(n:Nat)(l:List Mem)(hb:Mem.bD l<=1099511627776)(hn:Mem.bD l<n):∀(m i:Nat),i+m=l.length->ada n l (l.length:Int) (i:Int)=Bm [.i .i64 (Cn.Be (l.drop i))]
 |0,i,hi=>by apply akY;intro v1 h1 v2 h2 v3 h3;rw[cF,aD (by omega)];simp[Cn.Be]
 |m+1,i,hi=>by
  have hlen:=uF l;apply akY;intro v1 h1 v2 h2 v3 h3;rw[aq]at h1;have hf:=Ln (l:=l) (i:=i) (by omega) (eu.dH .ml);rw[<-h1]at hf;have hv:=Ht v1;have ZG:=DJ v1;have e3:v3=((i+1:Nat):Int):=by{rw[h3,iw];omega};have cc:((nP (eV.bC (Mem.val v1)<=1099511627776))&&nP ((eV.bC (Mem.val v1))<n))=Qf:=by{rw[ah];exact⟨dT,dT⟩};rw[cT,ll,j5,bA cc,e3,akX n l hb hn m (i+1) (by omega),Ua (l:=l) (i:=i) (by omega) (eu.dH .ml),<-h1,h2];simp only[Cn.Be];rw[M5];cases hw:fJ.whole v1.name with
  |false=>rw[ar rfl];rfl
  |true=>rw[ak (by simp),aF,ae];by_cases c:Cn.pS v1.val=0;{rw[aa c,aF,ae,ak (by simp[c])]};{rw[ab c,aH,aj,ar c]}
theorem akZ(n:Nat)(j:eV)(hb:eV.bC j<=1099511627776)(hn:eV.bC j<n+1):∀(m i:Nat),i+m=j.kids.length->
  adb n j.kids (j.kids.length:Int) (i:Int) j=Bm [.i .i64 (if j.kind=6/\((j.kids.drop i).any λm=>!decide (m.name=[]))=Qf then 1 else if j.kind=4/\(Nr.kA j.text=0\/300<j.text.length)then 10 else if j.kind=5/\fJ.whole j.text=Qg then 4 else Cn.Be j.kids)]
 |0,i,hi=>by
  have hk:=uK j;apply ak0;intro v1 h1 v2 h2 v3 h3 v4 h4 v5 h5 v6 h6 v7 h7 v8 h8 v9 h9 v10 kv;have ct:nP (j.text.length<=1099511627776)=Qf:=dT;have ca:∀a:Bool,(!a||(a&&Qf))=Qf:=by{decide};have c8:(!(nP (j.kind=4))||((nP (j.kind=4))&&((nP (Nr.kA j.text=0))||v4)))=Qf:=by{rw[h4];cases nP (j.kind=4)<;>cases nP (Nr.kA j.text=0)<;>rfl};have e7:v7=nP (j.kind=4/\(Nr.kA j.text=0\/300<j.text.length)):=by{have e5:nP ((300:Int)<v5)=nP (300<j.text.length):=aU.2 (by omega);rw[h7,h6,e5,Bool.decide_and,Bool.decide_or];cases nP (j.kind=4)<;>cases nP (Nr.kA j.text=0)<;>rfl};have e9:v9=nP (j.kind=5/\fJ.whole j.text=Qg):=by{rw[h9,h8,Bool.decide_and];cases nP (j.kind=5)<;>cases fJ.whole j.text<;>rfl};rw[ab (show¬((i:Int)<j.kids.length) by omega),ae,ct,mV,bA (ca _),mV,mV,mV,mV,mV,bA c8,mV,e7,
   ak (by rw[aD (by omega)];simp)]
  by_cases k1:j.kind=4/\(Nr.kA j.text=0\/300<j.text.length);{rw[cT k1,ar k1]};rw[cF k1,ak k1,mV,bA (ca _),mV,mV,e9];by_cases k2:j.kind=5/\fJ.whole j.text=Qg;{rw[cT k2,ar k2]};rw[cF k2,ak k2,kv];exact akX n j.kids (by omega) (by omega) j.kids.length 0 (by omega)
 |m+1,i,hi=>by have hk:=uK j;have hlen:=uF j.kids;have ih:=akZ n j hb hn m (i+1) (by omega);apply ak0;intro v1 h1 v2 h2 v3 h3 v4 h4 v5 h5 v6 h6 v7 h7 v8 h8 v9 h9 v10 kv;rw[aq]at h1;have e3:v3=((i+1:Nat):Int):=by{rw[h3,iw];omega};rw[aa (show(i:Int)<j.kids.length by omega),aj,ll,mV,mV,mV,e3,ih,Ua (l:=j.kids) (i:=i) (by omega) (eu.dH .ml),<-h1,List.any_cons,h2];by_cases k:j.kind=6;{rw[cT k];by_cases k2:v1.name=[];{rw[aa k2,aF,ae,Bool.false_or]};{rw[ab k2,aH,aj,Bool.true_or,ar ⟨k,rfl⟩]}};{rw[cF k,ae];simp only[k,false_and,if_false]}
def aiD(n:Nat)(j:eV)(hp:((nP (eV.bC j<=1099511627776))&&nP ((eV.bC j)<n+1))=Qf):ayi n j=Bm [.i .i64 (Cn.pS j)]:=by rw[ah]at hp;have hb:=ao hp.1;have hn:=ao hp.2;apply ayh;intro v1 h1 v2 h2 v3 h3 v4 h4 v5 h5 v6 h6;have e1:v1=nP (j.kind<1\/7<j.kind):=by{rw[h1,Bool.decide_or];cases nP (j.kind<1)<;>rfl};have e4:v4=nP (j.kids≠[]/\j.kind≠6/\j.kind≠7):=by{have:nP ((0:Int)<v2)=nP (j.kids≠[]):=aU.2 (by rw[h2];exact⟨λh e=>by rw[e]at h;exact absurd h (by simp),λh=>by have:=List.length_pos_iff.2 h;omega⟩);rw[h4,h3,this,Bool.decide_and,Bool.decide_and];simp only[ne_eq,decide_not];cases nP (j.kids=[])<;>cases nP (j.kind=6)<;>rfl};have e6:v6=nP (j.text≠[]/\j.kind≠4/\j.kind≠5):=by{rw[h6,h5,Bool.decide_and,Bool.decide_and];simp only[ne_eq,decide_not];cases nP (j.text=[])<;>cases nP (j.kind=4)<;>rfl};have key:=akZ n j hb hn j.kids.length 0 (by omega);simp only[Cn.pS,Mem.of,Cn.JU];rw[mV,mV,TC,e1];by_cases k1:j.kind<1\/7<j.kind;{rw[cT k1,ar k1]};rw[cF k1,ak k1,mV,mV,mV,mV,mV,mV,e4];by_cases k2:j.kids≠[]/\j.kind≠6/\j.kind≠7;{rw[cT k2,ar k2]};rw[cF k2,ak k2,mV,mV,mV,mV,mV,mV,e6];by_cases k3:j.text≠[]/\j.kind≠4/\j.kind≠5;{rw[cT k3,ar k3]};rw[cF k3,ak k3,h2];exact key
mutual
theorem yA:∀m:Mem,(Cn.yB m).length+4+12*m.name.length<=12*Mem.bC m
 |.mk n k t ks=>by
  have h:=AF ks (nP (k=7)) Qf
  have hq:=qE t
  simp only[Cn.yB,Mem.bC,Mem.name]
  split
  ·simp;omega
  split
  ·simp;omega
  split
  ·simp;omega
  split
  ·omega
  split
  ·omega
  ·simp only[av,af,ay];omega
theorem AF:∀(l:List Mem)(o f:Bool),(Cn.rY o f l).length<=12*Mem.bD l
 |[],o,f=>by simp[Cn.rY]
 |m::r,o,f=>by
  have h1:=yA m
  have h2:=AF r o Qg
  have hq:=qE m.name
  simp only[Cn.rY,Mem.bD,af]
  cases f<;>cases o<;>simp<;>omega
end
theorem DW(f:Mem):Cn.yB f=Cn.yC f.val:=by cases f;simp only[Cn.yC,Mem.of,Mem.val,Mem.kind,Mem.text,Mem.kids,Cn.yB]
theorem akU(n:Nat)(c:UInt8)(j:eV)(hn:eV.bC j<n+1):∀(m i:Nat)(b:bE),i+m=j.kids.length->b.length+12*Mem.bD (j.kids.drop i)+8<=4000000000000->Mem.bD j.kids<=1000000000000->
  ac5 n c j.kids (j.kids.length:Int) (i:Int) j b=Bm [.sl .bs (b++(Cn.rY (nP (j.kind=7)) (nP (i=0)) (j.kids.drop i)++[c]))]
 |0,i,b,hi,hb,hq=>by apply akV;intro v1 h1 v2 h2;rw[ab (show¬((i:Int)<j.kids.length) by omega),ae,bA (dD (by simp;omega) (by simp;omega)),aD (by omega)];simp[Cn.rY]
 |m+1,i,b,hi,hb,hq=>by have hk:=uK j;have hlen:=uF j.kids;apply akV;intro v1 h1 v2 h2;rw[aq]at h1;have hf:=Ln (l:=j.kids) (i:=i) (by omega) (eu.dH .ml);rw[<-h1]at hf;have hd:=Ua (l:=j.kids) (i:=i) (by omega) (eu.dH .ml);rw[<-h1]at hd;have hv:=DJ v1;have hl:=yA v1;have hqs:=qE v1.name;rw[hd]at hb⊢;simp only[Mem.bD]at hb;have last:∀x:bE,x.length<=b.length+6*v1.name.length+4->ac6 n c j.kids (j.kids.length:Int) (i:Int) j v1 x=Bm [.sl .bs (x++(Cn.yB v1++(Cn.rY (nP (j.kind=7)) Qg (j.kids.drop (i+1))++[c])))]:=λx hx=>by{apply ayb;intro w1 g1 w2 g2;have e2:w2=((i+1:Nat):Int):=by{rw[g2,iw];omega};have cc:((nP (x.length+12*eV.bC (Mem.val v1)<=4000000000000))&&nP ((eV.bC (Mem.val v1))<n))=Qf:=by{rw[ah];exact⟨dT,dT⟩};rw[bA cc,e2,g1,<-DW,akU n c j hn m (i+1) _ (by omega) (by rw[af];omega) hq,show nP (i+1=0)=Qg from dF,aB]};have sU:∀x:bE,x.length<=b.length+1->ac7 n c j.kids (j.kids.length:Int) (i:Int) j v1 x=Bm [.sl .bs (x++(cond (nP (j.kind=7)) (Cn.mK v1.name++[58]) []++(Cn.yB v1++(Cn.rY (nP (j.kind=7)) Qg (j.kids.drop (i+1))++[c]))))]:=λx hx=>by{apply ax6;intro w1 g1 w2 g2;by_cases k:j.kind=7;{rw[aa k,aj,aj,j5,bA (dD (by rw[g1,g2];simp;omega) (by rw[g1,g2];simp;omega)),last _ (by rw[g1,g2];simp;omega),g1,g2,aa k];simp only[aB]};{rw[ab k,ae,ae,last x (by omega),ab k];rfl}};rw[aa (show(i:Int)<j.kids.length by omega),aj,ll];simp only[Cn.rY];by_cases h0:i=0;{rw[cF,sU b (by omega),aa h0,aj,bh];simp only[aB]};{rw[cT,bA (dD (by rw[h2];simp;omega) (by rw[h2];simp;omega)),sU _ (by rw[h2];simp),ab h0,ae,h2];simp only[aB]}
def aiA(n:Nat)(b:bE)(j:eV)(hp:((nP (b.length+12*eV.bC j<=4000000000000))&&nP ((eV.bC j)<n+1))=Qf):aya n b j=Bm [.sl .bs (b++Cn.yC j)]:=by rw[ah]at hp;have hb:=ao hp.1;have hn:=ao hp.2;have hk:=uK j;apply ax9;intro v1 h1 v2 h2 v3 h3 v4 h4;simp only[Cn.yC,Mem.of,Cn.yB];by_cases k1:j.kind=1;{rw[aa k1,aj,ar k1,bA (dD (by simp;omega) (by simp;omega)),h1]};rw[ab k1,ae,ak k1];by_cases k2:j.kind=2;{rw[aa k2,aj,ar k2,bA (dD (by simp;omega) (by simp;omega)),h2]};rw[ab k2,ae,ak k2];by_cases k3:j.kind=3;{rw[aa k3,aj,ar k3,bA (dD (by simp;omega) (by simp;omega)),h3]};rw[ab k3,ae,ak k3];by_cases k4:j.kind=4;{rw[aa k4,aj,ar k4,UD]};rw[ab k4,ae,ak k4];by_cases k5:j.kind=5;{rw[aa k5,aj,ar k5,j5,h4]};rw[ab k5,ae,ak k5];have go:∀x y:UInt8,ac8 n x y j b=Bm [.sl .bs (b++x::(Cn.rY (nP (j.kind=7)) Qf j.kids++[y]))]:=λx y=>by{apply ax8;intro w1 g1;rw[bA (dD (by simp;omega) (by simp;omega)),g1];have:=akU n y j hn j.kids.length 0 (b++[x]) (by omega) (by rw[aX];simp;omega) (by omega);rw[aX,aa (rfl:0=0),aB]at this;exact this};by_cases k6:j.kind=7;{rw[aa k6,aj,aj,aj,go,aa k6]};{rw[ab k6,ae,ae,ae,go,ab k6]}
theorem gI(n:bE)(j:eV):eV.bC (Cn.one n j)=1+n.length+eV.bC j:=by simp only[eV.bC,Cn.one,Mem.of,Mem.bC,Mem.bD,ay];omega
def mG(n m:bE)(j k:eV):eV.bC (Cn.two n j m k)=1+n.length+m.length+eV.bC j+eV.bC k:=by simp only[eV.bC,Cn.two,Mem.of,Mem.bC,Mem.bD,ay];omega
theorem jc(s:bE):eV.bC (Cn.str s)=1+s.length:=by simp only[eV.bC,Cn.str,Mem.of,Mem.bC,Mem.bD,ay];omega
def oU(v:Int)(h:Nr.i64 v=Qf):(Nr.itoa v).length<=21:=by have h:=ao h;rw[Nr.pC];have:=Nr.jT 20 v.natAbs (by rw[t20];omega) (by omega);split;{simp only[av];omega};{omega}
def DG(v:Int)(h:Nr.i64 v=Qf):eV.bC (Cn.num v)<=22:=by have:=oU v h;simp only[eV.bC,Cn.num,Mem.of,Mem.bC,Mem.bD,ay];omega
def JI(h l:UInt64):(Cn.y9 h l).length<=20001:=by
 have hx:=vt h l;have hc:=xT h l;have hd:=Nr.jT 34 _ (by rw[t34];exact hc) (by omega);have hl:=A7 (d:=Nr.dec (Cn.split h l).2.2.1.val) (x:=(Cn.split h l).2.2.2) (by omega) (by omega) (by omega);unfold Cn.y9;simp only;split;{simp}
 ·cases(Cn.split h l).2.1 with
  |true=>rw[aj,av];split<;>simp<;>omega
  |false=>rw[ae];split<;>simp<;>omega
def IV(v:Val):eV.bC (Cn.tH v).1<=30000:=by have h1:=lR v.bits;have h2:=lR v.high;have h3:=lR v.low;have h4:=Sh.ui v.bits;have h5:=JI v.high v.low;have i64:∀b,(Nr.itoa (Cn.i64 b)).length<=21:=λb=>oU _ (sd _);have i32:∀b,(Nr.itoa (Cn.i32 b)).length<=21:=λb=>oU _ (sd _);have n64:∀b,eV.bC (Cn.num (Cn.i64 b))<=22:=λb=>DG _ (sd _);have a1:=i64 v.bits;have a2:=i32 v.bits;have a3:=n64 (dc v.bits 32);have a4:=n64 (v.bits&&&4294967295);unfold Cn.tH;split;{split<;>simp only[gI,jc,av,ay]<;>omega};split;{simp only[gI,jc,av,ay];omega};split;{simp only[gI,jc,av,ay];omega};split;{simp only[gI,jc,av,ay];omega};split;{simp only[gI,mG,av,ay];omega};split;{split<;>simp only[gI,jc,av,ay,af]<;>omega};{decide}
def FD(v:Val):eV.bC (Cn.wC v)<=100+v.text.length+v.more.length+2*v.bytes.length:=by have h1:=EY v.bytes;unfold Cn.wC;split;{simp only[gI,mG,jc,mP,av,ay];omega};split;{simp only[gI,mG,jc,mP,av,ay];omega};split;{simp only[gI,mG,jc,mP,av,ay];omega};split;{simp only[gI,mG,jc,mP,av,ay];omega};split;{simp only[gI,mG,jc,mP,av,ay];omega};split;{simp only[gI,mG,jc,mP,av,ay];omega};{rw[jc];omega}
def yy(v:Val):eV.bC (Cn.AD v)<=30000+v.text.length+v.more.length+2*v.bytes.length:=by have h1:=IV v;have h2:=FD v;have h3:=DG 1 (aa (by decide));have k:∀x:Int,eV.bC ⟨x,[],[]⟩=1:=λx=>by{simp only[eV.bC,Mem.of,Mem.bC,Mem.bD,ay]};unfold Cn.AD;split;{rw[gI,k];simp only[av,ay];omega};split;{rw[k];omega};split;{rw[k];omega};split;{rw[gI];simp only[av,ay];omega};split;{rw[gI];simp only[av,ay];omega};split;{omega};{omega}
theorem rN:∀l:List Mem,Mem.bD (l.map Cn.rO)<=Mem.bD l
 |[]=>by simp
 |m::r=>by have:=rN r;have h:=Ht m;have e:Mem.bC (Cn.rO m)=eV.bC m.val:=rfl;simp only[bc,Mem.bD,e];omega
mutual
theorem JD:∀f:bB,eV.bC (Cn.vU f)+10*f.name.length<=40000*bB.bC f
 |.mk n k b h l t m s y ks=>by
  have hk:=tL ks
  have hn:=rN (Cn.lj ks)
  have hl:=yy ⟨k,b,h,l,t,m,s,y,ks⟩
  have row:∀(x:Int)(ms:List Mem),eV.bC ⟨x,[],ms⟩=1+Mem.bD ms:=fun x ms=>by simp only[eV.bC,Mem.of,Mem.bC,ay]
  simp only[Cn.vU,bB.bC,bB.name]
  split
  ·cases Cn.o7 ks<;>simp only[aj,ae,gI,row,av,ay]<;>omega
  split
  ·cases Tree.regular ks<;>simp only[aj,ae,gI,row,av,ay]<;>omega
  split
  ·simp only[mG,row,jc,av,ay];omega
  ·simp only at hl;omega
theorem tL:∀l:List bB,Mem.bD (Cn.lj l)<=40000*bB.bD l
 |[]=>by simp[Cn.lj,Mem.bD]
 |f::r=>by
  have h1:=JD f
  have h2:=tL r
  have e:Mem.bC (Mem.of f.name (Cn.vU f))=f.name.length+eV.bC (Cn.vU f):=by
   simp only[eV.bC,Mem.of,Mem.bC,ay];omega
  simp only[Cn.lj,Mem.bD,bB.bD,e];omega
end
def yI(v:Val):eV.bC (Cn.pB v)<=1+40000*bB.bC (bB.of [] v):=by have h:=tL v.kids;have hk:bB.bD v.kids+1<=bB.bC (bB.of [] v):=by{simp only[bB.of,bB.bC];omega};have row:∀(x:Int)(ms:List Mem),eV.bC ⟨x,[],ms⟩=1+Mem.bD ms:=λx ms=>by{simp only[eV.bC,Mem.of,Mem.bC,ay]};unfold Cn.pB Cn.tV;split;{rw[row];omega};{rw[row];simp only[Mem.bD];omega}
def YZ(a:Bool):(a||!a)=Qf:=by cases a<;>rfl
def rz3(a:Bool):(!a||(a&&a))=Qf:=by cases a<;>rfl
theorem Ve(a b:Bool):cond a Qf b=(a||b):=by cases a<;>rfl
def afg(a b:List UInt8):apT a b=Bm [.b (nP (a=b))]:=apS a b
def ag4(a:List UInt8)(hp:dU a.length 1=Qf):atU a=Bm [.sl .bs a]:=by rw[atT];exact tX (by simpa using hp) λh=>by rw[List.isEmpty_iff.1 h];rfl
def afh(b:UInt64):apW b=Bm [.i .i64 (Rl.order b)]:=by apply apV;intro v1 h1 v2 h2 v3 h3;have hb:=b.toNat_lt;have hm:Sh.mX b<9223372036854775808:=Nat.mod_lt _ (by decide);have e2:v2=(Sh.mX b:Int):=by{rw[h2,h1,zr,iw]};have e3:v3.toNat=b.toNat/9223372036854775808:=by{rw[h3,iX];rfl};unfold Rl.order;rw[(Sh.sy b).2];by_cases c:9223372036854775808<=b.toNat;{have:v3=1:=aY.1 (by rw[e3];show _=1;omega);rw[cT this,ar (aa c),e2,iw,Int.zero_sub]};{have:v3≠1:=λe=>by{rw[e]at e3;have:(1:UInt64).toNat=1:=rfl;omega};rw[cF this,ak (by simp only[aC];exact c),e2]}
def aeX(a b:UInt64):apb a b=Bm [.i .i64 (Rl.EI a b).1,.b (Rl.EI a b).2]:=by apply apa;intro v1 h1;rw[mV,bA (YZ _),h1];unfold Rl.EI;by_cases c:(Nr.split a).1=4;{rw[aa c,aj,aj,ar (.inl c)]};by_cases d:(Nr.split b).1=4;{rw[ab c,aa d,ae,aj,ar (.inr d)]};rw[ab c,ab d,ae,ae,ak (by simp[c,d])];by_cases x:Rl.order a<Rl.order b;{rw[aa x,aj,ar x]};by_cases y:Rl.order b<Rl.order a;{rw[ab x,aa y,ae,aj,ak x,ar y]};{rw[ab x,ab y,ae,ae,ak x,ak y]}
def aeU(t:bE):ao1 t=Bm [.ag (eV.cells (eV.mk 4 t []))]:=ao0 t
def ae0(s:bE)(j:eV):apk s j=Bm [.ag (eV.cells (Cn.one s j))]:=by apply apj;intro v1 h1;rw[h1];rfl
def af7(a b:Val):arO a b=Bm [.b (Tree.sB a b)]:=by apply arN;intro v1 h1 v2 h2 v3 h3 v4 h4 v5 h5 v6 h6 v7 h7;simp only[cc1,rz3,bK];rw[h7,h6,h5,h4,h3,h2,h1];simp only[zq];rfl
def afz(a b:Val)(hp:(nP (bB.bC (bB.of [] a)<=100000000))=Qf):aqw a b=Bm [.sl .pD ((Rl.diff a b).getD []),.b (Rl.diff a b).isSome]:=by
 have hp:=ao hp;apply aqv;intro v1 h1 v2 h2;rw[bA (aa (by simp only[ay];omega)),h1,h2];unfold Rl.tU Rl.diff;cases Rl.od (bB.of [] a) (bB.of [] b) []with
 |none=>rfl
 |some l=>rfl
def afB(v:Val)(hp:(nP (bB.bC (bB.of [] v)<=10000000))=Qf):aqC v=Bm [.sl .pD ((Rl.diff v (Rl.jN v)).getD [])]:=by have hp:=ao hp;apply aqB;intro v1 h1 v2 h2;rw[j5,j5,h1]
def agi(b:UInt64):ar7 b=Bm [.s (Rl.number b).1,.b (Rl.number b).2]:=by apply ar6;intro v1 h1 v2 h2 v3 h3 v4 h4;rw[Rl.vI];unfold Rl.sC;by_cases c1:(Nr.split b).1=1;{rw[cT c1,ar c1]};by_cases c2:(Nr.split b).1=2;{have hm:Sh.mX b<9223372036854775808:=Nat.mod_lt _ (by decide);have hl:(Sh.text b).length<=1099511627776:=Nat.le_trans (Sh.ui b) (by decide);rw[ab c1,aa c2,aF,ae,ae,ak c1,ak (by simp[c2]),aa hl,Bool.and_true];simp only[cc1,YZ,bK];have ho:v2=if(Sh.mX b:Int)<4845873199050653696 then -1 else if(4845873199050653696:Int)<Sh.mX b then 1 else 0:=by{have e1:v1.toNat=Sh.mX b:=by{rw[h1,zr]};have m1:Sh.mX v1=Sh.mX b:=by{unfold Sh.mX at e1⊢;rw[e1];omega};have o1:Rl.order v1=Sh.mX b:=by{unfold Rl.order;rw[(Sh.sy v1).2,ak (by simp only[aC];omega),m1]};have o2:Rl.order 4845873199050653696=4845873199050653696:=by{unfold Rl.order;rw[(Sh.sy _).2,ak (by decide)];rfl};have k1:(Nr.split v1).1=2:=by{rw[(Sh.sy v1).1,m1,<-(Sh.sy b).1,c2]};have k2:(Nr.split 4845873199050653696).1=2:=by{rw[(Sh.sy _).1];rfl};rw[h2];unfold Rl.EI;rw[ak (by rw[k1,k2];decide),o1,o2]};rw[h4,Ve];congr 5;by_cases x:Sh.mX b<4845873199050653696;{rw[ho,pO,aa x];rfl};{rw[ho,nO,ab x];by_cases y:(4845873199050653696:Int)<Sh.mX b;{rw[ar y];rfl};{rw[ak y];rfl}}};{rw[ab c1,ab c2,aH,aj,ae,ak c1,ar c2]}
def ae8(y:Int)(hp:(nP (0<=y/\y<=100000))=Qf):apG y=Bm [.b (Rl.Jb y)]:=by have hp:=ao hp;apply apF;intro v1 h1 v2 h2 v3 h3;have t:∀d:Int,0<d->Int.tmod y d=y% d:=λd hd=>Int.tmod_eq_emod_of_nonneg hp.1;simp only[t 4 (by decide),t 100 (by decide),t 400 (by decide)]at*;rw[show(!decide ((4:Int)=0))=Qf by decide,show(!decide ((100:Int)=0))=Qf by decide,show(!decide ((400:Int)=0))=Qf by decide];rw[h3,h2,h1];unfold Rl.Jb;cases nP (y%4=0)<;>cases nP (y%100=0)<;>cases nP (y%400=0)<;>rfl
def ahx(y m:Int)(hp:(nP (0<=y/\y<=100000))=Qf):ave y m=Bm [.i .i64 (Rl.month y m)]:=by rw[avd];unfold Rl.month;by_cases c4:m=4;{rw[aa c4,aj,acn,aj,ar (.inl c4)]};by_cases c6:m=6;{rw[ab c4,ae,aa c6,aj,acn,aj,ar (.inr (.inl c6))]};by_cases c9:m=9;{rw[ab c4,ae,ab c6,ae,aa c9,aj,acn,aj,ar (.inr (.inr (.inl c9)))]};rw[ab c4,ae,ab c6,ae,ab c9,ae,acn];by_cases X8:m=11;{rw[aa X8,aj,ar (.inr (.inr (.inr X8)))]};rw[ab X8,ae,ak (by simp[c4,c6,c9,X8]),bA hp];by_cases c2:m=2;{rw[aa c2,aj,ar c2];cases Rl.Jb y<;>rfl};{rw[ab c2,ae,ak c2]}
def afj(y:Int)(hp:(nP (1<=y/\y<=100000))=Qf):ap2 y=Bm [.i .i64 (Rl.ahead y)]:=by have hp:=ao hp;apply ap1;intro v1 h1 v2 h2 v3 h3 v4 h4 v5 h5 v6 h6 v7 h7;rw[iw]at h1;have t:∀d:Int,Int.tdiv v1 d=v1/d:=λd=>Int.tdiv_eq_ediv_of_nonneg (by omega);rw[t,iw]at h3 h4 h6;rw[iw]at h2;rw[i64_in (v2+v3) (by omega),iw]at h5;rw[i64_in (v5+v6) (by omega),iw]at h7;rw[show(!decide ((4:Int)=0))=Qf by decide,show(!decide ((100:Int)=0))=Qf by decide,show(!decide ((400:Int)=0))=Qf by decide];simp only[bK];unfold Rl.ahead;rw[show v7=(y -1)*365+(y -1)/4 -(y -1)/100+(y -1)/400 -719162 by omega]
theorem ajt(x0:Int)(s:bE)(h0:0<=x0)(h:x0<=100):∀(m:Nat)(p:bE),p.length+s.length<=100->m=x0.toNat -(p.length+s.length)->abX x0 (p++s)=Bm [.s (List.replicate m 48++(p++s))]
 |0,p,hl,hm=>by rw[ajs,ab (by rw[af];omega),ae];rfl
 |m+1,p,hl,hm=>by
  rw[ajs,aa (by rw[af];omega),aj,bA (aa (by simp only[af,av,ay];omega)),<-aB,
   ajt x0 s h0 h m ([48]++p) (by simp;omega) (by simp;omega),List.replicate_succ']
  simp
def agI(n l:Int)(hp:(nP (0<=n/\n<=1000000/\0<=l/\l<=10))=Qf):as3 n l=Bm [.s (Rl.pad n l)]:=by have hp:=ao hp;have hn:Nr.i64 n=Qf:=dT;have hl:=oU n hn;rw[as2,bA hn];exact ajt l (Nr.itoa n) hp.2.2.1 (by omega) _ [] (by simp;omega) (by simp)
open Nr (Shape)
def H4{a b:Nat}(h:Nr.dec a=Nr.dec b):a=b:=by rw[<-(Nr.me a).2.1,h,(Nr.me b).2.1]
def ze(n:Nat):(Nr.dec n).headD 0≠45/\Nr.fu ((Nr.dec n).headD 0)=Qf:=by
 obtain⟨d1,_,d3,_⟩:=Nr.me n;cases e:Nr.dec n with
 |nil=>exact(d3 e).elim
 |cons c r=>rw[e,List.all_cons,ah]at d1;refine⟨λw=>?_,d1.1⟩;rw[List.headD_cons]at w;rw[w]at d1;exact absurd d1.1 (by decide)
def LP{a b:Int}(h:Nr.itoa a=Nr.itoa b):a=b:=by rw[Nr.pC,Nr.pC]at h;have ha:=(ze a.natAbs).1;have hb:=(ze b.natAbs).1;by_cases c:a<0<;>by_cases d:b<0;{rw[ar c,ar d]at h;have:=H4 (List.cons.inj h).2;omega};{rw[ar c,ak d]at h;rw[<-h]at hb;exact(hb rfl).elim};{rw[ak c,ar d]at h;rw[h]at ha;exact(ha rfl).elim};{rw[ak c,ak d]at h;have:=H4 h;omega}
def hi4(x:UInt8):(pj (x&&&3) 4).toNat=x.toNat%4*16:=by have h:(x&&&(3:UInt8)).toNat=x.toNat%4:=by{rw[UInt8.toNat_and,show(3:UInt8).toNat=2^2 -1 from rfl,Nat.and_two_pow_sub_one_eq_mod]};unfold pj;rw[h,UInt8.toNat_ofNat'];omega
theorem VN(x:UInt8):(pj (x&&&15) 2).toNat=x.toNat%16*4:=by have h:(x&&&(15:UInt8)).toNat=x.toNat%16:=by{rw[UInt8.toNat_and,show(15:UInt8).toNat=2^4 -1 from rfl,Nat.and_two_pow_sub_one_eq_mod]};unfold pj;rw[h,UInt8.toNat_ofNat'];omega
def q0(a:UInt8):(oF a 2).toNat=a.toNat/4:=RS a 2
end Go.Eng
namespace Go.Eng
open Go.IntWalk
def FY{v:Val}{n:bE}(h:Tree.qH v n=0):Tree.own v=0:=by unfold Tree.qH at h;by_cases c:Tree.own v=0;{exact c};{rw[ar c]at h;exact(c h).elim}
def tW{n:bE}{k:Int}{b h l:UInt64}{t m:bE}{s:Int}{y:bE}{ks:List bB}{p:List Int}(c:(Tree.gw (.mk n k b h l t m s y ks) p).2=0):Tree.own ⟨k,b,h,l,t,m,s,y,ks⟩=0/\(Tree.mf ks 0 p).2=0:=by rw[Tree.gw]at c;by_cases d:Tree.qH ⟨k,b,h,l,t,m,s,y,ks⟩ n=0;{rw[ak (by simp[d])]at c;exact⟨FY d,c⟩};{rw[ar d]at c;exact(d c).elim}
def zg{f:bB}{r:List bB}{i:Nat}{p:List Int}(c:(Tree.mf (f::r) i p).2=0):(Tree.gw f (p++[(i:Int)])).2=0/\(Tree.mf r (i+1) p).2=0:=by rw[Tree.mf]at c;by_cases d:(Tree.gw f (p++[(i:Int)])).2=0;{rw[ak (by simp[d])]at c;exact⟨d,c⟩};{rw[ar d]at c;exact(d c).elim}
namespace Rl
def Ho(n l:Int)(hn:Nr.i64 n=Qf)(hl:l<=10):(pad n l).length<=31:=by have:=oU n hn;unfold pad;rw[af,List.length_replicate];omega
def Aw(y m:Int):28<=month y m/\month y m<=31:=by unfold month;split;{omega};{split;{split<;>omega};{omega}}
def zu(y:Int):ahead (y+1)<=ahead y+366:=by unfold ahead;omega
def wR(d:Int)(h:0<=d):ahead (1970+d/366)<=d:=by unfold ahead;have h1:366*(d/366)<=d:=by{omega};generalize d/366=k at h1;by_cases c:k<=4;{by_cases c0:0<=k;{have:k=0\/k=1\/k=2\/k=3\/k=4:=by{omega};rcases this with rfl|rfl|rfl|rfl|rfl<;>omega};{omega}};{omega}
theorem CU (d : Int) (hd : d ≤ 2932896) : ∀ (n : Nat) (y : Int), ahead y ≤ d → y ≤ 9999 → 9999 - y ≤ n → ahead (ly d n y) ≤ d ∧ y ≤ ly d n y ∧ ly d n y ≤ 9999 ∧ d < ahead (ly d n y + 1)
  | 0, y, h, h1, h2 => by
    have : y = 9999 := by omega
    subst this
    exact ⟨h, by simp [ly], by simp [ly], by simp only [ly]; have : ahead (9999 + 1) = 2932897 := by decide
                                             omega⟩
  | n + 1, y, h, h1, h2 => by
    simp only [ly]
    by_cases c : ahead (y + 1) ≤ d
    · rw [ar c]
      have : y ≠ 9999 := fun e => by
        subst e
        have : ahead (9999 + 1) = 2932897 := by decide
        omega
      obtain ⟨a1, a2, a3, a4⟩ := CU d hd n (y + 1) c (by omega) (by omega)
      exact ⟨a1, by omega, a3, a4⟩
    · rw [ak c]; exact ⟨h, by omega, h1, by omega⟩
theorem H5(y:Int):∀(n:Nat)(d m:Int),0<=d->d<28*n->0<=(wg y n d m).1/\(wg y n d m).1<=31/\m<=(wg y n d m).2/\(wg y n d m).2<=m+n
 |0,d,m,h,h1=>by omega
 |n+1,d,m,h,h1=>by have hm:=Aw y m;simp only[wg];by_cases c:month y m<=d;{rw[ar c];obtain⟨a1,a2,a3,a4⟩:=H5 y n (d -month y m) (m+1) (by omega) (by omega);exact⟨a1,a2,by omega,by omega⟩};{rw[ak c];exact⟨h,by show d<=31;omega,by show m<=m;omega,by show m<=m+_;omega⟩}
def written(rest y:Int)(q:Int×Int):bE:=
 let s:=rest/1000
 let x:=pad y 4++[45]++pad q.2 2++[45]++pad (q.1+1) 2++[84]++pad (s/3600) 2++[58]++pad (s/60%60) 2++[58]++pad (s%60) 2
 cond (nP (rest%1000=0)) x (x++([46]++pad (rest%1000) 3))++[90]
end Rl
def axQ(r y d m:Int)(hr:0<=r/\r<86400000)(hy:0<=y/\y<=100000)(hd:0<=d/\d<=400)(hm:0<=m/\m<=100)(c:¬Rl.month y m<=d):abk r y d m=Bm [.s (Rl.written r y (d,m)),.b Qf]:=by apply akN;intro v1 h1 v2 h2 v3 h3 v4 h4 v5 h5 v6 h6 v7 h7 v8 h8 v9 h9 v10 kv v11 nK v12 mS jQ rm iW s0 jb sZ lU yU;rw[Int.tdiv_eq_ediv_of_nonneg hr.1,iw]at h3;rw[Int.tdiv_eq_ediv_of_nonneg (by omega),iw]at h8 kv;rw[iw]at h6;have t1:Int.tmod v10 60=r/1000/60%60:=by{rw[Int.tmod_eq_emod_of_nonneg (by omega),kv,h3]};have t2:Int.tmod v3 60=r/1000%60:=by{rw[Int.tmod_eq_emod_of_nonneg (by omega),h3]};have t3:Int.tmod r 1000=r%1000:=Int.tmod_eq_emod_of_nonneg (by omega);rw[t1]at nK⊢;rw[t2]at rm⊢;rw[t3]at sZ⊢;have p:∀n l:Int,0<=n/\n<=1000000/\l<=10->(Rl.pad n l).length<=31:=λn l h=>Rl.Ho n l dT h.2.2;have p1:=p y 4 (by omega);have p2:=p m 2 (by omega);have p3:=p v6 2 (by omega);have p4:=p v8 2 (by omega);have p5:=p (r/1000/60%60) 2 (by omega);have p6:=p (r/1000%60) 2 (by omega);have p7:=p (r%1000) 3 (by omega);rw[<-nK]at p5;rw[<-rm]at p6;rw[<-sZ]at p7;have l4:v4.length<=32:=by{rw[h4,af];simp only[aw];omega};have l5:v5.length<=63:=by{rw[h5,af];omega};have l7:v7.length<=95:=by{rw[h7];simp only[af,aw];omega};have l9:v9.length<=127:=by{rw[h9];simp only[af,aw];omega};have l12:v12.length<=159:=by{rw[mS];simp only[af,aw];omega};have l14:iW.length<=191:=by{rw[s0];simp only[af,aw];omega};have l16:lU.length<=223:=by{rw[yU];simp only[af,aw];omega};have z:∀k:Int,k≠0->(!decide (k=0))=Qf:=λk h=>by{rw[ab h];rfl};rw[bA (aa hy),cF c,z 1000 (by decide),z 3600 (by decide),z 60 (by decide)];simp only[bK,af,aw];have zV:iW=Rl.pad y 4++[45]++Rl.pad m 2++[45]++Rl.pad (d+1) 2++[84]++Rl.pad (r/1000/3600) 2++[58]++Rl.pad (r/1000/60%60) 2++[58]++Rl.pad (r/1000%60) 2:=by{rw[s0,rm,mS,nK,h9,h8,h7,h6,h5,h4,h3]};rw[j5,j5,j5,j5,j5,j5,j5,j5,j5,j5,j5,j5,j5,j5,j5,j5];unfold Rl.written;by_cases k:r%1000=0;{rw[aa k,aF,ae,akL,bA (aa (by simp only[aw];omega)),zV];rfl};{rw[ab k,aH,aj,akL,j5,j5,j5,bA (aa (by simp only[aw];omega)),yU,sZ,zV];rfl}
theorem akM(r y:Int)(hr:0<=r/\r<86400000)(hy:0<=y/\y<=100000):∀(n:Nat)(d m:Int),0<=d->d<28*n->d<=400->0<=m->m+n<=50->abk r y d m=Bm [.s (Rl.written r y (Rl.wg y n d m)),.b Qf]
 |0,d,m,h,h1,_,_,_=>by omega
 |n+1,d,m,h,h1,h2,h3,h4=>by have hm:=Rl.Aw y m;simp only[Rl.wg];by_cases c:Rl.month y m<=d;{rw[ar c];apply akN;intro v1 Kg v2 sY v3 _ v4 _ v5 _ v6 _ v7 _ v8 _ v9 _ v10 _ v11 _ v12 _ jQ _ iW _ jb _ lU _;rw[bA (aa hy),cT c,bA (aa hy),Kg,sY,iw,iw];exact akM r y hr hy n _ _ (by omega) (by omega) (by omega) (by omega) (by omega)};{rw[ak c];exact axQ r y d m hr hy ⟨h,by omega⟩ ⟨h3,by omega⟩ c}
def axO(d r:Int)(hr:0<=r/\r<86400000)(hd:0<=d/\d<=2932896):∀(n:Nat)(y:Int),1970<=y->Rl.ahead y<=d->y<=9999->9999 -y<=n->abl d r y=Bm [.s (Rl.written r (Rl.ly d n y) (Rl.wg (Rl.ly d n y) 20 (d -Rl.ahead (Rl.ly d n y)) 1)),.b Qf]:=by
 have stop:∀y:Int,1970<=y->y<=9999->Rl.ahead y<=d->¬Rl.ahead (y+1)<=d->abl d r y=Bm [.s (Rl.written r y (Rl.wg y 20 (d -Rl.ahead y) 1)),.b Qf]:=λy h0 h1 h2 c=>by{have hs:=Rl.zu y;have ha:-719162<=Rl.ahead y:=by{unfold Rl.ahead;omega};apply akO;intro v1 Kg v2 sY;rw[iw]at Kg sY;rw[Kg,j5,cF c,j5,sY];exact akM r y hr (by omega) 20 _ 1 (by omega) (by omega) (by omega) (by omega) (by omega)};intro n;induction n with
 |zero=>intro y h0 h1 h2 h3;refine stop y h0 h2 h1 λw=>?_;have:y=9999:=by{omega};subst this;have:Rl.ahead (9999+1)=2932897:=by{decide};omega
 |succ n ih=>intro y h0 h1 h2 h3;simp only[Rl.ly];by_cases c:Rl.ahead (y+1)<=d;{rw[ar c];have hy:y≠9999:=λe=>by{subst e;have:Rl.ahead (9999+1)=2932897:=by{decide};omega};apply akO;intro v1 Kg v2 sY;rw[iw]at Kg;rw[Kg,j5,cT c];exact ih (y+1) (by omega) c (by omega) (by omega)};{rw[ak c];exact stop y h0 h2 h1 c}
def aiu(t:Int)(hp:(Nr.i64 t)=Qf):axR t=Bm [.s (Rl.date t).1,.b (Rl.date t).2]:=by have hp:=ao hp;apply axP;intro v1 h1 v2 h2 v3 h3 v4 h4 v5 h5;rw[mV,bA (YZ _),h1,Ve,Rl.H6];unfold Rl.EJ;by_cases c:t<0\/253402300799999<t;{rw[ar c,show(nP (t<0)||nP (253402300799999<t))=Qf by rcases c with c|c<;>simp[c],aj]};{have c1:0<=t:=by{omega};rw[ak c,show(nP (t<0)||nP (253402300799999<t))=Qg by rw[dF,dF];rfl,ae];have z:∀k:Int,k≠0->(!decide (k=0))=Qf:=λk h=>by{rw[ab h];rfl};rw[z 86400000 (by decide),z 366 (by decide),bK,bK,bK];rw[Int.tdiv_eq_ediv_of_nonneg c1,iw]at h2;rw[Int.tmod_eq_emod_of_nonneg c1]at h3;rw[Int.tdiv_eq_ediv_of_nonneg (by omega),iw]at h4;rw[h4,iw]at h5;rw[h5,axO v2 v3 (by omega) (by omega) 100000 (1970+v2/366) (by omega) (Rl.wR v2 (by omega)) (by omega) (by omega),h2,h3];rfl}
theorem xI:Tree.gP [] Qf=Qf:=by decide
mutual
theorem Bf:∀(f:bB)(p q:List Int),(Tree.gw f p).2=0->(Tree.gw f q).2=0
 |.mk n k b h l t m s y ks,p,q,c=>by
  rw[Tree.gw]at c⊢
  by_cases d:Tree.qH ⟨k,b,h,l,t,m,s,y,ks⟩ n=0
  ·rw[ak (by simp[d])]at c⊢
   exact wo ks 0 p q c
  ·rw[ar d]at c;exact(d c).elim
theorem wo:∀(l:List bB)(i:Nat)(p q:List Int),(Tree.mf l i p).2=0->(Tree.mf l i q).2=0
 |[],_,_,_,_=>by simp[Tree.mf]
 |f::r,i,p,q,c=>by
  obtain⟨c1,c2⟩:=zg c
  have h1:=Bf f _ (q++[(i:Int)]) c1
  have h2:=wo r _ p q c2
  rw[Tree.mf,ak (by simp[h1])]
  exact h2
end
def M6(f:bB)(p q:List Int)(c:(Tree.gw f p).2=0):(Tree.gw (bB.of [] f.val) q).2=0:=by cases f;obtain⟨o,c2⟩:=tW c;simp only[bB.of,bB.val,bB.kind,bB.bits,bB.high,bB.low,bB.text,bB.more,bB.sub,bB.bytes,bB.kids];rw[Tree.gw];have:∀v:Val,Tree.own v=0->Tree.qH v []=0:=λv h=>by{unfold Tree.qH;rw[ak (by simp[h]),ak (by rw[xI];simp)]};rw[ak (by rw[this _ o];simp)];exact wo _ _ _ _ c2
theorem ER : ∀ {l : List bB} {i j : Nat} {p : List Int} {f : bB}, (Tree.mf l i p).2 = 0 → f = l.getD j (eu.dH .fl) → j < l.length → (Tree.gw (bB.of [] f.val) []).2 = 0
  | [], _, _, _, _, _, _, h => by simp at h
  | g :: r, i, j, p, f, c, e, h => by
    obtain ⟨c1, c2⟩ := zg c
    cases j with
    | zero => obtain rfl : f = g := by simpa using e
              exact M6 _ _ _ c1
    | succ j => exact ER (l := r) (i := i + 1) (j := j) c2 (by simpa using e) (by simpa using h)
theorem Mn(date:Int->bE×Bool)(f:bB):Rl.vT date (bB.of [] f.val)=Rl.vT date f:=by cases f;simp only[bB.of,bB.val,bB.kind,bB.bits,bB.high,bB.low,bB.text,bB.more,bB.sub,bB.bytes,bB.kids,Rl.vT]
theorem Ax(date:Int->bE×Bool):∀l:List bB,(Rl.lC date l).length=l.length
 |[]=>by simp[Rl.lC]
 |f::r=>by simp[Rl.lC,Ax date r]
theorem akb(n:Nat)(l:List bB)(hb:bB.bD l<=1000000000000)(hn:2*bB.bD l<n)(hc:(Tree.mf l 0 []).2=0)(x3:Int)(x4:bE)(x7:List Mem):∀(m i:Nat)(acc:List Mem),i+m=l.length->acc.length=i->
  acr n l (l.length:Int) (i:Int) x3 x4 7 [] x7 acc=Bm [.ag [.i .i64 7,.s [],.sl .ml (acc++Rl.lC Rl.date (l.drop i))]]
 |0,i,acc,hi,ha=>by apply akc;intro v1 h1 v2 h2 v3 h3 v4 h4;rw[cF,aD (by omega)];simp[Rl.lC]
 |m+1,i,acc,hi,ha=>by
  have hlen:=oZ l;apply akc;intro v1 h1 v2 h2 v3 h3 v4 h4;rw[aq]at h1;have hf:=Cm (l:=l) (i:=i) (by omega) (eu.dH .fl);rw[<-h1]at hf;have hv:=xu v1;have e4:v4=((i+1:Nat):Int):=by{rw[h4,iw];omega};have cB:((nP (bB.bC (bB.of [] (bB.val v1))<=1000000000000)&&nP ((Tree.gw (bB.of [] (bB.val v1)) []).2=0))&&nP ((2*bB.bC (bB.of [] (bB.val v1)))<n))=Qf:=by{rw[ah,ah];exact⟨⟨dT,aa (ER hc h1 (by omega))⟩,dT⟩};rw[cT,ll,bA cB,bA (dD (by rw[h3];simp;omega) (by rw[h3];simp;omega)),e4,
   akb n l hb hn hc x3 x4 x7 m (i+1) (acc++v3) (by omega) (by rw[h3];simp;omega),Ua (l:=l) (i:=i) (by omega) (eu.dH .fl),<-h1]
  have e3:v3=[Mem.of v1.name (Rl.vT Rl.date v1)]:=by{rw[h3,h2,Mn];rfl};rw[e3,aB];simp[Rl.lC]
def ahG(n:Nat)(l:List bB)(hp:((nP (bB.bD l<=1000000000000)&&nP ((Tree.mf l 0 []).2=0))&&nP ((2*bB.bD l+1)<n+1))=Qf):avF n l=Bm [.ag (eV.cells (Rl.uW Rl.date l))]:=by rw[ah,ah]at hp;have h1:=ao hp.1.1;have h2:=ao hp.1.2;have h3:=ao hp.2;rw[avE];have:=akb n l h1 (by omega) h2 0 [] [] l.length 0 [] (by omega) rfl;rw[aX,bh]at this;exact this
def JJ(l:List bB):cond (nP ((0:Int)<(l.length:Int))) (List.isPrefixOf [36] (l.getD 0 (eu.dH .fl)).name) Qg=Cn.o7 l:=by
 unfold Cn.o7;cases l with
 |nil=>rfl
 |cons f r=>
  rw[aa (by simp),aj];show List.isPrefixOf [36] f.name=nP (f.name.take 1=[36]);generalize f.name=s;cases s with
  |nil=>rfl
  |cons c t=>by_cases e:c=36;{subst e;simp[List.isPrefixOf]};{have e':¬(36:UInt8)=c:=λh=>e h.symm;simp[List.isPrefixOf,e,e']}
theorem akH(n:Nat)(x2:Int)(x3:bE)(x6:List Mem)(l:List Mem)(hl:l.length<=1099511627776):∀(m i:Nat)(acc:List Mem),i+m=l.length->acc=(l.take i).map Cn.rO++l.drop i->
  acV n (l.length:Int) (i:Int) x2 x3 6 [] x6 acc=Bm [.ag [.i .i64 6,.s [],.sl .ml (l.map Cn.rO)]]
 |0,i,acc,hi,ha=>by apply akI;intro v1 h1 v2 h2;rw[cF,ha,aD (by omega),List.take_of_length_le (by omega),aR]
 |m+1,i,acc,hi,ha=>by have V2:acc.length=l.length:=by{rw[ha];simp;omega};have pG:i<l.length:=by{omega};apply akI;intro v1 h1 v2 h2;rw[aq]at h1⊢;have e2:v2=((i+1:Nat):Int):=by{rw[h2,iw];omega};rw[cT,ll,j5,e2];refine akH n x2 x3 x6 l hl m (i+1) v1 (by omega) ?_;have eg:acc.getD i (eu.dH .ml)=l[i]:=by{rw[ha,ai,aW (by simp;omega)];simp only[bj,aJ,Nat.min_eq_left (Nat.le_of_lt pG),Nat.sub_self,List.getElem?_drop,Nat.add_zero];rw[au pG];rfl};rw[h1,eg,ha,List.set_append_right _ _ (by simp;omega)];simp only[bj,aJ,Nat.min_eq_left (Nat.le_of_lt pG),Nat.sub_self];rw[List.drop_eq_getElem_cons pG,List.set_cons_zero,List.take_succ_eq_append_getElem pG,List.map_append,aB];rfl
def axu(n:Nat)(v:Val)(hb:bB.bC (bB.of [] v)<=1000000000000)(hc:(Tree.gw (bB.of [] v) []).2=0)(x1:Int)(x2:bE)(x3:List Mem):aav n v x1 x2 x3=Bm [.ag (eV.cells (Cn.vU (bB.of [] v)))]:=by apply axt;intro v1 h1 v2 h2 v3 h3 v4 h4 v5 h5;have e1:v1=[bB.of [] v]:=h1;have eb:bB.bC (bB.of [] (Val.mk 3 0 0 0 [] [] 0 [] v1))=1+bB.bC (bB.of [] v):=by{rw[e1];simp only[bB.of,bB.bC,bB.bD,ay];omega};have ee:(Cn.jO (Val.mk 3 0 0 0 [] [] 0 [] v1)).2=0:=by{unfold Cn.jO;have:(Tree.gw (bB.of [] (Val.mk 3 0 0 0 [] [] 0 [] v1)) []).2=0:=by{show(Tree.gw (bB.mk [] 3 0 0 0 [] [] 0 [] v1) []).2=0;have o:Tree.own ⟨3,0,0,0,[],[],0,[],v1⟩=0:=by{rw[e1];generalize[bB.of [] v]=ks;unfold Tree.own;rw[ak (show¬Tree.name (3:Int)=[] by decide),ak,ak (show¬(Tree.gP [] (nP ((3:Int)=11))=Qg\/Tree.gP [] (nP ((3:Int)=11))=Qg) by decide)];simp[Tree.dV,Tree.sX]};rw[Tree.gw,ak (by unfold Tree.qH;rw[ak (by simp[o]),ak (by rw[xI];simp)];simp),e1,Tree.mf,ak (by rw[Bf _ _ _ hc];simp)];rfl};rw[ak (by simp[this])];rfl};rw[j5];have e2:v2=Cn.tV [bB.of [] v]:=by{rw[h2];unfold Cn.pB;rw[ar ee,e1]};have ek:v2.kids=[Mem.of [] (Cn.vU (bB.of [] v))]:=by{rw[e2];simp only[Cn.tV,Cn.lj];rfl};rw[ek]at h5;rw[ek,bA (ez (by omega) (by simp)),h5];rfl
def aip(n:Nat)(v:Val)(hp:((nP (bB.bC (bB.of [] v)<=1000000000000)&&nP ((Tree.gw (bB.of [] v) []).2=0))&&nP ((2*bB.bC (bB.of [] v))<n+1))=Qf):axw n v=Bm [.ag (eV.cells (Rl.vT Rl.date (bB.of [] v)))]:=by
 rw[ah,ah]at hp;have hb:=ao hp.1.1;have hc:=ao hp.1.2;have hn:=ao hp.2;have hk:bB.bD v.kids+1<=bB.bC (bB.of [] v):=by{simp only[bB.of,bB.bC];omega};have hlen:=oZ v.kids;have Fh:(Tree.mf v.kids 0 []).2=0:=(tW hc).2;apply axv;intro v1 h1 v2 h2 v3 h3 v4 h4 v5 h5 v6 h6 v7 h7 v8 h8 v9 h9 v10 kv v11 nK v12 mS jQ rm iW s0 jb sZ lU yU sQ Ei s9 Eh pn HS v20 Gr v21 S9 v22 Xz Ys h23 v24 h24 v25 h25 Yr h26 v27 h27;have i3:Nr.i64 v3=Qf:=by{rw[h3];exact sd _};have cA:((nP (bB.bD v.kids<=1000000000000)&&nP ((Tree.mf v.kids 0 []).2=0))&&nP ((2*bB.bD v.kids+1)<n))=Qf:=by{rw[ah,ah];exact⟨⟨dT,aa Fh⟩,dT⟩};have hd:(⟨jb,lU,iW⟩:eV)=Rl.uW Rl.date v.kids:=by{rw[s0,sZ,yU]};have zV:iW=Rl.lC Rl.date v.kids:=s0;have PQ:jb=7:=sZ;have Q3:lU=[]:=yU;have leaf:v.kind≠3->v.kind≠4->v.kind≠15->∀x1 x2 x3,aav n v x1 x2 x3=Bm [.ag (eV.cells (Cn.AD v))]:=λw1 w2 w3 x1 x2 x3=>by{rw[axu n v hb hc];simp only[bB.of,Cn.vU,ak w1,ak w2,ak w3]};simp only[bB.of,Rl.vT];by_cases W4:v.kind=16;{rw[cT W4,ar W4,bA (sd _),h2,h1];rfl};rw[cF W4,ak W4];by_cases W3:v.kind=18;{rw[cT W3,ar W3,bA i3,h4,h3];rfl};rw[cF W3,ak W3];by_cases k1:v.kind=1
 ·rw[cT k1,h6];cases c:(Rl.number v.bits).2 with
  |true=>rw[aj,ar ⟨k1,rfl⟩,h5]
  |false=>rw[ae,ak (by rintro⟨_,w⟩;cases w),ak (by rintro⟨w,_⟩;omega),nO,nO,nO];exact leaf (by omega) (by omega) (by omega) _ _ _
 rw[cF k1,ak (by rintro⟨w,_⟩;exact k1 w)];by_cases k9:v.kind=9
 ·rw[cT k9,bA i3,h9,h8,h7,h3];show cond (Rl.date (Cn.i64 v.bits)).2 _ _=_;cases c:(Rl.date (Cn.i64 v.bits)).2 with
  |true=>rw[aj,ar ⟨k9,rfl⟩];rfl
  |false=>rw[ae,ak (by rintro⟨_,w⟩;cases w),nO,nO,nO];exact leaf (by omega) (by omega) (by omega) _ _ _
 rw[cF k9,ak (by rintro⟨w,_⟩;exact k9 w)];by_cases k3:v.kind=3;{have EC:jQ=Cn.o7 v.kids:=by{rw[rm,mS,nK,kv];exact JJ v.kids};have ci:(!(nP ((0:Int)<v10))||((nP ((0:Int)<v10))&&(bH (0:Int) v.kids.length)))=Qf:=by{by_cases c:(0:Int)<v10;{rw[ez (by omega) (by omega)];cases nP ((0:Int)<v10)<;>rfl};{rw[ab c];rfl}};rw[cT k3,ar k3,mV,bA ci,mV,mV,mV,mV,bA cA,bA cA,EC,Ei,Eh,HS,hd,zV,PQ,Q3];cases Cn.o7 v.kids<;>rfl};rw[cF k3,ak k3];by_cases k4:v.kind=4
 ·rw[cT k4,ar k4,bA cA,j5,Gr,S9,Xz,h23,hd,zV,Q3];cases Tree.regular v.kids with
  |false=>rfl
  |true=>rw[aF,ae,aj];have:=akH n 0 [] [] (Rl.lC Rl.date v.kids) (by rw[Ax];omega) (Rl.lC Rl.date v.kids).length 0 (Rl.lC Rl.date v.kids) (by omega) (by simp);exact this
 rw[cF k4,ak k4];by_cases Vp:v.kind=15;{have e24:v24=[Mem.of [36,99,111,100,101] (Cn.str v.text)]:=h24;have e27:v27=[Mem.of [36,115,99,111,112,101] (Rl.uW Rl.date v.kids)]:=by{rw[h27,<-hd];rfl};rw[cT Vp,ar Vp,bA cA,e24,e27,bA (dD (by simp) (by simp)),h25,h26];rfl};rw[cF Vp,ak Vp];exact leaf k3 k4 Vp _ _ _
def afA(v:Val)(hp:(nP (bB.bC (bB.of [] v)<=1000000000000))=Qf):aqz v=Bm [.ag (eV.cells (Rl.ra Rl.date v)),.ag [.i .i64 (Cn.jO v).2,.i .i64 0,.sl .is (Cn.jO v).1]]:=by have hb:=ao hp;have hk:bB.bD v.kids+1<=bB.bC (bB.of [] v):=by{simp only[bB.of,bB.bC];omega};apply aqy;intro v1 h1 v2 h2 v3 h3 v4 h4 v5 h5;rw[j5];unfold Rl.ra;by_cases c:(Tree.gw (bB.of [] v) []).2=0;{rw[h2,aa c,aF,ae];by_cases k:v.kind=3;{have e:Cn.jO v=([],0):=by{unfold Cn.jO;rw[ak (by simp[c]),ar k]};have Fh:(Tree.mf v.kids 0 []).2=0:=(tW c).2;rw[aa k,aF,ae,bA (by rw[ah];exact⟨dT,aa Fh⟩),e,ar rfl,h3,h4,h5];rfl};{have e:Cn.jO v=([],5):=by{unfold Cn.jO;rw[ak (by simp[c]),ak k]};rw[ab k,aH,aj,e,ak (by decide)];rfl}};{have e:Cn.jO v=Tree.gw (bB.of [] v) []:=by{unfold Cn.jO;rw[ar c]};rw[h2,ab c,aH,aj,e,ak c,h1];rfl}
namespace Rl
theorem JM(f g:bB)(p:List Int):od (bB.of [] f.val) (bB.of [] g.val) p=od f g p:=by cases f;cases g;simp only[bB.of,bB.val,bB.kind,bB.bits,bB.high,bB.low,bB.text,bB.more,bB.sub,bB.bytes,bB.kids,od]
mutual
theorem wb:∀(f g:bB)(p:List Int)(l:List (List Int)),od f g p=Bm l->l.length<=bB.bC f
 |.mk n k b h lo t m s y ks,.mk n' k' b' h' lo' t' m' s' y' Si,p,l,e=>by
  simp only[od]at e
  split at e
  ·cases e
  ·rw[aO]at e
   obtain⟨r,e1,rfl⟩:=e
   have:=A9 ks Si 0 p r e1
   simp only[bB.bC,af]
   split<;>simp only[ay,av]<;>omega
theorem A9:∀(a b:List bB)(i:Nat)(p:List Int)(l:List (List Int)),mw a b i p=Bm l->l.length<=bB.bD a
 |f::r,g::q,i,p,l,e=>by
  simp only[mw]at e
  split at e
  ·cases e
  ·rw[aQ]at e
   obtain⟨x,e1,e⟩:=e
   rw[aO]at e
   obtain⟨y,e2,rfl⟩:=e
   have:=wb f g _ x e1
   have:=A9 r q _ p y e2
   simp only[bB.bD,af];omega
 |[],[],_,_,l,e=>by simp only[mw]at e;cases e;simp
 |[],_::_,_,_,l,e=>by simp only[mw]at e;cases e
 |_::_,[],_,_,l,e=>by simp only[mw]at e;cases e
end
end Rl
def vD(o:List (List Int))(p:List Int):Option (List (List Int))->OT
 |some l=>Bm [.sl .pD (o++l),.b Qf,.sl .is p]
 |none=>Bm [.sl .pD [],.b Qg,.sl .is p]
theorem ald(n:Nat)(ks:List bB)(b:Val)(p:List Int)(hl:ks.length=b.kids.length)(hp:p.length+1+bB.bD ks<=1000000000)(hn:bB.bD ks<n):∀(m i:Nat)(o:List (List Int)),i+m=ks.length->o.length+bB.bD (ks.drop i)<=1000000000->
  abw n ks (ks.length:Int) (i:Int) b o p=vD o p (Rl.mw (ks.drop i) (b.kids.drop i) i p)
 |0,i,o,hi,ho=>by apply ale;intro v1 h1 v2 h2 v3 h3 v4 h4 v5 h5;rw[cF,aD (by omega),aD (by omega)];simp[Rl.mw,vD]
 |m+1,i,o,hi,ho=>by
  have hk:=oZ ks;apply ale;intro v1 h1 v2 h2 v3 h3 v4 h4 v5 h5;rw[aq]at h1 h2;have e5:v5=((i+1:Nat):Int):=by{rw[h5,iw];omega};have hf:=Cm (l:=ks) (i:=i) (by omega) (eu.dH .fl);rw[<-h1]at hf;have hv:=xu v1;have hd:ks.drop i=v1::ks.drop (i+1):=by{rw[h1];exact Ua (by omega) _};have hd2:b.kids.drop i=v2::b.kids.drop (i+1):=by{rw[h2];exact Ua (by omega) _};rw[hd]at ho;simp only[bB.bD]at ho;have c1:((nP (o.length+bB.bC (bB.of [] (bB.val v1))<=1000000000/\(p++[(i:Int)]).length+bB.bC (bB.of [] (bB.val v1))<=1000000000))&&nP (bB.bC (bB.of [] (bB.val v1))<n))=Qf:=by{rw[ah];exact⟨aa ⟨by omega,by simp only[af,aw];omega⟩,dT⟩};rw[cT,ll,ll,ll,bA (dD (by simp;omega) (by simp;omega)),bA c1,hd,hd2,Rl.mw];by_cases c:v1.name=v2.name
  ·rw[aa c,aF,ae,ak (by simp[c]),e5];unfold Rl.tU at h3 h4;rw[Rl.JM]at h3 h4;cases e:Rl.od v1 v2 (p++[(i:Int)])with
   |none=>rw[e]at h4;rw[h4,aH,aj];rfl
   |some l=>
    have VG:=Rl.wb _ _ _ _ e;rw[e]at h3 h4;rw[h4,h3,aF,ae,ald n ks b p hl hp hn m (i+1) (o++l) (by omega) (by rw[af];omega)];rw[Option.bind_some];cases Rl.mw (ks.drop (i+1)) (b.kids.drop (i+1)) (i+1) p with
    |none=>rfl
    |some q=>simp only[vD,Option.map_some,aB]
  {rw[ab c,aH,aj,ar c];rfl}
def aiP(n:Nat)(o:List (List Int))(a:Val)(b:Val)(p:List Int)(hp:((nP (o.length+bB.bC (bB.of [] a)<=1000000000/\p.length+bB.bC (bB.of [] a)<=1000000000))&&nP ((bB.bC (bB.of [] a))<n+1))=Qf):ayR n o a b p=Bm [.sl .pD (Rl.tU o a b p).1,.b (Rl.tU o a b p).2,.sl .is p]:=by
 rw[ah]at hp;have h1:=ao hp.1;have h2:=ao hp.2;have hb:bB.bD a.kids+1<=bB.bC (bB.of [] a):=by{simp only[bB.of,bB.bC];omega};have hr:Bm [TV.sl .pD (Rl.tU o a b p).1,.b (Rl.tU o a b p).2,.sl .is p]=vD o p (Rl.od (bB.of [] a) (bB.of [] b) p):=by{unfold Rl.tU;cases Rl.od (bB.of [] a) (bB.of [] b) p<;>rfl};rw[hr];apply ayQ;intro v1 Kg v2 sY v3 h3';have hF:Rl.od (bB.of [] a) (bB.of [] b) p=if a.kids.length≠b.kids.length then Kk else(Rl.mw a.kids b.kids 0 p).map λr=>(if Tree.sB a b then[]else[p])++r:=by{simp only[bB.of,Rl.od]};rw[hF,Kg,sY];by_cases c:a.kids.length=b.kids.length
 ·rw[dT,aF,ae,ak (by simp[c]),UD,bA (dD (by simp;omega) (by simp;omega)),h3'];have key:∀o':List (List Int),o'.length<=o.length+1->adn n a b o' p=vD o' p (Rl.mw a.kids b.kids 0 p):=λo' ho=>by{apply ayP;intro v1 h1;rw[h1];show abw n a.kids _ ((0:Nat):Int) b o' p=_;rw[ald n a.kids b p c (by omega) (by omega) a.kids.length 0 o' (by omega) (by rw[aX];omega)];rfl};rw[key _ (by simp),key _ (by omega)];cases Tree.sB a b with
  |true=>cases Rl.mw a.kids b.kids 0 p<;>rfl
  |false=>
   cases Rl.mw a.kids b.kids 0 p with
   |none=>rfl
   |some l=>simp[vD]
 {rw[dF,aH,aj,ar c];rfl}
theorem ak9(a b:List (List Int))(hl:a.length=b.length)(hb:a.length<=1000000000)(ha:a.all (λl=>nP (l.length<=1099511627776))=Qf):∀(m i:Nat),i+m=a.length->adk a b (i:Int)=Bm [.b (nP (a.drop i=b.drop i))]
 |0,i,hi=>by apply ala;intro v1 h1 v2 h2 v3 h3;rw[cF,aD (by omega),aD (by omega)];simp
 |m+1,i,hi=>by apply ala;intro v1 h1 v2 h2 v3 h3;rw[aq]at h1 h2;have hd:a.drop i=v1::a.drop (i+1):=by{rw[h1];exact Ua (by omega) _};have hd2:b.drop i=v2::b.drop (i+1):=by{rw[h2];exact Ua (by omega) _};have hm:v1∈a:=List.mem_of_mem_drop (i:=i) (by rw[hd];simp);have e3:v3=((i+1:Nat):Int):=by{rw[h3,iw];omega};rw[cT,ll,ll,bA (aI.1 ha _ hm),hd,hd2,e3];by_cases c:v1=v2;{rw[aa c,aF,ae,ak9 a b hl hb ha m (i+1) (by omega)];simp[c]};{rw[ab c,aH,aj];simp[c]}
def aiL(a b:List (List Int))(hp:(nP (a.length<=1000000000)&&a.all (λl=>nP (l.length<=1099511627776)))=Qf):ayF a b=Bm [.b (nP (a=b))]:=by rw[ah]at hp;have h1:=ao hp.1;rw[ayE];by_cases c:a.length=b.length;{rw[dT,aF,ae];exact ak9 a b c h1 hp.2 a.length 0 (by omega)};{rw[dF,aH,aj,ab (λe=>c (by rw[e]))]}
def tG(b:UInt64):(Rl.number b).1.length<=281474976710656:=by rw[Rl.vI];unfold Rl.sC;have:=Sh.ui b;split;{simp};split;{simp};{exact Nat.le_trans this (by decide)}
theorem Bv(l r:List bB):Rl.nX (l++r)=Rl.nX l++Rl.nX r:=by
 induction l with
 |nil=>simp[Rl.nX]
 |cons f l ih=>simp[Rl.nX,ih]
def adg(n:Nat)(o:Option Int)(x2:Int)(x3 x4 x5:UInt64)(x6 x7:bE)(x8:Int)(x9:List UInt8)(lM:Int)(kh lN q7:UInt64)(pU ud:bE)(xc:Int)(xG:List UInt8)(zZ CV:List bB)(w:Int)(hw:w=o.getD w):abq n w o.isSome x2 x3 x4 x5 x6 x7 x8 x9 lM kh lN q7 pU ud xc xG zZ CV=Bm [.ag [.i .i64 (match o with|none=>(x2,x3)|some m=>if IntKind.wrap .i64 (IntKind.wrap .i32 m)=m then(16,UInt64.ofInt (UInt32.ofInt m).toNat)else(18,UInt64.ofInt m)).1,.u64 (match o with|none=>(x2,x3)|some m=>if IntKind.wrap .i64 (IntKind.wrap .i32 m)=m then(16,UInt64.ofInt (UInt32.ofInt m).toNat)else(18,UInt64.ofInt m)).2,.u64 x4,.u64 x5,.s x6,.s x7,.i .i64 x8,.sl .bs x9,.sl .fl zZ]]:=by
 apply ayk;intro v1 h1 v2 h2;cases o with
 |none=>rw[Option.isSome_none,aH,aj,aeF]
 |some m=>obtain rfl:w=m:=hw;rw[Option.isSome_some,aF,ae,h1];by_cases c:w=IntKind.i64.wrap (IntKind.i32.wrap w);{rw[cT c,aeF];simp only[ar c.symm,h2]};{rw[cF c,aeF];simp only[ak (Ne.symm c)]}
theorem ak1(n:Nat)(v:Val)(hb:bB.bD v.kids<=1000000000000)(hn:bB.bD v.kids<n)(kh:Int)(lN q7 pU:UInt64)(ud xc:bE)(xG:Int)(zZ:List UInt8)(NC:List bB):∀(m i:Nat)(acc:List bB),i+m=v.kids.length->acc=Rl.nX (v.kids.take i)->
  ade n v.kids (v.kids.length:Int) (i:Int) v.kind v.bits v.high v.low v.text v.more v.sub v.bytes kh lN q7 pU ud xc xG zZ acc NC=Bm [.ag (Val.cells (Rl.jN v))]
 |0,i,acc,hi,ha=>by
  apply ak2;intro v1 h1 v2 h2 v3 h3 v4 h4 v5 h5 v6 h6 v7 h7 v8 h8 v9 h9 v10 kv v11 nK v12 mS jQ rm iW s0 jb sZ;rw[cF];have ha:acc=Rl.nX v.kids:=by{rw[ha,List.take_of_length_le (by omega)]};have fin:∀o:Option Int,Rl.Ab v.kind v.bits=o->Bm [TV.ag [.i .i64 (match o with|none=>(v.kind,v.bits)|some m=>if IntKind.wrap .i64 (IntKind.wrap .i32 m)=m then(16,UInt64.ofInt (UInt32.ofInt m).toNat)else(18,UInt64.ofInt m)).1,
    .u64 (match o with|none=>(v.kind,v.bits)|some m=>if IntKind.wrap .i64 (IntKind.wrap .i32 m)=m then(16,UInt64.ofInt (UInt32.ofInt m).toNat)else(18,UInt64.ofInt m)).2,.u64 v.high,.u64 v.low,.s v.text,.s v.more,.i .i64 v.sub,.sl .bs v.bytes,.sl .fl acc]]=Bm [.ag (Val.cells (Rl.jN v))]:=λo ho=>by
   subst ho
   rw[ha]
   show _=Bm [TV.ag [.i .i64 (Rl.xM v.kind v.bits).1,.u64 (Rl.xM v.kind v.bits).2,.u64 v.high,.u64 v.low,.s v.text,.s v.more,.i .i64 v.sub,.sl .bs v.bytes,.sl .fl (Rl.nX v.kids)]]
   rw[Rl.Ku];rfl
  by_cases c1:v.kind=1
  ·rw[cT c1];cases c:(Rl.number v.bits).2 with
   |true=>rw[aj,bA (aa (tG _)),sZ,s0,adg n (Rl.lZ (Rl.number v.bits).1) _ _ _ _ _ _ _ _ _ _ _ _ _ _ _ _ _ _ _ (by cases Rl.lZ (Rl.number v.bits).1<;>rfl)];exact fin _ (by unfold Rl.Ab;rw[ak (by rw[c1];decide),ar ⟨c1,c⟩])
   |false=>rw[ae,show nP (v.kind=18)=(Kk:Option Int).isSome by rw[c1];rfl,adg n Kk _ _ _ _ _ _ _ _ _ _ _ _ _ _ _ _ _ _ _ rfl];exact fin _ (by unfold Rl.Ab;rw[ak (by rw[c1];decide),ak (by rw[c];simp)])
  {rw[cF c1];by_cases c2:v.kind=18;{rw[show nP (v.kind=18)=(Bm jQ).isSome by rw[c2];rfl,adg n (Bm jQ) _ _ _ _ _ _ _ _ _ _ _ _ _ _ _ _ _ _ _ rfl];exact fin (Bm jQ) (by unfold Rl.Ab;rw[ar c2,rm];rfl)};{rw[show nP (v.kind=18)=(Kk:Option Int).isSome by rw[ab c2];rfl,adg n Kk _ _ _ _ _ _ _ _ _ _ _ _ _ _ _ _ _ _ _ rfl];exact fin _ (by unfold Rl.Ab;rw[ak c2,ak (by rintro⟨h,_⟩;exact c1 h)])}}
 |m+1,i,acc,hi,ha=>by
  have hlen:=oZ v.kids;apply ak2;intro v1 h1 v2 h2 v3 h3 v4 h4 v5 h5 v6 h6 v7 h7 v8 h8 v9 h9 v10 kv v11 nK v12 mS jQ rm iW s0 jb sZ;rw[aq]at h1;have hf:=Cm (l:=v.kids) (i:=i) (by omega) (eu.dH .fl);rw[<-h1]at hf;have hv:=xu v1;have V2:acc.length=i:=by
   rw[ha];have:∀l:List bB,(Rl.nX l).length=l.length:=λl=>by
    induction l with
    |nil=>simp[Rl.nX]
    |cons f r ih=>simp[Rl.nX,ih]
   rw[this,aJ];omega
  have Ct:v12=((i+1:Nat):Int):=by{rw[mS,iw];omega};have H2:v11=[Rl.Kv v1]:=by{rw[nK,h2,h3,h4,h5,h6,h7,h8,h9,kv];cases v1;simp only[Rl.jN,Rl.Kv,bB.val,bB.name,bB.kind,bB.bits,bB.high,bB.low,bB.text,bB.more,bB.sub,bB.bytes,bB.kids]};have c1:((nP (bB.bC (bB.of [] (bB.val v1))<=1000000000000))&&nP ((bB.bC (bB.of [] (bB.val v1)))<n))=Qf:=by{rw[ah];exact⟨dT,dT⟩};rw[cT,ll,bA c1,bA (dD (by rw[H2];simp;omega) (by rw[H2];simp;omega)),Ct];refine ak1 n v hb hn kh lN q7 pU ud xc xG zZ NC m (i+1) _ (by omega) ?_;rw[H2,ha,List.take_add_one,Bv,h1,ai,au (by omega)];simp[Rl.nX]
def aiE(n:Nat)(v:Val)(hp:((nP (bB.bC (bB.of [] v)<=1000000000000))&&nP ((bB.bC (bB.of [] v))<n+1))=Qf):aym n v=Bm [.ag (Val.cells (Rl.jN v))]:=by rw[ah]at hp;have h1:=ao hp.1;have h2:=ao hp.2;have hb:bB.bD v.kids+1+v.bytes.length<=bB.bC (bB.of [] v):=by{simp only[bB.of,bB.bC];omega};apply ayl;intro v1 e1;rw[UD,e1];exact ak1 n v (by omega) (by omega) _ _ _ _ _ _ _ _ _ v.kids.length 0 [] (by omega) (by simp[Rl.nX])
namespace Rl
def CW(r y d m:Int)(hr:0<=r/\r<86400000)(hy:0<=y/\y<=100000)(hd:0<=d/\d<=400)(hm:0<=m/\m<=100):(written r y (d,m)).length<=300:=by have p:∀n l:Int,0<=n/\n<=1000000/\l<=10->(Rl.pad n l).length<=31:=λn l h=>Rl.Ho n l dT h.2.2;have p1:=p y 4 (by omega);have p2:=p m 2 (by omega);have p3:=p (d+1) 2 (by omega);have p4:=p (r/1000/3600) 2 (by omega);have p5:=p (r/1000/60%60) 2 (by omega);have p6:=p (r/1000%60) 2 (by omega);have p7:=p (r%1000) 3 (by omega);unfold written;cases nP (r%1000=0)<;>simp only[aj,ae,af,aw]<;>omega
def MP(t:Int):(date t).1.length<=300:=by rw[H6];unfold EJ;by_cases c:t<0\/253402300799999<t;{rw[ar c];simp};{rw[ak c];obtain⟨a1,a2,a3,a4⟩:=CU (t/86400000) (by omega) 100000 (1970+t/86400000/366) (wR _ (by omega)) (by omega) (by omega);have hs:=zu (ly (t/86400000) 100000 (1970+t/86400000/366));obtain⟨b1,b2,b3,b4⟩:=H5 (ly (t/86400000) 100000 (1970+t/86400000/366)) 20 (t/86400000 -ahead (ly (t/86400000) 100000 (1970+t/86400000/366))) 1 (by omega) (by omega);show(written (t%86400000) (ly (t/86400000) 100000 (1970+t/86400000/366)) (wg (ly (t/86400000) 100000 (1970+t/86400000/366)) 20 (t/86400000 -ahead (ly (t/86400000) 100000 (1970+t/86400000/366))) 1)).length<=300;generalize wg (ly (t/86400000) 100000 (1970+t/86400000/366)) 20 (t/86400000 -ahead (ly (t/86400000) 100000 (1970+t/86400000/366))) 1=q at b1 b2 b3 b4⊢;obtain⟨q1,q2⟩:=q;simp only at b1 b2 b3 b4;exact CW (t%86400000) _ _ _ (by omega) (by omega) ⟨b1,by omega⟩ ⟨by omega,by omega⟩}
def tG(b:UInt64):(number b).1.length<=10000:=by rw[vI];unfold sC;have:=Sh.ui b;split;{simp};split;{simp};{exact Nat.le_trans this (by decide)}
end Rl
mutual
theorem JC:∀f:bB,eV.bC (Rl.vT Rl.date f)+10*f.name.length<=40000*bB.bC f
 |.mk n k b h l t m s y ks=>by
  have hk:=tK ks
  have hn:=rN (Rl.lC Rl.date ks)
  have hl:=yy ⟨k,b,h,l,t,m,s,y,ks⟩
  have i64:=oU (Cn.i64 b) (sd _)
  have i32:=oU (Cn.i32 b) (sd _)
  have hd:=Rl.MP (Cn.i64 b)
  have ZG:=Rl.tG b
  have num:∀s:bE,eV.bC ⟨4,s,[]⟩=1+s.length:=fun s=>by simp only[eV.bC,Mem.of,Mem.bC,Mem.bD,ay];omega
  have row:∀(x:Int)(ms:List Mem),eV.bC ⟨x,[],ms⟩=1+Mem.bD ms:=fun x ms=>by simp only[eV.bC,Mem.of,Mem.bC,ay]
  simp only[Rl.vT,bB.bC,bB.name]
  split
  ·rw[num];omega
  split
  ·rw[num];omega
  split
  ·rw[num];omega
  split
  ·rw[gI,jc];simp only[av,ay];omega
  split
  ·cases Cn.o7 ks<;>simp only[aj,ae,gI,row,av,ay]<;>omega
  split
  ·cases Tree.regular ks<;>simp only[aj,ae,gI,row,av,ay]<;>omega
  split
  ·simp only[mG,row,jc,av,ay];omega
  ·simp only at hl;omega
theorem tK:∀l:List bB,Mem.bD (Rl.lC Rl.date l)<=40000*bB.bD l
 |[]=>by simp[Rl.lC,Mem.bD]
 |f::r=>by
  have h1:=JC f
  have h2:=tK r
  have e:Mem.bC (Mem.of f.name (Rl.vT Rl.date f))=f.name.length+eV.bC (Rl.vT Rl.date f):=by
   simp only[eV.bC,Mem.of,Mem.bC,ay];omega
  simp only[Rl.lC,Mem.bD,bB.bD,e];omega
end
def yH(v:Val):eV.bC (Rl.ra Rl.date v)<=1+40000*bB.bC (bB.of [] v):=by have h:=tK v.kids;have hk:bB.bD v.kids+1<=bB.bC (bB.of [] v):=by{simp only[bB.of,bB.bC];omega};have row:∀(x:Int)(ms:List Mem),eV.bC ⟨x,[],ms⟩=1+Mem.bD ms:=λx ms=>by{simp only[eV.bC,Mem.of,Mem.bC,ay]};unfold Rl.ra Rl.uW;split;{rw[row];omega};{rw[row];simp only[Mem.bD];omega}
def afC(v:Val)(hp:(nP (bB.bC (bB.of [] v)<=100000))=Qf):aqF v=Bm [.s (Rl.td Rl.date v),.ag [.i .i64 (Rl.kX Rl.date v).2,.i .i64 0,.sl .is (Rl.kX Rl.date v).1]]:=by have hb:=ao hp;have hj:=yH v;apply aqE;intro v1 h1 v2 h2;rw[j5];unfold Rl.td Rl.kX;by_cases c:(Cn.jO v).2=0;{rw[aa c,aF,ae,ak (by simp[c]),ak (by simp[c]),j5,h1,h2]};{rw[ab c,aH,aj,ar c,ar c]}
def afp(v:Val)(hp:(nP (bB.bC (bB.of [] v)<=100000))=Qf):aqa v=Bm [.s (Cn.tc v),.ag [.i .i64 (Cn.kX v).2,.i .i64 0,.sl .is (Cn.kX v).1]]:=by have hb:=ao hp;have hj:=yI v;rw[ap9,j5];unfold Cn.tc Cn.kX;by_cases c:(Cn.jO v).2=0;{rw[aa c,aF,ae,ak (by simp[c]),ak (by simp[c]),j5]};{rw[ab c,aH,aj,ar c,ar c]}
namespace Db
def uM(x:Int):bI.bC (integer x)=1:=by unfold integer;split<;>simp[bI.bC,bI.bD]
def Im(a b:UInt64):(words a b).length=16:=by rw[words,af,lD.lg,lD.lg]
def C9(v:Val)(m:List bI):bI.bC (tagged v m)<=20+v.text.length+v.more.length+v.bytes.length+bI.bD m:=by have h1:=Im v.high v.low;have h2:=uM (i64 v.bits);unfold tagged;(repeat' split);all_goals first|omega|(simp only[map,list,plus,raw,text,simple,bI.bC,bI.bD,ay];omega)
def D6(v:Val)(m l:List bI):bI.bC (np v m l)<=25+v.text.length+v.more.length+v.bytes.length+max (bI.bD m) (bI.bD l):=by have h1:=C9 v m;have h2:=uM (i32 v.bits);unfold np;(repeat' split);all_goals first|omega|(simp only[map,list,plus,raw,text,simple,bI.bC,bI.bD,ay];omega)
mutual
theorem AN:∀f:bB,bI.bC (item f)+1+f.name.length<=32*bB.bC f
 |.mk n k b h lo t m s y ks=>by
  have h1:=rT ks
  have h2:=yJ ks
  have h3:=D6 ⟨k,b,h,lo,t,m,s,y,ks⟩ (mapped ks) (items ks)
  simp only[item,bB.bC,bB.name]at h3⊢
  omega
theorem rT:∀l:List bB,bI.bD (mapped l)<=32*bB.bD l
 |[]=>Nat.zero_le _
 |f::r=>by
  have h1:=AN f
  have h2:=rT r
  simp only[mapped,bI.bD,bB.bD,text,bI.bC,ay];omega
theorem yJ:∀l:List bB,bI.bD (items l)<=32*bB.bD l
 |[]=>Nat.zero_le _
 |f::r=>by
  have h1:=AN f
  have h2:=yJ r
  simp only[items,bI.bD,bB.bD];omega
end
def y0(v:Val):bI.bC (enc v).1<=32*bB.bC (bB.of [] v):=by have h1:=rT v.kids;have h2:bB.bD v.kids<bB.bC (bB.of [] v):=by{simp only[bB.of,bB.bC];omega};unfold enc;(repeat' split);(all_goals simp only[map,Mp.zero,bI.bC,bI.bD,ay]);all_goals omega
end Db
def aeY(f:Int)(l:nB):ape f l=Bm [.b (nP (1<=f/\f<=5)&&Bs.may l)]:=by refine apd _ _ ?_;intro v1 h1;simp only[aL,bK];have q1:v1=nP (1<=f/\f<=5):=by{rw[h1];by_cases c:1<=f;{rw[aa c,aj];exact aU.2 ⟨λh=>⟨c,h⟩,λh=>h.2⟩};{rw[ab c,ae];exact(ab (λh=>c h.1)).symm}};rw[q1];cases nP (1<=f/\f<=5)<;>rfl
def yg(j:eV):(Cn.oH j).length<=12*eV.bC j:=by have h:=yA (Mem.of [] j);rw[DW]at h;have e:Mem.bC (Mem.of [] j)=eV.bC j:=by{cases j;simp[Mem.of,Mem.bC,eV.bC]};have e2:(Mem.of [] j).val=j:=rfl;have e3:(Mem.of [] j).name=[]:=rfl;rw[e,e2,e3]at h;unfold Cn.oH;have:([]:bE).length=0:=rfl;cases nP (Cn.pS j=0);{exact Nat.zero_le _};{show(Cn.yC j).length<=_;omega}
def Ir(v:Val)(h:bB.bC (bB.of [] v)<=100000):(Cn.tc v).length<=100000000000:=by have h1:=yI v;have h2:=yg (Cn.pB v);unfold Cn.tc;split<;>simp<;>omega
def It(v:Val)(h:bB.bC (bB.of [] v)<=100000):(Rl.td Rl.date v).length<=100000000000:=by have h1:=yH v;have h2:=yg (Rl.ra Rl.date v);unfold Rl.td;split<;>simp<;>omega
def Dk.y0(v:Val):bI.bC (Dk.enc v).1<=64*bB.bC (bB.of [] v)+10:=by have h:=Dk.DK v.kids;have hk:bB.bD v.kids<=bB.bC (bB.of [] v):=by{simp only[bB.of,bB.bC];omega};have hz:bI.bC (.mk 0 0 [] [] [])=1:=rfl;unfold Dk.enc;(repeat' split);all_goals first|(show bI.bC (.mk 0 0 [] [] [])<=_;omega)|(show bI.bC (Db.map (Dk.mapped v.kids))<=_;omega)
def afy(f:Int)(v:Val)(hp:(nP (1<=f/\f<=5)&&nP (bB.bC (bB.of [] v)<=100000))=Qf):aqt f v=Bm [.sl .bs (La.laid f v).1,.ag (ph.cells (La.laid f v).2)]:=by rw[ah]at hp;obtain⟨a,b⟩:=hp;have hf:=ao a;have hb:=ao b;refine aqs _ _ ?_;intro v1 h1 v2 h2 v3 h3 v4 h4 v5 h5;rw[bI.cq]at h2 h3 h4 h5;rw[La.HB];unfold La.DZ;by_cases c:f=1;{rw[aa c,aj,ar c,bA (aa (by omega)),h1]};rw[ab c,ae,ak c];by_cases c:f=2;{rw[aa c,aj,ar c,bA b,bA (qh.2 (by rw[ja];have:=Ir v hb;omega))];rfl};rw[ab c,ae,ak c];by_cases c:f=3;{rw[aa c,aj,ar c,bA b,bA (qh.2 (by rw[ja];have:=It v hb;omega))];rfl};rw[ab c,ae,ak c];by_cases c:f=4;{rw[aa c,aj,ar c,bA (aa (by omega))];by_cases d:(Db.enc v).2.err=0;{rw[aa d,aF,ae,ar d,bI.cq,bA (aa (by have:=Db.y0 v;omega)),h2,h3];rfl};{rw[ab d,aH,aj,ak d]}};rw[ab c,ae,ak c,bA (aa (by omega))];by_cases d:(Dk.enc v).2.err=0;{rw[aa d,aF,ae,ar d,bI.cq,bA (aa (by have:=Dk.y0 v;omega)),h4,h5];rfl};{rw[ab d,aH,aj,ak d]}
def af6(f:Int)(l:nB)(v:Val)(hp:nP (bB.bC (bB.of [] v)<=100000)=Qf):arL f l v=Bm [.sl .bs (La.write f l v).1,.sl .pD (La.write f l v).2.1,.ag (ph.cells (La.write f l v).2.2)]:=by
 have hb:=ao hp;refine arK _ _ _ ?_;intro v1 h1 v2 h2 v3 h3;rw[La.ue];unfold La.tw;by_cases c:1<=f/\f<=5/\Bs.may l=Qf;{obtain⟨c1,c2,c3⟩:=c;have e1:v1=Qf:=by{rw[h1,aa ⟨c1,c2⟩,c3];rfl};rw[e1,aF,ae,ak (λh=>h ⟨c1,c2,c3⟩),bA (by rw[aa (show 1<=f/\f<=5 from⟨c1,c2⟩)];exact hp)];by_cases d:(La.laid f v).2.err=0;{rw[aa d,aF,ae,ak (λh=>h d),h2];by_cases e:l.out<((La.laid f v).1.length:Int);{rw[aa e,aj,ar e];rfl};{rw[ab e,ae,ak e];by_cases g:f=3;{rw[aa g,aj,ar g,bA (aa (by omega)),h3];rfl};{rw[ab g,ae,ak g];rfl}}};{rw[ab d,aH,aj,ar d]}}
 ·have e1:v1=Qg:=by
   rw[h1];by_cases c1:1<=f/\f<=5
   ·rw[aa c1,Bool.true_and];cases hm:Bs.may l with
    |false=>rfl
    |true=>exact(c ⟨c1.1,c1.2,hm⟩).elim
   {rw[ab c1,Bool.false_and]}
  rw[e1,aH,aj,ar c];rfl
end Go.Eng
namespace Go.Eng
def RY(M:Nat)(hM:M<=18446744073709551615)(n:Nat):n<=M->∀r:bE,Lib.parseUintM M 0 (Nr.dec n++r)=Lib.parseUintM M n r:=by
 have step:∀(a d:Nat)(r:bE),d<10->a*10+d<=M->Lib.parseUintM M a (UInt8.ofNat (48+d)::r)=Lib.parseUintM M (a*10+d) r:=λa d r hd h=>by{have e:(UInt8.ofNat (48+d)).toNat=48+d:=by{rw[UInt8.toNat_ofNat'];omega};simp only[Lib.parseUintM,e];rw[pO,nO,nO,show 48+d -48=d by omega]};induction n using Nat.strongRecOn with
 |_ n ih=>intro hn r;rw[Nr.dec];by_cases h:n<10;{rw[ar h,List.singleton_append,step 0 n r h (by omega)];rw[Nat.zero_mul,Nat.zero_add]};{rw[ak h,aB,ih (n/10) (by omega) (by omega),List.singleton_append,step (n/10) (n%10) r (by omega) (by omega),show n/10*10+n%10=n by omega]}
def Hj(n:Nat)(h:n<=9223372036854775808):Lib.parseUintB 64 (Nr.dec n)=.ok n:=by unfold Lib.parseUintB;rw[ak (Nr.me n).2.2.1];have:=RY 18446744073709551615 (Nat.le_refl _) n (by omega) [];rw[aR]at this;exact this
def yj(n:Int)(h:Nr.i64 n=Qf):Lib.parseIntB 64 (Nr.itoa n)=.ok n:=by
 have h:=ao h;rw[Nr.pC];by_cases c:n<0;{rw[ar c,Lib.parseIntB_minus,Hj _ (by omega)];show(if(9223372036854775808:Nat)<n.natAbs then Lib.NumEnd.range else .ok (-(n.natAbs:Int)))=_;rw[nO];congr 1;omega}
 ·rw[ak c];have hd:=ze n.natAbs;have e:=Hj n.natAbs (by omega);cases hl:Nr.dec n.natAbs with
  |nil=>exact absurd hl (Nr.me _).2.2.1
  |cons a r=>rw[hl]at hd e;have h1:a≠45:=hd.1;have h2:Nr.fu a=Qf:=hd.2;have h3:a.toNat≠43:=λw=>by{have:a=43:=UInt8.toNat_inj.1 w;rw[this]at h2;revert h2;decide};rw[Lib.parseIntB_plain 64 a r h3 (λw=>h1 (UInt8.toNat_inj.1 w)),e];show(if(9223372036854775808:Nat)<=n.natAbs then Lib.NumEnd.range else .ok (n.natAbs:Int))=_;rw[nO];congr 1;omega
def Il{s:bE}{v:Int}(hv:Nr.i64 v=Qf)(h:Nr.itoa v=s):Rl.lZ s=Bm v:=by unfold Rl.lZ;have he:∃n,Nr.i64 n=Qf/\Nr.itoa n=s:=⟨v,hv,h⟩;rw[dif_pos he];congr 1;exact LP (he.choose_spec.2.trans h.symm)
def wy{s:bE}(h:∀v,Nr.i64 v=Qf->Nr.itoa v≠s):Rl.lZ s=Kk:=by unfold Rl.lZ;rw[dif_neg];rintro⟨n,h1,h2⟩;exact h n h1 h2
def Ap{s:bE}{v:Int}(h:Lib.parseIntB 64 s=.ok v):Nr.i64 v=Qf:=by have:=Lib.parseIntB_bounds h;have e:((2^(64 -1):Nat):Int)=9223372036854775808:=by{decide};rw[e]at this;exact dT
def Ik{s:bE}{v:Int}(h:Lib.parseIntB 64 s=.ok v):Rl.lZ s=if Nr.itoa v=s then Bm v else Kk:=by by_cases c:Nr.itoa v=s;{rw[ar c];exact Il (Ap h) c};{rw[ak c];exact wy λn hn e=>by have:=yj n hn;rw[e,h]at this;cases this;exact c e}
def xH{s:bE}(h:∀v,Lib.parseIntB 64 s≠.ok v):Rl.lZ s=Kk:=wy λn hn e=>h n (by rw[<-e];exact yj n hn)
open Go.RowKit Go.Proofs
variable{ee:Errs}
set_option maxRecDepth 100000
set_option maxHeartbeats 1000000
theorem N6{R:Reach}{w:World}(n:Int)(hn:Nr.i64 n=Qf)(hG:GlOK (cnGl ee) R w):Calls Tryz.prog 102 #[.int .i64 n] w λe w'=>e=.returned (.string ⟨⟨Nr.itoa n⟩⟩)/\Below w.heap.size w w':=by have hp:=ao (Nr.Gj hn);go_enter Tryz.func102,Tryz.ntmps102;go_wp2_with (go_at_call 151;refine(Any.strconv_FormatInt_10 Tryz.DQ n hp.1 hp.2 w (xj hG)).mono ?_;rintro e w' ⟨rfl,q,os,rfl⟩);go_ret;exact⟨by rw[xm];rfl,qY _ _ _⟩
theorem Nk{w W1 W2:World}(h1:Below w.heap.size w W1)(h2:Below W1.heap.size W1 W2):Below w.heap.size w W2:=⟨h2.os.trans h1.os,h2.tape.trans h1.tape,h2.output.trans h1.output,by have:=h1.size;have:=h2.size;omega,λk hk=>(h2.block k (by have:=h1.size;omega)).trans (h1.block k hk)⟩
theorem Jw{R:Reach}{w w':World}(hR:∀b o,R b o->b<w.heap.size)(h:Below w.heap.size w w')(hG:GlOK (cnGl ee) R w):GlOK (cnGl ee) R w':=hG.dr (sM (io:=λ_=>False) hR h).dr
theorem PL{R:Reach}{w:World}(hG:GlOK (cnGl ee) R w):w.cell? ⟨0,0,Kk⟩=Bm ee.1.1:=(hG 0 [ee.1.1] rfl 0).2
theorem PM{R:Reach}{w:World}(hG:GlOK (cnGl ee) R w):w.cell? ⟨1,0,Kk⟩=Bm ee.1.2:=(hG 1 [ee.1.2] rfl 0).2
theorem Kn{R:Reach}{w:World}(s:bE)(hs:s.length<=281474976710656)(hR:∀b o,R b o->b<w.heap.size)(hG:GlOK (cnGl ee) R w):Calls Tryz.prog 61 #[.string ⟨⟨s⟩⟩] w λe w'=>e=.returned (.tuple #[.int .i64 ((Rl.lZ s).getD 0),.bool (Rl.lZ s).isSome])/\Below w.heap.size w w':=by
 have rk:(⟨⟨s⟩⟩:ByteArray).size<=281474976710656:=by{show(⟨s⟩:Array UInt8).size<=_;rw[List.size_toArray];exact hs};rcases h:Lib.parseIntB 64 s with v|_|_
 ·have hv:=Ap h;rw[Ik h];go_enter Tryz.func61,Tryz.ntmps61;go_wp2_with (go_at_call 101;refine(Any.strconv_ParseInt_10_at64_ok Tryz.yz ⟨⟨s⟩⟩ (by omega) v h w).mono ?_;rintro e W1 ⟨rfl,hW⟩);have vQ:Below w.heap.size w W1:=by{rcases hW with rfl|⟨t,rfl⟩;{exact Below.refl _ _};{exact Go.Joins.below_bytesWorld _ _ _ _ (Nat.le_refl _)}};have Xt:=Jw hR vQ hG;go_at_call 102;refine(N6 v hv Xt).mono ?_;rintro e W2 ⟨rfl,wX⟩;have hb:=Nk vQ wX;by_cases c:Nr.itoa v=s;{go_wp2;go_ret2;exact⟨rfl,hb⟩}
  ·have c':¬(Nr.itoa v=s):=c;go_wp2;all_goals
    go_ret2
    first|exact⟨rfl,hb⟩|(exfalso;apply c;assumption)|(exfalso;apply c;simp_all)
 {rw[xH (λv w=>by rw[h]at w;cases w)];go_enter Tryz.func61,Tryz.ntmps61;go_wp2_with (go_at_call 101;refine(Any.strconv_ParseInt_10_at64_syntax Tryz.yz ⟨⟨s⟩⟩ rk h ee.1.1 w (PL hG) ee.2.1).mono ?_;rintro e W1 ⟨N,rfl,hN,hN2,vQ⟩);go_ret2;exact⟨rfl,vQ⟩};{rw[xH (λv w=>by rw[h]at w;cases w)];go_enter Tryz.func61,Tryz.ntmps61;go_wp2_with (go_at_call 101;refine(Any.strconv_ParseInt_10_at64_range Tryz.yz ⟨⟨s⟩⟩ rk h ee.1.2 w (PM hG) ee.2.2).mono ?_;rintro e W1 ⟨N,rfl,hN,hN2,vQ⟩);go_ret2;exact⟨rfl,vQ⟩}
theorem aoK:KO ee 61 alv bP:=De (n:=2) (by kernel_rfl) (by decide) λti iA w R xs hc ha hR hG=>by unfold alv at hc;split at hc;{rename_i s;obtain⟨hp,rfl⟩:=hc;obtain rfl:=kn ha rfl;refine(Kn s (ao hp) hR hG).mono ?_;rintro e w' ⟨rfl,hb⟩;exact⟨_,rfl,rfl,hb,λR w'=>.cons Qq (.cons (.sc rfl) .nil)⟩};{exact hc.elim}
end Go.Eng
namespace Go.Eng
open Go.Proofs
variable{ee:Errs}
theorem ajd:KO ee 378 ami bz:=Rr bF all_nil (.o) (T7 λins=>by unfold ami;split;exact af8 _;trivial)
end Go.Eng
namespace Go.Eng
open Go.RowKit Go.Proofs
variable{ee:Errs}
set_option maxRecDepth 100000
set_option maxHeartbeats 1000000
theorem Fl.K2(a:Nat):Ieee.double.read (Fl.neg a)=(Ieee.double.read a).opposite:=by have e1:Fl.neg a%2^63=a%2^63:=by{unfold Fl.neg;rw[show 9223372036854775808=2^63 by decide,Nat.xor_mod_two_pow,Nat.mod_self,Nat.xor_zero]};have e2:(Fl.neg a/2^63%2==1)=!(a/2^63%2==1):=by{unfold Fl.neg;rw[show 9223372036854775808=2^63 by decide,Nat.xor_div_two_pow,Nat.div_self (by decide)];have:=Nat.xor_mod_two_pow (a:=a/2^63) (b:=1) (n:=1);rw[Nat.pow_one]at this;rw[this];rcases Nat.mod_two_eq_zero_or_one (a/2^63)with e|e<;>rw[e]<;>rfl};have h:Ieee.double.signWeight=2^63:=rfl;unfold Ieee.Format.read;rw[h];simp only[e1,e2];split;{rfl};{split;{rfl};{split<;>rfl}}
theorem Fl.W.neg{a:Nat}{x:Int}(h:Fl.W a x):Fl.W (Fl.neg a) (-x):=by show Fl.WD (Ieee.double.read (Fl.neg a)) (-x);rw[Fl.K2];exact Fl.WD.opposite h
theorem Ko{R:Reach}{w:World}{x:Nat}(hx:Fl.num x=Qf)(hR:∀b o,R b o->b<w.heap.size)(hG:GlOK (cnGl ee) R w):Calls Tryz.prog 378 #[.float .f64 x] w λe w'=>e=.returned (.float .f64 (Fl.nD x))/\Below w.heap.size w w':=by
 refine((ajd [.c (.float .f64 x)] [.c (.float .f64 (Fl.nD x))] ⟨hx,rfl⟩).2 w R [.float .f64 x] hR hG ⟨rfl,λi y v hy hv=>?_⟩ λi j v v' b hi=>(hi (by simp[bz])).elim).mono ?_
 ·cases i with
  |zero=>cases hy;cases hv;exact .sc rfl
  |succ i=>simp at hy
 ·rintro e w' ⟨y,R',jt,ys,rfl,hx,hr,ho⟩;refine⟨?_,hx.os,hx.tape,hx.output,hx.size,λk hk=>hx.heap k hk (by rintro⟨i,v,hm,_⟩;exact hm (by simp[bz]))⟩;congr 1;have hl:jt.length=1:=ho.len;have j7:=ho.rep;rw[ho.val];match jt,hl with
  |[y],_=>
   have j7:hO R' w' [.c (.float .f64 (Fl.nD x))] [y]:=j7;cases j7 with
   |cons a _=>exact a.cq rfl
theorem wh1{R:Reach}(b:Nat)(x m:Nat)(X M:Int)(w:World)(hc:w.cell? ⟨b,0,Kk⟩=Bm (.float .f64 m))(hX:Fl.W x X)(hM:Fl.W m M)(hXM:(X.natAbs:Int)<=M)(hB:M<=9007199254740992)(hR:∀b o,R b o->b<w.heap.size)(hG:GlOK (cnGl ee) R w):Calls Tryz.prog 380 #[.float .f64 x,.pointer (Bm ⟨b,0,Kk⟩)] w λe w'=>e=.returned (.bool Qf)/\Below w.heap.size w w':=by
 have hn:∀w:World,(Op.unary .neg (.float .f64 m)).run Tryz.prog w=.ok (.float .f64 (Fl.neg m)) w:=λw=>rfl;have h1:FloatKind.f64.format.order x (Fl.neg m)=Bm .gt\/FloatKind.f64.format.order x (Fl.neg m)=Bm .eq:=by{have e:FloatKind.f64.format.order x (Fl.neg m)=Bm (compare X (-M)):=Fl.mr hX hM.neg;rw[e];rcases Int.lt_or_eq_of_le (show -M<=X by omega)with c|c;{rw[Int.compare_eq_gt.2 c];exact .inl rfl};{rw[<-c,Int.compare_eq_eq.2 rfl];exact .inr rfl}};have h2:FloatKind.f64.format.order x m=Bm .lt\/FloatKind.f64.format.order x m=Bm .eq:=by{have e:FloatKind.f64.format.order x m=Bm (compare X M):=Fl.mr hX hM;rw[e];rcases Int.lt_or_eq_of_le (show X<=M by omega)with c|c;{rw[Int.compare_eq_lt.2 c];exact .inl rfl};{rw[<-c,Int.compare_eq_eq.2 rfl];exact .inr rfl}};have h3:FloatKind.f64.format.order x (Fl.nD x)=Bm .eq:=by{have e:FloatKind.f64.format.order x (Fl.nD x)=Bm (compare X X):=Fl.mr hX (hX.nD (by omega));rw[e,Int.compare_eq_eq.2 rfl]};go_enter Tryz.func380,Tryz.ntmps380;rcases h1 with h1|h1<;>rcases h2 with h2|h2;all_goals
  go_wp2_with (go_at_call 378;refine(Ko hX.num hR hG).mono ?_;rintro e w' ⟨rfl,hb⟩)
  go_ret
  exact⟨rfl,hb⟩
theorem Em{R:Reach}{w w':World}(hR:∀b o,R b o->b<w.heap.size)(h:Below w.heap.size w w')(hG:GlOK (cnGl ee) R w):GlOK (cnGl ee) R w':=hG.dr (sM (io:=λ_=>False) hR h).dr
theorem wh2{R:Reach}(z:Cx)(m:Nat)(X Y M:Int)(w:World)(hZ:Gz.Is z X Y)(hM:Fl.W m M)(hX:(X.natAbs:Int)<=M)(hY:(Y.natAbs:Int)<=M)(hB:M<=9007199254740992)(hR:∀b o,R b o->b<w.heap.size)(hG:GlOK (cnGl ee) R w):Calls Tryz.prog 373 #[.complex .f64 z.1 z.2,.float .f64 m] w λe w'=>e=.returned (.bool Qf)/\Below w.heap.size w w':=by have hmf:∀(fn:Fn)(first cap:Array Value)(w:World),(Instr.makeFunc fn first cap).run Tryz.prog w=.ok (.func fn first cap) w:=λ_ _ _ _=>rfl;have vQ:Below w.heap.size w (w.alloc (.cells #[.float .f64 m] 430)):=(Below.refl _ _).alloc (Nat.le_refl _) _;have Kd:(w.alloc (.cells #[.float .f64 m] 430)).cell? ⟨w.heap.size,0,Kk⟩=Bm (.float .f64 m):=by{rw[World.cell?_alloc_at _ _ _ _ rfl];rfl};have NG:(w.alloc (.cells #[.float .f64 m] 430)).heap.size=w.heap.size+1:=Array.size_push ..;have hre:∀(a:Array TypeId)(b:TypeId)(p q:Nat)(w:World),(Builtin.real_ a b #[.complex .f64 p q]).run Tryz.prog w=.ok (.float .f64 p) w:=λ_ _ _ _ _=>rfl;have him:∀(a:Array TypeId)(b:TypeId)(p q:Nat)(w:World),(Builtin.imag_ a b #[.complex .f64 p q]).run Tryz.prog w=.ok (.float .f64 q) w:=λ_ _ _ _ _=>rfl;have hR1:∀b o,R b o->b<(w.alloc (.cells #[.float .f64 m] 430)).heap.size:=λb o h=>by{have:=hR b o h;omega};go_enter Tryz.func373,Tryz.ntmps373;have Xt:=Em hR vQ hG;go_wp2_with (go_at_call 380;refine(wh1 (R:=R) w.heap.size z.1 m X M (w.alloc (.cells #[.float .f64 m] 430)) Kd hZ.1 hM hX hB hR1 Xt).mono ?Jr;rintro e w2 ⟨rfl,wX⟩);have Gp:w2.cell? ⟨w.heap.size,0,Kk⟩=Bm (.float .f64 m):=by{simp only[World.cell?,wX.block w.heap.size (by omega)];exact Kd};have hR2:∀b o,R b o->b<w2.heap.size:=λb o h=>Nat.lt_of_lt_of_le (hR1 b o h) wX.size;refine(wh1 (R:=R) w.heap.size z.2 m Y M w2 Gp hZ.2 hM hY hB hR2 (Em hR1 wX Xt)).mono ?_;rintro e w3 ⟨rfl,Mc⟩;go_wp2;go_ret;refine⟨rfl,?_⟩;exact⟨Mc.os.trans (wX.os.trans vQ.os),Mc.tape.trans (wX.tape.trans vQ.tape),Mc.output.trans (wX.output.trans vQ.output),by have:=Mc.size;have:=wX.size;omega,λk hk=>(Mc.block k (by have:=wX.size;omega)).trans ((wX.block k (by omega)).trans (vQ.block k hk))⟩
theorem adP:KO ee 373 adQ bz:=jd (by kernel_rfl) λti iA w R xs hc ha hR hG=>by unfold adQ at hc;split at hc;{rename_i p q m;obtain⟨hp,rfl⟩:=hc;obtain rfl:=kn ha rfl;unfold Gz.Ss at hp;classical obtain⟨X,Y,M,h1,h2,h3,h4,h5⟩:=ao hp;refine(wh2 (p,q) m X Y M w h1 h2 h3 h4 h5 hR hG).mono ?_;rintro e w' ⟨rfl,hb⟩;exact⟨_,rfl,hb,λR w'=>q9 (.sc rfl)⟩};{exact hc.elim}
end Go.Eng
namespace Go.Eng
open Go.IntWalk
def Pk(x:UInt8):((oF x ((4:UInt64)).toNat).toNat:Int).toNat=x.toNat/16:=by have:=x.toNat_lt;simp[oF,UInt8.toNat_ofNat'];omega
def LV(x:UInt8):(((x&&&(15:UInt8))).toNat:Int).toNat=x.toNat%16:=by have:x.toNat&&&15=x.toNat%16:=Nat.and_two_pow_sub_one_eq_mod x.toNat 4;simp[UInt8.toNat_and,this];omega
def LU(n:Nat)(h:n<16):bH (n:Int) (([48,49,50,51,52,53,54,55,56,57,97,98,99,100,101,102]:bE)).length=Qf:=by simp[bH];omega
def awL(b:bE)(hb:b.length<=1099511627776):∀(m i:Nat)(acc:bE),i+m=b.length->acc.length=2*i->acK b (b.length:Int) i acc=Bm [.s (acc++pT.text (b.drop i))]:=by
 intro m;induction m with
 |zero=>intro i acc hi hl;apply akx;intro v1 h1 v2 h2 v3 h3 v4 h4 v5 h5 v6 h6;rw[cF,aD (by omega)];simp[pT.text]
 |succ m ih=>intro i acc hi hl;apply akx;intro v1 h1 v2 h2 v3 h3 v4 h4 v5 h5 v6 h6;rw[aq]at h1;have hx:=v1.toNat_lt;have e1:((v2.toNat:Nat):Int)=((v1.toNat/16:Nat):Int):=by{rw[h2];have:=Pk v1;omega};have e2:(((v1&&&(15:UInt8))).toNat:Int)=((v1.toNat%16:Nat):Int):=by{have:=LV v1;omega};rw[e1,aq]at h3;rw[e2,aq]at h4;have e5:v5=acc++pT.two v1:=by{rw[h5,h3,h4];rfl};rw[cT,ll,e1,e2,bA (LU _ (by omega)),bA (LU _ (by omega)),bA (dD (by simp;omega) (by simp;omega)),e5,show v6=((i+1:Nat):Int) by rw[h6,iw];omega,ih _ _ (by omega) (by simp[pT.two,hl];omega),Ua (l:=b) (i:=i) (by omega) 0,<-h1,pT.text,aB]
def ah6(b:bE)(hp:nP (b.length<=1099511627776)=Qf):awN b=Bm [.s (pT.text b)]:=by have hp:=ao hp;apply awM;intro v1 h1 v2 h2;have e:tJ (0:Int) v1 1=Qf:=by{rw[h1,iw,nF];unfold maxLen;omega};rw[e,bK,h2];exact awL b hp b.length 0 [] (by omega) rfl
def aus(fR:List Int)(hl:fR.length<=10)(hs:∀s∈fR,0<=s):∀(m i:Nat)(left:Int),i+m=fR.length->left<=1200->aca left fR i=Bm [.i .i64 (fL.room left (fR.drop i))]:=by
 intro m;induction m with
 |zero=>intro i left hi hle;apply ajP;intro v1 h1 v2 h2 v3 h3;rw[cF,aD (by omega)];rfl
 |succ m ih=>intro i left hi hle;apply ajP;intro v1 h1 v2 h2 v3 h3;rw[aq]at h1;have h0:0<=v1:=hs v1 (by rw[h1,ai,au (show i<fR.length by omega)];simp);rw[cT,show bH (i:Int) fR.length=Qf from ez (by omega) (by omega),Ua (l:=fR) (i:=i) (by omega) 0,<-h1,fL.room];simp only[aM,Bool.and_true,aL,bn,bK];by_cases a:left<0\/left<v1;{rw[ar a,show v2=Qf by rw[h2];by_cases b:left<0<;>simp[b];omega];rfl};{rw[ak a,show v2=Qg by rw[h2];by_cases b:left<0<;>simp[b]<;>omega,ae,show v3=((i+1:Nat):Int) by rw[h3,iw];omega,iw,ih _ _ (by omega) (by omega)]}
def ahf(left:Int)(fR:List Int)(hp:(nP (left<=1200/\fR.length<=10)&&fR.all (λs=>nP (0<=s)))=Qf):auu left fR=Bm [.i .i64 (fL.room left fR)]:=by simp only[ah,aC,aI]at hp;rw[aut];exact aus fR hp.1.2 hp.2 fR.length 0 left (by omega) hp.1.1
def fL.Qp(left a:Int)(ha:0<=a)(hl:left<=1200):fL.room left [a]<=1200/\(fL.room left [a]=-1\/(fL.room left [a]=left -a/\0<=left -a)):=by simp only[fL.room];split<;>omega
def fL.Qo(left a b c d:Int)(ha:0<=a)(hb:0<=b)(hc:0<=c)(hd:0<=d)(hl:left<=1200):fL.room left [a,b,c,d]<=1200/\(fL.room left [a,b,c,d]=-1\/(fL.room left [a,b,c,d]=left -a -b -c -d/\0<=left -a -b -c -d)):=by simp only[fL.room];split;{omega};{split;{omega};{split;{omega};{split<;>omega}}}
mutual
theorem fL.xJ:∀(f:bB)(left:Int),left<=1200->fL.value left f<=1200/\(0<=fL.value left f->(bB.bC f:Int) -f.name.length<=left -fL.value left f)
 |.mk n k b h l t m s y ks,left,hl=>by
  have h1:=fL.Qo left 2 t.length m.length y.length (by omega) (by omega) (by omega) (by omega) hl
  have h2:=fL.z7 ks (fL.room left [2,(t.length:Int),(m.length:Int),(y.length:Int)]) h1.1
  simp only[fL.value,bB.bC,bB.name]
  refine⟨h2.1,fun h0=>?_⟩
  rcases h1.2 with e|⟨e,e0⟩
  ·have:=h2.2.2 (by omega);omega
  ·have:=h2.2.1 h0;omega
theorem fL.z7:∀(ks:List bB)(left:Int),left<=1200->fL.values left ks<=1200/\(0<=fL.values left ks->(bB.bD ks:Int)<=left -fL.values left ks)/\(left<0->fL.values left ks<0)
 |[],left,hl=>by simp only[fL.values,bB.bD];omega
 |f::r,left,hl=>by
  simp only[fL.values,bB.bD]
  by_cases h:left<0
  ·rw[ar h];omega
  ·rw[ak h]
   have h1:=fL.Qp left f.name.length (by omega) hl
   have h2:=fL.xJ f (fL.room left [(f.name.length:Int)]) h1.1
   have h3:=fL.z7 r (fL.value (fL.room left [(f.name.length:Int)]) f) h2.1
   refine⟨h3.1,fun h0=>?_,fun h0=>by omega⟩
   have h4:=h3.2.1 h0
   have h5:0<=fL.value (fL.room left [(f.name.length:Int)]) f:=by
    by_cases h6:fL.value (fL.room left [(f.name.length:Int)]) f<0
    ·have:=h3.2.2 h6;omega
    ·omega
   have h7:=h2.2 h5
   have hb:(f.name.length:Int)<=bB.bC f:=by cases f;simp only[bB.name,bB.bC];omega
   rcases h1.2 with e|⟨e,e0⟩
   ·omega
   ·omega
end
def fL.FG(v:Val)(h:0<=fL.value 1200 (bB.of [] v)):bB.bC (bB.of [] v)<=1200:=by have:=(fL.xJ (bB.of [] v) 1200 (by omega)).2 h;have hn:(bB.of [] v).name=[]:=rfl;rw[hn]at this;simp at this;omega
theorem fL.Io(left:Int)(f:bB):fL.value left (bB.of [] f.val)=fL.value left f:=by cases f;rfl
def fL.Kp(f:bB)(left:Int)(hl:left<=1200)(h0:0<=fL.value left f):fL.value left f+1<=left:=by have:=(fL.xJ f left hl).2 h0;have hb:(f.name.length:Int)+1<=bB.bC f:=by{cases f;simp only[bB.name,bB.bC];omega};omega
def axT(n:Nat)(v:Val)(hn:bB.bD v.kids<n):∀(m i:Nat)(left:Int),i+m=v.kids.length->(i:Int)+left<=1200->ac2 n left i v=Bm [.i .i64 (fL.values left (v.kids.drop i))]:=by
 intro m;induction m with
 |zero=>intro i left hi hle;apply akP;intro v1 h1 v2 h2 v3 h3 v4 h4 v5 h5 v6 h6 v7 h7;simp only[aL,bK];rw[show v2=Qg by rw[h2,dF];rfl,ae,aD (by omega)];rfl
 |succ m ih=>
  intro i left hi hle;apply akP;intro v1 h1 v2 h2 v3 h3 v4 h4 v5 h5 v6 h6 v7 h7;rw[aq]at h3;have hg:=bB.mz v.kids i (eu.dH .fl) (by omega);rw[<-h3]at hg;have hv:=bB.qq v3;have r1:=fL.Qp left v4 (by omega) (by omega);rw[<-h5]at r1;have r2:=fL.Kp v3 v5 r1.1;rw[fL.Io]at h6;simp only[aL,bK];rw[Ua (l:=v.kids) (i:=i) (by omega) (eu.dH .fl),<-h3,fL.values];by_cases h:left<0;{rw[ar h,show v2=Qg by rw[h2,ab (show¬0<=left by omega)];simp];rfl}
  ·have r3:(i:Int)+1+v6<=1200:=by{rw[h6];by_cases hx:0<=fL.value v5 v3;{have:=r2 hx;omega};{omega}};rw[ak h,show v2=Qf by rw[h2,dT,dT];rfl,aj,ll,bA (by simp;omega),ll,aa r1.1,dT,aM,bK,
    show v7=((i+1:Nat):Int) by rw[h7,iw];omega,ih _ _ (by omega) (by omega),h6,h5,h4]
def aiw(n:Nat)(left:Int)(v:Val)(hp:((nP (left<=1200))&&nP ((bB.bC (bB.of [] v))<n+1))=Qf):axV n left v=Bm [.i .i64 (fL.value left (bB.of [] v))]:=by simp only[ah,aC]at hp;obtain⟨hl,hn⟩:=hp;have NJ:bB.bD v.kids<bB.bC (bB.of [] v):=by{simp only[bB.of,bB.bC];omega};refine axU n left v ?_;intro v1 h1 v2 h2 v3 h3 v4 h4;have r:=fL.Qo left 2 v1 v2 v3 (by omega) (by omega) (by omega) (by omega) hl;rw[<-h4]at r;rw[bA (by rw[h4];simp;omega)];have key:=axT n v (by omega) v.kids.length 0 (fL.room left v4) (by omega) (by omega);rw[aX]at key;refine key.trans ?_;rw[h4,h1,h2,h3];rfl
def agG(v:Val):asX v=Bm [.b (nP (0<=fL.value 1200 (bB.of [] v)))]:=by refine asW v ?_;intro v1 h1;rw[bA (by decide),h1]
end Go.Eng
