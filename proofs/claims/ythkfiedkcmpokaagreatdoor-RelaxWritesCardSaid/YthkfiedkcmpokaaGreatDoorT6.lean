/- Texts of my own, one behind the other: WrQ4, WrQ5, WrQ6, WrUtfP, WrJd1, WrW1, WrW2, WrOKB, WrT34, WrQ7, WrQ8, WrQ9, WrQ10, WrQ11, WrQ12, WrQ13, WrZ0, WrZ1, WrZ2, WrJd2, WrJd3, WrY1, WrZ4, WrW3, WrW4, WrW5, WrJd4, WrJd5, WrZ5, WrZ3, WrZ6, WrW6, WrQ14, WrWPp, WrWP, WrHx, WrJp1, WrRp1, WrRp2, WrRp3, WrRp4, WrRp5, WrJp2, WrJp3, WrJp4, WrRp6, WrRp7, WrOKT, WrWhole, WrTreeP1, WrTreeP2, WrTreeP3, WrTreeP4, WrRegP, WrBookP. -/
import Derived.Test.YthkfiedkcmpokaaGreatDoorT5
import Derived.Lib.ParseIntBTie
import Derived.WalkKit
import Derived.WalkSpells
import Derived.Lib.SmallJoins
import Derived.IntWalk
set_option linter.defProp false
set_option linter.unusedVariables false
set_option linter.unusedSimpArgs false
open Decidable renaming decide→oG
open Option renaming some→BQ
open Option renaming none→Ku
open Bool renaming true→NS
open Bool renaming false→NT
noncomputable section
set_option maxRecDepth 20000
namespace Go.Eng
open Go.IntWalk
def PU{n k p:Nat}(hp:p=10^k)(hk:1<=k)(h:p<=n):Nr.dec n=Nr.dec (n/p)++(Sh.eK ((k:Int) -((Nr.dec (n% p)).length:Int))++Nr.dec (n% p)):=by have Ml:0<p:=by{rw[hp];exact Nat.pow_pos (by omega)};obtain⟨q1,q2,q3,q4⟩:=Nr.kH (n/p);obtain⟨r1,r2,r3,r4⟩:=Nr.kH (n% p);have rl:=Nr.iD k (n% p) (by rw[<-hp];exact Nat.mod_lt _ Ml) hk;have hz:=Sh.vN ((k:Int) -((Nr.dec (n% p)).length:Int));have JC:(Sh.eK ((k:Int) -((Nr.dec (n% p)).length:Int))++Nr.dec (n% p)).length=k:=by{unfold Sh.eK;rw[ae,List.length_replicate];omega};have Zg:Nr.num (Sh.eK ((k:Int) -((Nr.dec (n% p)).length:Int)))=0:=Nr.kF _;have SI:Nr.num (Nr.dec (n/p)++(Sh.eK ((k:Int) -((Nr.dec (n% p)).length:Int))++Nr.dec (n% p)))=n:=by{rw[Nr.fU,JC,Nr.fU,Zg,q2,r2,Nat.zero_mul,Nat.zero_add,<-hp];exact Nat.div_add_mod' n p};have hu:=Nr.mN _ (Nr.dec (n/p)++(Sh.eK ((k:Int) -((Nr.dec (n% p)).length:Int))++Nr.dec (n% p))) rfl (by rw[List.all_append,List.all_append,q1,hz,r1];rfl) (by simp[q3]) (by rw[aj,List.getElem?_append_left (List.length_pos_iff.2 q3),<-aj];exact q4 (Nat.div_pos h Ml));rw[SI]at hu;exact hu.symm
def Rv{N:Nat}(hl:(Nr.dec N).length<=1000):aat (Nr.dec N)=BQ [.s (Nr.dec N)]:=by
 obtain⟨q1,q2,q3,q4⟩:=Nr.kH N;have VN:=Nr.nZ N;apply aye;intro v1 h1 v2 h2 v3 h3;have e1:v1=((Nr.dec N).length -1:Nat):=by{rw[h1,iw];omega};have e2:v2=(Nr.dec N).take ((Nr.dec N).length -1):=by
  rw[h2,e1,ah];unfold Lib.trimLeftS;by_cases c:N<10;{rw[Nr.mV c];rfl}
  ·have X6:=q4 (by omega);have hlen:2<=(Nr.dec N).length:=by{rw[Nr.tz c,ae];have:=Nr.nZ (N/10);simp;omega};generalize Nr.dec N=s at*;match s,hlen,X6 with
   |x::y::r,_,X6=>have hx:x≠48:=X6;simp[hx]
 have e3:v3=Nr.dec N:=by{rw[h3,e2,e1,ah,List.take_append_drop]};rw[Aa,bC ?_,Aa,bC (aa ?_),e3];{rw[e2,e1,ah];simp only[aF,aR];omega};{rw[af];refine⟨aa ⟨?_,by decide⟩,by decide⟩;simp only[aF];omega}
theorem t19:(10:Nat)^19=10000000000000000000:=by decide
theorem t20:(10:Nat)^20=100000000000000000000:=by decide
theorem t38:(10000000000000000000:Nat)^2=100000000000000000000000000000000000000:=by decide
theorem t40:(10:Nat)^40=10000000000000000000000000000000000000000:=by decide
theorem p19:(10000000000000000000:UInt64).toNat=10000000000000000000:=rfl
def ayg:∀(k:Nat)(a:dY)(t:bD),a.val<18446744073709551616*10000000000000000000^k->(t=[]\/1<=a.val)->t.length+20*k<=900->aaP t a.high a.low=aat (Nr.dec a.val++t):=by
 have last:∀(a:dY)(t:bD),a.high=0->(t=[]\/1<=a.val)->t.length<=900->aaP t a.high a.low=aat (Nr.dec a.val++t):=λa t h0 ht hl=>by{apply ald;intro v1 h1 v2 h2 v3 h3 v4 h4 v5 h5 v6 h6;have hv:a.val=a.low.toNat:=by{rw[dY.jc,h0];show 0*_+_=_;omega};have hd:=Nr.iD 20 a.low.toNat (by rw[t20];have:=a.low.toNat_lt;omega) (by omega);rw[aa h0,aG,ai,bC (by cases oG (t=([]:bD))<;>rfl),bC (by cases oG (t=([]:bD))<;>rfl),Da];have e6:v6=NS:=by{rw[h6];rcases ht with rfl|ht;{rfl};{rw[ab (p:=a.low=0) (λe=>by rw[hv,e]at ht;exact absurd ht (by decide))];cases oG (t=([]:bD))<;>rfl}};rw[e6,au,bC (by rfl),gK,hv]};intro k;induction k with
 |zero=>intro a t h ht hl;refine last a t (fL ?_) ht (by omega);rw[dY.jc]at h;show _=0;omega
 |succ k ih=>
  intro a t h ht hl;by_cases h0:a.high=0;{exact last a t h0 ht (by omega)};have SP:18446744073709551616<=a.val:=by{rw[dY.jc];have:0<a.high.toNat:=by{rcases Nat.eq_zero_or_pos a.high.toNat with e|e;{exact(h0 (fL e)).elim};{exact e}};omega};apply ald;intro v1 h1 v2 h2 v3 h3 v4 h4 v5 h5 v6 h6;rw[p19]at h1 h2;have hm:=Nat.mod_lt a.val (show 0<10000000000000000000 by omega);have e1:v1=dY.of (a.val/10000000000000000000):=h1;have e2:v2.toNat=a.val%10000000000000000000:=by{rw[h2];show(UInt64.ofNat (a.val%10000000000000000000)).toNat=_;rw[fT];omega};have Vz:a.val<340282366920938463463374607431768211456:=by{rw[dY.jc];have:=a.high.toNat_lt;have:=a.low.toNat_lt;omega};have ev:v1.val=a.val/10000000000000000000:=by{rw[e1,Qi (by omega)]};have hd:=Nr.iD 19 (a.val%10000000000000000000) (by rw[t19];exact hm) (by omega);have hd1:=Nr.nZ (a.val%10000000000000000000);rw[e2]at h3 h5;have e4:v4=(19:Nat) -((Nr.dec (a.val%10000000000000000000)).length:Int):=by{rw[h4,h3,iw];rfl};have hz:(Sh.eK v4).length=v4.toNat:=by{unfold Sh.eK;rw[List.length_replicate]};have h5l:v5.length<=20:=by{rw[h5,ae,hz];omega};rw[ab h0,aJ,au,bC (by rfl),bC (by rfl),bC (aa ⟨rfl,by omega,by omega⟩),e2,bC (aa (by rw[hz];omega)),gK];rw[ih v1 (v5++t) (by rw[ev,Nat.div_lt_iff_lt_mul (by omega),Nat.mul_assoc,<-Nat.pow_succ];exact h) (.inr (by rw[ev];omega)) (by rw[ae];omega),ev,
   PU (n:=a.val) (k:=19) (p:=10000000000000000000) (by decide) (by omega) (by omega),h5,e4,aA,aA,aA]
def ait(a:dY):ayh a=BQ [.s (Nr.dec a.val)]:=by have Vz:a.val<340282366920938463463374607431768211456:=by{rw[dY.jc];have:=a.high.toNat_lt;have:=a.low.toNat_lt;omega};rw[ayf,ayg 2 a [] (by rw[t38];omega) (.inl rfl) (by simp),aM];exact Rv (Nat.le_trans (Nr.iD 40 a.val (by rw[t40];omega) (by omega)) (by omega))
theorem vL(n:Int):Sh.eK n=List.replicate n.toNat 48:=rfl
def ahs(d:bD)(x:Int)(hp:(oG (1<=d.length/\d.length<=40/\-10000<=x/\x<=100000))=NS):avy d x=BQ [.s (Cn.laid d x)]:=by obtain⟨l1,l2,x1,x2⟩:=aq hp;apply avx;intro v1 h1 v2 h2 v3 h3 v4 h4 v5 h5 v6 h6 v7 h7 v8 h8;unfold Cn.laid;simp only;by_cases c0:x=0;{rw[cT c0,ar c0]};rw[cF c0,ak c0,iv,iv];have e1:v1=x+d.length:=by{rw[h1,iw]};have e2:v2=x+d.length -1:=by{rw[h2,e1,iw]};have e3:v3=oG (x<0/\-6<=x+d.length -1):=by{rw[h3,e2,Bool.decide_and,re]};have e5:v5=1 -x -d.length:=by{rw[h5,h4,i64_in (1 -x) (by omega),iw]};have en:IntKind.i64.wrap (0 -x)=-x:=by{rw[iw];omega};rw[e3,en];by_cases c1:x<0/\-6<=x+d.length -1;{rw[cT c1,ar c1];have key:∀s:bD,s.length<=200->-x<=s.length->abT s x (s.length:Int)=BQ [.s (s.take (s.length+x).toNat++46::s.drop (s.length+x).toNat)]:=λs hs hx=>by{apply avw;intro w1 g1 w2 g2;have e:IntKind.i64.wrap ((s.length:Int)+x)=s.length+x:=iw;rw[e]at g1 g2⊢;rw[Aa,bC (aa ?_),Aa,bC (aa ?_),g1,g2];{simp};{rw[g1,g2];simp;omega};{rw[g1];simp;omega}};by_cases c2:(d.length:Int)<=-x;{rw[cT c2,ar c2,bC (aa ⟨by trivial,by omega,by omega⟩),bC (aa (by rw[vL,List.length_replicate];omega)),h6,e5];exact key _ (by rw[ae,vL,List.length_replicate];omega) (by rw[ae,vL,List.length_replicate];omega)};{rw[cF c2,ak c2];exact key _ (by omega) (by omega)}};{rw[cF c1,ak c1,Aa];have e7:v7=d.take 1:=h7;have e8:v8=d.drop 1:=h8;have key:∀s:bD,s.length<=200->abS v2 s=BQ [.s (if x+d.length -1<0 then s++[69,45]++Nr.itoa (-(x+d.length -1))else s++[69,43]++Nr.itoa (x+d.length -1))]:=λs hs=>by{apply avv;intro w1 g1 w2 g2 w3 g3;have hi:∀v:Int,-1000000<=v->v<=1000000->Nr.i64 v=NS/\(Nr.itoa v).length<=30:=λv a b=>by{refine⟨dT,?_⟩;rw[Nr.jH];have:=Nr.iD 20 v.natAbs (by rw[t20];omega) (by omega);split;{simp only[av];omega};{omega}};have ew:IntKind.i64.wrap (0 -v2)=-(x+d.length -1):=by{rw[e2,iw];omega};rw[ew]at g1⊢;rw[g2,g3,g1,e2];by_cases c:x+(d.length:Int) -1<0;{rw[cT c,ar c,bC (aa (by simp;omega)),bC (hi _ (by omega) (by omega)).1,bC (aa ?_)];have:=(hi (-(x+d.length -1)) (by omega) (by omega)).2;simp;omega};{rw[cF c,ak c,bC (aa (by simp;omega)),bC (hi _ (by omega) (by omega)).1,bC (aa ?_)];have:=(hi (x+d.length -1) (by omega) (by omega)).2;simp;omega}};by_cases c2:(1:Int)<d.length;{rw[cT c2,ar c2,Aa,bC (aa (by rw[e8];simp;omega)),bC (aa (by rw[e8,e7];simp;omega)),e7,e8];exact key _ (by simp;omega)};{rw[cF c2,ak c2,e7];exact key _ (by simp;omega)}}
def ui(h l:UInt64):(Cn.split h l).2.2.1.val<10000000000000000000000000000000000:=by have z:dY.val ⟨0,0⟩=0:=by{rw[dY.jc];rfl};rw[Cn.uS];unfold Cn.uj;simp only;split;{rw[z];omega};split;{rw[z];omega};split;{rw[z];omega};{dsimp only;split;{assumption};{rw[z];omega}}
theorem t34:(10:Nat)^34=10000000000000000000000000000000000:=by decide
def By{d:bD}{x:Int}(h1:d.length<=40)(h2:-10000<=x)(h3:x<=100000):(Cn.laid d x).length<=20000:=by unfold Cn.laid;simp only;have hi:∀v:Int,-1000000<=v->v<=1000000->(Nr.itoa v).length<=30:=λv a b=>by{rw[Nr.jH];have:=Nr.iD 20 v.natAbs (by rw[t20];omega) (by omega);split;{simp only[av];omega};{omega}};have i1:=hi (-(x+d.length -1)) (by omega) (by omega);have i2:=hi (x+d.length -1) (by omega) (by omega);have tl:(if(1:Int)<(d.length:Int)then d.take 1++46::d.drop 1 else d.take 1).length<=60:=by{split<;>simp<;>omega};split;{omega};split;{split<;>simp<;>omega};{split<;>rw[ae,ae]<;>simp only[av,aE]<;>omega}
def ahc(h l:UInt64):auR h l=BQ [.s (Cn.qX h l)]:=by
 apply auQ;intro v1 h1 v2 h2;have hx:=qJ h l;have hc:=ui h l;have hd:=Nr.iD 34 _ (by rw[t34];exact hc) (by omega);have hd1:=Nr.nZ (Cn.split h l).2.2.1.val;unfold Cn.qX;simp only;by_cases c1:(Cn.split h l).1=3;{rw[cT c1,ar c1]};rw[cF c1,ak c1];have key:∀t:bD,t.length<=20000->abL (Cn.split h l).2.1 t=BQ [.s (cond (Cn.split h l).2.1 (45::t) t)]:=λt ht=>by
  rw[auP];cases(Cn.split h l).2.1 with
  |true=>rw[au,bC (aa (by simp;omega))];rfl
  |false=>rfl
 by_cases c2:(Cn.split h l).1=2;{rw[cT c2,ar c2];exact key _ (by decide)};rw[cF c2,ak c2,bC (aa (by rw[h1];omega)),h2,h1];exact key _ (By (by omega) (by omega) (by omega))
theorem RS:Cn.xp.length=64:=rfl
def AR(n:UInt8)(h:n.toNat<64):bG (n.toNat:Int) Cn.xp.length=NS:=dC (by omega) (by rw[RS];omega)
theorem K4(x:UInt8)(k:Nat):(oK x k).toNat=x.toNat/2^k:=by unfold oK;rw[UInt8.toNat_ofNat'];exact Nat.mod_eq_of_lt (Nat.lt_of_le_of_lt (Nat.div_le_self ..) x.toNat_lt)
def TH(x:UInt8):(oK x 2).toNat<64:=by rw[K4];have:=x.toNat_lt;omega
def P6(x:UInt8):(x&&&(63:UInt8)).toNat<64:=by rw[UInt8.toNat_and,show(63:UInt8).toNat=2^6 -1 from rfl,Nat.and_two_pow_sub_one_eq_mod];omega
def Ri(x:UInt8):(o9 (x&&&3) 4).toNat<64/\16∣(o9 (x&&&3) 4).toNat:=by have h:(x&&&(3:UInt8)).toNat=x.toNat%4:=by{rw[UInt8.toNat_and,show(3:UInt8).toNat=2^2 -1 from rfl,Nat.and_two_pow_sub_one_eq_mod]};unfold o9;rw[h,UInt8.toNat_ofNat'];omega
def Rj(x:UInt8):(o9 (x&&&15) 2).toNat<64/\4∣(o9 (x&&&15) 2).toNat:=by have h:(x&&&(15:UInt8)).toNat=x.toNat%16:=by{rw[UInt8.toNat_and,show(15:UInt8).toNat=2^4 -1 from rfl,Nat.and_two_pow_sub_one_eq_mod]};unfold o9;rw[h,UInt8.toNat_ofNat'];omega
def Wr{a b:UInt8}(h:a.toNat<64)(k:b.toNat<64):(a|||b).toNat<64:=by rw[UInt8.toNat_or];exact Nat.or_lt_two_pow (n:=6) h k
def Rh(x:UInt8)(k:Nat)(h:2<=k):(oK x k).toNat<64:=by rw[K4];have h1:x.toNat/2^k<=x.toNat/2^2:=Nat.div_le_div_left (Nat.pow_le_pow_right (by omega) h) (by decide);have:=x.toNat_lt;omega
theorem Fh:∀l:bD,(Cn.base l).length<=2*l.length+4
 |[]=>by simp[Cn.base]
 |[_]=>by simp[Cn.base]
 |[_,_]=>by simp[Cn.base]
 |_::_::_::r=>by have:=Fh r;simp[Cn.base];omega
def awQ:∀(n:Nat)(l t:bD),l.length<=n->l.length<=1099511627776->t.length+2*l.length<=5000000000000->aca l t=BQ [.s (t++Cn.base l)]:=by
 intro n;induction n with
 |zero=>intro l t h _ _;have:l=[]:=bm (by omega);subst this;apply akJ;intros;rw[ab (by simp),ai,ab (by simp),ai,ab (by simp),ai,acb];simp[Cn.base]
 |succ n ih=>
  intro l t h hl ht;apply akJ;intro v1 h1 v2 h2 v3 h3 v4 h4 v5 h5 v6 h6 v7 h7 v8 h8 v9 h9 v10 jo v11 lg v12 lZ jw qB iI rk iO qo mo uM ug C8 o8 As;have e2:v2=oK v1 2:=h2;have e4:v4=o9 (v1&&&3) 4:=h4;have e6:v6=oK v5 4:=h6;have e8:v8=o9 (v5&&&15) 2:=h8;have CM:v10=oK v9 6:=jo;have i1:=AR v2 (by rw[e2];exact TH _);have i2:=AR (v4|||v6) (Wr (by rw[e4];exact(Ri _).1) (by rw[e6];exact Rh _ _ (by omega)));have i3:=AR (v8|||v10) (Wr (by rw[e8];exact(Rj _).1) (by rw[CM];exact Rh _ _ (by omega)));have i4:=AR (v9&&&63) (P6 _);have i5:=AR v4 (by rw[e4];exact(Ri _).1);have i6:=AR v8 (by rw[e8];exact(Rj _).1);have s3:v3=Cn.sign v2:=h3;have s7:v7=Cn.sign (v4|||v6):=h7;have s11:v11=Cn.sign (v8|||v10):=lg;have s12:v12=Cn.sign (v9&&&63):=lZ;have s15:iO=Cn.sign v4:=qo;have s17:ug=Cn.sign v8:=C8;change bG _ (([65,66,67,68,69,70,71,72,73,74,75,76,77,78,79,80,81,82,83,84,85,86,87,88,89,90,97,98,99,100,101,102,103,104,105,106,107,108,109,110,111,112,113,114,115,116,117,118,119,120,121,122,48,49,50,51,52,53,54,55,56,57,43,47]:bD)).length=NS at i1 i2 i3 i4 i5 i6;rw[i1,i2,i3,i4,i5,i6];match l,h,hl,ht with
  |[],_,_,_=>rw[ab (by simp),ai,ab (by simp),ai,ab (by simp),ai,acb];simp[Cn.base]
  |[a],_,_,ht=>have ea:v1=a:=h1;simp only[av,aE]at ht;rw[ab (by simp),ai,aa (by simp),au,bC (by rfl),bO,bC (by rfl),bO,bC (dJ (by rw[uM];simp;omega) (by rw[uM];simp;omega)),acb];rw[uM,s3,s15,e4,e2,ea];rfl
  |[a,b],_,_,ht=>have ea:v1=a:=h1;have eb:v5=b:=h5;simp only[av,aE]at ht;rw[ab (by simp),ai,ab (by simp),ai,aa (by simp),au,bC (by rfl),bO,bC (by rfl),bC (by rfl),bO,bC (by rfl),bO,bC (dJ (by rw[As];simp;omega) (by rw[As];simp;omega)),acb];rw[As,s3,s7,s17,e8,e6,e4,e2,ea,eb];rfl
  |a::b::c::r,h,hl,ht=>
   have ea:v1=a:=h1;have eb:v5=b:=h5;have ec:v9=c:=h9;have er:iI=r:=rk;simp only[av]at h hl ht;have x:∀k:Int,0<=k->k<3->bG k (a::b::c::r).length=NS:=λk h1 h2=>dC h1 (by simp;omega);rw[aa (by simp;omega),au,bC (x _ (by omega) (by omega)),bO,bC (x _ (by omega) (by omega)),bC (x _ (by omega) (by omega)),bO,bC (x _ (by omega) (by omega)),bC (x _ (by omega) (by omega)),bO,bC (x _ (by omega) (by omega)),bO,
    bC (dJ (by rw[qB];simp;omega) (by rw[qB];simp;omega)),bC (oQ (by omega) (by simp;omega) (by simp)),er,
    ih r _ (by omega) (by omega) (by rw[qB];simp;omega)]
   rw[qB,s3,s7,s11,s12,CM,e8,e6,e4,e2,ea,eb,ec,aA];rfl
def ahW(b:bD)(hp:(oG (b.length<=1099511627776))=NS):awR b=BQ [.s (Cn.base b)]:=by have hp:=aq hp;rw[awP,awQ b.length b [] (Nat.le_refl _) hp (by simp;omega)];rfl
def aff(r:Int):aqC r=BQ [.b (dE.oO r)]:=by refine aqB r ?_;intro v1 h1 v2 h2 v3 h3;subst h1 h2 h3;by_cases a:0<=r<;>by_cases b:r<=1114111<;>by_cases c:r<55296<;>simp[ck,a,b,c,dE.oO]
def TQ:∀n,n<256->((n&&&192=128)↔(128<=n/\n<192)):=by decide+kernel
def Wt:∀n,n<256->(128<=n/\n<192)->n&&&63=n -128:=by decide+kernel
def Wu:∀n,n<256->(192<=n/\n<224)->n&&&31=n -192:=by decide+kernel
def Ww:∀n,n<256->(224<=n/\n<240)->n&&&15=n -224:=by decide+kernel
def and7:∀n,n<256->(240<=n/\n<248)->n&&&7=n -240:=by decide+kernel
def FV(c:UInt8):c.toNat<256:=by have:=c.toNat_lt;simpa using this
theorem Kb(c:UInt8):oG ((c&&&(192:UInt8))=(128:UInt8))=oG (128<=c.toNat/\c.toNat<192):=by have h:=TQ c.toNat (FV c);rw[aO];simp only[aD];rw[<-h,<-UInt8.toNat_inj,UInt8.toNat_and];exact Iff.rfl
def Y4(c:UInt8)(h:128<=c.toNat/\c.toNat<192):((c&&&(63:UInt8)).toNat:Int)=((c.toNat -128:Nat):Int):=by rw[UInt8.toNat_and];exact congrArg _ (Wt c.toNat (FV c) h)
def AA(r:Option Nat)(more least:Nat):OT:=match r with|some r=>if r<least\/dE.oO r=NT then BQ [.i .i64 0,.i .i64 0]else BQ [.i .i64 r,.i .i64 (more+1:Int)]|none=>BQ [.i .i64 0,.i .i64 0]
def HN(c:Nat)(more least:Nat)(l:bD):AA (dE.cont c more l) more least=BQ [.i .i64 (dE.qN c more least l).1,.i .i64 (dE.qN c more least l).2]:=by
 unfold AA dE.qN;cases dE.cont c more l with
 |none=>rfl
 |some r=>simp only;split<;>rfl
def aiS(r:Nat)(more least:Nat)(hm:more<8):(ck (!(!(oG ((r:Int)<(least:Int))))||(!(oG ((r:Int)<(least:Int))))) (ck (!(!(oG ((r:Int)<(least:Int))))||(!(oG ((r:Int)<(least:Int))))) (ck ((oG ((r:Int)<(least:Int)))||(!(oG ((r:Int)<(least:Int))))) (cond (cond (oG ((r:Int)<(least:Int))) NS (!(dE.oO r))) (Yn) (BQ [(.i .i64 (r:Int)),(.i .i64 (IntKind.i64.wrap ((more:Int)+(1:Int))))])))))=AA (BQ r) more least:=by simp only[aS,bh,bO];rw[iw,aax];unfold AA;by_cases h:r<least;{simp[h]};{simp only[show¬((r:Int)<(least:Int)) by omega,decide_false,ai,h,false_or];cases dE.oO r<;>simp}
def azo(b:bD)(at_:Nat)(more least:Nat)(hm:more<8)(hb:b.length<=1099511627776)(gI:at_+more<b.length):∀(k i r:Nat),i+k=more+1->r<2^(10+6*i)->acZ b at_ r more least i=AA (dE.cont r k (b.drop (at_+i))) more least:=by
 intro k;induction k with
 |zero=>intro i r hi hr;apply aeN;intro v1 h1 v2 h2 v3 h3 v4 h4 v5 h5 v6 h6 v7 h7;rw[show oG ((i:Int)<=(more:Int))=NT by simp;omega,ai];subst h6 h7;rw[dE.cont];exact aiS r more least hm
 |succ k ih=>intro i r hi hr;apply aeN;intro v1 h1 v2 h2 v3 h3 v4 h4 v5 h5 v6 h6 v7 h7;have hw:IntKind.i64.wrap ((at_:Int)+(i:Int))=((at_+i:Nat):Int):=by{rw[iw];omega};have QY:=TS (l:=b) (i:=at_+i) (by omega) 0;rw[show oG ((i:Int)<=(more:Int))=NS by simp;omega,au,hw];rw[hw,ah]at h1;rw[jQ,QY,<-h1,dE.cont,h2,Kb];by_cases hc:128<=v1.toNat/\v1.toNat<192;{rw[ar hc,aa hc];simp only[aG,ai];rw[jQ];have hp:2^(10+6*i)*64=2^(10+6*(i+1)):=by{rw[show 10+6*(i+1)=(10+6*i)+6 by omega,Nat.pow_add 2 (10+6*i) 6]};have Ko:2^(10+6*(i+1))<=2^58:=Nat.pow_le_pow_right (by omega) (by omega);have Zw:r*64+64<=2^(10+6*(i+1)):=by{rw[<-hp];have:=ay 64 (Nat.succ_le_of_lt hr);omega};have e3:v3=((r*64:Nat):Int):=by{rw[h3];have:(min (((6:UInt64)).toNat) (IntKind.i64.bits))=6:=by{decide};rw[this,i64_in _ (by simp at Ko;omega)];simp};have e4:v4=((v1.toNat -128:Nat):Int):=by{rw[h4,Y4 v1 hc];exact iw};have e5:v5=((i+1:Nat):Int):=by{rw[h5,iw];omega};have e6:dm .or .i64 v3 v4=((r*64+(v1.toNat -128):Nat):Int):=by{rw[e3,e4,RZ _ _ (by simp at Ko;omega) (by omega)];have:=qw (a:=r) (b:=v1.toNat -128) (k:=6) (by simp;omega);simp at this;rw[this]};rw[e6,e5,ih (i+1) _ (by omega) (by omega),Nat.add_assoc]};{rw[ak hc,ab hc];simp only[aJ,au];rw[aax];rfl}
def azm (b : bD) (at_ : Nat) (r more least : Nat) (hm : 1 ≤ more ∧ more < 8) (hb : b.length ≤ 1099511627776) (gI : at_ < b.length) (hr : r < 1024) :
    aaw b at_ r more least = AA (dE.cont r more (b.drop (at_ + 1))) more least := by
  have Q4 : ∀ (k r : Nat) (l : bD), l.length < k → dE.cont r k l = Ku := by
    intro k
    induction k with
    | zero => intro r l h; omega
    | succ k ih =>
      intro r l h
      cases l with
      | nil => rfl
      | cons c l => rw [dE.cont]; split
                    · exact ih _ _ (by simp at h; omega)
                    · rfl
  have key := fun (h : at_ + more < b.length) => azo b at_ more least hm.2 hb h more 1 r (by omega) (by simp; omega)
  by_cases hx : at_ + more < b.length
  · rw [← key hx]
    apply alO
    intro v1 h1 v2 h2 v3 h3 v4 h4 v5 h5 v6 h6 v7 h7 v8 h8 v9 h9 v10 jo
    symm
    apply aeN
    intro w1 k1 w2 k2 w3 k3 w4 k4 w5 k5 w6 k6 w7 k7
    have e1 : v1 = (b.length : Int) - at_ := by rw [h1]; exact iw
    have e2 : v2 = (b.length : Int) - at_ - 1 := by rw [h2, e1]; exact iw
    rw [show oG (v2 < (more : Int)) = NT by simp; omega, ai]
    have a1 : ((1 : Nat) : Int) = 1 := rfl
    simp only [a1] at k1 k2 k3 k4 k5 k6 k7 ⊢
    subst h3; subst h4; subst h5; subst h6; subst h7; subst h8; subst h9; subst jo; subst k1; subst k2; subst k3; subst k4; subst k5; subst k6; subst k7
    rfl
  · apply alO
    intro v1 h1 v2 h2 v3 h3 v4 h4 v5 h5 v6 h6 v7 h7 v8 h8 v9 h9 v10 jo
    have e1 : v1 = (b.length : Int) - at_ := by rw [h1]; exact iw
    have e2 : v2 = (b.length : Int) - at_ - 1 := by rw [h2, e1]; exact iw
    rw [show oG (v2 < (more : Int)) = NS by simp; omega, au, aax, Q4 _ _ _ (by simp; omega)]
    rfl
def T4(lo hi n:Nat):(cond (oG ((lo:Int)<=(n:Int))) (oG ((n:Int)<(hi:Int))) NT)=oG (lo<=n/\n<hi):=by by_cases a:lo<=n;{rw[show oG ((lo:Int)<=(n:Int))=NS by simp;omega,au,aO];simp;omega};{rw[show oG ((lo:Int)<=(n:Int))=NT by simp;omega,ai,dF]}
def aiR(b:bD)(at_:Int)(hp:oG (b.length<=1099511627776)=NS):azp b at_=BQ [.i .i64 (dE.mq b at_).1,.i .i64 (dE.mq b at_).2]:=by have hb:b.length<=1099511627776:=aq hp;refine azn b at_ ?_;intro v1 h1 v2 h2 v3 h3 v4 h4 v5 h5 v6 h6 v7 h7 v8 h8 v9 h9;unfold dE.mq;by_cases h0:at_<0;{subst h1;simp[h0,ck,aax]};{have hd0:oG (at_<0)=NT:=ab h0;obtain⟨i,rfl⟩:=Int.eq_ofNat_of_zero_le (show 0<=at_ by omega);rw[hd0]at h1⊢;subst h1;simp only[aJ,aG,Bool.false_or,Bool.or_true,bO,ai,ah]at h2⊢;by_cases hl:b.length<=i;{rw[show oG ((b.length:Int)<=(i:Int))=NS by simp;omega,ar (.inr (by omega)),au,aax];rfl};{rw[show oG ((b.length:Int)<=(i:Int))=NT by simp;omega,nO,ai,jQ,TS (l:=b) (i:=i) (by omega) 0,<-h2,dE.rune];have hc:=FV v2;have e3:v3=(v2.toNat:Int):=by{rw[h3];exact iw};have an:∀(m:Nat),m<256->dm .and .i64 v3 m=((v2.toNat&&&m:Nat):Int):=λm h=>by{rw[e3,Qb _ _ (by omega) (by omega)]};have an1:v5=((v2.toNat&&&31:Nat):Int):=h5.trans (an 31 (by omega));have an2:v7=((v2.toNat&&&15:Nat):Int):=h7.trans (an 15 (by omega));have an3:v9=((v2.toNat&&&7:Nat):Int):=h9.trans (an 7 (by omega));have e4:v4=oG (192<=v2.toNat/\v2.toNat<224):=by{rw[h4,e3];exact T4 192 224 _};have e6:v6=oG (224<=v2.toNat/\v2.toNat<240):=by{rw[h6,e3];exact T4 224 240 _};have e8:v8=oG (240<=v2.toNat/\v2.toNat<248):=by{rw[h8,e3];exact T4 240 248 _};have J:∀(r more least:Nat),1<=more/\more<8->r<1024->aaw b i r more least=BQ [.i .i64 (dE.qN r more least (b.drop (i+1))).1,.i .i64 (dE.qN r more least (b.drop (i+1))).2]:=λr more least h1 h2=>(azm b i r more least h1 hb (by omega) h2).trans (HN _ _ _ _);simp only[aS,bO];by_cases c1:v2.toNat<128;{rw[ar c1,e3,show oG ((v2.toNat:Int)<128)=NS by simp;omega,au];rfl};{rw[ak c1,show oG (v3<(128:Int))=NT by rw[e3];simp;omega,ai,e4];by_cases c2:192<=v2.toNat/\v2.toNat<224;{rw[ar c2,cT c2,an1,Wu _ hc c2];exact J _ 1 128 (by omega) (by omega)};{rw[ak c2,cF c2,e6];by_cases c3:224<=v2.toNat/\v2.toNat<240;{rw[ar c3,cT c3,an2,Ww _ hc c3];exact J _ 2 2048 (by omega) (by omega)};{rw[ak c3,cF c3,e8];by_cases c4:240<=v2.toNat/\v2.toNat<248;{rw[ar c4,cT c4,an3,and7 _ hc c4];exact J _ 3 65536 (by omega) (by omega)};{rw[ak c4,cF c4,aax];rfl}}}}}}
def dE.tg(l:bD):0<=(dE.rune l).2/\(dE.rune l).2<=l.length:=by
 have AE:∀(k r q:Nat)(l:bD),dE.cont r k l=BQ q->k<=l.length:=by
  intro k;induction k with
  |zero=>intro r q l _;omega
  |succ k ih=>
   intro r q l h;cases l with
   |nil=>cases h
   |cons c l=>rw[dE.cont]at h;split at h;{have:=ih _ _ _ h;simp;omega};{cases h}
 have ZJ:∀(r more least:Nat)(l:bD),0<=(dE.qN r more least l).2/\(dE.qN r more least l).2<=l.length+1:=by
  intro r more least l;unfold dE.qN;cases h:dE.cont r more l with
  |none=>simp;omega
  |some q=>have:=AE _ _ _ _ h;simp only;split<;>simp<;>omega
 cases l with
 |nil=>exact⟨by decide,by decide⟩
 |cons c l=>unfold dE.rune;simp only[av];split;{simp;omega};{split;{have:=ZJ (c.toNat -192) 1 128 l;omega};{split;{have:=ZJ (c.toNat -224) 2 2048 l;omega};{split;{have:=ZJ (c.toNat -240) 3 65536 l;omega};{simp;omega}}}}
def dE.LO(l:bD):∀n,l.length<=n->dE.vn n l=dE.vn l.length l:=by
 have key:∀(m:Nat)(l:bD),l.length<=m->∀n,l.length<=n->dE.vn n l=dE.vn l.length l:=by
  intro m;induction m with
  |zero=>
   intro l hl n hn;have:l=[]:=List.length_eq_zero_iff.1 (by omega);subst this;cases n with
   |zero=>rfl
   |succ n=>rfl
  |succ m ih=>
   intro l hl n hn;cases h:l.length with
   |zero=>have:l=[]:=List.length_eq_zero_iff.1 h;subst this;cases n<;>rfl
   |succ k=>
    cases n with
    |zero=>omega
    |succ n=>unfold dE.vn;have hs:=dE.tg l;by_cases h0:(dE.rune l).2=0;{rw[ar h0,ar h0]};{rw[ak h0,ak h0];have hd:(l.drop (dE.rune l).2.toNat).length<=k:=by{simp;omega};rw[ih _ (by simp;omega) n (by simp;omega),ih _ (by simp;omega) k hd]}
 exact λn hn=>key _ l (Nat.le_refl _) n hn
def dE.wG(l:bD)(h:(dE.rune l).2≠0):dE.look l=((dE.look (l.drop (dE.rune l).2.toNat)).1+(dE.rune l).2.toNat,(dE.look (l.drop (dE.rune l).2.toNat)).2+1):=by
 have hs:=dE.tg l;unfold dE.look;cases hl:l.length with
 |zero=>omega
 |succ k=>rw[dE.vn,ak h];simp only;rw[dE.LO _ k (by simp;omega)]
def dE.wH(l:bD)(h:(dE.rune l).2=0):dE.look l=(0,0):=by
 unfold dE.look;cases l.length with
 |zero=>rfl
 |succ k=>rw[dE.vn,ar h]
def dE.yR(b:bD)(i:Nat)(h:i<b.length):dE.mq b i=dE.rune (b.drop i):=by unfold dE.mq;rw[nO,ah]
def axI(b:bD)(hb:b.length<=1099511627776):∀(m i k:Nat),b.length -i<=m->i<=b.length->k<=i->acv b i k=BQ [.i .i64 ((i+(dE.look (b.drop i)).1:Nat):Int),.i .i64 ((k+(dE.look (b.drop i)).2:Nat):Int)]:=by
 intro m;induction m with
 |zero=>intro i k hm hi hk;apply aey;intro v1 h1 v2 h2;rw[show oG ((i:Int)<(b.length:Int))=NT by simp;omega,ai,aew,az (by omega)];rfl
 |succ m ih=>intro i k hm hi hk;by_cases gI:i<b.length;{apply aey;intro v1 h1 v2 h2;rw[dE.yR b i gI]at h1⊢;have hs:=dE.tg (b.drop i);rw[aR]at hs;rw[show oG ((i:Int)<(b.length:Int))=NS by simp;omega,au,bC (aa hb)];by_cases h0:(dE.rune (b.drop i)).2=0;{rw[cT h0,aew,dE.wH _ h0];rfl};{rw[cF h0,dE.wG _ h0];have e1:v1=((i+(dE.rune (b.drop i)).2.toNat:Nat):Int):=by{rw[h1,iw];omega};have e2:v2=((k+1:Nat):Int):=by{rw[h2,iw];omega};rw[e1,e2,ih _ _ (by omega) (by omega) (by omega),List.drop_drop];simp only[aN,bt,TV.i.injEq,true_and,and_true];exact⟨by omega,by omega⟩}};{apply aey;intro v1 h1 v2 h2;rw[show oG ((i:Int)<(b.length:Int))=NT by simp;omega,ai,aew,az (by omega)];rfl}
def aih(b:bD)(hp:oG (b.length<=1099511627776)=NS):axJ b=BQ [.i .i64 ((dE.look b).1:Int),.i .i64 ((dE.look b).2:Int)]:=by rw[axH];have:=axI b (aq hp) b.length 0 0 (by omega) (by omega) (by omega);simpa using this
def agD(b:bD)(hp:oG (b.length<=1099511627776)=NS):att b=BQ [.i .i64 ((dE.look b).1:Int),.b (dE.whole b)]:=by have e:oG (((dE.look b).1:Int)=(b.length:Int))=dE.whole b:=by{unfold dE.whole;rw[aO];simp;omega};rw[ats,bC hp,e]
def aiY(r:Nat)(more least:Nat){v7 v9:Bool}(h7:v7=(cond (oG ((r:Int)<(least:Int))) NS (oG ((1114111:Int)<(r:Int)))))(h9:v9=(cond (oG ((55296:Int)<=(r:Int))) (oG ((r:Int)<=(57343:Int))) NT)):cond (cond v7 NS v9) (BQ [(.i .i64 (0:Int)),(.i .i64 (0:Int))]) (BQ [(.i .i64 (r:Int)),(.i .i64 ((more+1:Nat):Int))])=AA (BQ r) more least:=by have e:cond v7 NS v9=oG (r<least\/dE.oO r=NT):=by{subst h7 h9;unfold dE.oO;rw[aO];by_cases a:r<least;{simp[a]};{by_cases b:1114111<r;{simp[a,show(1114111:Int)<(r:Int) by omega]<;>omega};{by_cases c:55296<=r;{simp[a,show¬(1114111:Int)<(r:Int) by omega,show(55296:Int)<=(r:Int) by omega]<;>omega};{simp[a,show¬(1114111:Int)<(r:Int) by omega,show¬(55296:Int)<=(r:Int) by omega]<;>omega}}}};rw[e];unfold AA;by_cases h:r<least\/dE.oO r=NT;{rw[aa h];simp only[h,if_true,au]};{rw[ab h];simp only[h,if_false,ai];rfl}
def ck6(a b c:Bool)(hc:c=(!a&&b)):(!(!a)||((!a)&&(!b||c)))=NS:=by subst hc;cases a<;>cases b<;>rfl
def azw(b:bD)(at_:Nat)(more least:Nat)(hm:more<8)(hb:b.length<=1099511627776)(gI:at_+more<b.length):∀(k i r:Nat),i+k=more+1->r<2^(10+6*i)->ac0 b at_ ((more+1:Nat):Int) r least i=AA (dE.cont r k (b.drop (at_+i))) more least:=by
 intro k;induction k with
 |zero=>intro i r hi hr;apply alT;intro v1 h1 v2 h2 v3 h3 v4 h4 v5 h5 v6 h6 v7 h7 v8 h8 v9 h9;rw[show oG ((i:Int)<((more+1:Nat):Int))=NT by simp;omega,ai];simp only[aS,bh,bO];rw[bC (ck6 _ _ _ h8),dE.cont];exact aiY r more least h7 h9
 |succ k ih=>intro i r hi hr;apply alT;intro v1 h1 v2 h2 v3 h3 v4 h4 v5 h5 v6 h6 v7 h7 v8 h8 v9 h9;have hw:IntKind.i64.wrap ((at_:Int)+(i:Int))=((at_+i:Nat):Int):=by{rw[iw];omega};have QY:=TS (l:=b) (i:=at_+i) (by omega) 0;have hu:=FV v1;rw[show oG ((i:Int)<((more+1:Nat):Int))=NS by simp;omega,au,hw];rw[hw,ah]at h1;have e2:v2=(v1.toNat:Int):=by{rw[h2];exact iw};have e3:v3=!decide (128<=v1.toNat/\v1.toNat<192):=by{rw[h3,e2,aO];by_cases a:v1.toNat<128;{simp[a];omega};{simp[show¬(v1.toNat:Int)<128 by omega];omega}};simp only[aS,bh,bO];rw[jQ,QY,<-h1,dE.cont,e3];by_cases hc:128<=v1.toNat/\v1.toNat<192;{rw[ar hc,aa hc];simp only[aG,ai];have hp:2^(10+6*i)*64=2^(10+6*(i+1)):=by{rw[show 10+6*(i+1)=(10+6*i)+6 by omega,Nat.pow_add 2 (10+6*i) 6]};have Ko:2^(10+6*(i+1))<=2^58:=Nat.pow_le_pow_right (by omega) (by omega);have Zw:r*64+64<=2^(10+6*(i+1)):=by{rw[<-hp];have:=ay 64 (Nat.succ_le_of_lt hr);omega};simp at Ko;have e4:v4=((r*64:Nat):Int):=by{rw[h4,iw];simp};have e5:v5=((r*64+(v1.toNat -128):Nat):Int):=by{rw[h5,e4,e2,i64_in (((r*64:Nat):Int)+(v1.toNat:Int)) (by omega),iw];omega};have e6:v6=((i+1:Nat):Int):=by{rw[h6,iw];omega};rw[e5,e6,ih (i+1) _ (by omega) (by omega),Nat.add_assoc]};{rw[ak hc,ab hc];simp only[aJ,au];rfl}
def dE.Ha:∀(k r:Nat)(l:bD),l.length<k->dE.cont r k l=Ku:=by
 intro k;induction k with
 |zero=>intro r l h;omega
 |succ k ih=>
  intro r l h;cases l with
  |nil=>rfl
  |cons c l=>rw[dE.cont];split;{exact ih _ _ (by simp at h;omega)};{rfl}
def azx(b:bD)(at_:Nat)(r more least:Nat)(hm:1<=more/\more<8)(hb:b.length<=1099511627776)(gI:at_<b.length)(hr:r<1024):aay b at_ ((more+1:Nat):Int) r least=AA (dE.cont r more (b.drop (at_+1))) more least:=by apply azy;intro v1 h1;have e1:v1=(b.length:Int) -at_:=by{rw[h1];exact iw};by_cases hx:at_+more<b.length;{rw[show oG (v1<((more+1:Nat):Int))=NT by rw[e1];simp;omega,ai];exact azw b at_ more least hm.2 hb hx more 1 r (by omega) (by simp;omega)};{rw[show oG (v1<((more+1:Nat):Int))=NS by rw[e1];simp;omega,au,dE.Ha _ _ _ (by simp;omega)];rfl}
def aiX(b:bD)(at_:Int)(hp:oG (b.length<=1099511627776)=NS):azA b at_=BQ [.i .i64 (dE.mq b at_).1,.i .i64 (dE.mq b at_).2]:=by have hb:b.length<=1099511627776:=aq hp;refine azz b at_ ?_;intro v1 h1 v2 h2 v3 h3 v4 h4 v5 h5 v6 h6 v7 h7 v8 h8 v9 h9;unfold dE.mq;simp only[aS,bh,aX,bO];by_cases h0:at_<0;{rw[h1,cT h0,au,ar (.inl h0)]};{rw[h1,cF h0];obtain⟨i,rfl⟩:=Int.eq_ofNat_of_zero_le (show 0<=at_ by omega);rw[ah]at h2;by_cases hl:b.length<=i;{rw[show oG ((b.length:Int)<=(i:Int))=NS by simp;omega,ar (.inr (by omega)),au]};{rw[show oG ((b.length:Int)<=(i:Int))=NT by simp;omega,nO,ai,jQ,ah,TS (l:=b) (i:=i) (by omega) 0,<-h2,dE.rune];have hc:=FV v2;have e3:v3=(v2.toNat:Int):=by{rw[h3];exact iw};have e4:v4=oG (192<=v2.toNat/\v2.toNat<224):=by{rw[h4,e3];exact T4 192 224 _};have e6:v6=oG (224<=v2.toNat/\v2.toNat<240):=by{rw[h6,e3];exact T4 224 240 _};have e8:v8=oG (240<=v2.toNat/\v2.toNat<248):=by{rw[h8,e3];exact T4 240 248 _};have J:∀(r more least:Nat),1<=more/\more<8->r<1024->aay b i ((more+1:Nat):Int) r least=BQ [.i .i64 (dE.qN r more least (b.drop (i+1))).1,.i .i64 (dE.qN r more least (b.drop (i+1))).2]:=λr more least h1 h2=>(azx b i r more least h1 hb (by omega) h2).trans (HN _ _ _ _);by_cases c1:v2.toNat<128;{rw[ar c1,e3,show oG ((v2.toNat:Int)<128)=NS by simp;omega,au]};{rw[ak c1,show oG (v3<(128:Int))=NT by rw[e3];simp;omega,ai,e4];by_cases c2:192<=v2.toNat/\v2.toNat<224;{rw[ar c2,cT c2,show v5=((v2.toNat -192:Nat):Int) by rw[h5,e3,iw];omega];exact J _ 1 128 (by omega) (by omega)};{rw[ak c2,cF c2,e6];by_cases c3:224<=v2.toNat/\v2.toNat<240;{rw[ar c3,cT c3,show v7=((v2.toNat -224:Nat):Int) by rw[h7,e3,iw];omega];exact J _ 2 2048 (by omega) (by omega)};{rw[ak c3,cF c3,e8];by_cases c4:240<=v2.toNat/\v2.toNat<248;{rw[ar c4,cT c4,show v9=((v2.toNat -240:Nat):Int) by rw[h9,e3,iw];omega];exact J _ 3 65536 (by omega) (by omega)};{rw[ak c4,cF c4]}}}}}}
def axz(b:bD)(hb:b.length<=1099511627776):∀(m i:Nat),b.length -i<=m->i<=b.length->acs b i=BQ [.i .i64 ((i+(dE.look (b.drop i)).1:Nat):Int),.b (oG (i+(dE.look (b.drop i)).1=b.length))]:=by
 intro m;induction m with
 |zero=>intro i hm hi;apply akX;intro v1 h1;rw[show oG ((i:Int)<(b.length:Int))=NT by simp;omega,ai,az (by omega)];have:(dE.look []).1=0:=by{decide};rw[this,aa (show i+0=b.length by omega),show i+0=b.length by omega]
 |succ m ih=>intro i hm hi;apply akX;intro v1 h1;by_cases gI:i<b.length;{rw[dE.yR b i gI]at h1⊢;have hs:=dE.tg (b.drop i);rw[aR]at hs;rw[show oG ((i:Int)<(b.length:Int))=NS by simp;omega,au,bC (aa hb)];by_cases h0:(dE.rune (b.drop i)).2=0;{rw[cT h0,dE.wH _ h0,ab (show¬i+(0,0).1=b.length by simp;omega)];rfl};{rw[cF h0,dE.wG _ h0];have e1:v1=((i+(dE.rune (b.drop i)).2.toNat:Nat):Int):=by{rw[h1,iw];omega};rw[e1,ih _ (by omega) (by omega),List.drop_drop];simp only[aN,bt,TV.i.injEq,TV.b.injEq,true_and,and_true];refine⟨by omega,?_⟩;rw[aO];simp;omega}};{rw[show oG ((i:Int)<(b.length:Int))=NT by simp;omega,ai,az (by omega)];have:(dE.look []).1=0:=by{decide};rw[this,aa (show i+0=b.length by omega),show i+0=b.length by omega]}
def aic(b:bD)(hp:oG (b.length<=1099511627776)=NS):axA b=BQ [.i .i64 ((dE.look b).1:Int),.b (dE.whole b)]:=by rw[axy];have:=axz b (aq hp) b.length 0 (by omega) (by omega);simpa[dE.whole]using this
def ahG(s:bD)(hp:oG (s.length<=1099511627776)=NS):awh s=BQ [.b (dE.whole s)]:=by rw[awg,bC (vF (aq hp)),bC hp]
def ax7(s:bD)(hb:s.length<=1099511627776):∀(m i:Nat),s.length -i<=m->i<=s.length->acG s i=BQ [.b ((s.drop i).contains 0)]:=by
 intro m;induction m with
 |zero=>intro i hm hi;apply ala;intro v1 h1 v2 h2;rw[show oG ((i:Int)<(s.length:Int))=NT by simp;omega,ai,az (by omega)];rfl
 |succ m ih=>intro i hm hi;apply ala;intro v1 h1 v2 h2;rw[ah]at h1;by_cases gI:i<s.length;{rw[show oG ((i:Int)<(s.length:Int))=NS by simp;omega,au,jQ,TS (l:=s) gI 0,<-h1];have e2:v2=((i+1:Nat):Int):=by{rw[h2,iw];omega};by_cases h0:v1=0;{rw[h0];rfl};{rw[cF h0,e2,ih _ (by omega) (by omega),List.contains_cons];have:((0:UInt8)==v1)=NT:=by{rw[beq_eq_false_iff_ne];exact λe=>h0 e.symm};rw[this,Bool.false_or]}};{rw[show oG ((i:Int)<(s.length:Int))=NT by simp;omega,ai,az (by omega)];rfl}
def aio(s:bD)(hp:oG (s.length<=1099511627776)=NS):ax8 s=BQ [.b (dE.zero s)]:=by rw[ax6];have:=ax7 s (aq hp) s.length 0 (by omega) (by omega);simpa[dE.zero]using this
open Nr (Shape)
def Ij{a b:Nat}(h:Nr.dec a=Nr.dec b):a=b:=by rw[<-(Nr.kH a).2.1,h,(Nr.kH b).2.1]
def vB(n:Nat):(Nr.dec n).headD 0≠45/\Nr.dG ((Nr.dec n).headD 0)=NS:=by
 obtain⟨d1,_,d3,_⟩:=Nr.kH n;cases e:Nr.dec n with
 |nil=>exact(d3 e).elim
 |cons c r=>rw[e,List.all_cons,af]at d1;refine⟨λw=>?_,d1.1⟩;rw[List.headD_cons]at w;rw[w]at d1;exact absurd d1.1 (by decide)
def Er{a b:Int}(h:Nr.itoa a=Nr.itoa b):a=b:=by rw[Nr.jH,Nr.jH]at h;have ha:=(vB a.natAbs).1;have hb:=(vB b.natAbs).1;by_cases c:a<0<;>by_cases d:b<0;{rw[ar c,ar d]at h;have:=Ij (List.cons.inj h).2;omega};{rw[ar c,ak d]at h;rw[<-h]at hb;exact(hb rfl).elim};{rw[ak c,ar d]at h;rw[h]at ha;exact(ha rfl).elim};{rw[ak c,ak d]at h;have:=Ij h;omega}
theorem ZU(x:UInt8):(o9 (x&&&3) 4).toNat=x.toNat%4*16:=by have h:(x&&&(3:UInt8)).toNat=x.toNat%4:=by{rw[UInt8.toNat_and,show(3:UInt8).toNat=2^2 -1 from rfl,Nat.and_two_pow_sub_one_eq_mod]};unfold o9;rw[h,UInt8.toNat_ofNat'];omega
theorem SS(x:UInt8):(o9 (x&&&15) 2).toNat=x.toNat%16*4:=by have h:(x&&&(15:UInt8)).toNat=x.toNat%16:=by{rw[UInt8.toNat_and,show(15:UInt8).toNat=2^4 -1 from rfl,Nat.and_two_pow_sub_one_eq_mod]};unfold o9;rw[h,UInt8.toNat_ofNat'];omega
def or4(x y:UInt8):(o9 (x&&&3) 4|||oK y 4).toNat=x.toNat%4*16+y.toNat/16:=by have hy:=y.toNat_lt;rw[UInt8.toNat_or,ZU,K4];have:=Nat.two_pow_add_eq_or_of_lt (i:=4) (b:=y.toNat/2^4) (by omega) (x.toNat%4);rw[Nat.mul_comm]at this;rw[show(16:Nat)=2^4 from rfl,<-this]
def or2(x y:UInt8):(o9 (x&&&15) 2|||oK y 6).toNat=x.toNat%16*4+y.toNat/64:=by have hy:=y.toNat_lt;rw[UInt8.toNat_or,SS,K4];have:=Nat.two_pow_add_eq_or_of_lt (i:=2) (b:=y.toNat/2^6) (by omega) (x.toNat%16);rw[Nat.mul_comm]at this;rw[show(4:Nat)=2^2 from rfl,show(64:Nat)=2^6 from rfl,<-this]
def Ki(x:UInt8):(x&&&(63:UInt8)).toNat=x.toNat%64:=by rw[UInt8.toNat_and,show(63:UInt8).toNat=2^6 -1 from rfl,Nat.and_two_pow_sub_one_eq_mod]
def q0(a:UInt8):(oK a 2).toNat=a.toNat/4:=K4 a 2
end Go.Eng
namespace Go.Eng
open Go.IntWalk
namespace Wq
def low:Nat->Nat->bD
 |0,_=>[]
 |n+1,v=>UInt8.ofNat (v%256)::low n (v/256)
def D9(v:UInt64)(k d:Nat)(hd:2^k=d):UInt8.ofNat (v.toNat/d%256)=UInt8.ofInt ((cK v k).toNat:Int):=by apply UInt8.toNat_inj.1;have hv:=v.toNat_lt;have hle:=Nat.div_le_self v.toNat d;unfold cK;rw[uh,UInt8.toNat_ofNat',UInt64.toNat_ofNat',hd,Nat.mod_eq_of_lt (show v.toNat/d<2^64 by omega)];exact Nat.mod_mod _ _
theorem Y3(v:UInt64):low 8 v.toNat=(Cn.b8 v).reverse:=by show[UInt8.ofNat (v.toNat%256),UInt8.ofNat (v.toNat/256%256),UInt8.ofNat (v.toNat/256/256%256),UInt8.ofNat (v.toNat/256/256/256%256),UInt8.ofNat (v.toNat/256/256/256/256%256),UInt8.ofNat (v.toNat/256/256/256/256/256%256),UInt8.ofNat (v.toNat/256/256/256/256/256/256%256),UInt8.ofNat (v.toNat/256/256/256/256/256/256/256%256)]=[UInt8.ofInt ((cK v 0).toNat:Int),UInt8.ofInt ((cK v 8).toNat:Int),UInt8.ofInt ((cK v 16).toNat:Int),UInt8.ofInt ((cK v 24).toNat:Int),UInt8.ofInt ((cK v 32).toNat:Int),UInt8.ofInt ((cK v 40).toNat:Int),UInt8.ofInt ((cK v 48).toNat:Int),UInt8.ofInt ((cK v 56).toNat:Int)];rw[<-D9 v 0 1 rfl,<-D9 v 8 256 rfl,<-D9 v 16 65536 rfl,<-D9 v 24 16777216 rfl,<-D9 v 32 4294967296 rfl,<-D9 v 40 1099511627776 rfl,<-D9 v 48 281474976710656 rfl,<-D9 v 56 72057594037927936 rfl];simp only[Nat.div_div_eq_div_mul,Nat.div_one,Nat.reduceMul]
end Wq
theorem akO(n:Nat)(hn:n<=8):∀(m i:Nat)(x:UInt64)(acc:List UInt8),i+m=n->acc.length=i->acg x (n:Int) (i:Int) acc=BQ [.sl .bs (acc++Wq.low m x.toNat)]
 |0,i,x,acc,hi,ha=>by apply akP;intro v1 h1 v2 h2 v3 h3;simp only[aS,bO];have q1:v1=NT:=by{rw[h1,dF];rfl};rw[q1,ai];show _=BQ [TV.sl .bs (acc++[])];rw[aM]
 |m+1,i,x,acc,hi,ha=>by apply akP;intro v1 h1 v2 h2 v3 h3;simp only[aS,bO];have q1:v1=NS:=by{rw[h1,cT];exact dT};have q2:v2=UInt8.ofNat (x.toNat%256):=by{apply UInt8.toNat_inj.1;rw[h2,uh,UInt8.toNat_ofNat'];exact(Nat.mod_mod _ _).symm};have q3:v3=((i+1:Nat):Int):=by{rw[h3,iw];omega};have qx:(x/256).toNat=x.toNat/256:=by{rw[UInt64.toNat_div];rfl};rw[q1,au,bC (dJ (by rw[ao];omega) (by rw[ao];omega)),bC (by decide),q3,akO n hn m (i+1) (x/256) (acc++[v2]) (by omega) (by rw[ae,ao];omega),qx,q2,aA];rfl
def ah1(v:UInt64)(n:Int)(hp:oG (n=8)=NS):aw2 v n=BQ [.sl .bs (Cn.b8 v).reverse]:=by have h:=aq hp;subst h;rw[aw1,<-Wq.Y3];exact akO 8 (by omega) 8 0 v [] (by omega) rfl
theorem ak0(L:List UInt8)(hL:L.length=8):∀(i:Nat)(x:Int)(acc:List UInt8),x=(i:Int) -1->i<=8->acc.length<=100 -i->acw x L acc=BQ [.sl .bs (acc++(L.take i).reverse)]
 |0,x,acc,hx,hi,ha=>by apply ak1;intro v1 h1 v2 h2;rw[cF,List.take_zero,List.reverse_nil,aM]
 |i+1,x,acc,hx,hi,ha=>by apply ak1;intro v1 h1 v2 h2;have e:x=(i:Int):=by{omega};subst e;have q2:v2=(i:Int) -1:=by{rw[h2,iw]};rw[cT,jQ,gK,bC (dJ (by rw[ao];omega) (by rw[ao];omega)),ak0 L hL i v2 (acc++[v1]) q2 (by omega) (by rw[ae,ao];omega)];have ht:L.take (i+1)=L.take i++[v1]:=by{rw[h1,ah,aj,aw (by omega),List.take_succ_eq_append_getElem (by omega)];rfl};rw[ht,List.reverse_append,aA];rfl
def aii(v:UInt64)(n:Int)(hp:oG (n=8)=NS):axM v n=BQ [.sl .bs (Cn.b8 v)]:=by apply axL;intro v1 h1 v2 h2;have hl:(Cn.b8 v).reverse.length=8:=by{rw[List.length_reverse];rfl};have q2:v2=((8:Nat):Int) -1:=by{rw[h2,h1,hl];rfl};rw[bC hp,ak0 _ hl 8 v2 [] q2 (by omega) (by show 0<=_;omega),List.take_of_length_le (by omega),List.reverse_reverse];rfl
def afL(a b:xg)(hp:oG (a.path.length<=1099511627776)=NS):arI a b=BQ [.b (oG (a.err=b.err)&&(oG (a.at_=b.at_)&&oG (a.path=b.path)))]:=by apply arH;intro v1 h1 v2 h2;rw[hp];simp only[aS,aX,Bool.and_true,bO];rw[h2,h1];cases oG (a.err=b.err)<;>cases oG (a.at_=b.at_)<;>rfl
def pg{c:UInt8}{n:Nat}(h:c.toNat=n):Cn.xp.getD n 0=Cn.sign c:=by unfold Cn.sign;rw[ah,h]
theorem yH(a b:Nat):Int.tdiv (a:Int) (b:Int)=((a/b:Nat):Int):=rfl
def yE(a b:Nat):Int.tmod (a:Int) (b:Int)=((a% b:Nat):Int):=rfl
def s4(v:Nat):bD:=[Cn.xp.getD (v/262144) 0,Cn.xp.getD (v/4096%64) 0,Cn.xp.getD (v/64%64) 0,Cn.xp.getD (v%64) 0]
def ayZ(b acc:List UInt8)(i v n:Nat)(hv:v<16777216)(hi:i<=1000000000)(hn:n<=3):Yt b (i:Int) (v:Int) (n:Int) 3 acc=aaY b (i:Int) ((n+1:Nat):Int) acc (s4 v):=by apply alE;intro v1 h1 v2 h2 v3 h3 v4 h4 v5 h5 v6 h6 v7 h7 v8 h8 v9 h9 v10 jo v11 lg v12 lZ;have q5:v5=((v/262144:Nat):Int):=by{rw[h5,show(262144:Int)=((262144:Nat):Int) from rfl,yH,iw]};have q7:v7=((v/4096:Nat):Int):=by{rw[h7,show(4096:Int)=((4096:Nat):Int) from rfl,yH,iw]};have q9:v9=((v/64:Nat):Int):=by{rw[h9,show(64:Int)=((64:Nat):Int) from rfl,yH,iw]};have m7:Int.tmod v7 64=((v/4096%64:Nat):Int):=by{rw[q7];exact yE _ 64};have m9:Int.tmod v9 64=((v/64%64:Nat):Int):=by{rw[q9];exact yE _ 64};have mv:Int.tmod (v:Int) 64=((v%64:Nat):Int):=yE _ 64;have q4:v4=((n+1:Nat):Int):=by{rw[h4,iw];omega};have q12:v12=s4 v:=by{rw[lZ,h6,h8,jo,lg,q5,m7,m9,mv,ah,ah,ah,ah];rfl};rw[cF,bC (by decide),bC (dC (by omega) (by show v5<64;omega)),bC (by decide),bC (by decide),bC (dC (by omega) (by show _<(64:Int);omega)),bC (by decide),bC (by decide),bC (dC (by omega) (by show _<(64:Int);omega)),bC (by decide),bC (dC (by omega) (by show _<(64:Int);omega)),q4,q12]
def acR(b acc:List UInt8)(i v n k:Nat)(hk:k<3)(hv:v<65536)(hn:n<=3)(hi:i<=1000000000):Yt b (i:Int) (v:Int) (n:Int) (k:Int) acc=if i+k<b.length then Yt b (i:Int) ((v*256+(b.getD (i+k) 0).toNat:Nat):Int) ((n+1:Nat):Int) ((k+1:Nat):Int) acc else Yt b (i:Int) ((v*256:Nat):Int) (n:Int) ((k+1:Nat):Int) acc:=by apply alE;intro v1 h1 v2 h2 v3 h3 v4 h4 v5 h5 v6 h6 v7 h7 v8 h8 v9 h9 v10 jo v11 lg v12 lZ;have q1:v1=((v*256:Nat):Int):=by{rw[h1,iw];omega};have ek:IntKind.i64.wrap ((i:Int)+(k:Int))=((i+k:Nat):Int):=by{rw[iw];omega};rw[ek,ah]at h2;have b2:=v2.toNat_lt;have q3:v3=(v2.toNat:Int):=by{rw[h3,iw]};have q4:v4=((n+1:Nat):Int):=by{rw[h4,iw];omega};have kk:∀x:Int,x=IntKind.i64.wrap ((k:Int)+1)->x=((k+1:Nat):Int):=λx hx=>by{rw[hx,iw];omega};rw[cT,ek];by_cases c:i+k<b.length;{rw[ar c,cT,jQ,q1,q3,q4];apply alD;intro w1 g1;rw[kk w1 g1,iw,<-h2];rfl};{rw[ak c,cF,q1];apply alD;intro w1 g1;rw[kk w1 g1]}
theorem alB(b acc:List UInt8)(i:Nat)(hi:i<=1000000000)(ha:acc.length<=2000000000):∀(m k:Nat)(f:List UInt8),k+m=4->f.length=4->aaY b (i:Int) (k:Int) acc f=Yu b ((i+3:Nat):Int) (acc++(f.take k++List.replicate m 61))
 |0,k,f,hk,hf=>by apply alC;intro v1 h1 v2 h2 v3 h3;have q3:v3=((i+3:Nat):Int):=by{rw[h3,iw];omega};rw[cF,Of,q3,List.take_of_length_le (by omega)];show _=Yu _ _ (acc++(f++[]));rw[aM]
 |m+1,k,f,hk,hf=>by apply alC;intro v1 h1 v2 h2 v3 h3;have q2:v2=((k+1:Nat):Int):=by{rw[h2,iw];omega};have hv:v1.length=4:=by{rw[h1,List.length_set];exact hf};rw[ah]at h1;rw[cT,jQ,gK,q2,alB b acc i hi ha m (k+1) v1 (by omega) hv];have:v1.take (k+1)++List.replicate m 61=f.take k++List.replicate (m+1) 61:=by{rw[h1,List.set_eq_take_append_cons_drop,pO,List.take_append,aF,Nat.min_eq_left (by omega),show k+1 -k=1 by omega,List.take_of_length_le (by rw[aF];omega),aA];rfl};rw[this]
theorem alF(b:List UInt8)(hb:b.length<=1000000000):∀(m i:Nat)(acc:List UInt8),b.length<=i+m->i<=b.length+2->acc.length<=2*i->Yu b (i:Int) acc=BQ [.s (acc++Cn.base (b.drop i))]
 |0,i,acc,hm,hi,ha=>by rw[aeI,cF,az (by omega)];show BQ [TV.s acc]=BQ [TV.s (acc++[])];rw[aM]
 |m+1,i,acc,hm,hi,ha=>by
  rw[aeI];by_cases c:i<b.length
  ·rw[cT];obtain⟨x,hx⟩:∃x,x=b.getD i 0:=⟨_,rfl⟩;obtain⟨y,hy⟩:∃y,y=b.getD (i+1) 0:=⟨_,rfl⟩;obtain⟨z,hz⟩:∃z,z=b.getD (i+2) 0:=⟨_,rfl⟩;have bx:=x.toNat_lt;have b_y:=y.toNat_lt;have bz:=z.toNat_lt;have e0:=acR b acc i 0 0 0 (by omega) (by omega) (by omega) (by omega);rw[Nat.add_zero,ar c,<-hx]at e0;refine e0.trans ?_;have e1:=acR b acc i (0*256+x.toNat) 1 1 (by omega) (by omega) (by omega) (by omega);refine e1.trans ?_;have d0:b.drop i=x::b.drop (i+1):=by{rw[hx];exact TS c _};have fin:∀(v n k:Nat)(r:bD),v<16777216->n<=3->k+1+n=4->Cn.base (b.drop i)=((s4 v).take (n+1)++List.replicate k 61)++r->Yu b ((i+3:Nat):Int) (acc++((s4 v).take (n+1)++List.replicate k 61))=BQ [.s ((acc++((s4 v).take (n+1)++List.replicate k 61))++r)]->
     Yt b (i:Int) (v:Int) (n:Int) ((3:Nat):Int) acc=BQ [.s (acc++Cn.base (b.drop i))]:=λv n k r hv hn hk hr h=>by
    refine(ayZ b acc i v n hv (by omega) hn).trans ?_
    rw[alB b acc i (by omega) (by omega) k (n+1) (s4 v) (by omega) rfl,h,hr,aA]
   have last:∀w:bD,w.length=4->b.length<=i+3->Yu b ((i+3:Nat):Int) (acc++w)=BQ [.s ((acc++w)++[])]:=λw hw hl=>by{rw[aeI,cF,aM]};by_cases c1:i+1<b.length
   ·rw[ar c1,<-hy];have e2:=acR b acc i ((0*256+x.toNat)*256+y.toNat) 2 2 (by omega) (by omega) (by omega) (by omega);refine e2.trans ?_;have d1:b.drop (i+1)=y::b.drop (i+2):=by{rw[hy];exact TS c1 _};by_cases c2:i+2<b.length
    ·rw[ar c2,<-hz];have d2:b.drop (i+2)=z::b.drop (i+3):=by{rw[hz];exact TS c2 _};refine fin _ 3 0 (Cn.base (b.drop (i+3))) (by omega) (by omega) (by omega) ?_ ?_
     ·rw[d0,d1,d2];show _::_::_::_::_=([_,_,_,_]++[])++_;rw[<-pg (q0 x),<-pg (or4 x y),<-pg (or2 y z),<-pg (Ki z),show((0*256+x.toNat)*256+y.toNat)*256+z.toNat=x.toNat*65536+y.toNat*256+z.toNat by omega,
       show(x.toNat*65536+y.toNat*256+z.toNat)/262144=x.toNat/4 by omega,show(x.toNat*65536+y.toNat*256+z.toNat)/4096%64=x.toNat%4*16+y.toNat/16 by omega,show(x.toNat*65536+y.toNat*256+z.toNat)/64%64=y.toNat%16*4+z.toNat/64 by omega,show(x.toNat*65536+y.toNat*256+z.toNat)%64=z.toNat%64 by omega]
      rfl
     {exact alF b hb m (i+3) _ (by omega) (by omega) (by rw[ae];show _+4<=_;omega)}
    ·rw[ak c2];refine fin _ 2 1 [] (by omega) (by omega) (by omega) ?_ (last _ rfl (by omega));rw[d0,d1,az (show b.length<=i+2 by omega)];show _::_::_::_=([_,_,_]++_)++_;rw[<-pg (q0 x),<-pg (or4 x y),<-pg (SS y),show((0*256+x.toNat)*256+y.toNat)*256=x.toNat*65536+y.toNat*256 by omega,
      show(x.toNat*65536+y.toNat*256)/262144=x.toNat/4 by omega,show(x.toNat*65536+y.toNat*256)/4096%64=x.toNat%4*16+y.toNat/16 by omega,show(x.toNat*65536+y.toNat*256)/64%64=y.toNat%16*4 by omega]
     rfl
   {rw[ak c1];have e2:=acR b acc i ((0*256+x.toNat)*256) 1 2 (by omega) (by omega) (by omega) (by omega);refine e2.trans ?_;rw[nO];refine fin _ 1 2 [] (by omega) (by omega) (by omega) ?_ (last _ rfl (by omega));rw[d0,az (show b.length<=i+1 by omega)];show _::_::_=([_,_]++_)++_;rw[<-pg (q0 x),<-pg (ZU x),show(0*256+x.toNat)*256*256=x.toNat*65536 by omega,show x.toNat*65536/262144=x.toNat/4 by omega,show x.toNat*65536/4096%64=x.toNat%4*16 by omega];rfl}
  {rw[cF,az (by omega)];show BQ [TV.s acc]=BQ [TV.s (acc++[])];rw[aM]}
def aiI(b:List UInt8)(hp:oG (b.length<=1000000000)=NS):ay0 b=BQ [.s (Cn.base b)]:=by rw[ayY];exact alF b (aq hp) b.length 0 [] (by omega) (by omega) (by show 0<=_;omega)
def afg(a b:dY):aqE a b=BQ [.i .i64 (cond (oG (dY.val a=dY.val b)) 0 (cond (oG (dY.val a<dY.val b)) (-1) 1))]:=by apply aqD;intro v1 h1 v2 h2 v3 h3 v4 h4;have t1:∀c:Bool,(!(!c)||((!c)&&(!c)))=NS:=by{decide};have t2:∀c d:Bool,(!(!c)||((!c)&&(!d||((!c)&&d))))=NS:=by{decide};have t3:∀c:Bool,(!c||(c&&c))=NS:=by{decide};have t4:∀c:Bool,(!(!c)||(!c))=NS:=by{decide};rw[bC (t4 _),bC (t4 _),bC (t1 _),bC (t4 _),iv,iv,bC (t3 _),h1,bC (t2 _ _),Da];have e3:v3=oG (dY.val a<dY.val b):=by{rw[h3,h2];by_cases c1:a.high<b.high;{rw[cT c1];exact(aa (Dh.2 (.inl c1))).symm};{rw[cF c1];by_cases c2:a.high=b.high;{rw[cT c2];exact aT.2 ⟨λh=>Dh.2 (.inr ⟨c2,h⟩),λh=>(Dh.1 h).elim (λh=>(c1 h).elim) (·.2)⟩};{rw[cF c2];exact(ab λh=>(Dh.1 h).elim c1 λh=>c2 h.1).symm}}};have e4:v4=oG (dY.val a=dY.val b):=by{rw[h4,<-Bool.decide_and];exact aT.2 Qj.symm};rw[e3,e4];by_cases c:dY.val a<dY.val b;{rw[aa c,ab (show¬dY.val a=dY.val b by omega)];rfl};{rw[ab c];cases oG (dY.val a=dY.val b)<;>rfl}
theorem Ft(x:UInt64):(x&&&(1:UInt64)).toNat=x.toNat%2:=by rw[UInt64.toNat_and,show(1:UInt64).toNat=2^1 -1 from rfl,Nat.and_two_pow_sub_one_eq_mod]
def tQ{k n:Nat}(h:k<=n):2^n=2^k*2^(n -k):=by rw[<-Nat.pow_add,Nat.add_sub_cancel' h]
def TC{h l k:Nat}(hk:k<64):(h*2^64+l)/2^k%2=l/2^k%2:=by have e:h*2^64+l=l+2^k*(h*2^(63 -k)*2):=by{rw[tQ (show k<=64 by omega),show 64 -k=63 -k+1 by omega,Nat.pow_succ,Nat.add_comm];congr 1;rw[Nat.mul_left_comm,Nat.mul_assoc]};rw[e,Nat.add_mul_div_left _ _ (Nat.two_pow_pos k),Nat.add_mul_mod_self_right]
def TD{h l k:Nat}(hk:64<=k)(hl:l<2^64):(h*2^64+l)/2^k=h/2^(k -64):=by rw[tQ hk,<-Nat.div_div_eq_div_mul,Nat.mul_comm h,Nat.mul_add_div (Nat.two_pow_pos 64),Nat.div_eq_of_lt hl,Nat.add_zero]
def BV{k:Nat}(h:k<18446744073709551616):(UInt64.ofInt (k:Int)).toNat=k:=by rw[rp,Nat.mod_eq_of_lt h]
def afd(a:dY)(k:Int)(hp:oG (0<=k/\k<128)=NS):aqw a k=BQ [.u64 (UInt64.ofNat (dY.val a/2^k.toNat%2))]:=by obtain⟨k0,k1⟩:=aq hp;obtain⟨n,rfl⟩:∃n:Nat,k=(n:Int):=⟨k.toNat,by omega⟩;apply aqv;intro v1 h1 v2 h2 v3 h3;have hl:=a.low.toNat_lt;rw[ah,dY.jc,show(18446744073709551616:Nat)=2^64 from rfl];by_cases c:n<64;{rw[cT,TC c];refine congrArg (λx=>BQ [TV.u64 x]) (fL ?_);rw[Ft,h1,BV (by omega),eu,UInt64.toNat_ofNat'];omega};{have q2:v2=((n -64:Nat):Int):=by{rw[h2,iw];omega};rw[cF,TD (by omega) hl];refine congrArg (λx=>BQ [TV.u64 x]) (fL ?_);rw[Ft,h3,q2,BV (by omega),eu,UInt64.toNat_ofNat'];omega}
def se(a:dY):a.val<340282366920938463463374607431768211456:=by have:=a.high.toNat_lt;have:=a.low.toNat_lt;rw[dY.jc];omega
def Ru{h l:UInt64}(hv:dY.val ⟨h,l⟩<170141183460469231731687303715884105728):dY.val ⟨h*2+cK l (63:UInt64).toNat,l*2⟩=2*dY.val ⟨h,l⟩/\(l*2).toNat%2=0:=by rw[dY.jc]at hv⊢;rw[dY.jc];have hh:=h.toNat_lt;have hl:=l.toNat_lt;have s:(cK l (63:UInt64).toNat).toNat=l.toNat/9223372036854775808:=eu l 63;have m:∀x:UInt64,(x*2).toNat=x.toNat*2%18446744073709551616:=λx=>UInt64.toNat_mul x 2;have hv:h.toNat*18446744073709551616+l.toNat<170141183460469231731687303715884105728:=hv;show(h*2+cK l (63:UInt64).toNat).toNat*18446744073709551616+(l*2).toNat=2*(h.toNat*18446744073709551616+l.toNat)/\_;have a:(h*2+cK l (63:UInt64).toNat).toNat=(h.toNat*2%18446744073709551616+l.toNat/9223372036854775808)%18446744073709551616:=by{rw[UInt64.toNat_add,m,s]};rw[a,m];omega
def JL(A K B:Nat)(hB:0<B):A/2^K=2*(A/2^(K+1))+A/2^K%2/\A/2^K/B=2*(A/2^(K+1)/B)+(if B<=2*(A/2^(K+1)% B)+A/2^K%2 then 1 else 0)/\A/2^K% B=(if B<=2*(A/2^(K+1)% B)+A/2^K%2 then 2*(A/2^(K+1)% B)+A/2^K%2 -B else 2*(A/2^(K+1)% B)+A/2^K%2):=by have e:A/2^(K+1)=A/2^K/2:=by{rw[Nat.pow_succ,Nat.div_div_eq_div_mul]};rw[e];generalize A/2^K=D;have h1:D=2*(D/2)+D%2:=by{omega};refine⟨h1,?_⟩;have h2:=Nat.div_add_mod (D/2) B;have h3:=Nat.mod_lt (D/2) hB;have h4:D%2<2:=by{omega};generalize D%2=t at*;generalize D/2% B=r at*;generalize D/2/B=q at*;rw[<-h2]at h1;have h1:D=B*(2*q)+(2*r+t):=by{rw[h1,Nat.mul_add,Nat.mul_left_comm,Nat.add_assoc]};by_cases c:B<=2*r+t;{rw[ar c,ar c,h1,show B*(2*q)+(2*r+t)=(2*r+t -B)+B*(2*q+1) by rw[Nat.mul_add];omega];exact⟨by rw[Nat.add_mul_div_left _ _ hB,Nat.div_eq_of_lt (by omega)];omega,by rw[Nat.add_mul_mod_self_left,Nat.mod_eq_of_lt (by omega)]⟩};{rw[ak c,ak c,h1,Nat.add_comm];exact⟨by rw[Nat.add_mul_div_left _ _ hB,Nat.div_eq_of_lt (by omega)];omega,by rw[Nat.add_mul_mod_self_left,Nat.mod_eq_of_lt (by omega)]⟩}
theorem akv(a:dY)(b:UInt64)(hb:1<=b.toNat/\b.toNat<=4611686018427387904):∀(K:Nat)(r x5 x6 qh ql:UInt64),K<=128->r.toNat=a.val/2^K% b.toNat->dY.val ⟨qh,ql⟩=a.val/2^K/b.toNat->
  abZ b r ((K:Int) -1) a.high a.low x5 x6 qh ql=BQ [.ag (dY.cells (dY.of (a.val/b.toNat))),.u64 (UInt64.ofNat (a.val% b.toNat)),.b NS]
 |0,r,x5,x6,qh,ql,hK,hr,hq=>by apply akw;intro v1 h1 v2 h2 v3 h3 v4 h4 v5 h5 v6 h6;rw[Nat.pow_zero,Nat.div_one]at hr hq;rw[cF,<-hr,<-hq,Rt,UInt64.ofNat_toNat];rfl
 |K+1,r,x5,x6,qh,ql,hK,hr,hq=>by apply akw;intro v1 h1 v2 h2 v3 h3 v4 h4 v5 h5 v6 h6;obtain⟨s1,s2,s3⟩:=JL a.val K b.toNat (by omega);have ea:(⟨a.high,a.low⟩:dY)=a:=rfl;have ek:((K+1:Nat):Int) -1=(K:Int):=by{omega};rw[ek]at h2⊢;rw[ea,ah]at h2;have t2:a.val/2^K%2<2:=Nat.mod_lt _ (by omega);have q2:v2.toNat=a.val/2^K%2:=by{rw[h2,UInt64.toNat_ofNat',Nat.mod_eq_of_lt (by omega)]};have hrB:=Nat.mod_lt (a.val/2^(K+1)) (show 0<b.toNat by omega);have CA:=b.toNat_lt;have m:(r*2+v2).toNat=2*r.toNat+v2.toNat:=by{rw[UInt64.toNat_add,UInt64.toNat_mul,show(2:UInt64).toNat=2 from rfl];omega};have q1:v1.toNat=0:=by{rw[h1,show((63:UInt64)).toNat=63 from rfl,eu];omega};have n1:¬v1=1:=λe=>by{rw[e]at q1;cases q1};have gI:a.val/2^(K+1)<170141183460469231731687303715884105728:=by{have:=se a;have e:a.val/2^(K+1)<=a.val/2:=by{rw[Nat.pow_succ,Nat.mul_comm,<-Nat.div_div_eq_div_mul];exact Nat.div_le_self _ _};omega};have zM:dY.val ⟨qh,ql⟩<170141183460469231731687303715884105728:=by{rw[hq];exact Nat.lt_of_le_of_lt (Nat.div_le_self _ _) gI};obtain⟨w1,w2⟩:=Ru zM;have t1:∀c:Bool,(!(!c)||((!c)&&(!c)))=NS:=by{decide};have e4:v4=oG (b.toNat<=2*(a.val/2^(K+1)% b.toNat)+a.val/2^K%2):=by{rw[h4,cF n1];refine aT.2 ?_;rw[aL,m,hr,q2]};have ih:∀(r' Xa W9:UInt64),r'.toNat=a.val/2^K% b.toNat->dY.val ⟨Xa,W9⟩=a.val/2^K/b.toNat->ab0 b r' (K:Int) a.high a.low x5 x6 Xa W9=BQ [.ag (dY.cells (dY.of (a.val/b.toNat))),.u64 (UInt64.ofNat (a.val% b.toNat)),.b NS]:=λr' Xa W9 g1 g2=>by{apply av7;intro w h;have:w=(K:Int) -1:=by{rw[h,iw]};rw[this];exact akv a b hb K r' x5 x6 Xa W9 (by omega) g1 g2};rw[cT,bC (aa ⟨by omega,by omega⟩),bC (t1 _),Da,e4];by_cases c:b.toNat<=2*(a.val/2^(K+1)% b.toNat)+a.val/2^K%2;{rw[cT c];rw[ar c]at s2 s3;refine ih _ _ _ ?_ ?_;{rw[h5,UInt64.toNat_sub_of_le _ _ (by rw[aL,m];omega),m,s3,hr,q2]};{rw[s2,<-hq,<-w1,dY.jc,dY.jc,h6,h3];have hx:=(ql*2).toNat_lt;have:(ql*2+1).toNat=(ql*2).toNat+1:=by{rw[UInt64.toNat_add,show(1:UInt64).toNat=1 from rfl];omega};show(qh*2+cK ql (63:UInt64).toNat).toNat*18446744073709551616+(ql*2+1).toNat=(qh*2+cK ql (63:UInt64).toNat).toNat*18446744073709551616+(ql*2).toNat+1;rw[this];exact(Nat.add_assoc ..).symm}};{rw[cF c];rw[ak c]at s2 s3;refine ih _ _ _ ?_ ?_;{rw[m,s3,hr,q2]};{rw[s2,<-hq,h3,w1,Nat.add_zero]}}
def ahD(a:dY)(b:UInt64)(hp:oG (1<=b.toNat/\b.toNat<=4611686018427387904)=NS):av9 a b=BQ [.ag (dY.cells (dY.of (a.val/b.toNat))),.u64 (UInt64.ofNat (a.val% b.toNat)),.b NS]:=by have hb:=aq hp;rw[av8,ab (λe=>by rw[e]at hb;exact absurd hb.1 (by decide)),ai];have h0:a.val/2^128=0:=Nat.div_eq_of_lt (se a);refine akv a b hb 128 0 0 0 0 0 (Nat.le_refl _) ?_ ?_;{rw[h0,Nat.zero_mod];rfl};{rw[h0,Nat.zero_div,dY.jc];rfl}
def Rd{n:Nat}(h:n<340282366920938463463374607431768211456):(Nr.dec n).length<=45:=by have:=Nr.iD 40 n (by rw[t40];omega) (by omega);omega
def ayj:∀(n:Nat)(t:bD)(h l:UInt64),dY.val ⟨h,l⟩<=n->t.length+dY.val ⟨h,l⟩<=1000000000000000000000000000000000000000000->t.length<=1000 -20*(Nr.dec (dY.val ⟨h,l⟩)).length->aaQ t h l=BQ [.s (if dY.val ⟨h,l⟩=0/\t≠[]then t else Nr.dec (dY.val ⟨h,l⟩)++t)]:=by
 intro n;induction n using Nat.strongRecOn with
 |_ n ih=>intro t h l hn _ ht;refine alf _ _ _ ?_;intro v1 h1 v2 h2 v3 h3 v4 h4 v5 h5 v6 h6;have c3:∀c:Bool,(!(!c)||(!c))=NS:=by{decide};rw[bC (c3 _),bC (c3 _),Da,bC (c3 _),Da];have hv:=dY.jc ⟨h,l⟩;have hv:dY.val ⟨h,l⟩=h.toNat*18446744073709551616+l.toNat:=hv;have hl:=l.toNat_lt;have e1:v1=oG (9<dY.val ⟨h,l⟩):=by{rw[h1];by_cases c:(0:UInt64)<h;{rw[aa c,au];have:0<h.toNat:=aI.1 c;exact(aa (by omega)).symm};{rw[ab c,ai];have:h.toNat=0:=by{have:=mt aI.2 c;have e0:(0:UInt64).toNat=0:=rfl;omega};exact aT.2 (by rw[aI,show(9:UInt64).toNat=9 from rfl];omega)}};generalize hA:dY.val ⟨h,l⟩=A at*;have SG:=Nr.kH A;by_cases c:9<A\/t=[];{have e2:v2=NS:=by{rw[h2,e1];by_cases d:9<A;{rw[aa d];rfl};{rw[ab d,ai];exact aa (c.resolve_left d)}};have gI:A/10<340282366920938463463374607431768211456:=by{have:=se ⟨h,l⟩;rw[hA]at this;omega};have h45:(Nr.dec A).length<=45:=Rd (by have:=se ⟨h,l⟩;rw[hA]at this;exact this);have e3:v3.val=A/10:=by{rw[h3];exact Qi gI};have e4:v4.toNat=A%10:=by{rw[h4,UInt64.toNat_ofNat'];show A%10% _=_;omega};have e5:v5=UInt8.ofNat (48+A%10):=by{apply UInt8.toNat_inj.1;rw[h5,uh,UInt8.toNat_ofNat',UInt64.toNat_add,e4,show(48:UInt64).toNat=48 from rfl];omega};have ev:(⟨v3.high,v3.low⟩:dY)=v3:=rfl;have hlen:1<=(Nr.dec A).length:=List.length_pos_iff.2 SG.2.2.1;have Z3:10<=A->(Nr.dec A).length=(Nr.dec (A/10)).length+1:=λh=>by{rw[Nr.dec,ak (by omega),ae];rfl};rw[e2,au,bC (by decide),bC (aa (by show 1+_<=_;omega))];show aaQ (v5::t) v3.high v3.low=_;by_cases z:A=0;{have ht0:t=[]:=c.resolve_left (by omega);subst ht0;have hv3:dY.val ⟨v3.high,v3.low⟩=0:=by{rw[ev,e3,z]};refine alf _ _ _ ?_;intro w1 g1 w2 g2 w3 g3 w4 g4 w5 g5 w6 g6;rw[bC (c3 _),bC (c3 _),Da,bC (c3 _),Da];rw[dY.jc]at hv3;have hh:v3.high.toNat*18446744073709551616+v3.low.toNat=0:=hv3;have k1:¬(0:UInt64)<v3.high:=λk=>by{have:=aI.1 k;have e0:(0:UInt64).toNat=0:=rfl;omega};have k2:¬(9:UInt64)<v3.low:=λk=>by{have:=aI.1 k;have e0:(9:UInt64).toNat=9:=rfl;omega};have k3:¬(0:UInt64)<v3.low:=λk=>by{have:=aI.1 k;have e0:(0:UInt64).toNat=0:=rfl;omega};have q2:w2=NT:=by{rw[g2,g1,ab k1,ai,ab k2,ai];exact ab (by simp)};rw[q2,ai,ab k3,ai,aeB,ak (λh=>h.2 rfl),aM,Nr.dec,ar (by omega),e5,z]};{have QZ:(Nr.dec (A/10)).length<=(Nr.dec A).length/\(10<=A->(Nr.dec (A/10)).length+1=(Nr.dec A).length):=by{by_cases q:10<=A;{have:=Z3 q;exact⟨by omega,λ_=>by omega⟩};{refine⟨?_,λh=>(q h).elim⟩;rw[show A/10=0 by omega,Nr.dec,ar (by omega)];exact hlen}};by_cases q:10<=A;{have:=QZ.2 q;rw[ih (A/10) (by omega) (v5::t) v3.high v3.low (by rw[ev,e3];exact Nat.le_refl _) (by rw[ev,e3,av];omega) (by rw[ev,e3,av];omega),ev,e3,ak (by omega),ak (by omega)];rw[show Nr.dec A=Nr.dec (A/10)++[v5] by rw[Nr.dec,ak (by omega),e5],aA];rfl};{have ht0:t=[]:=c.resolve_left (by omega);subst ht0;rw[ih (A/10) (by omega) [v5] v3.high v3.low (by rw[ev,e3];exact Nat.le_refl _) (by rw[ev,e3,ao];omega) (by rw[ev,e3,ao];have:=QZ.1;rw[show A/10=0 by omega,Nr.dec,ar (by omega)];show 1<=1000 -20*1;omega),ev,e3,ar ⟨by omega,by simp⟩,ak (λh=>h.2 rfl),aM];rw[Nr.dec,ar (by omega),e5,Nat.mod_eq_of_lt (by omega)]}}};{have c1:¬9<A:=λh=>c (.inl h);have c2:t≠[]:=λh=>c (.inr h);have e2:v2=NT:=by{rw[h2,e1,ab c1,ai];exact ab c2};have hlA:l.toNat=A:=by{omega};rw[e2,ai];by_cases d:(0:UInt64)<l;{have:0<l.toNat:=aI.1 d;have e6:v6=UInt8.ofNat (48+A):=by{apply UInt8.toNat_inj.1;rw[h6,uh,UInt8.toNat_ofNat',UInt64.toNat_add,hlA,show(48:UInt64).toNat=48 from rfl];omega};rw[aa d,au,bC (aa (by show 1+_<=_;omega)),aeB,ak (by omega),Nr.dec,ar (by omega),e6]};{have:l.toNat=0:=by{have:=mt aI.2 d;have e0:(0:UInt64).toNat=0:=rfl;omega};rw[ab d,ai,aeB,ar ⟨by omega,c2⟩]}}
def aiv(a:dY):ayk a=BQ [.s (Nr.dec a.val)]:=by have h1:=se a;have h2:=Rd h1;rw[ayi,ayj a.val [] a.high a.low (Nat.le_refl _) (by show 0+a.val<=_;omega) (by show 0<=_;omega),ak (λh=>h.2 rfl),aM]
theorem G0(h:UInt64):cK (cK h 58&&&31) 3=cK h 61&&&3:=by apply fL;have e1:(cK h 58&&&31).toNat=h.toNat/288230376151711744%32:=by{rw[UInt64.toNat_and,eu,show(31:UInt64).toNat=2^5 -1 from rfl,Nat.and_two_pow_sub_one_eq_mod]};have e2:(cK h 61&&&3).toNat=h.toNat/2305843009213693952%4:=by{rw[UInt64.toNat_and,eu,show(3:UInt64).toNat=2^2 -1 from rfl,Nat.and_two_pow_sub_one_eq_mod]};rw[eu,e1,e2];show h.toNat/288230376151711744%32/8=_;omega
def ahj(h l:UInt64):avb h l=BQ [.i .i64 (Cn.split h l).1,.b (Cn.split h l).2.1,.ag (dY.cells (Cn.split h l).2.2.1),.i .i64 (Cn.split h l).2.2.2]:=by apply ava;intro v1 h1 v2 h2 v3 h3 v4 h4 v5 h5 v6 h6 v7 h7 v8 h8 v9 h9 v10 jo v11 lg;rw[Cn.uS];unfold Cn.uj;simp only;have e1:v1=cK h 63:=h1;have e2:v2=cK h 58:=h2;have e5:v5=cK h 61:=h5;have e7:v7=cK h 47:=h7;have e9:v9=((cK h 47&&&16383).toNat:Int) -6176:=by{rw[h9,h8,e7];exact Bs _};rw[h3,h4,h6,e1,e2,e5,e9,G0];by_cases c1:cK h 58&&&31=31;{rw[cT c1,ar c1];rfl};rw[cF c1,ak c1];by_cases c2:cK h 58&&&31=30;{rw[cT c2,ar c2];rfl};rw[cF c2,ak c2];by_cases c3:cK h 61&&&3=3;{rw[cT c3,ar c3];rfl};rw[cF c3,ak c3,lg,vC,jo];by_cases c4:dY.val ⟨h&&&562949953421311,l⟩<10000000000000000000000000000000000;{rw[cF,ar c4];apply ake;intro w1 g1 w2 g2 w3 g3;rw[g3,g2,Bs,g1];rfl};{rw[cT,ak c4];apply ake;intro w1 g1 w2 g2 w3 g3;rw[g3,g2,Bs,g1];rfl}
def Ls{a b:UInt64}{x k:Nat}(ha:a.toNat=x*2^k)(hb:b.toNat<2^k)(h:x*2^k+b.toNat<18446744073709551616):a|||b=a+b:=by apply fL;rw[UInt64.toNat_or,UInt64.toNat_add,ha,qw hb];exact(Nat.mod_eq_of_lt h).symm
def ahe(n:Bool)(c:dY)(x:Int)(hp:Nr.i64 x=NS):auY n c x=BQ [.u64 (Cn.join n c x).1,.u64 (Cn.join n c x).2.1,.b (Cn.join n c x).2.2]:=by apply auX;intro v1 h1 v2 h2 v3 h3 v4 h4 v5 h5 v6 h6;have c1:∀b:Bool,(!(!b)||(!b))=NS:=by{decide};rw[bC (c1 _),Da,bC (c1 _),Da];rw[Cn.join_eq];unfold Cn.Eo;have e3:v3=oG (10000000000000000000000000000000000<=c.val\/x< -6176\/6111<x):=by{rw[h3,h2,h1,vC,Bool.decide_or,Bool.decide_or];cases oG (10000000000000000000000000000000000<=c.val)<;>cases oG (x< -6176)<;>rfl};rw[e3];by_cases k:10000000000000000000000000000000000<=c.val\/x< -6176\/6111<x;{rw[cT k,ar k]};{rw[cF k,ak k];have e4:v4=x+6176:=by{rw[h4,iw]};have e5:v5=jB (UInt64.ofInt (x+6176)) 49:=by{rw[h5,e4];rfl};have hc:c.high.toNat<562949953421312:=by{have:=dY.jc c;omega};obtain⟨m,hm⟩:∃m:Nat,x+6176=(m:Int):=⟨(x+6176).toNat,by omega⟩;have em:(jB (UInt64.ofInt (x+6176)) 49).toNat=m*2^49:=by{rw[ov,hm,BV (by omega)];exact Nat.mod_eq_of_lt (by show m*562949953421312<_;omega)};have s1:jB (UInt64.ofInt (x+6176)) 49|||c.high=jB (UInt64.ofInt (x+6176)) 49+c.high:=Ls em hc (by show m*562949953421312+_<_;omega);have ts:(jB (UInt64.ofInt (x+6176)) 49+c.high).toNat=m*562949953421312+c.high.toNat:=by{rw[UInt64.toNat_add,em];show(m*562949953421312+c.high.toNat)% _=_;omega};have s2:∀q:UInt64,q.toNat=m*562949953421312+c.high.toNat->q|||9223372036854775808=q+9223372036854775808:=λq ts=>by{rw[UInt64.or_comm,UInt64.add_comm];have e:(9223372036854775808:UInt64).toNat=9223372036854775808:=rfl;have hq:q.toNat<9223372036854775808:=by{omega};exact Ls (x:=1) (k:=63) (by rw[e]) hq (by omega)};rw[aj9,aj9,h6,e5,s1,s2 _ ts];cases n<;>rfl}
theorem Gj(h:UInt64):oG (h&&&~~~9223372036854775808=8646911284551352320)=(oG (h=8646911284551352320)||oG (h=17870283321406128128)):=by rw[<-Bool.decide_or];refine aT.2 ?_;have hl:=h.toNat_lt;have e:(h&&&~~~9223372036854775808).toNat=h.toNat%9223372036854775808:=by{rw[UInt64.toNat_and,show(~~~9223372036854775808:UInt64).toNat=2^63 -1 from rfl,Nat.and_two_pow_sub_one_eq_mod]};rw[<-aW,<-aW,<-aW,e,show(8646911284551352320:UInt64).toNat=8646911284551352320 from rfl,show(17870283321406128128:UInt64).toNat=17870283321406128128 from rfl];omega
def agm(h l:UInt64):asL h l=BQ [.b (Cn.nQ h l)]:=by apply asK;intro v1 h1 v2 h2 v3 h3 v4 h4 v5 h5 v6 h6 v7 h7 v8 h8;have c6:∀x:Bool,(!x||(x&&x))=NS:=by{decide};have c1:∀b:Bool,(!(!b)||(!b))=NS:=by{decide};have hx:=qJ h l;have Zi:Nr.i64 (Cn.split h l).2.2.2=NS:=dT;rw[iv,iv,bC (c1 _),Da,iv,iv,bC Zi,bC (c6 _),iv,bC (c6 _),iv];unfold Cn.nQ;simp only;by_cases c1:(Cn.split h l).1=3;{rw[cT c1,ar c1,h1,re]};rw[cF c1,ak c1];by_cases c2:(Cn.split h l).1=2;{rw[cT c2,ar c2,h3,h2,re,Gj];cases oG (h=8646911284551352320)<;>rfl};rw[cF c2,ak c2,h8,h7,h6,h5,h4,re,re]
theorem akT(n:Nat)(hn:n<=100000):∀(m i:Nat),i+m=n->acm (n:Int) (List.replicate i 48) (i:Int)=BQ [.s (List.replicate n 48)]
 |0,i,h=>by apply aev;intro v1 h1;rw[cF,show i=n by omega]
 |m+1,i,h=>by apply aev;intro v1 h1;have q:v1=((i+1:Nat):Int):=by{rw[h1,iw];omega};rw[cT,bC (aa (by rw[List.length_replicate,ao];omega)),q,show List.replicate i (48:UInt8)++[48]=List.replicate (i+1) 48 from List.replicate_succ'.symm];exact akT n hn m (i+1) (by omega)
def ah6(n:Int)(hp:oG (n<=100000)=NS):axh n=BQ [.s (List.replicate n.toNat 48)]:=by have h:=aq hp;rw[axg];by_cases c:0<=n;{obtain⟨k,rfl⟩:∃k:Nat,n=(k:Int):=⟨n.toNat,by omega⟩;rw[ah];exact akT k (by omega) k 0 (by omega)};{apply aev;intro v1 h1;rw[cF,show n.toNat=0 by omega];rfl}
end Go.Eng
namespace Go.Eng
open Go.Proofs
variable{ee:Errs}
theorem aqu:KO ee 198 amV bB:=TR bH all_nil (.o) (TY λins=>by unfold amV;split;exact afd (.mk _ _) _;trivial)
theorem av6:KO ee 162 aoB gN:=TR bH (all_cons aqu all_nil) ahC (TY λins=>by unfold aoB;split;exact ahD (.mk _ _) _;trivial)
theorem ale:KO ee 135 aiw bB:=TR bH (all_cons av6 all_nil) aiu (TY λins=>by unfold aiw;split;exact aiv (.mk _ _);trivial)
end Go.Eng
set_option maxRecDepth 100000
namespace Go.Eng
open Go.Proofs
variable{ee:Errs}
theorem IK:Nr.dec (dY.val ⟨542101086242752,4003012203950112768⟩)=yG:=by have e:dY.val ⟨542101086242752,4003012203950112768⟩=10000000000000000000000000000000000:=by{rw[dY.jc];decide+kernel};have n:Nr.num yG=10000000000000000000000000000000000:=by{decide+kernel};rw[e,<-n];exact(Nr.mN 35 yG (by decide) (by decide) (by decide) (by decide)).symm
theorem KH(f:Nat):gp PG (cnGl ee) f ((F1 4).fs f):=aql UR (by intro p hp;simp at hp) (by kernel_rfl) f
theorem KG{l:List ((UInt64×UInt64)×(UInt64×UInt64))}{h lo:UInt64}{x:TV}{lx:List TV}(e:(W4 l h lo x).holds lx):∃q,((h,lo),q)∈l/\lx=[KD q,x]:=by unfold W4 at e;split at e;{rename_i p hp;have h1:=List.find?_some hp;simp only[af,beq_iff_eq]at h1;refine⟨p.2,?_,e⟩;rw[<-h1.1,<-h1.2];exact List.mem_of_find?_eq_some hp};{exact e.elim}
theorem Oz:∀p∈F0,gp PG (cnGl ee) p.1 p.2:=by intro p hp;simp only[F0,aQ,List.not_mem_nil,or_false]at hp;rcases hp with rfl|rfl|rfl;{refine iP λti lx h=>?_;unfold US at h;split at h;{split at h;{split at h;{rename_i h1 h2;subst h1 h2;obtain rfl:lx=[.s yG]:=h;exact⟨aiw,ale,by rw[<-IK];rfl⟩};{exact h.elim}};{exact h.elim}};{exact h.elim}};{refine iP λti lx h=>?_;unfold UT at h;split at h;{split at h;{rename_i b;subst b;obtain⟨q,hq,rfl⟩:=KG h;have h6:gp PG (cnGl ee) 229 ((F1 4).fs 229):=KH 229;rw[RA]at h6;refine⟨((F1 4).fs 229).1,h6,?_⟩;have:=OA hq;simp only[KD]at this;rw[this];rfl};{exact h.elim}};{exact h.elim}};{have h6:gp PG (cnGl ee) 230 ((F1 4).fs 230):=KH 230;rw[RC]at h6;refine iP λti lx h=>?_;unfold UU at h;split at h;{rename_i x l c d;by_cases c0:c=0;{rw[ar c0]at h;subst c0;by_cases d0:d=0;{rw[ar d0]at h;subst d0;obtain⟨q,hq,rfl⟩:=KG h;refine⟨((F1 4).fs 230).1,h6,?_⟩;have:=OB hq;simp only[KD]at this;rw[this];rfl};{rw[ak d0]at h;by_cases d1:d=1;{rw[ar d1]at h;by_cases x0:x=0;{rw[ar x0]at h;by_cases l0:l=0;{rw[ar l0]at h;obtain rfl:lx=[.ag [.u64 0,.u64 1],.b NT]:=h;subst d1 x0 l0;refine⟨((F1 4).fs 230).1,h6,?_⟩;rw[OC];rfl};{rw[ak l0]at h;exact h.elim}};{rw[ak x0]at h;exact h.elim}};{rw[ak d1]at h;exact h.elim}}};{rw[ak c0]at h;exact h.elim}};{exact h.elim}}
theorem RB(f:Nat):gp PG (cnGl ee) f ((T3 6).fs f):=aql UR Oz (by kernel_rfl) f
theorem ajv:KO ee 161 afa bB:=iP λti lx h=>by unfold afa at h;split at h;{obtain rfl:lx=[.ag (dY.cells Cn.sH)]:=h;have h6:gp PG (cnGl ee) 161 ((T3 6).fs 161):=RB 161;rw[UB]at h6;refine⟨((T3 6).fs 161).1,h6,?_⟩;rw[Oy];rfl};{exact h.elim}
end Go.Eng
namespace Go.Eng
open Go.IntWalk
def afl(s:bD):aqP s=BQ [.ag (cQ.cells (Cn.str s))]:=aqO s
def afu(v:Int)(hp:(Nr.i64 v)=NS):aq6 v=BQ [.ag (cQ.cells (Cn.num v))]:=by rw[aq5,bC hp];rfl
def afw(s:bD)(j:cQ):aq8 s j=BQ [.ag (cQ.cells (Cn.one s j))]:=by apply aq7;intro v1 h1;rw[h1];rfl
def afm(s:bD)(j:cQ)(t:bD)(k:cQ):aqR s j t k=BQ [.ag (cQ.cells (Cn.two s j t k))]:=by apply aqQ;intro v1 h1;rw[h1];rfl
theorem akr(v:UInt64):∀(m:Nat)(b:bD),b.length+m<=100->abY v (8*(m:Int) -8) b=BQ [.s (kQ.text (b++((List.range m).reverse.map λk=>UInt8.ofInt ((cK v (8*k)).toNat:Int))))]
 |0,b,hb=>by refine aks _ _ _ ?_;intro v1 h1 v2 h2;rw[ab (by omega),ai,gK];simp
 |m+1,b,hb=>by refine aks _ _ _ ?_;intro v1 h1 v2 h2;have e2:v2=8*(m:Int) -8:=by{rw[h2,iw];omega};have ek:(8*((m+1:Nat):Int) -8).toNat=8*m:=by{omega};rw[ek]at h1;rw[aa (by omega),au,bO,bC (dJ (by simp;omega) (by simp;omega)),e2,akr v m (b++[v1]) (by simp;omega),h1];rw[List.range_succ,List.reverse_append];simp
def ahA(v:UInt64):av0 v=BQ [.s (Cn.high v)]:=by rw[avZ,show(56:Int)=8*((8:Nat):Int) -8 by omega,akr v 8 [] (by simp)];rfl
theorem mJ:∀l:bD,(kQ.text l).length=2*l.length
 |[]=>rfl
 |x::r=>by have:=mJ r;simp only[kQ.text,kQ.two,ae,av,aE,this];omega
def sR(v:UInt64):(Cn.high v).length<=100:=by unfold Cn.high Cn.b8;rw[mJ];simp
def agI(v:Val):atB v=BQ [.ag (cQ.cells (Cn.nF v).1),.b (Cn.nF v).2]:=by
 apply atA;intro v1 h1 v2 h2 v3 h3 v4 h4 v5 h5 v6 h6 v7 h7 v8 h8 v9 h9 v10 jo v11 lg v12 lZ jw qB iI rk iO qo mo uM ug C8 o8 As sj JM v20 GR v21 PC v22 PB;unfold Cn.nF;have i6:Nr.i64 v6=NS:=by{rw[h6];exact nv _};by_cases k1:v.kind=1
 ·rw[cT k1,ar k1,iv,iv,iv,h1,re];cases(oG (Sh.text v.bits=([78,97,78]:bD))&&!decide (v.bits=9221120237041090560))with
  |true=>rw[au,ar rfl,h3,h2]
  |false=>rw[ai,ak (by simp),h5,h4]
 rw[cF k1,ak k1];by_cases k2:v.kind=9;{rw[cT k2,ar k2,bC i6,h8,h7,h6];rfl};rw[cF k2,ak k2];by_cases k3:v.kind=16;{rw[cT k3,ar k3,bC (nv _),lg,jo,h9];rfl};rw[cF k3,ak k3];by_cases k4:v.kind=18;{rw[cT k4,ar k4,bC i6,h7,h6];rfl};rw[cF k4,ak k4];by_cases k5:v.kind=17;{rw[cT k5,ar k5,bC (by rw[qB];exact nv _),bC (by rw[qo];exact nv _),C8,uM,qo,rk,qB,lZ];rfl};rw[cF k5,ak k5];by_cases k6:v.kind=19
 ·rw[cT k6,ar k6,As];cases Cn.nQ v.high v.low with
  |true=>rw[au,ar rfl,GR,JM]
  |false=>have:=sR v.high;have:=sR v.low;rw[ai,ak (by simp),gK,PB,PC]
 {rw[cF k6,ak k6];rfl}
def afD(v:Val)(hp:(oG (bF.bJ (bF.of [] v)<=1099511627776))=NS):ars v=BQ [.ag (cQ.cells (Cn.oo v))]:=by have hp:=aq hp;have hb:v.bytes.length<=1099511627776:=by{simp only[bF.of,bF.bJ]at hp;omega};apply arq;intro v1 h1 v2 h2 v3 h3 v4 h4 v5 h5 v6 h6 v7 h7 v8 h8 v9 h9 v10 jo v11 lg v12 lZ;unfold Cn.oo;by_cases k1:v.kind=5;{rw[cT k1,ar k1,bC (aa hb),bC (aa (by rw[h2];simp)),h4,h3,h2,h1]};rw[cF k1,ak k1];by_cases k2:v.kind=7;{rw[cT k2,ar k2,bC (aa hb),h6,h5]};rw[cF k2,ak k2];by_cases k3:v.kind=11;{rw[cT k3,ar k3,h8,h7]};rw[cF k3,ak k3];by_cases k4:v.kind=12;{rw[cT k4,ar k4,bC (aa hb),jo,h9,h6,h5]};rw[cF k4,ak k4];by_cases k5:v.kind=13;{rw[cT k5,ar k5,lg]};rw[cF k5,ak k5];by_cases k6:v.kind=14;{rw[cT k6,ar k6,lZ]};rw[cF k6,ak k6]
def PI:∀f:bF,1<=bF.bJ f
 |.mk _ _ _ _ _ _ _ _ _ _=>by simp only[bF.bJ];omega
theorem mG:∀l:List bF,l.length<=bF.bV l
 |[]=>by simp[bF.bV]
 |f::r=>by have:=mG r;have:=PI f;simp only[bF.bV,av];omega
def tt(f:bF):bF.bJ (bF.of [] f.val)<=bF.bJ f:=by cases f;simp only[bF.of,bF.val,bF.kind,bF.bits,bF.high,bF.low,bF.text,bF.more,bF.sub,bF.bytes,bF.kids,bF.bJ,aE];omega
def wO{l:List bF}{i:Nat}(h:i<l.length)(d:bF):bF.bJ (l.getD i d)<=bF.bV l:=by
 induction l generalizing i with
 |nil=>simp at h
 |cons f r ih=>
  cases i with
  |zero=>simp[bF.bV]
  |succ i=>have:=ih (i:=i) (by simpa using h);simp only[List.getD_cons_succ,bF.bV];omega
theorem EK(f:bF):Cn.oP f=Cn.Dk f.val:=by cases f;simp only[Cn.Dk,bF.of,bF.val,bF.kind,bF.bits,bF.high,bF.low,bF.text,bF.more,bF.sub,bF.bytes,bF.kids,Cn.oP]
theorem Bb:∀l:List bF,(Cn.jJ l).length=l.length
 |[]=>by simp[Cn.jJ]
 |f::r=>by simp[Cn.jJ,Bb r]
theorem alm(n:Nat)(l:List bF)(hb:bF.bV l<=1099511627776)(hn:2*bF.bV l<n)(x3:Int)(x4:bD)(x7:List Mem):∀(m i:Nat)(acc:List Mem),i+m=l.length->acc.length=i->
  acL n l (l.length:Int) (i:Int) x3 x4 7 [] x7 acc=BQ [.ag [.i .i64 7,.s [],.sl .ml (acc++Cn.jJ (l.drop i))]]
 |0,i,acc,hi,ha=>by apply aln;intro v1 h1 v2 h2 v3 h3 v4 h4 v5 h5 v6 h6;rw[cF,az (by omega)];simp[Cn.jJ]
 |m+1,i,acc,hi,ha=>by
  have hlen:=mG l;apply aln;intro v1 h1 v2 h2 v3 h3 v4 h4 v5 h5 v6 h6;rw[ah]at h1;have hf:=wO (l:=l) (i:=i) (by omega) (fE.fu .fl);rw[<-h1]at hf;have hv:=tt v1;have e6:v6=((i+1:Nat):Int):=by{rw[h6,iw];omega};have cB:((oG (bF.bJ (bF.of [] (bF.val v1))<=1099511627776))&&oG ((2*bF.bJ (bF.of [] (bF.val v1)))<n))=NS:=by{rw[af];exact⟨dT,dT⟩};rw[cT,jQ,bC cB,bC (dJ (by rw[h5];simp;omega) (by rw[h5];simp;omega)),e6,
   alm n l hb hn x3 x4 x7 m (i+1) (acc++v5) (by omega) (by rw[h5];simp;omega),TS (l:=l) (i:=i) (by omega) (fE.fu .fl),<-h1]
  have e5:v5=[Mem.of v1.name (Cn.oP v1)]:=by{rw[h5,h2,h3,h4,EK];rfl};rw[e5,aA];simp[Cn.jJ]
def aiC(n:Nat)(l:List bF)(hp:((oG (bF.bV l<=1099511627776))&&oG ((2*bF.bV l+1)<n+1))=NS):ayx n l=BQ [.ag (cQ.cells (Cn.uE l))]:=by rw[af]at hp;have h1:=aq hp.1;have h2:=aq hp.2;rw[ayw];exact alm n l h1 (by omega) 0 [] [] l.length 0 [] (by omega) rfl
theorem akk(n:Nat)(x2:Int)(x3:bD)(x5:bD)(x6:List Mem)(l:List Mem)(hl:l.length<=1099511627776):∀(m i:Nat)(acc:List Mem),i+m=l.length->acc=(l.take i).map Cn.oN++l.drop i->
  abQ n (l.length:Int) (i:Int) x2 x3 6 x5 x6 acc=BQ [.ag [.i .i64 6,.s x5,.sl .ml (l.map Cn.oN)]]
 |0,i,acc,hi,ha=>by apply akl;intro v1 h1 v2 h2;rw[cF,ha,az (by omega),List.take_of_length_le (by omega),aM]
 |m+1,i,acc,hi,ha=>by have Mr:acc.length=l.length:=by{rw[ha];simp;omega};have uK:i<l.length:=by{omega};apply akl;intro v1 h1 v2 h2;rw[ah]at h1⊢;have e2:v2=((i+1:Nat):Int):=by{rw[h2,iw];omega};rw[cT,jQ,gK,e2];refine akk n x2 x3 x5 x6 l hl m (i+1) v1 (by omega) ?_;have eg:acc.getD i (fE.fu .ml)=l[i]:=by{rw[ha,aj,aY (by simp;omega)];simp only[bj,aF,Nat.min_eq_left (Nat.le_of_lt uK),Nat.sub_self,List.getElem?_drop,Nat.add_zero];rw[aw uK];rfl};rw[h1,eg,ha,List.set_append_right _ _ (by simp;omega)];simp only[bj,aF,Nat.min_eq_left (Nat.le_of_lt uK),Nat.sub_self];rw[List.drop_eq_getElem_cons uK,List.set_cons_zero,List.take_succ_eq_append_getElem uK,List.map_append,aA];rfl
def ahq(n:Nat)(v:Val)(hp:((oG (bF.bJ (bF.of [] v)<=1099511627776))&&oG ((2*bF.bJ (bF.of [] v))<n+1))=NS):avs n v=BQ [.ag (cQ.cells (Cn.Dk v))]:=by
 rw[af]at hp;have hb:=aq hp.1;have hn:=aq hp.2;have hk:bF.bV v.kids+1<=bF.bJ (bF.of [] v):=by{simp only[bF.of,bF.bJ];omega};have hlen:=mG v.kids;apply avr;intro v1 h1 v2 h2 v3 h3 v4 h4 v5 h5 v6 h6 v7 h7 v8 h8 v9 h9 v10 jo v11 lg v12 lZ jw qB iI rk iO qo mo uM;have cA:((oG (bF.bV v.kids<=1099511627776))&&oG ((2*bF.bV v.kids+1)<n))=NS:=by{rw[af];exact⟨dT,dT⟩};have hd:(⟨v6,v7,v5⟩:cQ)=Cn.uE v.kids:=by{rw[h5,h6,h7]};have e5:v5=Cn.jJ v.kids:=h5;have e6:v6=7:=h6;have e7:v7=[]:=h7;unfold Cn.Dk;simp only[bF.of,Cn.oP];by_cases k1:v.kind=3
 ·have e4:v4=Cn.ln v.kids:=by
   rw[h4,h3,h2,h1];unfold Cn.ln;cases v.kids with
   |nil=>rfl
   |cons f r=>
    rw[aa (by simp),au];show List.isPrefixOf [36] f.name=oG (f.name.take 1=[36]);generalize f.name=s;cases s with
    |nil=>rfl
    |cons c t=>by_cases e:c=36;{subst e;simp[List.isPrefixOf]};{have e':¬(36:UInt8)=c:=λh=>e h.symm;simp[List.isPrefixOf,e,e']}
  have ci:(!(oG ((0:Int)<v1))||((oG ((0:Int)<v1))&&(bG (0:Int) v.kids.length)))=NS:=by{by_cases c:(0:Int)<v1;{rw[dC (by omega) (by omega)];cases oG ((0:Int)<v1)<;>rfl};{rw[ab c];rfl}};rw[cT k1,ar k1,iv,bC ci,iv,iv,iv,iv,bC cA,bC cA,e4,h8,hd,e5,e6,e7];cases Cn.ln v.kids<;>rfl
 rw[cF k1,ak k1];by_cases k2:v.kind=4
 ·rw[cT k2,ar k2,bC cA,gK,h9,jo,hd,e5,e7];cases Tree.regular v.kids with
  |false=>rfl
  |true=>rw[aG,ai,au];have:=akk n 0 [] [] [] (Cn.jJ v.kids) (by rw[Bb];omega) (Cn.jJ v.kids).length 0 (Cn.jJ v.kids) (by omega) (by simp);exact this
 rw[cF k2,ak k2];by_cases k3:v.kind=15;{rw[cT k3,ar k3,bC cA,lg,hd];rfl};rw[cF k3,ak k3];have i1:Nr.i64 1=NS:=aa (by decide);unfold Cn.mj;by_cases k4:v.kind=6;{rw[cT k4,ar k4,lZ]};rw[cF k4,ak k4];by_cases k5:v.kind=8;{rw[cT k5,ar k5,rk,qB];rfl};rw[cF k5,ak k5];by_cases k6:v.kind=10;{rw[cT k6,ar k6];rfl};rw[cF k6,ak k6];by_cases k7:v.kind=255;{rw[cT k7,ar k7,bC i1,qo]};rw[cF k7,ak k7];by_cases k8:v.kind=127;{rw[cT k8,ar k8,bC i1,uM]};rw[cF k8,ak k8];show cond (Cn.nF v).2 _ _=BQ [TV.ag (cQ.cells (if(Cn.nF v).2=NS then(Cn.nF v).1 else Cn.oo v))];cases(Cn.nF v).2 with
 |true=>rw[au,ar rfl]
 |false=>rw[ai,ak (by simp)];exact bC hp.1
def afC(v:Val)(hp:(oG (bF.bJ (bF.of [] v)<=1099511627776))=NS):aro v=BQ [.ag (cQ.cells (Cn.xz v)),.ag [.i .i64 (Cn.fC v).2,.i .i64 0,.sl .is (Cn.fC v).1]]:=by have hb:=aq hp;have hk:bF.bV v.kids+1<=bF.bJ (bF.of [] v):=by{simp only[bF.of,bF.bJ];omega};apply arn;intro v1 h1 v2 h2 v3 h3 v4 h4 v5 h5;rw[bC hp];unfold Cn.xz;by_cases c:(Tree.fD (bF.of [] v) []).2=0;{rw[h2,aa c,aG,ai];by_cases k:v.kind=3;{have e:Cn.fC v=([],0):=by{unfold Cn.fC;rw[ak (by simp[c]),ar k]};rw[aa k,aG,ai,gK,e,ar rfl,h3,h4,h5];rfl};{have e:Cn.fC v=([],5):=by{unfold Cn.fC;rw[ak (by simp[c]),ak k]};rw[ab k,aJ,au,e,ak (by decide)];rfl}};{have e:Cn.fC v=Tree.fD (bF.of [] v) []:=by{unfold Cn.fC;rw[ar c]};rw[h2,ab c,aJ,au,e,ak c,h1];rfl}
def afb(s:bD)(hp:(oG (s.length<=1099511627776))=NS):aqt s=BQ [.b (dE.whole s)]:=by rw[aqs,bC (vF (aq hp)),bC hp]
theorem QH:∀(l:bD)(c:UInt8),(l=[]\/Lib.indexByte l c<(l.length:Int))/\-1<=Lib.indexByte l c
 |[],c=>⟨.inl rfl,by show(-1:Int)<=-1;omega⟩
 |d::r,c=>by obtain⟨h1,h2⟩:=QH r c;rw[zH];refine⟨.inr ?_,?_⟩;{split;{simp only[av];omega};{split;{simp only[av];omega};{rename_i h;rcases h1 with rfl|h1;{exact(h (by rfl)).elim};{simp only[av];omega}}}};{split;{omega};{split<;>omega}}
def CL(c:UInt8):(Cn.xF c).length<=6:=by unfold Cn.xF;split;{simp};split;{rw[ae,mJ];simp};{simp}
theorem EU:∀s:bD,(s.flatMap Cn.xF).length<=6*s.length
 |[]=>by simp
 |c::r=>by have:=EU r;have:=CL c;simp only[List.flatMap_cons,ae,av];omega
def nP(s:bD):(Cn.jC s).length<=6*s.length+2:=by
 unfold Cn.jC;cases dE.whole s with
 |false=>simp
 |true=>have:=EU s;simp only[au,Cn.quote,av,ae,aE];omega
theorem akY(s:bD)(hs:s.length<=1000000000000):∀(m i:Nat)(b:bD),i+m=s.length->b.length+6*m<=7000000000000->
  acu s (s.length:Int) (i:Int) b=BQ [.s (b++((s.drop i).flatMap Cn.xF++[34])),.b NS]
 |0,i,b,hi,hb=>by apply akZ;intro v1 h1 v2 h2 v3 h3 v4 h4 v5 h5 v6 h6 v7 h7;rw[cF,bC (dJ (by rw[h7];simp;omega) (by rw[h7];simp;omega)),h7,az (by omega)];rfl
 |m+1,i,b,hi,hb=>by
  apply akZ;intro v1 h1 v2 h2 v3 h3 v4 h4 v5 h5 v6 h6 v7 h7;rw[ah]at h1;have Ua:=QH [34,92,8,12,10,13,9] v1;rw[<-h2]at Ua;have Ua:=Ua.1.resolve_left (by simp);have next:∀e:bD,e=Cn.xF v1->aaM s (s.length:Int) (i:Int) (b++e)=BQ [.s (b++((s.drop i).flatMap Cn.xF++[34])),.b NS]:=λe he=>by apply axD;intro w1 g1;have e1:w1=((i+1:Nat):Int):=by{rw[g1,iw];omega};have hl:=CL v1;rw[e1,akY s hs m (i+1) (b++e) (by omega) (by rw[he,ae];omega),TS (l:=s) (i:=i) (by omega) (0:UInt8),<-h1,he,List.flatMap_cons];simp only[aA]
  rw[cT,jQ];by_cases c:(0:Int)<=v2
  ·rw[cT c,bC (dC c (by simp at Ua⊢;omega)),bC (dJ (by rw[h4];simp;omega) (by rw[h4];simp;omega))];refine next _ ?_
   unfold Cn.xF;rw[<-h2,ar c,h4,h3];rfl
  ·rw[cF c];by_cases c2:v1<32
   ·rw[cT c2,bC (dJ (by simp;omega) (by simp;omega)),bC (aa (by simp)),bC (dJ (by rw[h5,h6,mJ];simp;omega) (by rw[h5,h6,mJ];simp;omega)),h5,aA];refine next _ ?_
    unfold Cn.xF;rw[<-h2,ak c,ar c2,h6]
   ·rw[cF c2,bC (dJ (by simp;omega) (by simp;omega))];refine next _ ?_
    unfold Cn.xF;rw[<-h2,ak c,ak c2]
def aie(s:bD)(hp:(oG (s.length<=1000000000000))=NS):axF s=BQ [.s (Cn.jC s),.b (dE.whole s)]:=by
 have hs:=aq hp;apply axE;intro v1 h1;rw[gK];unfold Cn.jC;cases dE.whole s with
 |false=>rfl
 |true=>rw[aG,ai,au,h1];exact akY s hs s.length 0 [34] (by omega) (by simp;omega)
def agJ(b s:bD)(hp:(oG (b.length+6*s.length<=5000000000000))=NS):atE b s=BQ [.sl .bs (b++Cn.jC s)]:=by have h:=aq hp;have:=nP s;rw[atD,gK,Of]
def agy(j:cQ)(hp:(oG (12*cQ.bJ j<=1000000000000))=NS):atj j=BQ [.s (Cn.pG j),.i .i64 (Cn.iz j)]:=by have h:=aq hp;apply ati;intro v1 h1;rw[gK,bC (aa (by simp;omega)),h1,bg];unfold Cn.pG;by_cases c:Cn.iz j=0;{rw[aa c,aG,ai,au,c]};{rw[ab c,aJ,au,ai]}
def ya(f:Mem):cQ.bJ f.val<=Mem.bJ f:=by cases f;simp only[cQ.bJ,Mem.of,Mem.val,Mem.kind,Mem.text,Mem.kids,Mem.bJ,aE];omega
def zk{l:List Mem}{i:Nat}(h:i<l.length)(d:Mem):Mem.bJ (l.getD i d)<=Mem.bV l:=by
 induction l generalizing i with
 |nil=>simp at h
 |cons f r ih=>
  cases i with
  |zero=>simp[Mem.bV]
  |succ i=>have:=ih (i:=i) (by simpa using h);simp only[List.getD_cons_succ,Mem.bV];omega
def Pd:∀f:Mem,1<=Mem.bJ f
 |.mk _ _ _ _=>by simp only[Mem.bJ];omega
theorem oz:∀l:List Mem,l.length<=Mem.bV l
 |[]=>by simp[Mem.bV]
 |f::r=>by have:=oz r;have:=Pd f;simp only[Mem.bV,av];omega
def nq(j:cQ):cQ.bJ j=1+j.text.length+Mem.bV j.kids:=by simp only[cQ.bJ,Mem.of,Mem.bJ,aE]
def vk(f:Mem):f.name.length+cQ.bJ f.val=Mem.bJ f:=by cases f;simp only[cQ.bJ,Mem.of,Mem.val,Mem.name,Mem.kind,Mem.text,Mem.kids,Mem.bJ,aE];omega
theorem IY(f g:Mem):Cn.xt f g=Cn.sq f.val g.val:=by cases f;cases g;simp only[Cn.sq,Mem.of,Mem.val,Mem.kind,Mem.text,Mem.kids,Cn.xt]
theorem La(a b:cQ):Cn.sq a b=(oG (a.kind=b.kind)&&oG (a.text=b.text)&&Cn.nh a.kids b.kids):=by simp only[Cn.sq,Mem.of,Cn.xt]
theorem yP:∀a b:List Mem,Cn.nh a b=NS->a.length=b.length
 |[],[],_=>rfl
 |[],_::_,h=>by simp[Cn.nh]at h
 |_::_,[],h=>by simp[Cn.nh]at h
 |x::a,y::b,h=>by simp only[Cn.nh,af]at h;simp[yP a b h.2]
theorem alv(n:Nat)(a b:cQ)(hb:cQ.bJ a<=1099511627776)(hn:cQ.bJ a<n+1)(hl:a.kids.length=b.kids.length):∀(m i:Nat),i+m=a.kids.length->aaU n (i:Int) a b=BQ [.b (Cn.nh (a.kids.drop i) (b.kids.drop i))]
 |0,i,hi=>by apply alw;intro v1 h1 v2 h2 v3 h3 v4 h4 v5 h5 v6 h6 v7 h7;rw[cF,az (by omega),az (by omega)];rfl
 |m+1,i,hi=>by
  have hk:=nq a;have hlen:=oz a.kids;apply alw;intro v1 h1 v2 h2 v3 h3 v4 h4 v5 h5 v6 h6 v7 h7;rw[ah]at h2 h3;have hf:=zk (l:=a.kids) (i:=i) (by omega) (fE.fu .ml);rw[<-h2]at hf;have hv:=ya v2;have e7:v7=((i+1:Nat):Int):=by{rw[h7,iw];omega};have ca:bG (i:Int) a.kids.length=NS:=dC (by omega) (by omega);have cb:bG (i:Int) b.kids.length=NS:=dC (by omega) (by omega);have cc:((oG (cQ.bJ (Mem.val v2)<=1099511627776))&&oG ((cQ.bJ (Mem.val v2))<n))=NS:=by{rw[af];exact⟨dT,dT⟩};have c5:(!v4||((v4&&v4)&&NS))=NS:=by{cases v4<;>rfl};have c6:((!decide (v2.name=v3.name))||v4)=NS:=by{rw[h4];cases oG (v2.name=v3.name)<;>rfl};rw[cT,ca,cb,cc,bO,bO,iv,bC c5,iv,iv,iv,bC c5,iv,iv,bC c5,iv,bC c6,e7,alv n a b hb hn hl m (i+1) (by omega),
   TS (l:=a.kids) (i:=i) (by omega) (fE.fu .ml),TS (l:=b.kids) (i:=i) (by omega) (fE.fu .ml),<-h2,<-h3,h6,h5]
  simp only[Cn.nh];rw[IY];cases oG (v2.name=v3.name)<;>cases Cn.sq v2.val v3.val<;>rfl
def aiG(n:Nat)(a b:cQ)(hp:((oG (cQ.bJ a<=1099511627776))&&oG ((cQ.bJ a)<n+1))=NS):ayO n a b=BQ [.b (Cn.sq a b)]:=by
 rw[af]at hp;have hb:=aq hp.1;have hn:=aq hp.2;apply ayN;intro v1 h1 v2 h2 v3 h3 v4 h4 v5 h5;have c3:∀x:Bool,(!x||(x&&x))=NS:=by{decide};have c4:((!decide (a.kind=b.kind))||v1)=NS:=by{rw[h1];cases oG (a.kind=b.kind)<;>rfl};rw[iv,iv,bC (c3 _),bC c4,iv,iv,iv,iv,bC (c3 _),Da,La,h5,h2,h4,h3];by_cases k1:a.kind=b.kind
 ·by_cases k2:a.text=b.text
  ·rw[aa k1,aa k2];by_cases k3:a.kids.length=b.kids.length;{rw[dT];show aaU n ((0:Nat):Int) a b=_;rw[alv n a b hb hn k3 _ 0 (by rw[Nat.zero_add])];rfl}
   ·rw[dF];have:Cn.nh a.kids b.kids=NT:=by
     cases h:Cn.nh a.kids b.kids with
     |false=>rfl
     |true=>exact(k3 (yP _ _ h)).elim
    rw[this];rfl
  {rw[aa k1,ab k2];rfl}
 {rw[ab k1];rfl}
theorem E9(f:Mem):Cn.rN f=Cn.iz f.val:=by cases f;simp only[Cn.iz,Mem.of,Mem.val,Mem.kind,Mem.text,Mem.kids,Cn.rN]
theorem alW(n:Nat)(l:List Mem)(hb:Mem.bV l<=1099511627776)(hn:Mem.bV l<n):∀(m i:Nat),i+m=l.length->ac4 n l (l.length:Int) (i:Int)=BQ [.i .i64 (Cn.kg (l.drop i))]
 |0,i,hi=>by apply alV;intro v1 h1 v2 h2 v3 h3;rw[cF,az (by omega)];simp[Cn.kg]
 |m+1,i,hi=>by
  have hlen:=oz l;apply alV;intro v1 h1 v2 h2 v3 h3;rw[ah]at h1;have hf:=zk (l:=l) (i:=i) (by omega) (fE.fu .ml);rw[<-h1]at hf;have hv:=ya v1;have Xs:=vk v1;have e3:v3=((i+1:Nat):Int):=by{rw[h3,iw];omega};have cc:((oG (cQ.bJ (Mem.val v1)<=1099511627776))&&oG ((cQ.bJ (Mem.val v1))<n))=NS:=by{rw[af];exact⟨dT,dT⟩};rw[cT,jQ,gK,bC cc,e3,alW n l hb hn m (i+1) (by omega),TS (l:=l) (i:=i) (by omega) (fE.fu .ml),<-h1,h2];simp only[Cn.kg];rw[E9];cases hw:dE.whole v1.name with
  |false=>rw[ar rfl];rfl
  |true=>rw[ak (by simp),aG,ai];by_cases c:Cn.iz v1.val=0;{rw[aa c,aG,ai,ak (by simp[c])]};{rw[ab c,aJ,au,ar c]}
theorem alX(n:Nat)(j:cQ)(hb:cQ.bJ j<=1099511627776)(hn:cQ.bJ j<n+1):∀(m i:Nat),i+m=j.kids.length->
  ac5 n j.kids (j.kids.length:Int) (i:Int) j=BQ [.i .i64 (if j.kind=6/\((j.kids.drop i).any λm=>!decide (m.name=[]))=NS then 1 else if j.kind=4/\(Nr.fy j.text=0\/300<j.text.length)then 10 else if j.kind=5/\dE.whole j.text=NT then 4 else Cn.kg j.kids)]
 |0,i,hi=>by
  have hk:=nq j;apply alY;intro v1 h1 v2 h2 v3 h3 v4 h4 v5 h5 v6 h6 v7 h7 v8 h8 v9 h9 v10 jo;have ct:oG (j.text.length<=1099511627776)=NS:=dT;have ca:∀a:Bool,(!a||(a&&NS))=NS:=by{decide};have c8:(!(oG (j.kind=4))||((oG (j.kind=4))&&((oG (Nr.fy j.text=0))||v4)))=NS:=by{rw[h4];cases oG (j.kind=4)<;>cases oG (Nr.fy j.text=0)<;>rfl};have e7:v7=oG (j.kind=4/\(Nr.fy j.text=0\/300<j.text.length)):=by{have e5:oG ((300:Int)<v5)=oG (300<j.text.length):=aT.2 (by omega);rw[h7,h6,e5,Bool.decide_and,Bool.decide_or];cases oG (j.kind=4)<;>cases oG (Nr.fy j.text=0)<;>rfl};have e9:v9=oG (j.kind=5/\dE.whole j.text=NT):=by{rw[h9,h8,Bool.decide_and];cases oG (j.kind=5)<;>cases dE.whole j.text<;>rfl};rw[ab (show¬((i:Int)<j.kids.length) by omega),ai,ct,iv,bC (ca _),iv,iv,iv,iv,iv,bC c8,iv,e7,
   ak (by rw[az (by omega)];simp)]
  by_cases k1:j.kind=4/\(Nr.fy j.text=0\/300<j.text.length);{rw[cT k1,ar k1]};rw[cF k1,ak k1,iv,bC (ca _),iv,iv,e9];by_cases k2:j.kind=5/\dE.whole j.text=NT;{rw[cT k2,ar k2]};rw[cF k2,ak k2,jo];exact alW n j.kids (by omega) (by omega) j.kids.length 0 (by omega)
 |m+1,i,hi=>by have hk:=nq j;have hlen:=oz j.kids;have ih:=alX n j hb hn m (i+1) (by omega);apply alY;intro v1 h1 v2 h2 v3 h3 v4 h4 v5 h5 v6 h6 v7 h7 v8 h8 v9 h9 v10 jo;rw[ah]at h1;have e3:v3=((i+1:Nat):Int):=by{rw[h3,iw];omega};rw[aa (show(i:Int)<j.kids.length by omega),au,jQ,iv,iv,iv,e3,ih,TS (l:=j.kids) (i:=i) (by omega) (fE.fu .ml),<-h1,List.any_cons,h2];by_cases k:j.kind=6;{rw[cT k];by_cases k2:v1.name=[];{rw[aa k2,aG,ai,Bool.false_or]};{rw[ab k2,aJ,au,Bool.true_or,ar ⟨k,rfl⟩]}};{rw[cF k,ai];simp only[k,false_and,if_false]}
def ai3(n:Nat)(j:cQ)(hp:((oG (cQ.bJ j<=1099511627776))&&oG ((cQ.bJ j)<n+1))=NS):azN n j=BQ [.i .i64 (Cn.iz j)]:=by rw[af]at hp;have hb:=aq hp.1;have hn:=aq hp.2;apply azM;intro v1 h1 v2 h2 v3 h3 v4 h4 v5 h5 v6 h6;have e1:v1=oG (j.kind<1\/7<j.kind):=by{rw[h1,Bool.decide_or];cases oG (j.kind<1)<;>rfl};have e4:v4=oG (j.kids≠[]/\j.kind≠6/\j.kind≠7):=by{have:oG ((0:Int)<v2)=oG (j.kids≠[]):=aT.2 (by rw[h2];exact⟨λh e=>by rw[e]at h;exact absurd h (by simp),λh=>by have:=List.length_pos_iff.2 h;omega⟩);rw[h4,h3,this,Bool.decide_and,Bool.decide_and];simp only[ne_eq,decide_not];cases oG (j.kids=[])<;>cases oG (j.kind=6)<;>rfl};have e6:v6=oG (j.text≠[]/\j.kind≠4/\j.kind≠5):=by{rw[h6,h5,Bool.decide_and,Bool.decide_and];simp only[ne_eq,decide_not];cases oG (j.text=[])<;>cases oG (j.kind=4)<;>rfl};have key:=alX n j hb hn j.kids.length 0 (by omega);simp only[Cn.iz,Mem.of,Cn.rN];rw[iv,iv,Da,e1];by_cases k1:j.kind<1\/7<j.kind;{rw[cT k1,ar k1]};rw[cF k1,ak k1,iv,iv,iv,iv,iv,iv,e4];by_cases k2:j.kids≠[]/\j.kind≠6/\j.kind≠7;{rw[cT k2,ar k2]};rw[cF k2,ak k2,iv,iv,iv,iv,iv,iv,e6];by_cases k3:j.text≠[]/\j.kind≠4/\j.kind≠5;{rw[cT k3,ar k3]};rw[cF k3,ak k3,h2];exact key
mutual
theorem zC:∀m:Mem,(Cn.xJ m).length+4+12*m.name.length<=12*Mem.bJ m
 |.mk n k t ks=>by
  have h:=Bg ks (oG (k=7)) NS
  have hq:=nP t
  simp only[Cn.xJ,Mem.bJ,Mem.name]
  split
  ·simp;omega
  split
  ·simp;omega
  split
  ·simp;omega
  split
  ·omega
  split
  ·omega
  ·simp only[av,ae,aE];omega
theorem Bg:∀(l:List Mem)(o f:Bool),(Cn.oU o f l).length<=12*Mem.bV l
 |[],o,f=>by simp[Cn.oU]
 |m::r,o,f=>by
  have h1:=zC m
  have h2:=Bg r o NT
  have hq:=nP m.name
  simp only[Cn.oU,Mem.bV,ae]
  cases f<;>cases o<;>simp<;>omega
end
theorem Ei(f:Mem):Cn.xJ f=Cn.sO f.val:=by cases f;simp only[Cn.sO,Mem.of,Mem.val,Mem.kind,Mem.text,Mem.kids,Cn.xJ]
theorem ak3(n:Nat)(c:UInt8)(j:cQ)(hn:cQ.bJ j<n+1):∀(m i:Nat)(b:bD),i+m=j.kids.length->b.length+12*Mem.bV (j.kids.drop i)+8<=4000000000000->Mem.bV j.kids<=1000000000000->
  acx n c j.kids (j.kids.length:Int) (i:Int) j b=BQ [.sl .bs (b++(Cn.oU (oG (j.kind=7)) (oG (i=0)) (j.kids.drop i)++[c]))]
 |0,i,b,hi,hb,hq=>by apply ak2;intro v1 h1 v2 h2;rw[ab (show¬((i:Int)<j.kids.length) by omega),ai,bC (dJ (by simp;omega) (by simp;omega)),az (by omega)];simp[Cn.oU]
 |m+1,i,b,hi,hb,hq=>by have hk:=nq j;have hlen:=oz j.kids;apply ak2;intro v1 h1 v2 h2;rw[ah]at h1;have hf:=zk (l:=j.kids) (i:=i) (by omega) (fE.fu .ml);rw[<-h1]at hf;have hd:=TS (l:=j.kids) (i:=i) (by omega) (fE.fu .ml);rw[<-h1]at hd;have hv:=vk v1;have hl:=zC v1;have hqs:=nP v1.name;rw[hd]at hb⊢;simp only[Mem.bV]at hb;have last:∀x:bD,x.length<=b.length+6*v1.name.length+4->acy n c j.kids (j.kids.length:Int) (i:Int) j v1 x=BQ [.sl .bs (x++(Cn.xJ v1++(Cn.oU (oG (j.kind=7)) NT (j.kids.drop (i+1))++[c])))]:=λx hx=>by{apply axT;intro w1 g1 w2 g2;have e2:w2=((i+1:Nat):Int):=by{rw[g2,iw];omega};have cc:((oG (x.length+12*cQ.bJ (Mem.val v1)<=4000000000000))&&oG ((cQ.bJ (Mem.val v1))<n))=NS:=by{rw[af];exact⟨dT,dT⟩};rw[bC cc,e2,g1,<-Ei,ak3 n c j hn m (i+1) _ (by omega) (by rw[ae];omega) hq,show oG (i+1=0)=NT from dF,aA]};have qO:∀x:bD,x.length<=b.length+1->acz n c j.kids (j.kids.length:Int) (i:Int) j v1 x=BQ [.sl .bs (x++(cond (oG (j.kind=7)) (Cn.jC v1.name++[58]) []++(Cn.xJ v1++(Cn.oU (oG (j.kind=7)) NT (j.kids.drop (i+1))++[c]))))]:=λx hx=>by{apply axP;intro w1 g1 w2 g2;by_cases k:j.kind=7;{rw[aa k,au,au,gK,bC (dJ (by rw[g1,g2];simp;omega) (by rw[g1,g2];simp;omega)),last _ (by rw[g1,g2];simp;omega),g1,g2,aa k];simp only[aA]};{rw[ab k,ai,ai,last x (by omega),ab k];rfl}};rw[aa (show(i:Int)<j.kids.length by omega),au,jQ];simp only[Cn.oU];by_cases h0:i=0;{rw[cF,qO b (by omega),aa h0,au,bg];simp only[aA]};{rw[cT,bC (dJ (by rw[h2];simp;omega) (by rw[h2];simp;omega)),qO _ (by rw[h2];simp),ab h0,ai,h2];simp only[aA]}
def aij(n:Nat)(b:bD)(j:cQ)(hp:((oG (b.length+12*cQ.bJ j<=4000000000000))&&oG ((cQ.bJ j)<n+1))=NS):axS n b j=BQ [.sl .bs (b++Cn.sO j)]:=by rw[af]at hp;have hb:=aq hp.1;have hn:=aq hp.2;have hk:=nq j;apply axR;intro v1 h1 v2 h2 v3 h3 v4 h4;simp only[Cn.sO,Mem.of,Cn.xJ];by_cases k1:j.kind=1;{rw[aa k1,au,ar k1,bC (dJ (by simp;omega) (by simp;omega)),h1]};rw[ab k1,ai,ak k1];by_cases k2:j.kind=2;{rw[aa k2,au,ar k2,bC (dJ (by simp;omega) (by simp;omega)),h2]};rw[ab k2,ai,ak k2];by_cases k3:j.kind=3;{rw[aa k3,au,ar k3,bC (dJ (by simp;omega) (by simp;omega)),h3]};rw[ab k3,ai,ak k3];by_cases k4:j.kind=4;{rw[aa k4,au,ar k4,Of]};rw[ab k4,ai,ak k4];by_cases k5:j.kind=5;{rw[aa k5,au,ar k5,gK,h4]};rw[ab k5,ai,ak k5];have go:∀x y:UInt8,acA n x y j b=BQ [.sl .bs (b++x::(Cn.oU (oG (j.kind=7)) NS j.kids++[y]))]:=λx y=>by{apply axQ;intro w1 g1;rw[bC (dJ (by simp;omega) (by simp;omega)),g1];have:=ak3 n y j hn j.kids.length 0 (b++[x]) (by omega) (by rw[aZ];simp;omega) (by omega);rw[aZ,aa (rfl:0=0),aA]at this;exact this};by_cases k6:j.kind=7;{rw[aa k6,au,au,au,go,aa k6]};{rw[ab k6,ai,ai,ai,go,ab k6]}
theorem gR(n:bD)(j:cQ):cQ.bJ (Cn.one n j)=1+n.length+cQ.bJ j:=by simp only[cQ.bJ,Cn.one,Mem.of,Mem.bJ,Mem.bV,aE];omega
def nc(n m:bD)(j k:cQ):cQ.bJ (Cn.two n j m k)=1+n.length+m.length+cQ.bJ j+cQ.bJ k:=by simp only[cQ.bJ,Cn.two,Mem.of,Mem.bJ,Mem.bV,aE];omega
theorem jA(s:bD):cQ.bJ (Cn.str s)=1+s.length:=by simp only[cQ.bJ,Cn.str,Mem.of,Mem.bJ,Mem.bV,aE];omega
def pT(v:Int)(h:Nr.i64 v=NS):(Nr.itoa v).length<=21:=by have h:=aq h;rw[Nr.jH];have:=Nr.iD 20 v.natAbs (by rw[t20];omega) (by omega);split;{simp only[av];omega};{omega}
def D2(v:Int)(h:Nr.i64 v=NS):cQ.bJ (Cn.num v)<=22:=by have:=pT v h;simp only[cQ.bJ,Cn.num,Mem.of,Mem.bJ,Mem.bV,aE];omega
def J1(h l:UInt64):(Cn.qX h l).length<=20001:=by
 have hx:=qJ h l;have hc:=ui h l;have hd:=Nr.iD 34 _ (by rw[t34];exact hc) (by omega);have hl:=By (d:=Nr.dec (Cn.split h l).2.2.1.val) (x:=(Cn.split h l).2.2.2) (by omega) (by omega) (by omega);unfold Cn.qX;simp only;split;{simp}
 ·cases(Cn.split h l).2.1 with
  |true=>rw[au,av];split<;>simp<;>omega
  |false=>rw[ai];split<;>simp<;>omega
def Jf(v:Val):cQ.bJ (Cn.nF v).1<=30000:=by have h1:=sR v.bits;have h2:=sR v.high;have h3:=sR v.low;have h4:=Sh.qH v.bits;have h5:=J1 v.high v.low;have i64:∀b,(Nr.itoa (Cn.i64 b)).length<=21:=λb=>pT _ (nv _);have i32:∀b,(Nr.itoa (Cn.i32 b)).length<=21:=λb=>pT _ (nv _);have n64:∀b,cQ.bJ (Cn.num (Cn.i64 b))<=22:=λb=>D2 _ (nv _);have a1:=i64 v.bits;have a2:=i32 v.bits;have a3:=n64 (cK v.bits 32);have a4:=n64 (v.bits&&&4294967295);unfold Cn.nF;split;{split<;>simp only[gR,jA,av,aE]<;>omega};split;{simp only[gR,jA,av,aE];omega};split;{simp only[gR,jA,av,aE];omega};split;{simp only[gR,jA,av,aE];omega};split;{simp only[gR,nc,av,aE];omega};split;{split<;>simp only[gR,jA,av,aE,ae]<;>omega};{decide}
def F3(v:Val):cQ.bJ (Cn.oo v)<=100+v.text.length+v.more.length+2*v.bytes.length:=by have h1:=Fh v.bytes;unfold Cn.oo;split;{simp only[gR,nc,jA,mJ,av,aE];omega};split;{simp only[gR,nc,jA,mJ,av,aE];omega};split;{simp only[gR,nc,jA,mJ,av,aE];omega};split;{simp only[gR,nc,jA,mJ,av,aE];omega};split;{simp only[gR,nc,jA,mJ,av,aE];omega};split;{simp only[gR,nc,jA,mJ,av,aE];omega};{rw[jA];omega}
def zA(v:Val):cQ.bJ (Cn.mj v)<=30000+v.text.length+v.more.length+2*v.bytes.length:=by have h1:=Jf v;have h2:=F3 v;have h3:=D2 1 (aa (by decide));have k:∀x:Int,cQ.bJ ⟨x,[],[]⟩=1:=λx=>by{simp only[cQ.bJ,Mem.of,Mem.bJ,Mem.bV,aE]};unfold Cn.mj;split;{rw[gR,k];simp only[av,aE];omega};split;{rw[k];omega};split;{rw[k];omega};split;{rw[gR];simp only[av,aE];omega};split;{rw[gR];simp only[av,aE];omega};split;{omega};{omega}
theorem sF:∀l:List Mem,Mem.bV (l.map Cn.oN)<=Mem.bV l
 |[]=>by simp
 |m::r=>by have:=sF r;have h:=ya m;have e:Mem.bJ (Cn.oN m)=cQ.bJ m.val:=rfl;simp only[bf,Mem.bV,e];omega
mutual
theorem JV:∀f:bF,cQ.bJ (Cn.oP f)+10*f.name.length<=40000*bF.bJ f
 |.mk n k b h l t m s y ks=>by
  have hk:=uw ks
  have hn:=sF (Cn.jJ ks)
  have hl:=zA ⟨k,b,h,l,t,m,s,y,ks⟩
  have row:∀(x:Int)(ms:List Mem),cQ.bJ ⟨x,[],ms⟩=1+Mem.bV ms:=fun x ms=>by simp only[cQ.bJ,Mem.of,Mem.bJ,aE]
  simp only[Cn.oP,bF.bJ,bF.name]
  split
  ·cases Cn.ln ks<;>simp only[au,ai,gR,row,av,aE]<;>omega
  split
  ·cases Tree.regular ks<;>simp only[au,ai,gR,row,av,aE]<;>omega
  split
  ·simp only[nc,row,jA,av,aE];omega
  ·simp only at hl;omega
theorem uw:∀l:List bF,Mem.bV (Cn.jJ l)<=40000*bF.bV l
 |[]=>by simp[Cn.jJ,Mem.bV]
 |f::r=>by
  have h1:=JV f
  have h2:=uw r
  have e:Mem.bJ (Mem.of f.name (Cn.oP f))=f.name.length+cQ.bJ (Cn.oP f):=by
   simp only[cQ.bJ,Mem.of,Mem.bJ,aE];omega
  simp only[Cn.jJ,Mem.bV,bF.bV,e];omega
end
def GI(v:Val):cQ.bJ (Cn.xz v)<=1+40000*bF.bJ (bF.of [] v):=by have h:=uw v.kids;have hk:bF.bV v.kids+1<=bF.bJ (bF.of [] v):=by{simp only[bF.of,bF.bJ];omega};have row:∀(x:Int)(ms:List Mem),cQ.bJ ⟨x,[],ms⟩=1+Mem.bV ms:=λx ms=>by{simp only[cQ.bJ,Mem.of,Mem.bJ,aE]};unfold Cn.xz Cn.uE;split;{rw[row];omega};{rw[row];simp only[Mem.bV];omega}
def YW(a:Bool):(a||!a)=NS:=by cases a<;>rfl
def rz3(a:Bool):(!a||(a&&a))=NS:=by cases a<;>rfl
theorem Vh(a b:Bool):cond a NS b=(a||b):=by cases a<;>rfl
def af1(a b:List UInt8):ar9 a b=BQ [.b (oG (a=b))]:=ar8 a b
def af2(a:List UInt8)(hp:dP a.length 1=NS):asc a=BQ [.sl .bs a]:=by rw[asb];exact uH (by simpa using hp) λh=>by rw[List.isEmpty_iff.1 h];rfl
def af3(b:UInt64):asf b=BQ [.i .i64 (Rl.order b)]:=by apply ase;intro v1 h1 v2 h2 v3 h3;have hb:=b.toNat_lt;have hm:Sh.ju b<9223372036854775808:=Nat.mod_lt _ (by decide);have e2:v2=(Sh.ju b:Int):=by{rw[h2,h1,Ag,iw]};have e3:v3.toNat=b.toNat/9223372036854775808:=by{rw[h3,eu];rfl};unfold Rl.order;rw[(Sh.qc b).2];by_cases c:9223372036854775808<=b.toNat;{have:v3=1:=aW.1 (by rw[e3];show _=1;omega);rw[cT this,ar (aa c),e2,iw,Int.zero_sub]};{have:v3≠1:=λe=>by{rw[e]at e3;have:(1:UInt64).toNat=1:=rfl;omega};rw[cF this,ak (by simp only[aD];exact c),e2]}
def afk(a b:UInt64):aqN a b=BQ [.i .i64 (Rl.E3 a b).1,.b (Rl.E3 a b).2]:=by apply aqM;intro v1 h1;rw[iv,bC (YW _),h1];unfold Rl.E3;by_cases c:(Nr.split a).1=4;{rw[aa c,au,au,ar (.inl c)]};by_cases d:(Nr.split b).1=4;{rw[ab c,aa d,ai,au,ar (.inr d)]};rw[ab c,ab d,ai,ai,ak (by simp[c,d])];by_cases x:Rl.order a<Rl.order b;{rw[aa x,au,ar x]};by_cases y:Rl.order b<Rl.order a;{rw[ab x,aa y,ai,au,ak x,ar y]};{rw[ab x,ab y,ai,ai,ak x,ak y]}
def afe(t:bD):aqz t=BQ [.ag (cQ.cells (cQ.mk 4 t []))]:=aqy t
def afi(s:bD)(j:cQ):aqH s j=BQ [.ag (cQ.cells (Cn.one s j))]:=by apply aqG;intro v1 h1;rw[h1];rfl
def agz(a b:Val):atm a b=BQ [.b (Tree.tj a b)]:=by apply atl;intro v1 h1 v2 h2 v3 h3 v4 h4 v5 h5 v6 h6 v7 h7;simp only[Wn,rz3,bO];rw[h7,h6,h5,h4,h3,h2,h1];simp only[re];rfl
def afF(a b:Val)(hp:(oG (bF.bJ (bF.of [] a)<=100000000))=NS):ary a b=BQ [.sl .r9 ((Rl.diff a b).getD []),.b (Rl.diff a b).isSome]:=by
 have hp:=aq hp;apply arx;intro v1 h1 v2 h2;rw[bC (aa (by simp only[aE];omega)),h1,h2];unfold Rl.uC Rl.diff;cases Rl.qq (bF.of [] a) (bF.of [] b) []with
 |none=>rfl
 |some l=>rfl
def afM(v:Val)(hp:(oG (bF.bJ (bF.of [] v)<=10000000))=NS):arL v=BQ [.sl .r9 ((Rl.diff v (Rl.kD v)).getD [])]:=by have hp:=aq hp;apply arK;intro v1 h1 v2 h2;rw[gK,gK,h1]
def agB(b:UInt64):atr b=BQ [.s (Rl.number b).1,.b (Rl.number b).2]:=by apply atq;intro v1 h1 v2 h2 v3 h3 v4 h4;rw[Rl.nT];unfold Rl.oc;by_cases c1:(Nr.split b).1=1;{rw[cT c1,ar c1]};by_cases c2:(Nr.split b).1=2;{have hm:Sh.ju b<9223372036854775808:=Nat.mod_lt _ (by decide);have hl:(Sh.text b).length<=1099511627776:=Nat.le_trans (Sh.qH b) (by decide);rw[ab c1,aa c2,aG,ai,ai,ak c1,ak (by simp[c2]),aa hl,Bool.and_true];simp only[Wn,YW,bO];have ho:v2=if(Sh.ju b:Int)<4845873199050653696 then -1 else if(4845873199050653696:Int)<Sh.ju b then 1 else 0:=by{have e1:v1.toNat=Sh.ju b:=by{rw[h1,Ag]};have m1:Sh.ju v1=Sh.ju b:=by{unfold Sh.ju at e1⊢;rw[e1];omega};have o1:Rl.order v1=Sh.ju b:=by{unfold Rl.order;rw[(Sh.qc v1).2,ak (by simp only[aD];omega),m1]};have o2:Rl.order 4845873199050653696=4845873199050653696:=by{unfold Rl.order;rw[(Sh.qc _).2,ak (by decide)];rfl};have k1:(Nr.split v1).1=2:=by{rw[(Sh.qc v1).1,m1,<-(Sh.qc b).1,c2]};have k2:(Nr.split 4845873199050653696).1=2:=by{rw[(Sh.qc _).1];rfl};rw[h2];unfold Rl.E3;rw[ak (by rw[k1,k2];decide),o1,o2]};rw[h4,Vh];congr 5;by_cases x:Sh.ju b<4845873199050653696;{rw[ho,pO,aa x];rfl};{rw[ho,nO,ab x];by_cases y:(4845873199050653696:Int)<Sh.ju b;{rw[ar y];rfl};{rw[ak y];rfl}}};{rw[ab c1,ab c2,aJ,au,ai,ak c1,ar c2]}
def afr(y:Int)(hp:(oG (0<=y/\y<=100000))=NS):aq2 y=BQ [.b (Rl.rI y)]:=by have hp:=aq hp;apply aq1;intro v1 h1 v2 h2 v3 h3;have t:∀d:Int,0<d->Int.tmod y d=y% d:=λd hd=>Int.tmod_eq_emod_of_nonneg hp.1;simp only[t 4 (by decide),t 100 (by decide),t 400 (by decide)]at*;rw[show(!decide ((4:Int)=0))=NS by decide,show(!decide ((100:Int)=0))=NS by decide,show(!decide ((400:Int)=0))=NS by decide];rw[h3,h2,h1];unfold Rl.rI;cases oG (y%4=0)<;>cases oG (y%100=0)<;>cases oG (y%400=0)<;>rfl
def ahR(y m:Int)(hp:(oG (0<=y/\y<=100000))=NS):awA y m=BQ [.i .i64 (Rl.month y m)]:=by rw[awz];unfold Rl.month;by_cases c4:m=4;{rw[aa c4,au,ab6,au,ar (.inl c4)]};by_cases c6:m=6;{rw[ab c4,ai,aa c6,au,ab6,au,ar (.inr (.inl c6))]};by_cases c9:m=9;{rw[ab c4,ai,ab c6,ai,aa c9,au,ab6,au,ar (.inr (.inr (.inl c9)))]};rw[ab c4,ai,ab c6,ai,ab c9,ai,ab6];by_cases Yf:m=11;{rw[aa Yf,au,ar (.inr (.inr (.inr Yf)))]};rw[ab Yf,ai,ak (by simp[c4,c6,c9,Yf]),bC hp];by_cases c2:m=2;{rw[aa c2,au,ar c2];cases Rl.rI y<;>rfl};{rw[ab c2,ai,ak c2]}
def af5(y:Int)(hp:(oG (1<=y/\y<=100000))=NS):asm y=BQ [.i .i64 (Rl.ahead y)]:=by have hp:=aq hp;apply asl;intro v1 h1 v2 h2 v3 h3 v4 h4 v5 h5 v6 h6 v7 h7;rw[iw]at h1;have t:∀d:Int,Int.tdiv v1 d=v1/d:=λd=>Int.tdiv_eq_ediv_of_nonneg (by omega);rw[t,iw]at h3 h4 h6;rw[iw]at h2;rw[i64_in (v2+v3) (by omega),iw]at h5;rw[i64_in (v5+v6) (by omega),iw]at h7;rw[show(!decide ((4:Int)=0))=NS by decide,show(!decide ((100:Int)=0))=NS by decide,show(!decide ((400:Int)=0))=NS by decide];simp only[bO];unfold Rl.ahead;rw[show v7=(y -1)*365+(y -1)/4 -(y -1)/100+(y -1)/400 -719162 by omega]
theorem aj3(x0:Int)(s:bD)(h0:0<=x0)(h:x0<=100):∀(m:Nat)(p:bD),p.length+s.length<=100->m=x0.toNat -(p.length+s.length)->abI x0 (p++s)=BQ [.s (List.replicate m 48++(p++s))]
 |0,p,hl,hm=>by rw[aj2,ab (by rw[ae];omega),ai];rfl
 |m+1,p,hl,hm=>by
  rw[aj2,aa (by rw[ae];omega),au,bC (aa (by simp only[ae,av,aE];omega)),<-aA,
   aj3 x0 s h0 h m ([48]++p) (by simp;omega) (by simp;omega),List.replicate_succ']
  simp
def ag4(n l:Int)(hp:(oG (0<=n/\n<=1000000/\0<=l/\l<=10))=NS):aut n l=BQ [.s (Rl.pad n l)]:=by have hp:=aq hp;have hn:Nr.i64 n=NS:=dT;have hl:=pT n hn;rw[aus,bC hn];exact aj3 l (Nr.itoa n) hp.2.2.1 (by omega) _ [] (by simp;omega) (by simp)
namespace Rl
theorem J7(f g:bF)(p:List Int):qq (bF.of [] f.val) (bF.of [] g.val) p=qq f g p:=by cases f;cases g;simp only[bF.of,bF.val,bF.kind,bF.bits,bF.high,bF.low,bF.text,bF.more,bF.sub,bF.bytes,bF.kids,qq]
mutual
theorem BB:∀(f g:bF)(p:List Int)(l:List (List Int)),qq f g p=BQ l->l.length<=bF.bJ f
 |.mk n k b h lo t m s y ks,.mk n' k' b' h' lo' t' m' s' y' Sg,p,l,e=>by
  simp only[qq]at e
  split at e
  ·cases e
  ·rw[aU]at e
   obtain⟨r,e1,rfl⟩:=e
   have:=BA ks Sg 0 p r e1
   simp only[bF.bJ,ae]
   split<;>simp only[aE,av]<;>omega
theorem BA:∀(a b:List bF)(i:Nat)(p:List Int)(l:List (List Int)),pZ a b i p=BQ l->l.length<=bF.bV a
 |f::r,g::q,i,p,l,e=>by
  simp only[pZ]at e
  split at e
  ·cases e
  ·rw[aV]at e
   obtain⟨x,e1,e⟩:=e
   rw[aU]at e
   obtain⟨y,e2,rfl⟩:=e
   have:=BB f g _ x e1
   have:=BA r q _ p y e2
   simp only[bF.bV,ae];omega
 |[],[],_,_,l,e=>by simp only[pZ]at e;cases e;simp
 |[],_::_,_,_,l,e=>by simp only[pZ]at e;cases e
 |_::_,[],_,_,l,e=>by simp only[pZ]at e;cases e
end
end Rl
def wo(o:List (List Int))(p:List Int):Option (List (List Int))->OT
 |some l=>BQ [.sl .r9 (o++l),.b NS,.sl .is p]
 |none=>BQ [.sl .r9 [],.b NT,.sl .is p]
theorem alL(n:Nat)(ks:List bF)(b:Val)(p:List Int)(hl:ks.length=b.kids.length)(hp:p.length+1+bF.bV ks<=1000000000)(hn:bF.bV ks<n):∀(m i:Nat)(o:List (List Int)),i+m=ks.length->o.length+bF.bV (ks.drop i)<=1000000000->
  aa0 n ks (ks.length:Int) (i:Int) b o p=wo o p (Rl.pZ (ks.drop i) (b.kids.drop i) i p)
 |0,i,o,hi,ho=>by apply alK;intro v1 h1 v2 h2 v3 h3 v4 h4 v5 h5;rw[cF,az (by omega),az (by omega)];simp[Rl.pZ,wo]
 |m+1,i,o,hi,ho=>by
  have hk:=mG ks;apply alK;intro v1 h1 v2 h2 v3 h3 v4 h4 v5 h5;rw[ah]at h1 h2;have e5:v5=((i+1:Nat):Int):=by{rw[h5,iw];omega};have hf:=wO (l:=ks) (i:=i) (by omega) (fE.fu .fl);rw[<-h1]at hf;have hv:=tt v1;have hd:ks.drop i=v1::ks.drop (i+1):=by{rw[h1];exact TS (by omega) _};have hd2:b.kids.drop i=v2::b.kids.drop (i+1):=by{rw[h2];exact TS (by omega) _};rw[hd]at ho;simp only[bF.bV]at ho;have c1:((oG (o.length+bF.bJ (bF.of [] (bF.val v1))<=1000000000/\(p++[(i:Int)]).length+bF.bJ (bF.of [] (bF.val v1))<=1000000000))&&oG (bF.bJ (bF.of [] (bF.val v1))<n))=NS:=by{rw[af];exact⟨aa ⟨by omega,by simp only[ae,ao];omega⟩,dT⟩};rw[cT,jQ,jQ,jQ,bC (dJ (by simp;omega) (by simp;omega)),bC c1,hd,hd2,Rl.pZ];by_cases c:v1.name=v2.name
  ·rw[aa c,aG,ai,ak (by simp[c]),e5];unfold Rl.uC at h3 h4;rw[Rl.J7]at h3 h4;cases e:Rl.qq v1 v2 (p++[(i:Int)])with
   |none=>rw[e]at h4;rw[h4,aJ,au];rfl
   |some l=>
    have VL:=Rl.BB _ _ _ _ e;rw[e]at h3 h4;rw[h4,h3,aG,ai,alL n ks b p hl hp hn m (i+1) (o++l) (by omega) (by rw[ae];omega)];rw[Option.bind_some];cases Rl.pZ (ks.drop (i+1)) (b.kids.drop (i+1)) (i+1) p with
    |none=>rfl
    |some q=>simp only[wo,Option.map_some,aA]
  {rw[ab c,aJ,au,ar c];rfl}
def aiO(n:Nat)(o:List (List Int))(a:Val)(b:Val)(p:List Int)(hp:((oG (o.length+bF.bJ (bF.of [] a)<=1000000000/\p.length+bF.bJ (bF.of [] a)<=1000000000))&&oG ((bF.bJ (bF.of [] a))<n+1))=NS):azf n o a b p=BQ [.sl .r9 (Rl.uC o a b p).1,.b (Rl.uC o a b p).2,.sl .is p]:=by
 rw[af]at hp;have h1:=aq hp.1;have h2:=aq hp.2;have hb:bF.bV a.kids+1<=bF.bJ (bF.of [] a):=by{simp only[bF.of,bF.bJ];omega};have hr:BQ [TV.sl .r9 (Rl.uC o a b p).1,.b (Rl.uC o a b p).2,.sl .is p]=wo o p (Rl.qq (bF.of [] a) (bF.of [] b) p):=by{unfold Rl.uC;cases Rl.qq (bF.of [] a) (bF.of [] b) p<;>rfl};rw[hr];apply aze;intro v1 Ms v2 CC v3 h3';have hF:Rl.qq (bF.of [] a) (bF.of [] b) p=if a.kids.length≠b.kids.length then Ku else(Rl.pZ a.kids b.kids 0 p).map λr=>(if Tree.tj a b then[]else[p])++r:=by{simp only[bF.of,Rl.qq]};rw[hF,Ms,CC];by_cases c:a.kids.length=b.kids.length
 ·rw[dT,aG,ai,ak (by simp[c]),Of,bC (dJ (by simp;omega) (by simp;omega)),h3'];have key:∀o':List (List Int),o'.length<=o.length+1->acV n a b o' p=wo o' p (Rl.pZ a.kids b.kids 0 p):=λo' ho=>by{apply azd;intro v1 h1;rw[h1];show aa0 n a.kids _ ((0:Nat):Int) b o' p=_;rw[alL n a.kids b p c (by omega) (by omega) a.kids.length 0 o' (by omega) (by rw[aZ];omega)];rfl};rw[key _ (by simp),key _ (by omega)];cases Tree.tj a b with
  |true=>cases Rl.pZ a.kids b.kids 0 p<;>rfl
  |false=>
   cases Rl.pZ a.kids b.kids 0 p with
   |none=>rfl
   |some l=>simp[wo]
 {rw[dF,aJ,au,ar c];rfl}
theorem alG(a b:List (List Int))(hl:a.length=b.length)(hb:a.length<=1000000000)(ha:a.all (λl=>oG (l.length<=1099511627776))=NS):∀(m i:Nat),i+m=a.length->acS a b (i:Int)=BQ [.b (oG (a.drop i=b.drop i))]
 |0,i,hi=>by apply alH;intro v1 h1 v2 h2 v3 h3;rw[cF,az (by omega),az (by omega)];simp
 |m+1,i,hi=>by apply alH;intro v1 h1 v2 h2 v3 h3;rw[ah]at h1 h2;have hd:a.drop i=v1::a.drop (i+1):=by{rw[h1];exact TS (by omega) _};have hd2:b.drop i=v2::b.drop (i+1):=by{rw[h2];exact TS (by omega) _};have hm:v1∈a:=List.mem_of_mem_drop (i:=i) (by rw[hd];simp);have e3:v3=((i+1:Nat):Int):=by{rw[h3,iw];omega};rw[cT,jQ,jQ,bC (aC.1 ha _ hm),hd,hd2,e3];by_cases c:v1=v2;{rw[aa c,aG,ai,alG a b hl hb ha m (i+1) (by omega)];simp[c]};{rw[ab c,aJ,au];simp[c]}
def aiK(a b:List (List Int))(hp:(oG (a.length<=1000000000)&&a.all (λl=>oG (l.length<=1099511627776)))=NS):ay3 a b=BQ [.b (oG (a=b))]:=by rw[af]at hp;have h1:=aq hp.1;rw[ay2];by_cases c:a.length=b.length;{rw[dT,aG,ai];exact alG a b c h1 hp.2 a.length 0 (by omega)};{rw[dF,aJ,au,ab (λe=>c (by rw[e]))]}
open Nr (Shape)
def EW(c:Nat)(x:Int):∃a b fr ex e,Shape (Cn.laid (Nr.dec c) x) a b fr ex e/\Nr.num (a++b)=c/\Nr.tO e -(b.length:Int)=x:=by
 obtain⟨d1,d2,d3,_⟩:=Nr.kH c;generalize Nr.dec c=d at d1 d2 d3;have hl:=List.length_pos_iff.2 d3;unfold Cn.laid;simp only;by_cases c1:x=0;{rw[ar c1];exact⟨d,[],[],[],[],⟨by simp,d3,d1,.inl ⟨rfl,rfl⟩,rfl,.inl ⟨rfl,rfl⟩,rfl⟩,by rw[aM];exact d2,by rw[c1];rfl⟩};rw[ak c1];by_cases c2:x<0/\-6<=x+(d.length:Int) -1;{rw[ar c2];obtain⟨z,hz,z1,z2,z3⟩:∃z:bD,(if(d.length:Int)<=-x then List.replicate (1 -x -(d.length:Int)).toNat 48++d else d)=z/\z.all Nr.dG=NS/\Nr.num z=c/\0<(z.length:Int)+x:=by{refine⟨_,rfl,?_⟩;by_cases k:(d.length:Int)<=-x;{rw[ar k];refine⟨?_,?_,?_⟩;{rw[List.all_append,d1,Bool.and_true,aC];intro y hy;rw[List.eq_of_mem_replicate hy];rfl};{rw[Nr.fU,Nr.kF,d2];omega};{rw[ae,List.length_replicate];omega}};{rw[ak k];exact⟨d1,d2,by omega⟩}};rw[hz];obtain⟨k1,k2⟩:=Sh.rh z1 ((z.length:Int)+x).toNat;have l1:(z.take ((z.length:Int)+x).toNat).length=((z.length:Int)+x).toNat:=by{rw[aF];omega};have l2:(z.drop ((z.length:Int)+x).toNat).length=(-x).toNat:=by{rw[aR];omega};refine⟨z.take ((z.length:Int)+x).toNat,z.drop ((z.length:Int)+x).toNat,46::z.drop ((z.length:Int)+x).toNat,[],[],⟨by simp,?_,k2,.inr ⟨rfl,?_⟩,k1,.inl ⟨rfl,rfl⟩,rfl⟩,?_,?_⟩;{intro e;rw[e,aE]at l1;omega};{intro e;rw[e,aE]at l2;omega};{rw[List.take_append_drop];exact z2};{rw[l2,show Nr.tO []=0 from rfl];omega}}
 ·rw[ak c2];have t1:(d.take 1).all Nr.dG=NS:=(Sh.rh d1 1).2;have t2:(d.drop 1).all Nr.dG=NS:=(Sh.rh d1 1).1;have t3:d.take 1≠[]:=by{intro e;have:=congrArg List.length e;rw[aF,aE]at this;omega};have tl:(d.drop 1).length=d.length -1:=aR;obtain⟨ch,e,ee,e1,e2,e3,e5,e6,e7⟩:∃(ch:UInt8)(e s:bD),s=ch::e/\Nr.Mb ch=NS/\Nr.signed e≠[]/\(Nr.signed e).all Nr.dG=NS/\Nr.tO e=x+d.length -1/\
    (∀t:bD,(if x+(d.length:Int) -1<0 then t++[69,45]++Nr.itoa (-(x+(d.length:Int) -1))else t++[69,43]++Nr.itoa (x+(d.length:Int) -1))=t++s):=by
   by_cases k:x+(d.length:Int) -1<0
   {obtain⟨f1,f2⟩:=Sh.ES (v:=-(x+(d.length:Int) -1)) (by omega);obtain⟨_,g1,_,g2⟩:=Sh.qk (v:=-(x+(d.length:Int) -1)) (by omega);exact⟨69,45::Nr.itoa (-(x+(d.length:Int) -1)),_,rfl,rfl,by rw[f2];exact g2,by rw[f2];exact g1,by rw[f1];omega,λt=>by rw[ar k,aA];rfl⟩}
   {obtain⟨f1,f2⟩:=Sh.ER (v:=x+(d.length:Int) -1) (by omega);obtain⟨_,g1,_,g2⟩:=Sh.qk (v:=x+(d.length:Int) -1) (by omega);exact⟨69,43::Nr.itoa (x+(d.length:Int) -1),_,rfl,rfl,by rw[f2];exact g2,by rw[f2];exact g1,by rw[f1],λt=>by rw[ak k,aA];rfl⟩}
  rw[e7];by_cases k:1<(d.length:Int);{rw[ar k];refine⟨d.take 1,d.drop 1,46::d.drop 1,ee,e,⟨rfl,t3,t1,.inr ⟨rfl,?_⟩,t2,.inr ⟨ch,e2,e1,e3⟩,e5⟩,?_,?_⟩;{intro w;rw[w,aE]at tl;omega};{rw[List.take_append_drop];exact d2};{rw[e6,tl];omega}};{rw[ak k];refine⟨d.take 1,[],[],ee,e,⟨by rw[aM],t3,t1,.inl ⟨rfl,rfl⟩,rfl,.inr ⟨ch,e2,e1,e3⟩,e5⟩,?_,?_⟩;{rw[aM,List.take_of_length_le (by omega)];exact d2};{rw[e6,aE];omega}}
end Go.Eng
namespace Go.Eng
open Go.IntWalk
theorem w64(n:Int):IntKind.wrap .i64 n=(if n%18446744073709551616>=9223372036854775808 then n%18446744073709551616 -18446744073709551616 else n%18446744073709551616):=by simp[IntKind.wrap,IntKind.bits,IntKind.signed]
theorem Yy(n:Int):IntKind.wrap .i32 n=(if n%4294967296>=2147483648 then n%4294967296 -4294967296 else n%4294967296):=by simp[IntKind.wrap,IntKind.bits,IntKind.signed]
def A2{v:Val}(h:Tree.own v=0):Tree.name v.kind≠[]/\Tree.ia v=NS:=by
 unfold Tree.own at h;by_cases c:Tree.name v.kind=[];{rw[ar c]at h;exact absurd h (by decide)}
 ·rw[ak c]at h;refine⟨c,?_⟩;cases d:Tree.ia v with
  |true=>rfl
  |false=>rw[ar d]at h;exact absurd h (by decide)
def JW{v:Val}(h:Tree.ia v=NS):(Tree.kT 0 v.kind=NS\/v.bits=0)/\(Tree.kT 1 v.kind=NS\/(v.high=0/\v.low=0))/\(Tree.kT 2 v.kind=NS\/v.text=[])/\(Tree.kT 3 v.kind=NS\/v.more=[])/\(Tree.kT 4 v.kind=NS\/v.sub=0)/\(Tree.kT 5 v.kind=NS\/v.bytes=[])/\(Tree.kT 6 v.kind=NS\/v.kids=[])/\(v.kind=16->v.bits<4294967296)/\(v.kind=8->v.bits<2)/\0<=v.sub/\v.sub<=255:=by unfold Tree.ia at h;simp only[af,Bool.or_eq_true,aD,Bool.not_eq_true',decide_eq_false_iff_not]at h;obtain⟨⟨⟨⟨⟨⟨⟨⟨⟨⟨h0,h1⟩,h2⟩,h3⟩,h4⟩,h5⟩,h6⟩,h7⟩,h8⟩,h9⟩,_⟩:=h;exact⟨h0,h1,h2,h3,h4,h5,h6,λe=>h7.resolve_left (λw=>w e),λe=>h8.resolve_left (λw=>w e),h9.1,h9.2⟩
def agr(b:UInt64):as0 b=BQ [.i .i64 (Cn.i32 b)]:=by apply asZ;intro v1 h1 v2 h2;have e:IntKind.i32.wrap ((UInt32.ofInt ((b.toNat:Nat):Int)).toNat:Int)=IntKind.i32.wrap (b.toNat:Int):=by{have e1:=vW (b.toNat:Int);rw[Us]at e1;rw[e1,Yy,Yy];split<;>split<;>omega};rw[h2,h1,e];rfl
namespace Rl
def Cc(n l:Int)(hn:Nr.i64 n=NS)(hl:l<=10):(pad n l).length<=31:=by have:=pT n hn;unfold pad;rw[ae,List.length_replicate];omega
def wE(y m:Int):28<=month y m/\month y m<=31:=by unfold month;split;{omega};{split;{split<;>omega};{omega}}
def uJ(y:Int):ahead (y+1)<=ahead y+366:=by unfold ahead;omega
def sX(d:Int)(h:0<=d):ahead (1970+d/366)<=d:=by unfold ahead;have h1:366*(d/366)<=d:=by{omega};generalize d/366=k at h1;by_cases c:k<=4;{by_cases c0:0<=k;{have:k=0\/k=1\/k=2\/k=3\/k=4:=by{omega};rcases this with rfl|rfl|rfl|rfl|rfl<;>omega};{omega}};{omega}
theorem yt (d : Int) (hd : d ≤ 2932896) : ∀ (n : Nat) (y : Int), ahead y ≤ d → y ≤ 9999 → 9999 - y ≤ n → ahead (kC d n y) ≤ d ∧ y ≤ kC d n y ∧ kC d n y ≤ 9999 ∧ d < ahead (kC d n y + 1)
  | 0, y, h, h1, h2 => by
    have : y = 9999 := by omega
    subst this
    exact ⟨h, by simp [kC], by simp [kC], by simp only [kC]; have : ahead (9999 + 1) = 2932897 := by decide
                                             omega⟩
  | n + 1, y, h, h1, h2 => by
    simp only [kC]
    by_cases c : ahead (y + 1) ≤ d
    · rw [ar c]
      have : y ≠ 9999 := fun e => by
        subst e
        have : ahead (9999 + 1) = 2932897 := by decide
        omega
      obtain ⟨a1, a2, a3, a4⟩ := yt d hd n (y + 1) c (by omega) (by omega)
      exact ⟨a1, by omega, a3, a4⟩
    · rw [ak c]; exact ⟨h, by omega, h1, by omega⟩
theorem Ik(y:Int):∀(n:Nat)(d m:Int),0<=d->d<28*n->0<=(q8 y n d m).1/\(q8 y n d m).1<=31/\m<=(q8 y n d m).2/\(q8 y n d m).2<=m+n
 |0,d,m,h,h1=>by omega
 |n+1,d,m,h,h1=>by have hm:=wE y m;simp only[q8];by_cases c:month y m<=d;{rw[ar c];obtain⟨a1,a2,a3,a4⟩:=Ik y n (d -month y m) (m+1) (by omega) (by omega);exact⟨a1,a2,by omega,by omega⟩};{rw[ak c];exact⟨h,by show d<=31;omega,by show m<=m;omega,by show m<=m+_;omega⟩}
def written(rest y:Int)(q:Int×Int):bD:=
 let s:=rest/1000
 let x:=pad y 4++[45]++pad q.2 2++[45]++pad (q.1+1) 2++[84]++pad (s/3600) 2++[58]++pad (s/60%60) 2++[58]++pad (s%60) 2
 cond (oG (rest%1000=0)) x (x++([46]++pad (rest%1000) 3))++[90]
end Rl
def azt(r y d m:Int)(hr:0<=r/\r<86400000)(hy:0<=y/\y<=100000)(hd:0<=d/\d<=400)(hm:0<=m/\m<=100)(c:¬Rl.month y m<=d):aa3 r y d m=BQ [.s (Rl.written r y (d,m)),.b NS]:=by apply alQ;intro v1 h1 v2 h2 v3 h3 v4 h4 v5 h5 v6 h6 v7 h7 v8 h8 v9 h9 v10 jo v11 lg v12 lZ jw qB iI rk iO qo mo uM;rw[Int.tdiv_eq_ediv_of_nonneg hr.1,iw]at h3;rw[Int.tdiv_eq_ediv_of_nonneg (by omega),iw]at h8 jo;rw[iw]at h6;have t1:Int.tmod v10 60=r/1000/60%60:=by{rw[Int.tmod_eq_emod_of_nonneg (by omega),jo,h3]};have t2:Int.tmod v3 60=r/1000%60:=by{rw[Int.tmod_eq_emod_of_nonneg (by omega),h3]};have t3:Int.tmod r 1000=r%1000:=Int.tmod_eq_emod_of_nonneg (by omega);rw[t1]at lg⊢;rw[t2]at qB⊢;rw[t3]at qo⊢;have p:∀n l:Int,0<=n/\n<=1000000/\l<=10->(Rl.pad n l).length<=31:=λn l h=>Rl.Cc n l dT h.2.2;have p1:=p y 4 (by omega);have p2:=p m 2 (by omega);have p3:=p v6 2 (by omega);have p4:=p v8 2 (by omega);have p5:=p (r/1000/60%60) 2 (by omega);have p6:=p (r/1000%60) 2 (by omega);have p7:=p (r%1000) 3 (by omega);rw[<-lg]at p5;rw[<-qB]at p6;rw[<-qo]at p7;have l4:v4.length<=32:=by{rw[h4,ae];simp only[ao];omega};have l5:v5.length<=63:=by{rw[h5,ae];omega};have l7:v7.length<=95:=by{rw[h7];simp only[ae,ao];omega};have l9:v9.length<=127:=by{rw[h9];simp only[ae,ao];omega};have l12:v12.length<=159:=by{rw[lZ];simp only[ae,ao];omega};have Y7:iI.length<=191:=by{rw[rk];simp only[ae,ao];omega};have l16:mo.length<=223:=by{rw[uM];simp only[ae,ao];omega};have z:∀k:Int,k≠0->(!decide (k=0))=NS:=λk h=>by{rw[ab h];rfl};rw[bC (aa hy),cF c,z 1000 (by decide),z 3600 (by decide),z 60 (by decide)];simp only[bO,ae,ao];have FH:iI=Rl.pad y 4++[45]++Rl.pad m 2++[45]++Rl.pad (d+1) 2++[84]++Rl.pad (r/1000/3600) 2++[58]++Rl.pad (r/1000/60%60) 2++[58]++Rl.pad (r/1000%60) 2:=by{rw[rk,qB,lZ,lg,h9,h8,h7,h6,h5,h4,h3]};rw[gK,gK,gK,gK,gK,gK,gK,gK,gK,gK,gK,gK,gK,gK,gK,gK];unfold Rl.written;by_cases k:r%1000=0;{rw[aa k,aG,ai,alP,bC (aa (by simp only[ao];omega)),FH];rfl};{rw[ab k,aJ,au,alP,gK,gK,gK,bC (aa (by simp only[ao];omega)),uM,qo,FH];rfl}
theorem alR(r y:Int)(hr:0<=r/\r<86400000)(hy:0<=y/\y<=100000):∀(n:Nat)(d m:Int),0<=d->d<28*n->d<=400->0<=m->m+n<=50->aa3 r y d m=BQ [.s (Rl.written r y (Rl.q8 y n d m)),.b NS]
 |0,d,m,h,h1,_,_,_=>by omega
 |n+1,d,m,h,h1,h2,h3,h4=>by have hm:=Rl.wE y m;simp only[Rl.q8];by_cases c:Rl.month y m<=d;{rw[ar c];apply alQ;intro v1 Ms v2 CC v3 _ v4 _ v5 _ v6 _ v7 _ v8 _ v9 _ v10 _ v11 _ v12 _ jw _ iI _ iO _ mo _;rw[bC (aa hy),cT c,bC (aa hy),Ms,CC,iw,iw];exact alR r y hr hy n _ _ (by omega) (by omega) (by omega) (by omega) (by omega)};{rw[ak c];exact azt r y d m hr hy ⟨h,by omega⟩ ⟨h3,by omega⟩ c}
def azr(d r:Int)(hr:0<=r/\r<86400000)(hd:0<=d/\d<=2932896):∀(n:Nat)(y:Int),1970<=y->Rl.ahead y<=d->y<=9999->9999 -y<=n->aa4 d r y=BQ [.s (Rl.written r (Rl.kC d n y) (Rl.q8 (Rl.kC d n y) 20 (d -Rl.ahead (Rl.kC d n y)) 1)),.b NS]:=by
 have stop:∀y:Int,1970<=y->y<=9999->Rl.ahead y<=d->¬Rl.ahead (y+1)<=d->aa4 d r y=BQ [.s (Rl.written r y (Rl.q8 y 20 (d -Rl.ahead y) 1)),.b NS]:=λy h0 h1 h2 c=>by{have hs:=Rl.uJ y;have ha:-719162<=Rl.ahead y:=by{unfold Rl.ahead;omega};apply alS;intro v1 Ms v2 CC;rw[iw]at Ms CC;rw[Ms,gK,cF c,gK,CC];exact alR r y hr (by omega) 20 _ 1 (by omega) (by omega) (by omega) (by omega) (by omega)};intro n;induction n with
 |zero=>intro y h0 h1 h2 h3;refine stop y h0 h2 h1 λw=>?_;have:y=9999:=by{omega};subst this;have:Rl.ahead (9999+1)=2932897:=by{decide};omega
 |succ n ih=>intro y h0 h1 h2 h3;simp only[Rl.kC];by_cases c:Rl.ahead (y+1)<=d;{rw[ar c];have hy:y≠9999:=λe=>by{subst e;have:Rl.ahead (9999+1)=2932897:=by{decide};omega};apply alS;intro v1 Ms v2 CC;rw[iw]at Ms;rw[Ms,gK,cT c];exact ih (y+1) (by omega) c (by omega) (by omega)};{rw[ak c];exact stop y h0 h2 h1 c}
def aiU(t:Int)(hp:(Nr.i64 t)=NS):azu t=BQ [.s (Rl.date t).1,.b (Rl.date t).2]:=by have hp:=aq hp;apply azs;intro v1 h1 v2 h2 v3 h3 v4 h4 v5 h5;rw[iv,bC (YW _),h1,Vh,Rl.ym];unfold Rl.zY;by_cases c:t<0\/253402300799999<t;{rw[ar c,show(oG (t<0)||oG (253402300799999<t))=NS by rcases c with c|c<;>simp[c],au]};{have c1:0<=t:=by{omega};rw[ak c,show(oG (t<0)||oG (253402300799999<t))=NT by rw[dF,dF];rfl,ai];have z:∀k:Int,k≠0->(!decide (k=0))=NS:=λk h=>by{rw[ab h];rfl};rw[z 86400000 (by decide),z 366 (by decide),bO,bO,bO];rw[Int.tdiv_eq_ediv_of_nonneg c1,iw]at h2;rw[Int.tmod_eq_emod_of_nonneg c1]at h3;rw[Int.tdiv_eq_ediv_of_nonneg (by omega),iw]at h4;rw[h4,iw]at h5;rw[h5,azr v2 v3 (by omega) (by omega) 100000 (1970+v2/366) (by omega) (Rl.sX v2 (by omega)) (by omega) (by omega),h2,h3];rfl}
def agi(y:Int)(hp:oG (0<=y/\y<=100000)=NS):asC y=BQ [.b (Rl.rI y)]:=by obtain⟨h0,_⟩:=aq hp;apply asB;intro v1 h1 v2 h2 v3 h3;rw[Int.tmod_eq_emod_of_nonneg h0]at h1 h2 h3⊢;rw[Int.tmod_eq_emod_of_nonneg h0]at h1 h2⊢;rw[h3,h2,h1];unfold Rl.rI;cases oG (y%4=0)<;>cases oG (y%100=0)<;>cases oG (y%400=0)<;>rfl
def agh(y m:Int)(hp:oG (0<=y/\y<=100000)=NS):asA y m=BQ [.i .i64 (Rl.month y m)]:=by apply asz;intro v1 h1 v2 h2 v3 h3 v4 h4;rw[hp];have c1:∀b:Bool,(!(!b)||(!b))=NS:=by{decide};have c2:∀b:Bool,(b||(!b))=NS:=by{decide};have c3:∀b:Bool,(!b||(b&&NS))=NS:=by{decide};have c4:∀b:Bool,(!b||b)=NS:=by{decide};rw[bC (c3 _),bC (c4 _),bC (c1 _),bC (c2 _),bC (c1 _),bC (c2 _),bC (c1 _),bC (c2 _)];have e4:v4=oG (m=4\/m=6\/m=9\/m=11):=by{rw[h4,h3,h2,Bool.decide_or,Bool.decide_or,Bool.decide_or];cases oG (m=4)<;>cases oG (m=6)<;>cases oG (m=9)<;>rfl};unfold Rl.month;rw[e4,h1];by_cases d:m=2;{subst d;rw[aa rfl,au,au,ak (by decide),ar rfl];cases Rl.rI y<;>rfl};{rw[ab d,ai,ai,ai,ak d];by_cases c:m=4\/m=6\/m=9\/m=11;{rw[aa c,ar c];rfl};{rw[ab c,ak c];rfl}}
theorem aku(n:Nat)(hn:n<=10):∀(k:Nat)(s:bD),s.length<=100->n -s.length=k->aaI (n:Int) s=BQ [.s (List.replicate k 48++s)]
 |0,s,hs,h=>by rw[akt,cF];rfl
 |k+1,s,hs,h=>by rw[akt,cT,bC (aa (by rw[ao];omega))];show aaI (n:Int) (48::s)=_;rw[aku n hn k (48::s) (by rw[av];omega) (by rw[av];omega),List.replicate_succ',aA];rfl
def ahB(v n:Int)(hp:oG (0<=v/\v<=1000000/\0<=n/\n<=10)=NS):av4 v n=BQ [.s (Rl.pad v n)]:=by obtain⟨h1,h2,h3,h4⟩:=aq hp;obtain⟨a,rfl⟩:∃a:Nat,v=(a:Int):=⟨v.toNat,by omega⟩;obtain⟨k,rfl⟩:∃k:Nat,n=(k:Int):=⟨n.toNat,by omega⟩;apply av3;intro v1 e1;have e:v1=Nr.itoa (a:Int):=by{rw[e1,rp,Nat.mod_eq_of_lt (by omega),Nr.jH,nO,Int.natAbs_natCast]};have hl:=Nr.iD 7 a (by show a<10000000;omega) (by omega);have hl:v1.length<=7:=by{rw[e,Nr.jH,nO,Int.natAbs_natCast];exact hl};rw[aku k (by omega) (k -v1.length) v1 (by omega) rfl,e];unfold Rl.pad;rw[ah]
def aAF(r y d m:Int)(hr:0<=r/\r<86400000)(hy:0<=y/\y<=100000)(hd:0<=d/\d<=400)(hm:0<=m/\m<=100)(c:¬Rl.month y m<=d):abg d r y m=BQ [.s (Rl.written r y (d,m)),.b NS]:=by apply aml;intro v1 h1 v2 h2 v3 h3 v4 h4 v5 h5 v6 h6 v7 h7 v8 h8 v9 h9 v10 jo v11 lg v12 lZ jw qB iI rk iO qo mo uM;rw[Int.tdiv_eq_ediv_of_nonneg hr.1,iw]at h7 h9 lZ;rw[iw]at h5;have e7:v7=r/1000/3600:=by{omega};have e9:v9=r/1000/60:=by{omega};have t1:Int.tmod v9 60=r/1000/60%60:=by{rw[Int.tmod_eq_emod_of_nonneg (by omega),e9]};have t2:Int.tmod v12 60=r/1000%60:=by{rw[Int.tmod_eq_emod_of_nonneg (by omega),lZ]};have t3:Int.tmod r 1000=r%1000:=Int.tmod_eq_emod_of_nonneg (by omega);rw[t1]at jo⊢;rw[t2]at qB⊢;rw[t3]at qo⊢;have p:∀n l:Int,0<=n/\n<=1000000/\l<=10->(Rl.pad n l).length<=31:=λn l h=>Rl.Cc n l dT h.2.2;have p1:=p y 4 (by omega);have p2:=p m 2 (by omega);have p3:=p v5 2 (by omega);have p4:=p v7 2 (by omega);have p5:=p (r/1000/60%60) 2 (by omega);have p6:=p (r/1000%60) 2 (by omega);have p7:=p (r%1000) 3 (by omega);rw[<-jo]at p5;rw[<-qB]at p6;rw[<-qo]at p7;have l3:v3.length<=32:=by{rw[h3,ae];simp only[ao];omega};have l4:v4.length<=63:=by{rw[h4,ae];omega};have l6:v6.length<=95:=by{rw[h6];simp only[ae,ao];omega};have l8:v8.length<=127:=by{rw[h8];simp only[ae,ao];omega};have l11:v11.length<=159:=by{rw[lg];simp only[ae,ao];omega};have Y7:iI.length<=191:=by{rw[rk];simp only[ae,ao];omega};have l16:mo.length<=223:=by{rw[uM];simp only[ae,ao];omega};have z:∀k:Int,k≠0->(!decide (k=0))=NS:=λk h=>by{rw[ab h];rfl};rw[bC (aa hy),cF c,z 1000 (by decide),z 3600000 (by decide),z 60000 (by decide),z 60 (by decide)];simp only[bO,ae,ao];have FH:iI=Rl.pad y 4++[45]++Rl.pad m 2++[45]++Rl.pad (d+1) 2++[84]++Rl.pad (r/1000/3600) 2++[58]++Rl.pad (r/1000/60%60) 2++[58]++Rl.pad (r/1000%60) 2:=by{rw[rk,qB,lg,jo,h8,h6,h4,h3,h5,e7]};rw[gK,gK,gK,gK,gK,gK,gK,gK,gK,gK,gK,gK,gK,gK,gK,gK];unfold Rl.written;by_cases k:r%1000=0;{rw[aa k,aG,ai,amp,bC (aa (by simp only[ao];omega)),FH];rfl};{rw[ab k,aJ,au,amp,gK,gK,gK,bC (aa (by simp only[ao];omega)),uM,aA iI,qo,FH];rfl}
theorem amk(r y:Int)(hr:0<=r/\r<86400000)(hy:0<=y/\y<=100000):∀(n:Nat)(d m:Int),0<=d->d<28*n->d<=400->0<=m->m+n<=50->abg d r y m=BQ [.s (Rl.written r y (Rl.q8 y n d m)),.b NS]
 |0,d,m,h,h1,_,_,_=>by omega
 |n+1,d,m,h,h1,h2,h3,h4=>by have hm:=Rl.wE y m;simp only[Rl.q8];by_cases c:Rl.month y m<=d;{rw[ar c];apply aml;intro v1 Ms v2 CC v3 _ v4 _ v5 _ v6 _ v7 _ v8 _ v9 _ v10 _ v11 _ v12 _ jw _ iI _ iO _ mo _;rw[bC (aa hy),cT c,bC (aa hy),Ms,CC,iw,iw];exact amk r y hr hy n _ _ (by omega) (by omega) (by omega) (by omega) (by omega)};{rw[ak c];exact aAF r y d m hr hy ⟨h,by omega⟩ ⟨h3,by omega⟩ c}
namespace Rl
def Hj{a b:Int}(h:a<=b):ahead a<=ahead b:=by unfold ahead;omega
def Ah(y:Int):ahead (y+1)=ahead y+(if rI y=NS then 366 else 365):=by have d4:(y -1)/4=y/4 -(if y%4=0 then 1 else 0):=by{split<;>omega};have d1:(y -1)/100=y/100 -(if y%100=0 then 1 else 0):=by{split<;>omega};have d2:(y -1)/400=y/400 -(if y%400=0 then 1 else 0):=by{split<;>omega};have i1:y%100=0->y%4=0:=by{omega};have i2:y%400=0->y%100=0:=by{omega};have e:rI y=NS↔y%4=0/\(¬y%100=0\/y%400=0):=by{unfold rI;rw[af,Bool.or_eq_true,Bool.not_eq_true',decide_eq_true_iff,decide_eq_true_iff,decide_eq_false_iff_not]};unfold ahead;rw[show y+1 -1=y by omega,d4,d1,d2];generalize y/4=q4,y/100=q1,y/400=q2 at*;clear d4 d1 d2;by_cases c4:y%4=0;{rw[ar c4];by_cases c1:y%100=0;{rw[ar c1];by_cases c2:y%400=0;{rw[ar c2,ar (e.2 ⟨c4,.inr c2⟩)];omega};{rw[ak c2,ak (λw=>(e.1 w).2.elim (λh=>h c1) c2)];omega}};{rw[ak c1,ak (λw=>c1 (i2 w)),ar (e.2 ⟨c4,.inl c1⟩)];omega}};{rw[ak c4,ak (λw=>c4 (i1 w)),ak (λw=>c4 (i1 (i2 w))),ak (λw=>c4 (e.1 w).1)];omega}
end Rl
theorem amo(D r Y:Int)(hr:0<=r/\r<86400000)(hY:Rl.ahead Y<=D/\D<Rl.ahead (Y+1)/\Y<=9999/\1970<=Y)(hD:0<=D/\D<=2932896):∀(n:Nat)(y d:Int),Y -y=n->1970<=y->Rl.ahead y+d=D->
  adm d r y 1=BQ [.s (Rl.written r Y (Rl.q8 Y 20 (D -Rl.ahead Y) 1)),.b NS]
 |0,y,d,h,hy,he=>by
  have:y=Y:=by{omega};subst this;have hn:=Rl.Ah y;have hs:=Rl.uJ y;have hd:d=D -Rl.ahead y:=by{omega};have fin:adn d r y 1=BQ [.s (Rl.written r y (Rl.q8 y 20 (D -Rl.ahead y) 1)),.b NS]:=by{rw[aAC,<-hd];exact amk r y hr (by omega) 20 d 1 (by omega) (by omega) (by omega) (by omega) (by omega)};rw[amm];by_cases c:365<=d
  ·rw[cT c,gK];have hl:Rl.rI y=NS:=by
    cases hl:Rl.rI y with
    |true=>rfl
    |false=>rw[hl,ak (by decide)]at hn;omega
   rw[hl,ar rfl]at hn;rw[hl,au];apply amn;intro v1 _;rw[cT];exact fin
  {rw[cF c];exact fin}
 |n+1,y,d,h,hy,he=>by
  have hn:=Rl.Ah y;have hm:=Rl.Hj (show y+1<=Y by omega);have ha:-719162<=Rl.ahead y:=by{unfold Rl.ahead;omega};rw[amm];have step:∀k:Int,Rl.ahead (y+1)=Rl.ahead y+k->0<=k->k<=366->ado d r y 1 k=BQ [.s (Rl.written r Y (Rl.q8 Y 20 (D -Rl.ahead Y) 1)),.b NS]:=λk hk h1 h2=>by{apply amn;intro v1 h1;rw[cF,h1,iw,iw];exact amo D r Y hr hY hD n (y+1) (d -k) (by omega) (by omega) (by omega)};have c:365<=d:=by{by_cases q:Rl.rI y=NS;{rw[ar q]at hn;omega};{rw[ak q]at hn;omega}};rw[cT c,gK];cases hl:Rl.rI y with
  |true=>rw[hl,ar rfl]at hn;rw[au];exact step 366 hn (by decide) (by decide)
  |false=>rw[hl,ak (by decide)]at hn;rw[ai];exact step 365 hn (by decide) (by decide)
def ajl(t:Int)(hp:Nr.i64 t=NS):aAG t=BQ [.s (Rl.date t).1,.b (Rl.date t).2]:=by have hi:=aq hp;apply aAE;intro v1 h1 v2 h2 v3 h3;have c1:∀b:Bool,(!(!b)||(!b))=NS:=by{decide};have c2:∀b:Bool,(b||(!b))=NS:=by{decide};rw[bC (c1 _),bC (c2 _),Rl.ym];unfold Rl.zY;have e1:v1=oG (t<0\/253402300799999<t):=by{rw[h1,Bool.decide_or];cases oG (t<0)<;>rfl};by_cases c:t<0\/253402300799999<t;{rw[e1,aa c,ar c];rfl};{rw[e1,cF c,ak c,bC (by decide),bC (by decide)];have e2:v2=t/86400000:=by{rw[h2,Int.tdiv_eq_ediv_of_nonneg (by omega),iw]};have e3:v3=t%86400000:=by{rw[h3,Int.tmod_eq_emod_of_nonneg (by omega)]};obtain⟨y1,y2,y3,y4⟩:=Rl.yt (t/86400000) (by omega) 100000 (1970+t/86400000/366) (Rl.sX _ (by omega)) (by omega) (by omega);rw[e2,e3];have h0:Rl.ahead 1970=0:=by{decide};exact amo (t/86400000) (t%86400000) _ (by omega) ⟨y1,y4,y3,by omega⟩ (by omega) _ 1970 (t/86400000) (Int.toNat_of_nonneg (by omega)).symm (by omega) (by omega)}
namespace Wq
def xF(c:UInt8):bD:=if c=34\/c=92 then[92,c]else if c=8 then[92,98]else if c=12 then[92,102]else if c=10 then[92,110]else if c=13 then[92,114]else if c=9 then[92,116]else if c<32 then[92,117,48,48]++kQ.text [c]else[c]
def PL:∀m,m<256->Cn.xF (UInt8.ofNat m)=xF (UInt8.ofNat m):=by decide+kernel
theorem MN(c:UInt8):Cn.xF c=xF c:=by have:=PL c.toNat c.toNat_lt;rwa[UInt8.ofNat_toNat]at this
end Wq
theorem al5(s:bD)(hs:s.length<=1000000000000):∀(m i:Nat)(b:bD),i+m=s.length->b.length+6*m<=7000000000000->
  adb s (i:Int) b=BQ [.s (b++((s.drop i).flatMap Cn.xF++[34])),.b NS]
 |0,i,b,hi,hb=>by apply al6;intro v1 h1 v2 h2 v3 h3 v4 h4 v5 h5 v6 h6 v7 h7 v8 h8 v9 h9 v10 jo v11 lg;rw[cF,bC (dJ (by rw[lg];simp;omega) (by rw[lg];simp;omega)),lg,az (by omega)];rfl
 |m+1,i,b,hi,hb=>by
  apply al6;intro v1 h1 v2 h2 v3 h3 v4 h4 v5 h5 v6 h6 v7 h7 v8 h8 v9 h9 v10 jo v11 lg;rw[ah]at h1;have next:∀e:bD,e=Wq.xF v1->Yg s (i:Int) (b++e)=BQ [.s (b++((s.drop i).flatMap Cn.xF++[34])),.b NS]:=λe he=>by apply az0;intro w1 g1;have e1:w1=((i+1:Nat):Int):=by{rw[g1,iw];omega};have hl:=CL v1;rw[Wq.MN,<-he]at hl;rw[e1,al5 s hs m (i+1) _ (by omega) (by rw[ae];omega),show s.drop i=v1::s.drop (i+1) by rw[h1];exact TS (by omega) _,List.flatMap_cons,Wq.MN,<-he];simp only[aA]
  have c3:∀c:Bool,(!(!c)||(!c))=NS:=by{decide};have e2:v2=oG (v1=34\/v1=92):=by{rw[h2,Bool.decide_or];cases oG (v1=34)<;>rfl};have ap:∀x:bD,x.length<=6->dP (b.length+x.length) 1=NS:=λx hx=>dJ (by omega) (by omega);rw[cT,jQ,bC (c3 _),Da,e2];by_cases k1:v1=34\/v1=92;{rw[cT k1,bC (ap _ (by rw[h3];simp))];exact next _ (by rw[h3];unfold Wq.xF;rw[ar k1])};rw[cF k1];by_cases k2:v1=8;{rw[cT k2,bC (ap _ (by rw[h4];simp))];exact next _ (by rw[h4];unfold Wq.xF;rw[ak k1,ar k2])};rw[cF k2];by_cases k3:v1=12;{rw[cT k3,bC (ap _ (by rw[h5];simp))];exact next _ (by rw[h5];unfold Wq.xF;rw[ak k1,ak k2,ar k3])};rw[cF k3];by_cases k4:v1=10;{rw[cT k4,bC (ap _ (by rw[h6];simp))];exact next _ (by rw[h6];unfold Wq.xF;rw[ak k1,ak k2,ak k3,ar k4])};rw[cF k4];by_cases k5:v1=13;{rw[cT k5,bC (ap _ (by rw[h7];simp))];exact next _ (by rw[h7];unfold Wq.xF;rw[ak k1,ak k2,ak k3,ak k4,ar k5])};rw[cF k5];by_cases k6:v1=9;{rw[cT k6,bC (ap _ (by rw[h8];simp))];exact next _ (by rw[h8];unfold Wq.xF;rw[ak k1,ak k2,ak k3,ak k4,ak k5,ar k6])};rw[cF k6];have hn:Wq.xF v1=if v1<32 then[92,117,48,48]++kQ.text [v1]else[v1]:=by{unfold Wq.xF;rw[ak k1,ak k2,ak k3,ak k4,ak k5,ak k6]};by_cases k7:v1<32;{have l9:v9.length=b.length+4:=by{rw[h9,ae];rfl};have l10:v10.length=2:=by{rw[jo,mJ];rfl};rw[cT k7,bC (ap _ (by decide)),bC (aa (by rw[ao];omega)),Of,h9,aA];exact next _ (by rw[hn,ar k7,jo])};{rw[cF k7,bC (ap _ (by rw[ao];omega))];exact next _ (by rw[hn,ak k7])}
def ajb(s:bD)(hp:oG (s.length<=1000000000000)=NS):az2 s=BQ [.s (Cn.jC s),.b (dE.whole s)]:=by
 have h:=aq hp;apply az1;intro v1 h1;rw[gK];unfold Cn.jC;cases hw:dE.whole s with
 |false=>rfl
 |true=>have:=al5 s h s.length 0 v1 (by omega) (by rw[h1,ao];omega);rw[aZ,h1]at this;rw[aG,ai,au,h1];exact this
theorem alM(n:Nat)(j:cQ)(hn:cQ.bJ j<n+1):∀(m i:Nat)(b:bD),i+m=j.kids.length->b.length+12*Mem.bV (j.kids.drop i)+8<=2000000000000->Mem.bV j.kids<=83333333333->
  acW n (i:Int) j b=BQ [.sl .bs (cond (oG (j.kind=7)) 123 91::((b++Cn.oU (oG (j.kind=7)) (oG (i=0)) (j.kids.drop i))++[cond (oG (j.kind=7)) 125 93]))]
 |0,i,b,hi,hb,hq=>by apply alN;intro v1 h1 v2 h2 v3 h3 v4 h4 v5 h5 v6 h6;rw[h1,ab (show¬((i:Int)<j.kids.length) by omega),ai,az (by omega),h3,h4,h5,h6];have a1:∀c:UInt8,dP ([c].length+b.length) 1=NS:=λc=>dJ (by rw[ao];omega) (by rw[ao];omega);have a2:∀c d:UInt8,dP (([c]++b).length+[d].length) 1=NS:=λc d=>dJ (by rw[ae,ao,ao];omega) (by rw[ae,ao,ao];omega);rw[bC (a1 _),bC (a2 _ _),bC (a1 _),bC (a2 _ _)];cases oG (j.kind=7)<;>simp[Cn.oU]
 |m+1,i,b,hi,hb,hq=>by have hk:=nq j;have hlen:=oz j.kids;apply alN;intro v1 h1 v2 h2 v3 h3 v4 h4 v5 h5 v6 h6;obtain⟨f,Xy⟩:∃f,f=List.getD j.kids i (fE.fu .ml):=⟨_,rfl⟩;have hf:=zk (l:=j.kids) (i:=i) (by omega) (fE.fu .ml);rw[<-Xy]at hf;have hd:=TS (l:=j.kids) (i:=i) (by omega) (fE.fu .ml);rw[<-Xy]at hd;have hv:=vk f;have hl:=zC f;have hqs:=nP f.name;rw[hd]at hb⊢;simp only[Mem.bV]at hb;have ix:bG (i:Int) j.kids.length=NS:=dC (by omega) (by omega);have last:∀x:bD,x.length<=b.length+6*f.name.length+4->acX n (i:Int) j x=BQ [.sl .bs (cond (oG (j.kind=7)) 123 91::((x++(Cn.xJ f++Cn.oU (oG (j.kind=7)) NT (j.kids.drop (i+1))))++[cond (oG (j.kind=7)) 125 93]))]:=λx hx=>by{apply azh;intro w1 g1 w2 g2 w3 g3;rw[ah,<-Xy]at g1;subst g1;have e3:w3=((i+1:Nat):Int):=by{rw[g3,iw];omega};have cc:((oG (12*cQ.bJ (Mem.val w1)<=1000000000000))&&oG ((cQ.bJ (Mem.val w1))<n))=NS:=by{rw[af];exact⟨dT,dT⟩};rw[<-Ei]at g2⊢;rw[bC ix,bC cc,Of,e3,g2,alM n j hn m (i+1) _ (by omega) (by rw[ae];omega) hq,show oG (i+1=0)=NT from dF,aA x]};have qO:∀x:bD,x.length<=b.length+1->acY n (i:Int) j x=BQ [.sl .bs (cond (oG (j.kind=7)) 123 91::((x++(cond (oG (j.kind=7)) (Cn.jC f.name++[58]) []++(Cn.xJ f++Cn.oU (oG (j.kind=7)) NT (j.kids.drop (i+1)))))++[cond (oG (j.kind=7)) 125 93]))]:=λx hx=>by{apply azi;intro w1 g1 w2 g2 w3 g3;rw[ah,<-Xy]at g1;subst g1;by_cases k:j.kind=7;{have l2:w2.length=x.length+(Cn.jC w1.name).length:=by{rw[g2,ae]};rw[aa k,au,au,au,au,bC ix,gK,Of,bC (dJ (by rw[g3,ao];omega) (by rw[g3,ao];omega)),last _ (by rw[g3,ae,ao];omega),g2,g3,aa k];simp only[aA,au]};{rw[ab k,ai,ai,ai,ai,last x (by omega),ab k];rfl}};rw[h1,aa (show(i:Int)<j.kids.length by omega),au];simp only[Cn.oU];by_cases h0:i=0;{rw[cF,qO b (by omega),aa h0,au,bg]};{rw[cT,bC (dJ (by rw[h2];simp;omega) (by rw[h2];simp;omega)),qO _ (by rw[h2];simp),ab h0,ai,h2];simp only[aA]}
def aiP(n:Nat)(j:cQ)(hp:(oG (12*cQ.bJ j<=1000000000000)&&oG (cQ.bJ j<n+1))=NS):azk n j=BQ [.sl .bs (Cn.sO j)]:=by rw[af]at hp;have hb:=aq hp.1;have hn:=aq hp.2;have hk:=nq j;apply azj;intro v1 h1 v2 h2 v3 h3;simp only[Cn.sO,Mem.of,Cn.xJ];by_cases k1:j.kind=1;{rw[cT k1,ar k1,h1];rfl};rw[cF k1,ak k1];by_cases k2:j.kind=2;{rw[cT k2,ar k2,h2];rfl};rw[cF k2,ak k2];by_cases k3:j.kind=3;{rw[cT k3,ar k3,h3];rfl};rw[cF k3,ak k3];by_cases k4:j.kind=4;{rw[cT k4,ar k4,bC (vF (by omega))]};rw[cF k4,ak k4];have hqs:=nP j.text;by_cases k5:j.kind=5;{rw[cT k5,ar k5,gK,bC (vF (by omega))]};rw[cF k5,ak k5];have:=alM n j hn j.kids.length 0 [] (by omega) (by rw[aZ];show 0+_+8<=_;omega) (by omega);rw[aZ,aa (rfl:0=0),bg]at this;exact this
def agL(j:cQ)(hp:oG (12*cQ.bJ j<=1000000000000)=NS):atK j=BQ [.s (Cn.pG j),.i .i64 (Cn.iz j)]:=by have h:=aq hp;rw[atJ,gK,bC hp];unfold Cn.pG;by_cases c:Cn.iz j=0;{rw[aa c,c];rfl};{rw[ab c];rfl}
def MW(x:Int)(s:bD)(hs:s.length<=200)(h1:-1000000<=x)(h2:x<=1000000):ac2 x s=BQ [.s (if x<0 then s++[69,45]++Nr.itoa (-x)else s++[69,43]++Nr.itoa x)]:=by apply azH;intro w1 g1 w2 g2 w3 g3;have hi:∀v:Int,-1000000<=v->v<=1000000->Nr.i64 v=NS/\(Nr.itoa v).length<=30:=λv a b=>by{refine⟨dT,?_⟩;rw[Nr.jH];have:=Nr.iD 20 v.natAbs (by rw[t20];omega) (by omega);split;{simp only[av];omega};{omega}};have ew:IntKind.i64.wrap (0 -x)=-x:=by{rw[iw];omega};rw[ew]at g1⊢;rw[g2,g3,g1];have a1:=hi (-x) (by omega) (by omega);have a2:=hi x (by omega) (by omega);by_cases c:x<0;{rw[cT c,ar c,bC (aa (by simp;omega)),bC a1.1,bC (aa (by simp;omega))]};{rw[cF c,ak c,bC (aa (by simp;omega)),bC a2.1,bC (aa (by simp;omega))]}
def ai1(h l:UInt64):azK h l=BQ [.s (Cn.qX h l)]:=by
 have hx:=qJ h l;have hc:=ui h l;have hd:=Nr.iD 34 _ (by rw[t34];exact hc) (by omega);have hd1:=Nr.nZ (Cn.split h l).2.2.1.val;rw[azJ];unfold Cn.qX;simp only;have key:∀t:bD,t.length<=1->ac3 (Cn.split h l).1 (Cn.split h l).2.2.2 t (Cn.split h l).2.2.1.high (Cn.split h l).2.2.1.low=BQ [.s (if(Cn.split h l).1=3 then[78,97,78]else t++(if(Cn.split h l).1=2 then[73,110,102,105,110,105,116,121]else Cn.laid (Nr.dec (Cn.split h l).2.2.1.val) (Cn.split h l).2.2.2))]:=by{intro t ht;apply azI;intro v1 h1 v2 h2 v3 h3 v4 h4 v5 h5 v6 h6 v7 h7 v8 h8 v9 h9 v10 jo v11 lg v12 lZ jw qB iI rk iO qo;have e2:v2=Nr.dec (Cn.split h l).2.2.1.val:=h2;rw[<-e2]at hd hd1⊢;generalize(Cn.split h l).2.2.2=x at*;generalize(Cn.split h l).1=k at*;clear h2 e2;by_cases c1:k=3;{rw[cT c1,ar c1]};rw[cF c1,ak c1];by_cases c2:k=2;{rw[cT c2,ar c2,bC (aa (by simp;omega)),h1]};rw[cF c2,ak c2,iv,iv];have e3:v3=x+v2.length:=by{rw[h3,iw]};have e4:v4=x+v2.length -1:=by{rw[h4,e3,iw]};have e5:v5=oG (x<=0/\-6<=x+v2.length -1):=by{rw[h5,e4,Bool.decide_and,re]};have e7:v7=1 -x -v2.length:=by{rw[h7,h6,i64_in (1 -x) (by omega),iw]};rw[e5];unfold Cn.laid;simp only;by_cases c0:x=0;{rw[cT,cT c0,ar c0,gK]};rw[ab c0,ak c0];by_cases c3:x<0/\-6<=x+v2.length -1;{have e8:v8++v2=if(v2.length:Int)<=-x then List.replicate (1 -x -v2.length).toNat 48++v2 else v2:=by{rw[h8,e7];split;{rfl};{rw[show(1 -x -(v2.length:Int)).toNat=0 by omega];rfl}};have l8:(v8++v2).length<=200/\-x<=(v8++v2).length:=by{rw[e8];split;{rw[ae,List.length_replicate];omega};{omega}};have m8:v8.length<=200:=by{have:=l8.1;rw[ae]at this;omega};have e9:v9=(v8++v2).length+x:=by{rw[h9,iw]};have g10:v10.length<=200:=by{rw[jo,aF];omega};have g12:v12.length<=200:=by{rw[lZ,aR];omega};have g11:v11.length<=300:=by{rw[lg];simp;omega};rw[cT,ai,ar c3,gK,gK,Aa,gK,bC (aa (by simp;omega)),Aa,gK,lg,jo,lZ,e9,e8];simp};{have g13:jw=v2.take 1:=qB;have g15:iO=v2.drop 1:=qo;have l13:jw.length<=1:=by{rw[g13,aF];omega};have l15:iO.length<=100:=by{rw[g15,aR];omega};have Y7:iI.length<=3:=by{rw[rk];simp;omega};rw[cF,ak c3,Aa,gK,e4];by_cases c4:(1:Int)<v2.length;{rw[cT c4,ar c4,bC (aa (by simp;omega)),Aa,gK,MW _ _ (by simp;omega) (by omega) (by omega),rk,g13,g15];split<;>simp};{rw[cF c4,ak c4,MW _ _ (by simp;omega) (by omega) (by omega),g13];split<;>simp}}};cases(Cn.split h l).2.1 with
 |true=>rw[au,key [45] (by decide)];rfl
 |false=>rw[ai,key [] (by decide)];rfl
def afQ(s:bD):arS s=BQ [.ag (cQ.cells (Cn.str s))]:=arR s
def afG(s:bD):arA s=BQ [.ag (cQ.cells (cQ.mk 4 s []))]:=arz s
def afI(l:List Mem):arC l=BQ [.ag (cQ.cells (cQ.mk 7 [] l))]:=arB l
def agw(s:bD)(j:cQ):atd s j=BQ [.ag (cQ.cells (Cn.one s j))]:=by apply atc;intro v1 h1;rw[h1];rfl
def afK(s:bD)(j:cQ)(t:bD)(k:cQ):arF s j t k=BQ [.ag (cQ.cells (Cn.two s j t k))]:=by apply arE;intro v1 h1;rw[h1];rfl
def afO(v:UInt64):arQ v=BQ [.s (Cn.high v)]:=by rw[arP,bC (by decide),bC (aa (by show 8<=_;decide))];rfl
def NF{b:UInt64}(h:(Nr.split b).1=2):((Nr.split b).2.2.2<=0)=(Sh.ju b<4845873199050653696):=by have hb:=b.toNat_lt;unfold Sh.ju;unfold Nr.split at h⊢;simp only at h⊢;by_cases c1:b.toNat/4503599627370496%2048=2047;{rw[ar c1]at h;split at h;{exact absurd (show(3:Int)=2 from h) (by decide)};{exact absurd (show(4:Int)=2 from h) (by decide)}};rw[ak c1];by_cases c2:b.toNat/4503599627370496%2048=0;{rw[ar c2]at h⊢;by_cases c3:b.toNat%4503599627370496=0;{rw[ak c1,ar c3]at h;exact absurd (show(1:Int)=2 from h) (by decide)};{rw[ak c3];exact propext ⟨λ_=>by omega,λ_=>(show(-1074:Int)<=0 by decide)⟩}};{rw[ak c2];exact propext ⟨λw=>by simp only at w;omega,λw=>by simp only;omega⟩}
def agk(b:UInt64):asF b=BQ [.b (Rl.number b).2]:=by apply asE;intro v1 h1;rw[Rl.nT];unfold Rl.oc;by_cases c2:(Nr.split b).1=2;{rw[aa c2,aG,ai,bC (aa (Nat.le_trans (Sh.qH b) (by decide))),nO,nO];show cond (oG (Nr.fy (Sh.text b)=2)) (BQ [TV.b NS]) (BQ [TV.b (oG ((Nr.split b).2.2.2<=0))])=BQ [TV.b (oG (Sh.ju b<4845873199050653696)||oG (Nr.fy (Sh.text b)=2))];have e:oG ((Nr.split b).2.2.2<=0)=oG (Sh.ju b<4845873199050653696):=aT.2 (by rw[NF c2]);rw[e];cases oG (Sh.ju b<4845873199050653696)<;>cases oG (Nr.fy (Sh.text b)=2)<;>rfl};{rw[ab c2,aJ,au,iv,iv,h1];by_cases c1:(Nr.split b).1=1;{rw[cT c1,ar c1]};{rw[cF c1,ak c1,ar c2]}}
theorem KP(b:UInt64):oG ((Nr.split b).1=4)=oG (Sh.text b=[78,97,78]):=by refine aT.2 ⟨Sh.yF,λh=>?_⟩;have hk:=pC b;by_cases c12:(Nr.split b).1=1\/(Nr.split b).1=2;{have:=(Sh.back c12).2;rw[h]at this;exact absurd (by decide) this};{by_cases c4:(Nr.split b).1=4;{exact c4};{have c3:(Nr.split b).1=3:=by{omega};rw[Sh.rz]at h;unfold Sh.tR Sh.sign at h;rw[ak c4,ar c3]at h;cases e:(Nr.split b).2.1<;>rw[e]at h<;>exact absurd h (by decide)}}
def ag2(b:UInt64):aun b=BQ [.ag (cQ.cells (Wq.Uo b))]:=by apply aum;intro v1 h1 v2 h2 v3 h3;rw[iv,iv,h1,h2,h3,KP,re];unfold Wq.Uo Cn.nF;rw[ar rfl];cases(oG (Sh.text b=[78,97,78])&&!decide (b=9221120237041090560))<;>rfl
def Gn{v:Val}{n:bD}(h:Tree.sC v n=0):Tree.own v=0:=by unfold Tree.sC at h;by_cases c:Tree.own v=0;{exact c};{rw[ar c]at h;exact(c h).elim}
def ko{n:bD}{k:Int}{b h l:UInt64}{t m:bD}{s:Int}{y:bD}{ks:List bF}{p:List Int}(c:(Tree.fD (.mk n k b h l t m s y ks) p).2=0):Tree.own ⟨k,b,h,l,t,m,s,y,ks⟩=0/\(Tree.jv ks 0 p).2=0:=by rw[Tree.fD]at c;by_cases d:Tree.sC ⟨k,b,h,l,t,m,s,y,ks⟩ n=0;{rw[ak (by simp[d])]at c;exact⟨Gn d,c⟩};{rw[ar d]at c;exact(d c).elim}
def rO{f:bF}{r:List bF}{i:Nat}{p:List Int}(c:(Tree.jv (f::r) i p).2=0):(Tree.fD f (p++[(i:Int)])).2=0/\(Tree.jv r (i+1) p).2=0:=by rw[Tree.jv]at c;by_cases d:(Tree.fD f (p++[(i:Int)])).2=0;{rw[ak (by simp[d])]at c;exact⟨d,c⟩};{rw[ar d]at c;exact(d c).elim}
theorem yw:Tree.ft [] NS=NS:=by decide
mutual
theorem BK:∀(f:bF)(p q:List Int),(Tree.fD f p).2=0->(Tree.fD f q).2=0
 |.mk n k b h l t m s y ks,p,q,c=>by
  rw[Tree.fD]at c⊢
  by_cases d:Tree.sC ⟨k,b,h,l,t,m,s,y,ks⟩ n=0
  ·rw[ak (by simp[d])]at c⊢
   exact wZ ks 0 p q c
  ·rw[ar d]at c;exact(d c).elim
theorem wZ:∀(l:List bF)(i:Nat)(p q:List Int),(Tree.jv l i p).2=0->(Tree.jv l i q).2=0
 |[],_,_,_,_=>by simp[Tree.jv]
 |f::r,i,p,q,c=>by
  obtain⟨c1,c2⟩:=rO c
  have h1:=BK f _ (q++[(i:Int)]) c1
  have h2:=wZ r _ p q c2
  rw[Tree.jv,ak (by simp[h1])]
  exact h2
end
def Nj(f:bF)(p q:List Int)(c:(Tree.fD f p).2=0):(Tree.fD (bF.of [] f.val) q).2=0:=by cases f;obtain⟨o,c2⟩:=ko c;simp only[bF.of,bF.val,bF.kind,bF.bits,bF.high,bF.low,bF.text,bF.more,bF.sub,bF.bytes,bF.kids];rw[Tree.fD];have:∀v:Val,Tree.own v=0->Tree.sC v []=0:=λv h=>by{unfold Tree.sC;rw[ak (by simp[h]),ak (by rw[yw];simp)]};rw[ak (by rw[this _ o];simp)];exact wZ _ _ _ _ c2
theorem vD : ∀ {l : List bF} {i j : Nat} {p : List Int} {f : bF}, (Tree.jv l i p).2 = 0 → f = l.getD j (fE.fu .fl) → j < l.length → (Tree.fD (bF.of [] f.val) []).2 = 0
  | [], _, _, _, _, _, _, h => by simp at h
  | g :: r, i, j, p, f, c, e, h => by
    obtain ⟨c1, c2⟩ := rO c
    cases j with
    | zero => obtain rfl : f = g := by simpa using e
              exact Nj _ _ _ c1
    | succ j => exact vD (l := r) (i := i + 1) (j := j) c2 (by simpa using e) (by simpa using h)
theorem EJ(date:Int->bD×Bool)(f:bF):Rl.oD date (bF.of [] f.val)=Rl.oD date f:=by cases f;simp only[bF.of,bF.val,bF.kind,bF.bits,bF.high,bF.low,bF.text,bF.more,bF.sub,bF.bytes,bF.kids,Rl.oD]
theorem Ba(date:Int->bD×Bool):∀l:List bF,(Rl.jI date l).length=l.length
 |[]=>by simp[Rl.jI]
 |f::r=>by simp[Rl.jI,Ba date r]
theorem alo(n:Nat)(l:List bF)(hb:bF.bV l<=1000000000000)(hn:2*bF.bV l<n)(hc:(Tree.jv l 0 []).2=0)(x3:Int)(x4:bD)(x7:List Mem):∀(m i:Nat)(acc:List Mem),i+m=l.length->acc.length=i->
  acM n l (l.length:Int) (i:Int) x3 x4 7 [] x7 acc=BQ [.ag [.i .i64 7,.s [],.sl .ml (acc++Rl.jI Rl.date (l.drop i))]]
 |0,i,acc,hi,ha=>by apply alp;intro v1 h1 v2 h2 v3 h3 v4 h4;rw[cF,az (by omega)];simp[Rl.jI]
 |m+1,i,acc,hi,ha=>by
  have hlen:=mG l;apply alp;intro v1 h1 v2 h2 v3 h3 v4 h4;rw[ah]at h1;have hf:=wO (l:=l) (i:=i) (by omega) (fE.fu .fl);rw[<-h1]at hf;have hv:=tt v1;have e4:v4=((i+1:Nat):Int):=by{rw[h4,iw];omega};have cB:((oG (bF.bJ (bF.of [] (bF.val v1))<=1000000000000)&&oG ((Tree.fD (bF.of [] (bF.val v1)) []).2=0))&&oG ((2*bF.bJ (bF.of [] (bF.val v1)))<n))=NS:=by{rw[af,af];exact⟨⟨dT,aa (vD hc h1 (by omega))⟩,dT⟩};rw[cT,jQ,bC cB,bC (dJ (by rw[h3];simp;omega) (by rw[h3];simp;omega)),e4,
   alo n l hb hn hc x3 x4 x7 m (i+1) (acc++v3) (by omega) (by rw[h3];simp;omega),TS (l:=l) (i:=i) (by omega) (fE.fu .fl),<-h1]
  have e3:v3=[Mem.of v1.name (Rl.oD Rl.date v1)]:=by{rw[h3,h2,EJ];rfl};rw[e3,aA];simp[Rl.jI]
def aiD(n:Nat)(l:List bF)(hp:((oG (bF.bV l<=1000000000000)&&oG ((Tree.jv l 0 []).2=0))&&oG ((2*bF.bV l+1)<n+1))=NS):ayB n l=BQ [.ag (cQ.cells (Rl.uD Rl.date l))]:=by rw[af,af]at hp;have h1:=aq hp.1.1;have h2:=aq hp.1.2;have h3:=aq hp.2;rw[ayA];have:=alo n l h1 (by omega) h2 0 [] [] l.length 0 [] (by omega) rfl;rw[aZ,bg]at this;exact this
def J4(l:List bF):cond (oG ((0:Int)<(l.length:Int))) (List.isPrefixOf [36] (l.getD 0 (fE.fu .fl)).name) NT=Cn.ln l:=by
 unfold Cn.ln;cases l with
 |nil=>rfl
 |cons f r=>
  rw[aa (by simp),au];show List.isPrefixOf [36] f.name=oG (f.name.take 1=[36]);generalize f.name=s;cases s with
  |nil=>rfl
  |cons c t=>by_cases e:c=36;{subst e;simp[List.isPrefixOf]};{have e':¬(36:UInt8)=c:=λh=>e h.symm;simp[List.isPrefixOf,e,e']}
theorem ak6(n:Nat)(x2:Int)(x3:bD)(x6:List Mem)(l:List Mem)(hl:l.length<=1099511627776):∀(m i:Nat)(acc:List Mem),i+m=l.length->acc=(l.take i).map Cn.oN++l.drop i->
  acD n (l.length:Int) (i:Int) x2 x3 6 [] x6 acc=BQ [.ag [.i .i64 6,.s [],.sl .ml (l.map Cn.oN)]]
 |0,i,acc,hi,ha=>by apply ak5;intro v1 h1 v2 h2;rw[cF,ha,az (by omega),List.take_of_length_le (by omega),aM]
 |m+1,i,acc,hi,ha=>by have Mr:acc.length=l.length:=by{rw[ha];simp;omega};have uK:i<l.length:=by{omega};apply ak5;intro v1 h1 v2 h2;rw[ah]at h1⊢;have e2:v2=((i+1:Nat):Int):=by{rw[h2,iw];omega};rw[cT,jQ,gK,e2];refine ak6 n x2 x3 x6 l hl m (i+1) v1 (by omega) ?_;have eg:acc.getD i (fE.fu .ml)=l[i]:=by{rw[ha,aj,aY (by simp;omega)];simp only[bj,aF,Nat.min_eq_left (Nat.le_of_lt uK),Nat.sub_self,List.getElem?_drop,Nat.add_zero];rw[aw uK];rfl};rw[h1,eg,ha,List.set_append_right _ _ (by simp;omega)];simp only[bj,aF,Nat.min_eq_left (Nat.le_of_lt uK),Nat.sub_self];rw[List.drop_eq_getElem_cons uK,List.set_cons_zero,List.take_succ_eq_append_getElem uK,List.map_append,aA];rfl
def axY(n:Nat)(v:Val)(hb:bF.bJ (bF.of [] v)<=1000000000000)(hc:(Tree.fD (bF.of [] v) []).2=0)(x1:Int)(x2:bD)(x3:List Mem):aas n v x1 x2 x3=BQ [.ag (cQ.cells (Cn.oP (bF.of [] v)))]:=by apply axZ;intro v1 h1 v2 h2 v3 h3 v4 h4 v5 h5;have e1:v1=[bF.of [] v]:=h1;have eb:bF.bJ (bF.of [] (Val.mk 3 0 0 0 [] [] 0 [] v1))=1+bF.bJ (bF.of [] v):=by{rw[e1];simp only[bF.of,bF.bJ,bF.bV,aE];omega};have ee:(Cn.fC (Val.mk 3 0 0 0 [] [] 0 [] v1)).2=0:=by{unfold Cn.fC;have:(Tree.fD (bF.of [] (Val.mk 3 0 0 0 [] [] 0 [] v1)) []).2=0:=by{show(Tree.fD (bF.mk [] 3 0 0 0 [] [] 0 [] v1) []).2=0;have o:Tree.own ⟨3,0,0,0,[],[],0,[],v1⟩=0:=by{rw[e1];generalize[bF.of [] v]=ks;unfold Tree.own;rw[ak (show¬Tree.name (3:Int)=[] by decide),ak,ak (show¬(Tree.ft [] (oG ((3:Int)=11))=NT\/Tree.ft [] (oG ((3:Int)=11))=NT) by decide)];simp[Tree.ia,Tree.kT]};rw[Tree.fD,ak (by unfold Tree.sC;rw[ak (by simp[o]),ak (by rw[yw];simp)];simp),e1,Tree.jv,ak (by rw[BK _ _ _ hc];simp)];rfl};rw[ak (by simp[this])];rfl};rw[gK];have e2:v2=Cn.uE [bF.of [] v]:=by{rw[h2];unfold Cn.xz;rw[ar ee,e1]};have ek:v2.kids=[Mem.of [] (Cn.oP (bF.of [] v))]:=by{rw[e2];simp only[Cn.uE,Cn.jJ];rfl};rw[ek]at h5;rw[ek,bC (dC (by omega) (by simp)),h5];rfl
def aim(n:Nat)(v:Val)(hp:((oG (bF.bJ (bF.of [] v)<=1000000000000)&&oG ((Tree.fD (bF.of [] v) []).2=0))&&oG ((2*bF.bJ (bF.of [] v))<n+1))=NS):ax1 n v=BQ [.ag (cQ.cells (Rl.oD Rl.date (bF.of [] v)))]:=by
 rw[af,af]at hp;have hb:=aq hp.1.1;have hc:=aq hp.1.2;have hn:=aq hp.2;have hk:bF.bV v.kids+1<=bF.bJ (bF.of [] v):=by{simp only[bF.of,bF.bJ];omega};have hlen:=mG v.kids;have AE:(Tree.jv v.kids 0 []).2=0:=(ko hc).2;apply ax0;intro v1 h1 v2 h2 v3 h3 v4 h4 v5 h5 v6 h6 v7 h7 v8 h8 v9 h9 v10 jo v11 lg v12 lZ jw qB iI rk iO qo mo uM ug C8 o8 As sj JM v20 GR v21 PC v22 PB FU Wb v24 PA v25 Uk r8 Uj v27 Wa;have i3:Nr.i64 v3=NS:=by{rw[h3];exact nv _};have cA:((oG (bF.bV v.kids<=1000000000000)&&oG ((Tree.jv v.kids 0 []).2=0))&&oG ((2*bF.bV v.kids+1)<n))=NS:=by{rw[af,af];exact⟨⟨dT,aa AE⟩,dT⟩};have hd:(⟨iO,mo,iI⟩:cQ)=Rl.uD Rl.date v.kids:=by{rw[rk,qo,uM]};have FH:iI=Rl.jI Rl.date v.kids:=rk;have e15:iO=7:=qo;have Ya:mo=[]:=uM;have leaf:v.kind≠3->v.kind≠4->v.kind≠15->∀x1 x2 x3,aas n v x1 x2 x3=BQ [.ag (cQ.cells (Cn.mj v))]:=λw1 w2 w3 x1 x2 x3=>by{rw[axY n v hb hc];simp only[bF.of,Cn.oP,ak w1,ak w2,ak w3]};simp only[bF.of,Rl.oD];by_cases Cq:v.kind=16;{rw[cT Cq,ar Cq,bC (nv _),h2,h1];rfl};rw[cF Cq,ak Cq];by_cases L4:v.kind=18;{rw[cT L4,ar L4,bC i3,h4,h3];rfl};rw[cF L4,ak L4];by_cases k1:v.kind=1
 ·rw[cT k1,h6];cases c:(Rl.number v.bits).2 with
  |true=>rw[au,ar ⟨k1,rfl⟩,h5]
  |false=>rw[ai,ak (by rintro⟨_,w⟩;cases w),ak (by rintro⟨w,_⟩;omega),nO,nO,nO];exact leaf (by omega) (by omega) (by omega) _ _ _
 rw[cF k1,ak (by rintro⟨w,_⟩;exact k1 w)];by_cases k9:v.kind=9
 ·rw[cT k9,bC i3,h9,h8,h7,h3];show cond (Rl.date (Cn.i64 v.bits)).2 _ _=_;cases c:(Rl.date (Cn.i64 v.bits)).2 with
  |true=>rw[au,ar ⟨k9,rfl⟩];rfl
  |false=>rw[ai,ak (by rintro⟨_,w⟩;cases w),nO,nO,nO];exact leaf (by omega) (by omega) (by omega) _ _ _
 rw[cF k9,ak (by rintro⟨w,_⟩;exact k9 w)];by_cases k3:v.kind=3;{have PQ:jw=Cn.ln v.kids:=by{rw[qB,lZ,lg,jo];exact J4 v.kids};have ci:(!(oG ((0:Int)<v10))||((oG ((0:Int)<v10))&&(bG (0:Int) v.kids.length)))=NS:=by{by_cases c:(0:Int)<v10;{rw[dC (by omega) (by omega)];cases oG ((0:Int)<v10)<;>rfl};{rw[ab c];rfl}};rw[cT k3,ar k3,iv,bC ci,iv,iv,iv,iv,bC cA,bC cA,PQ,C8,As,JM,hd,FH,e15,Ya];cases Cn.ln v.kids<;>rfl};rw[cF k3,ak k3];by_cases k4:v.kind=4
 ·rw[cT k4,ar k4,bC cA,gK,GR,PC,PB,Wb,hd,FH,Ya];cases Tree.regular v.kids with
  |false=>rfl
  |true=>rw[aG,ai,au];have:=ak6 n 0 [] [] (Rl.jI Rl.date v.kids) (by rw[Ba];omega) (Rl.jI Rl.date v.kids).length 0 (Rl.jI Rl.date v.kids) (by omega) (by simp);exact this
 rw[cF k4,ak k4];by_cases Pq:v.kind=15;{have e24:v24=[Mem.of [36,99,111,100,101] (Cn.str v.text)]:=PA;have e27:v27=[Mem.of [36,115,99,111,112,101] (Rl.uD Rl.date v.kids)]:=by{rw[Wa,<-hd];rfl};rw[cT Pq,ar Pq,bC cA,e24,e27,bC (dJ (by simp) (by simp)),Uk,Uj];rfl};rw[cF Pq,ak Pq];exact leaf k3 k4 Pq _ _ _
def afR(v:Val)(hp:(oG (bF.bJ (bF.of [] v)<=1000000000000))=NS):arU v=BQ [.ag (cQ.cells (Rl.mF Rl.date v)),.ag [.i .i64 (Cn.fC v).2,.i .i64 0,.sl .is (Cn.fC v).1]]:=by have hb:=aq hp;have hk:bF.bV v.kids+1<=bF.bJ (bF.of [] v):=by{simp only[bF.of,bF.bJ];omega};apply arT;intro v1 h1 v2 h2 v3 h3 v4 h4 v5 h5;rw[gK];unfold Rl.mF;by_cases c:(Tree.fD (bF.of [] v) []).2=0;{rw[h2,aa c,aG,ai];by_cases k:v.kind=3;{have e:Cn.fC v=([],0):=by{unfold Cn.fC;rw[ak (by simp[c]),ar k]};have AE:(Tree.jv v.kids 0 []).2=0:=(ko c).2;rw[aa k,aG,ai,bC (by rw[af];exact⟨dT,aa AE⟩),e,ar rfl,h3,h4,h5];rfl};{have e:Cn.fC v=([],5):=by{unfold Cn.fC;rw[ak (by simp[c]),ak k]};rw[ab k,aJ,au,e,ak (by decide)];rfl}};{have e:Cn.fC v=Tree.fD (bF.of [] v) []:=by{unfold Cn.fC;rw[ar c]};rw[h2,ab c,aJ,au,e,ak c,h1];rfl}
def uo(b:UInt64):(Rl.number b).1.length<=281474976710656:=by rw[Rl.nT];unfold Rl.oc;have:=Sh.qH b;split;{simp};split;{simp};{exact Nat.le_trans this (by decide)}
theorem B0(l r:List bF):Rl.oj (l++r)=Rl.oj l++Rl.oj r:=by
 induction l with
 |nil=>simp[Rl.oj]
 |cons f l ih=>simp[Rl.oj,ih]
def ac6(n:Nat)(o:Option Int)(x2:Int)(x3 x4 x5:UInt64)(x6 x7:bD)(x8:Int)(x9:List UInt8)(qE:Int)(nE rY rR:UInt64)(qD uO:bD)(xQ:Int)(yu:List UInt8)(AI Dd:List bF)(w:Int)(hw:w=o.getD w):aa7 n w o.isSome x2 x3 x4 x5 x6 x7 x8 x9 qE nE rY rR qD uO xQ yu AI Dd=BQ [.ag [.i .i64 (match o with|none=>(x2,x3)|some m=>if IntKind.wrap .i64 (IntKind.wrap .i32 m)=m then(16,UInt64.ofInt (UInt32.ofInt m).toNat)else(18,UInt64.ofInt m)).1,.u64 (match o with|none=>(x2,x3)|some m=>if IntKind.wrap .i64 (IntKind.wrap .i32 m)=m then(16,UInt64.ofInt (UInt32.ofInt m).toNat)else(18,UInt64.ofInt m)).2,.u64 x4,.u64 x5,.s x6,.s x7,.i .i64 x8,.sl .bs x9,.sl .fl AI]]:=by
 apply azP;intro v1 h1 v2 h2;cases o with
 |none=>rw[Option.isSome_none,aJ,au,aeQ]
 |some m=>obtain rfl:w=m:=hw;rw[Option.isSome_some,aG,ai,h1];by_cases c:w=IntKind.i64.wrap (IntKind.i32.wrap w);{rw[cT c,aeQ];simp only[ar c.symm,h2]};{rw[cF c,aeQ];simp only[ak (Ne.symm c)]}
theorem alZ(n:Nat)(v:Val)(hb:bF.bV v.kids<=1000000000000)(hn:bF.bV v.kids<n)(nE:Int)(rY rR qD:UInt64)(uO xQ:bD)(yu:Int)(AI:List UInt8)(N6:List bF):∀(m i:Nat)(acc:List bF),i+m=v.kids.length->acc=Rl.oj (v.kids.take i)->
  ac7 n v.kids (v.kids.length:Int) (i:Int) v.kind v.bits v.high v.low v.text v.more v.sub v.bytes nE rY rR qD uO xQ yu AI acc N6=BQ [.ag (Val.cells (Rl.kD v))]
 |0,i,acc,hi,ha=>by
  apply al0;intro v1 h1 v2 h2 v3 h3 v4 h4 v5 h5 v6 h6 v7 h7 v8 h8 v9 h9 v10 jo v11 lg v12 lZ jw qB iI rk iO qo;rw[cF];have ha:acc=Rl.oj v.kids:=by{rw[ha,List.take_of_length_le (by omega)]};have fin:∀o:Option Int,Rl.pB v.kind v.bits=o->BQ [TV.ag [.i .i64 (match o with|none=>(v.kind,v.bits)|some m=>if IntKind.wrap .i64 (IntKind.wrap .i32 m)=m then(16,UInt64.ofInt (UInt32.ofInt m).toNat)else(18,UInt64.ofInt m)).1,
    .u64 (match o with|none=>(v.kind,v.bits)|some m=>if IntKind.wrap .i64 (IntKind.wrap .i32 m)=m then(16,UInt64.ofInt (UInt32.ofInt m).toNat)else(18,UInt64.ofInt m)).2,.u64 v.high,.u64 v.low,.s v.text,.s v.more,.i .i64 v.sub,.sl .bs v.bytes,.sl .fl acc]]=BQ [.ag (Val.cells (Rl.kD v))]:=λo ho=>by
   subst ho
   rw[ha]
   show _=BQ [TV.ag [.i .i64 (Rl.rT v.kind v.bits).1,.u64 (Rl.rT v.kind v.bits).2,.u64 v.high,.u64 v.low,.s v.text,.s v.more,.i .i64 v.sub,.sl .bs v.bytes,.sl .fl (Rl.oj v.kids)]]
   rw[Rl.yB];rfl
  by_cases c1:v.kind=1
  ·rw[cT c1];cases c:(Rl.number v.bits).2 with
   |true=>rw[au,bC (aa (uo _)),qo,rk,ac6 n (Rl.kL (Rl.number v.bits).1) _ _ _ _ _ _ _ _ _ _ _ _ _ _ _ _ _ _ _ (by cases Rl.kL (Rl.number v.bits).1<;>rfl)];exact fin _ (by unfold Rl.pB;rw[ak (by rw[c1];decide),ar ⟨c1,c⟩])
   |false=>rw[ai,show oG (v.kind=18)=(Ku:Option Int).isSome by rw[c1];rfl,ac6 n Ku _ _ _ _ _ _ _ _ _ _ _ _ _ _ _ _ _ _ _ rfl];exact fin _ (by unfold Rl.pB;rw[ak (by rw[c1];decide),ak (by rw[c];simp)])
  {rw[cF c1];by_cases c2:v.kind=18;{rw[show oG (v.kind=18)=(BQ jw).isSome by rw[c2];rfl,ac6 n (BQ jw) _ _ _ _ _ _ _ _ _ _ _ _ _ _ _ _ _ _ _ rfl];exact fin (BQ jw) (by unfold Rl.pB;rw[ar c2,qB];rfl)};{rw[show oG (v.kind=18)=(Ku:Option Int).isSome by rw[ab c2];rfl,ac6 n Ku _ _ _ _ _ _ _ _ _ _ _ _ _ _ _ _ _ _ _ rfl];exact fin _ (by unfold Rl.pB;rw[ak c2,ak (by rintro⟨h,_⟩;exact c1 h)])}}
 |m+1,i,acc,hi,ha=>by
  have hlen:=mG v.kids;apply al0;intro v1 h1 v2 h2 v3 h3 v4 h4 v5 h5 v6 h6 v7 h7 v8 h8 v9 h9 v10 jo v11 lg v12 lZ jw qB iI rk iO qo;rw[ah]at h1;have hf:=wO (l:=v.kids) (i:=i) (by omega) (fE.fu .fl);rw[<-h1]at hf;have hv:=tt v1;have Mr:acc.length=i:=by
   rw[ha];have:∀l:List bF,(Rl.oj l).length=l.length:=λl=>by
    induction l with
    |nil=>simp[Rl.oj]
    |cons f r ih=>simp[Rl.oj,ih]
   rw[this,aF];omega
  have PR:v12=((i+1:Nat):Int):=by{rw[lZ,iw];omega};have PS:v11=[Rl.Hp v1]:=by{rw[lg,h2,h3,h4,h5,h6,h7,h8,h9,jo];cases v1;simp only[Rl.kD,Rl.Hp,bF.val,bF.name,bF.kind,bF.bits,bF.high,bF.low,bF.text,bF.more,bF.sub,bF.bytes,bF.kids]};have c1:((oG (bF.bJ (bF.of [] (bF.val v1))<=1000000000000))&&oG ((bF.bJ (bF.of [] (bF.val v1)))<n))=NS:=by{rw[af];exact⟨dT,dT⟩};rw[cT,jQ,bC c1,bC (dJ (by rw[PS];simp;omega) (by rw[PS];simp;omega)),PR];refine alZ n v hb hn nE rY rR qD uO xQ yu AI N6 m (i+1) _ (by omega) ?_;rw[PS,ha,List.take_add_one,B0,h1,aj,aw (by omega)];simp[Rl.oj]
def ai4(n:Nat)(v:Val)(hp:((oG (bF.bJ (bF.of [] v)<=1000000000000))&&oG ((bF.bJ (bF.of [] v))<n+1))=NS):azR n v=BQ [.ag (Val.cells (Rl.kD v))]:=by rw[af]at hp;have h1:=aq hp.1;have h2:=aq hp.2;have hb:bF.bV v.kids+1+v.bytes.length<=bF.bJ (bF.of [] v):=by{simp only[bF.of,bF.bJ];omega};apply azQ;intro v1 e1;rw[Of,e1];exact alZ n v (by omega) (by omega) _ _ _ _ _ _ _ _ _ v.kids.length 0 [] (by omega) (by simp[Rl.oj])
namespace Rl
def De(r y d m:Int)(hr:0<=r/\r<86400000)(hy:0<=y/\y<=100000)(hd:0<=d/\d<=400)(hm:0<=m/\m<=100):(written r y (d,m)).length<=300:=by have p:∀n l:Int,0<=n/\n<=1000000/\l<=10->(Rl.pad n l).length<=31:=λn l h=>Rl.Cc n l dT h.2.2;have p1:=p y 4 (by omega);have p2:=p m 2 (by omega);have p3:=p (d+1) 2 (by omega);have p4:=p (r/1000/3600) 2 (by omega);have p5:=p (r/1000/60%60) 2 (by omega);have p6:=p (r/1000%60) 2 (by omega);have p7:=p (r%1000) 3 (by omega);unfold written;cases oG (r%1000=0)<;>simp only[au,ai,ae,ao]<;>omega
def M0(t:Int):(date t).1.length<=300:=by rw[ym];unfold zY;by_cases c:t<0\/253402300799999<t;{rw[ar c];simp};{rw[ak c];obtain⟨a1,a2,a3,a4⟩:=yt (t/86400000) (by omega) 100000 (1970+t/86400000/366) (sX _ (by omega)) (by omega) (by omega);have hs:=uJ (kC (t/86400000) 100000 (1970+t/86400000/366));obtain⟨b1,b2,b3,b4⟩:=Ik (kC (t/86400000) 100000 (1970+t/86400000/366)) 20 (t/86400000 -ahead (kC (t/86400000) 100000 (1970+t/86400000/366))) 1 (by omega) (by omega);show(written (t%86400000) (kC (t/86400000) 100000 (1970+t/86400000/366)) (q8 (kC (t/86400000) 100000 (1970+t/86400000/366)) 20 (t/86400000 -ahead (kC (t/86400000) 100000 (1970+t/86400000/366))) 1)).length<=300;generalize q8 (kC (t/86400000) 100000 (1970+t/86400000/366)) 20 (t/86400000 -ahead (kC (t/86400000) 100000 (1970+t/86400000/366))) 1=q at b1 b2 b3 b4⊢;obtain⟨q1,q2⟩:=q;simp only at b1 b2 b3 b4;exact De (t%86400000) _ _ _ (by omega) (by omega) ⟨b1,by omega⟩ ⟨by omega,by omega⟩}
def uo(b:UInt64):(number b).1.length<=10000:=by rw[nT];unfold oc;have:=Sh.qH b;split;{simp};split;{simp};{exact Nat.le_trans this (by decide)}
end Rl
mutual
theorem JU:∀f:bF,cQ.bJ (Rl.oD Rl.date f)+10*f.name.length<=40000*bF.bJ f
 |.mk n k b h l t m s y ks=>by
  have hk:=uv ks
  have hn:=sF (Rl.jI Rl.date ks)
  have hl:=zA ⟨k,b,h,l,t,m,s,y,ks⟩
  have i64:=pT (Cn.i64 b) (nv _)
  have i32:=pT (Cn.i32 b) (nv _)
  have hd:=Rl.M0 (Cn.i64 b)
  have Xs:=Rl.uo b
  have num:∀s:bD,cQ.bJ ⟨4,s,[]⟩=1+s.length:=fun s=>by simp only[cQ.bJ,Mem.of,Mem.bJ,Mem.bV,aE];omega
  have row:∀(x:Int)(ms:List Mem),cQ.bJ ⟨x,[],ms⟩=1+Mem.bV ms:=fun x ms=>by simp only[cQ.bJ,Mem.of,Mem.bJ,aE]
  simp only[Rl.oD,bF.bJ,bF.name]
  split
  ·rw[num];omega
  split
  ·rw[num];omega
  split
  ·rw[num];omega
  split
  ·rw[gR,jA];simp only[av,aE];omega
  split
  ·cases Cn.ln ks<;>simp only[au,ai,gR,row,av,aE]<;>omega
  split
  ·cases Tree.regular ks<;>simp only[au,ai,gR,row,av,aE]<;>omega
  split
  ·simp only[nc,row,jA,av,aE];omega
  ·simp only at hl;omega
theorem uv:∀l:List bF,Mem.bV (Rl.jI Rl.date l)<=40000*bF.bV l
 |[]=>by simp[Rl.jI,Mem.bV]
 |f::r=>by
  have h1:=JU f
  have h2:=uv r
  have e:Mem.bJ (Mem.of f.name (Rl.oD Rl.date f))=f.name.length+cQ.bJ (Rl.oD Rl.date f):=by
   simp only[cQ.bJ,Mem.of,Mem.bJ,aE];omega
  simp only[Rl.jI,Mem.bV,bF.bV,e];omega
end
def uz(v:Val):cQ.bJ (Rl.mF Rl.date v)<=1+40000*bF.bJ (bF.of [] v):=by have h:=uv v.kids;have hk:bF.bV v.kids+1<=bF.bJ (bF.of [] v):=by{simp only[bF.of,bF.bJ];omega};have row:∀(x:Int)(ms:List Mem),cQ.bJ ⟨x,[],ms⟩=1+Mem.bV ms:=λx ms=>by{simp only[cQ.bJ,Mem.of,Mem.bJ,aE]};unfold Rl.mF Rl.uD;split;{rw[row];omega};{rw[row];simp only[Mem.bV];omega}
def afT(v:Val)(hp:(oG (bF.bJ (bF.of [] v)<=100000))=NS):arW v=BQ [.s (Rl.xn Rl.date v),.ag [.i .i64 (Rl.mD Rl.date v).2,.i .i64 0,.sl .is (Rl.mD Rl.date v).1]]:=by have hb:=aq hp;have hj:=uz v;apply arV;intro v1 h1 v2 h2;rw[gK];unfold Rl.xn Rl.mD;by_cases c:(Cn.fC v).2=0;{rw[aa c,aG,ai,ak (by simp[c]),ak (by simp[c]),gK,h1,h2]};{rw[ab c,aJ,au,ar c,ar c]}
namespace Wq
def vj(e:Bool)(l:List bF):List Mem:=cond e (Rl.jI Rl.date l) (Cn.jJ l)
theorem CO(e:Bool)(l:List bF):doc e l=⟨7,[],vj e l⟩:=by cases e<;>rfl
theorem D7(e:Bool):vj e []=[]:=by cases e<;>simp[vj,Rl.jI,Cn.jJ]
theorem A9(e:Bool)(f:bF)(r:List bF):vj e (f::r)=Mem.of f.name (val e f.val)::vj e r:=by cases e;{show Cn.jJ (f::r)=Mem.of f.name (Cn.oP (bF.of [] f.val))::Cn.jJ r;rw[Cn.jJ,EK f];rfl};{show Rl.jI Rl.date (f::r)=Mem.of f.name (Rl.oD Rl.date (bF.of [] f.val))::Rl.jI Rl.date r;rw[Rl.jI,EJ]}
def Jz(e:Bool)(v:Val):cQ.bJ (json e v)<=1+40000*bF.bJ (bF.of [] v):=by cases e;{exact GI v};{exact uz v}
end Wq
def Lx{l:List Mem}{m:Mem}{k:Nat}(h:l.length<=1000000000)(hk:k<=64):dP (l.length+[m].length) k=NS:=by have:(l.length+1)*k<=1000000001*64:=Nat.mul_le_mul (by omega) hk;exact dJ (Nat.le_trans this (by decide)) (by rw[ao];omega)
theorem ak7(n:Nat)(l:List bF)(e:Bool)(hb:bF.bV l<=1000000000)(hn:2*bF.bV l<n)(hc:(Tree.jv l 0 []).2=0)(x3:Int)(x4:bD)(x7:List Mem):∀(m i:Nat)(acc:List Mem),i+m=l.length->acc.length=i->
  acF n l e (i:Int) x3 x4 7 [] x7 acc=BQ [.ag [.i .i64 7,.s [],.sl .ml (acc++Wq.vj e (l.drop i))]]
 |0,i,acc,hi,ha=>by apply ak8;intro v1 h1 v2 h2 v3 h3 v4 h4 v5 h5 v6 h6;rw[cF,az (by omega),Wq.D7,aM]
 |m+1,i,acc,hi,ha=>by
  have hlen:=mG l;apply ak8;intro v1 h1 v2 h2 v3 h3 v4 h4 v5 h5 v6 h6;rw[ah]at h1;have hf:=wO (l:=l) (i:=i) (by omega) (fE.fu .fl);rw[<-h1]at hf;have hv:=tt v1;have e6:v6=((i+1:Nat):Int):=by{rw[h6,iw];omega};have cB:((oG (bF.bJ (bF.of [] (bF.val v1))<=1000000000)&&oG ((Tree.fD (bF.of [] (bF.val v1)) []).2=0))&&oG ((2*bF.bJ (bF.of [] (bF.val v1)))<n))=NS:=by{rw[af,af];exact⟨⟨dT,aa (vD hc h1 (by omega))⟩,dT⟩};have e5:v5=[Mem.of v1.name (Wq.val e v1.val)]:=by{rw[h5,h2,h3,h4];rfl};rw[cT,jQ,jQ,bC cB,e5,bC (Lx (by omega) (by decide)),e6,
   ak7 n l e hb hn hc x3 x4 x7 m (i+1) _ (by omega) (by simp;omega),TS (l:=l) (i:=i) (by omega) (fE.fu .fl),<-h1,Wq.A9,aA]
  rfl
def ain(n:Nat)(l:List bF)(e:Bool)(hp:((oG (bF.bV l<=1000000000)&&oG ((Tree.jv l 0 []).2=0))&&oG ((2*bF.bV l+1)<n+1))=NS):ax4 n l e=BQ [.ag (cQ.cells (Wq.doc e l))]:=by rw[af,af]at hp;have h1:=aq hp.1.1;have h2:=aq hp.1.2;have h3:=aq hp.2;rw[ax3];have:=ak7 n l e h1 (by omega) h2 0 [] [] l.length 0 [] (by omega) rfl;rw[aZ,bg]at this;rw[Wq.CO];exact this
theorem alq(n:Nat)(e:Bool)(v:Val)(hb:bF.bV v.kids<=1000000000)(hn:2*bF.bV v.kids<n)(hc:(Tree.jv v.kids 0 []).2=0)(x3:Int)(x4:bD)(x7:List Mem):∀(m i:Nat)(acc:List Mem),i+m=v.kids.length->acc.length=i->
  acN n e (i:Int) v x3 x4 6 [] x7 acc=BQ [.ag [.i .i64 6,.s [],.sl .ml (acc++(Wq.vj e (v.kids.drop i)).map Cn.oN)]]
 |0,i,acc,hi,ha=>by apply alr;intro v1 h1 v2 h2 v3 h3 v4 h4 v5 h5 v6 h6 v7 h7;rw[h1,cF,az (by omega),Wq.D7,bw,aM]
 |m+1,i,acc,hi,ha=>by
  have hlen:=mG v.kids;apply alr;intro v1 h1 v2 h2 v3 h3 v4 h4 v5 h5 v6 h6 v7 h7;rw[ah]at h2;have hf:=wO (l:=v.kids) (i:=i) (by omega) (fE.fu .fl);rw[<-h2]at hf;have hv:=tt v2;have e7:v7=((i+1:Nat):Int):=by{rw[h7,iw];omega};have cB:((oG (bF.bJ (bF.of [] (bF.val v2))<=1000000000)&&oG ((Tree.fD (bF.of [] (bF.val v2)) []).2=0))&&oG ((2*bF.bJ (bF.of [] (bF.val v2)))<n))=NS:=by{rw[af,af];exact⟨⟨dT,aa (vD hc h2 (by omega))⟩,dT⟩};have e6:v6=[Mem.of [] (Wq.val e v2.val)]:=by{rw[h6,h3,h4,h5];rfl};rw[h1,cT,jQ,bC cB,e6,bC (Lx (by omega) (by decide)),e7,
   alq n e v hb hn hc x3 x4 x7 m (i+1) _ (by omega) (by simp;omega),TS (l:=v.kids) (i:=i) (by omega) (fE.fu .fl),<-h2,Wq.A9,aA]
  rfl
def lN(e:Bool){v:Val}(h1:v.kind≠1)(h3:v.kind≠3)(h4:v.kind≠4)(h9:v.kind≠9)(qo:v.kind≠15)(uM:v.kind≠16)(As:v.kind≠18):Wq.val e v=Cn.mj v:=by cases e;{simp only[Wq.val,ai,bF.of,Cn.oP,ak h3,ak h4,ak qo]};{simp only[Wq.val,au,bF.of,Rl.oD,ak h3,ak h4,ak qo,ak uM,ak As];rw[ak (λw=>h1 w.1),ak (λw=>h9 w.1)]}
def qR{v:Val}{j:cQ}(h:Cn.nF v=(j,NS))(k:v.kind≠6/\v.kind≠8/\v.kind≠10/\v.kind≠255/\v.kind≠127):Cn.mj v=j:=by unfold Cn.mj;rw[ak k.1,ak k.2.1,ak k.2.2.1,ak k.2.2.2.1,ak k.2.2.2.2,h];rfl
def ad1(x:UInt64)(h:x.toNat<4294967296):Cn.num (Cn.i64 x)=⟨4,Nr.dec x.toNat,[]⟩:=by have e:Cn.i64 x=(x.toNat:Int):=iw;unfold Cn.num;rw[e,Nr.jH,nO,Int.natAbs_natCast]
def Jw{v:Val}(h:Tree.own v=0)(k:v.kind=8):v.bits=0\/v.bits=1:=by unfold Tree.own at h;rw[k,ak (by decide)]at h;by_cases c:Tree.ia v=NT;{rw[ar c]at h;exact absurd h (by decide)};{have c:Tree.ia v=NS:=by{revert c;cases Tree.ia v<;>simp};unfold Tree.ia at c;simp only[af,k,decide_true,aG,Bool.false_or,aD]at c;have hb:v.bits<2:=by{have:=c;simp_all};have hb:v.bits.toNat<2:=aI.1 hb;rcases(show v.bits.toNat=0\/v.bits.toNat=1 by omega)with w|w;{exact .inl (aW.1 w)};{exact .inr (aW.1 w)}}
def akU(e:Bool)(s:bD)(x:Int)(j:cQ)(h:Nr.i64 x=NS):acn e s x j=BQ [.ag (cQ.cells (cond e ⟨4,Nr.itoa x,[]⟩ (Cn.one s (Cn.str (Nr.itoa x)))))]:=by apply axj;intro v1 h1 v2 h2;cases e;{rw[ai,ai,bC h,h2]};{rw[au,au,bC h,h1]}
def ah8(v:Val)(e:Bool)(hp:(oG (bF.bJ (bF.of [] v)<=1000000000)&&oG ((Tree.fD (bF.of [] v) []).2=0)&&Wq.Lf v)=NS):axm v e=BQ [.ag (cQ.cells (Wq.val e v))]:=by
 rw[af,af]at hp;have hc:=aq hp.1.2;have hr:v.kind=6\/v.kind=8\/v.kind=9\/v.kind=10\/v.kind=16\/v.kind=18\/v.kind=19\/v.kind=127\/v.kind=255:=aq hp.2;apply axl;intro v1 h1 v2 h2 v3 h3 v4 h4 v5 h5 v6 h6;have i2:Nr.i64 v2=NS:=by{rw[h2];exact nv _};by_cases k6:v.kind=6;{rw[cT k6,h1,lN e (by omega) (by omega) (by omega) (by omega) (by omega) (by omega) (by omega)];unfold Cn.mj;rw[ar k6]};rw[cF k6];by_cases k8:v.kind=8;{rw[cT k8,lN e (by omega) (by omega) (by omega) (by omega) (by omega) (by omega) (by omega)];unfold Cn.mj;rw[ak k6,ar k8];have:Tree.own v=0:=(ko hc).1;rcases Jw this k8 with w|w<;>rw[w]<;>rfl};rw[cF k8];have e2:v2=Cn.i64 v.bits:=h2;by_cases k9:v.kind=9;{have hl:Cn.mj v=v6:=by{refine qR ?_ (by omega);unfold Cn.nF;rw[nO,ar k9,h6,h5,e2]};rw[cT k9,bC i2,iv,h3,e2];rw[e2]at i2;cases e;{simp only[ai,bC i2,Wq.val,bF.of,Cn.oP];rw[nO,nO,nO];rw[show Cn.mj (Val.mk v.kind v.bits v.high v.low v.text v.more v.sub v.bytes v.kids)=v6 from hl]};{simp only[au,Wq.val,bF.of,Rl.oD];rw[nO,nO,ak (λw=>absurd w.1 (by omega))];by_cases d:(Rl.date (Cn.i64 v.bits)).2=NS;{rw[d,au,ar ⟨k9,rfl⟩,h4,e2]};{have d':(Rl.date (Cn.i64 v.bits)).2=NT:=by{revert d;cases(Rl.date (Cn.i64 v.bits)).2<;>simp};rw[d',ai,ak (by simp),nO,nO,nO,bC i2];rw[show Cn.mj (Val.mk v.kind v.bits v.high v.low v.text v.more v.sub v.bytes v.kids)=v6 from hl]}}};rw[cF k9];have j1:∀b:Bool,b=(oG (v.kind=16)||oG (v.kind=18))->∀j,aco e v.kind b v j=BQ [.ag (cQ.cells (Wq.val e v))]:=by
  intro b hb j;apply axk;intro w1 g1 w2 g2 w3 g3 w4 g4 w5 g5 w6 g6 w7 g7 w8 g8 w9 g9;by_cases Cq:v.kind=16;{have:Wq.val e v=cond e ⟨4,Nr.itoa (Cn.i32 v.bits),[]⟩ (Cn.one [36,110,117,109,98,101,114,73,110,116] (Cn.str (Nr.itoa (Cn.i32 v.bits)))):=by{cases e;{simp only[Wq.val,ai,bF.of,Cn.oP];rw[nO,nO,nO];refine qR (v:=v) ?_ (by omega);unfold Cn.nF;rw[nO,ak k9,ar Cq]};{simp only[Wq.val,au,bF.of,Rl.oD];rw[ar Cq]}};rw[hb,aa Cq,Bool.true_or,au,au,this];exact akU _ _ _ _ (nv _)};by_cases L4:v.kind=18;{have:Wq.val e v=cond e ⟨4,Nr.itoa (Cn.i64 v.bits),[]⟩ (Cn.one [36,110,117,109,98,101,114,76,111,110,103] (Cn.str (Nr.itoa (Cn.i64 v.bits)))):=by{cases e;{simp only[Wq.val,ai,bF.of,Cn.oP];rw[nO,nO,nO];refine qR (v:=v) ?_ (by omega);unfold Cn.nF;rw[nO,ak k9,ak Cq,ar L4]};{simp only[Wq.val,au,bF.of,Rl.oD];rw[ak Cq,ar L4]}};rw[hb,ab Cq,aa L4,Bool.false_or,au,ai,this,g1];exact akU _ _ _ _ (nv _)};rw[hb,ab Cq,ab L4,Bool.false_or,ai,lN e (by omega) (by omega) (by omega) k9 (by omega) Cq L4];by_cases Y9:v.kind=19
  ·have hl:Cn.mj v=if Cn.nQ v.high v.low=NS then w4 else w6:=by{refine qR ?_ (by omega);unfold Cn.nF;rw[nO,ak k9,ak Cq,ak L4,nO,ar Y9,g4,g3,g6,g5];cases Cn.nQ v.high v.low<;>rfl};rw[cT Y9,hl,g2];cases Cn.nQ v.high v.low with
   |true=>rw[au,ar rfl]
   |false=>rw[ai,ak (by decide),bC (aa (by show 16+16<=_;decide))]
  rw[cF Y9];unfold Cn.mj;rw[ak k6,ak k8];have n1:Cn.num 1=⟨4,[49],[]⟩:=by{unfold Cn.num;rw[Nr.jH,ak (by decide),show Int.natAbs 1=1 from rfl,Nr.dec,ar (by decide)];rfl};by_cases Pp:v.kind=255;{rw[cT Pp,nO,ar Pp,g8,g7,n1]};rw[cF Pp];by_cases Sj:v.kind=127;{rw[cT Sj,nO,ak Pp,ar Sj,g9,g7,n1]};rw[cF Sj,pO];rfl
 by_cases Cq:v.kind=16;{rw[cT Cq];exact j1 _ (by rw[aa Cq];rfl) _};{rw[cF Cq];exact j1 _ (by rw[ab Cq,Bool.false_or]) _}
def D1{b:UInt64}(h:(Rl.number b).2=NS):(Rl.number b).1=Sh.text b:=by rw[Rl.nT]at h⊢;unfold Rl.oc at h⊢;by_cases c1:(Nr.split b).1=1;{rw[ar c1]at h⊢;rw[Sh.rz];unfold Sh.tR Sh.sign;have hs:(Nr.split b).2.1=NT:=by{revert h;cases(Nr.split b).2.1<;>simp};rw[nO,nO,ar c1,hs];rfl};{rw[ak c1]at h⊢;by_cases c2:(Nr.split b).1=2;{rw[nO]};{rw[ar c2]at h;exact absurd h (by decide)}}
def LS{v:Val}(k:v.kind=1):Cn.mj v=Wq.Uo v.bits:=by refine qR ?_ (by omega);unfold Wq.Uo Cn.nF;rw[ar k,ar rfl];cases(oG (Sh.text v.bits=[78,97,78])&&!decide (v.bits=9221120237041090560))<;>rfl
def PT(l:List bF):cond (cond (oG ((0:Int)<(l.length:Int))) (!decide ((l.getD 0 (fE.fu .fl)).name=[])) NT) (oG (List.getD (l.getD 0 (fE.fu .fl)).name 0 0=36)) NT=Cn.ln l:=by
 unfold Cn.ln;cases l with
 |nil=>rfl
 |cons f r=>
  rw[aa (by simp),au];show cond (!decide (f.name=[])) (oG (List.getD f.name 0 0=36)) NT=oG (f.name.take 1=[36]);generalize f.name=s;cases s with
  |nil=>rfl
  |cons c t=>simp
def Gt{k:Int}(h:Tree.name k≠[]):k=127\/k=255\/(1<=k/\k<=19):=by unfold Tree.name at h;by_cases c1:k=127;{exact .inl c1};rw[ak c1]at h;by_cases c2:k=255;{exact .inr (.inl c2)};rw[ak c2]at h;by_cases c3:k<0\/20<=k;{rw[ar c3]at h;exact(h rfl).elim};by_cases c4:k=0;{subst c4;exact absurd (by decide) h};{exact .inr (.inr (by omega))}
def YL(e:Bool){v:Val}(k:v.kind=3):Wq.val e v=cond (Cn.ln v.kids) (Cn.one [36,100,111,99,117,109,101,110,116] (Wq.doc e v.kids)) (Wq.doc e v.kids):=by rw[Wq.CO];cases e;{simp only[Wq.val,ai,bF.of,Cn.oP,Wq.vj];rw[ar k]};{simp only[Wq.val,au,bF.of,Rl.oD,Wq.vj];rw[nO,nO,ak (λw=>absurd w.1 (by omega)),ak (λw=>absurd w.1 (by omega)),ar k]}
def Yz(e:Bool){v:Val}(k:v.kind=4):Wq.val e v=cond (Tree.regular v.kids) ⟨6,[],(Wq.vj e v.kids).map Cn.oN⟩ (Cn.one [36,97,114,114,97,121] (Wq.doc e v.kids)):=by rw[Wq.CO];cases e;{simp only[Wq.val,ai,bF.of,Cn.oP,Wq.vj];rw[nO,ar k]};{simp only[Wq.val,au,bF.of,Rl.oD,Wq.vj];rw[nO,nO,ak (λw=>absurd w.1 (by omega)),ak (λw=>absurd w.1 (by omega)),nO,ar k]}
def Uy(e:Bool){v:Val}(k:v.kind=15):Wq.val e v=Cn.two [36,99,111,100,101] (Cn.str v.text) [36,115,99,111,112,101] (Wq.doc e v.kids):=by rw[Wq.CO];cases e;{simp only[Wq.val,ai,bF.of,Cn.oP,Wq.vj];rw[nO,nO,ar k]};{simp only[Wq.val,au,bF.of,Rl.oD,Wq.vj];rw[nO,nO,ak (λw=>absurd w.1 (by omega)),ak (λw=>absurd w.1 (by omega)),nO,nO,ar k]}
def nV{v:Val}(k:v.kind=2\/v.kind=5\/v.kind=7\/v.kind=11\/v.kind=12\/v.kind=13\/v.kind=14):Cn.mj v=Cn.oo v:=by have h:Cn.nF v=(⟨0,[],[]⟩,NT):=by{unfold Cn.nF;rw[nO,nO,nO,nO,nO,nO]};unfold Cn.mj;rw[nO,nO,nO,nO,nO,h];rfl
def Jv{v:Val}(k:v.kind=17):Cn.mj v=Cn.one [36,116,105,109,101,115,116,97,109,112] (Cn.two [116] ⟨4,Nr.dec (cK v.bits 32).toNat,[]⟩ [105] ⟨4,Nr.dec (v.bits%4294967296).toNat,[]⟩):=by have hb:=v.bits.toNat_lt;have s:(cK v.bits 32).toNat=v.bits.toNat/4294967296:=eu ..;have m:v.bits&&&4294967295=v.bits%4294967296:=by{apply aW.1;rw[UInt64.toNat_and,UInt64.toNat_mod,show(4294967295:UInt64).toNat=2^32 -1 from rfl,Nat.and_two_pow_sub_one_eq_mod];rfl};have m2:(v.bits%4294967296).toNat<4294967296:=by{rw[UInt64.toNat_mod];exact Nat.mod_lt _ (by decide)};refine qR ?_ (by omega);unfold Cn.nF;rw[nO,nO,nO,nO,ar k,m,ad1 _ m2,ad1 _ (by rw[s];omega)]
def aiE(n:Nat)(v:Val)(e:Bool)(hp:((oG (bF.bJ (bF.of [] v)<=1000000000)&&oG ((Tree.fD (bF.of [] v) []).2=0))&&oG ((2*bF.bJ (bF.of [] v))<n+1))=NS):ayE n v e=BQ [.ag (cQ.cells (Wq.val e v))]:=by
 have Ml:=(af _ _▸hp).1;rw[af,af]at hp;have hb:=aq hp.1.1;have hc:=aq hp.1.2;have hn:=aq hp.2;have hk:bF.bV v.kids+v.bytes.length+1<=bF.bJ (bF.of [] v):=by{simp only[bF.of,bF.bJ];omega};have hlen:=mG v.kids;have AE:(Tree.jv v.kids 0 []).2=0:=(ko hc).2;have ho:Tree.own v=0:=(ko hc).1;apply ayD;intro v1 h1 v2 h2 v3 h3 v4 h4 v5 h5 v6 h6 v7 h7 v8 h8 v9 h9 v10 jo v11 lg v12 lZ jw qB iI rk iO qo mo uM ug C8 o8 As sj JM v20 GR v21 PC v22 PB FU Wb v24 PA v25 Uk r8 Uj v27 Wa v28 X7 N7 V9;have cA:((oG (bF.bV v.kids<=1000000000)&&oG ((Tree.jv v.kids 0 []).2=0))&&oG ((2*bF.bV v.kids+1)<n))=NS:=by{rw[af,af];exact⟨⟨dT,aa AE⟩,dT⟩};have cL:oG (v.bytes.length<=1099511627776)=NS:=dT;by_cases k1:v.kind=1;{rw[cT k1,iv,iv,iv,h1,h2];have hl:=LS k1;cases e;{rw[ai,ai,<-hl];simp only[Wq.val,ai,bF.of,Cn.oP];rw[nO,nO,nO]};{rw[au];simp only[Wq.val,au,bF.of,Rl.oD];rw[nO,nO];by_cases d:(Rl.number v.bits).2=NS;{rw[d,au,ar ⟨k1,rfl⟩,D1 d]};{have d':(Rl.number v.bits).2=NT:=by{revert d;cases(Rl.number v.bits).2<;>simp};rw[d',ai,ak (by simp),ak (λw=>absurd w.1 (by omega)),nO,nO,nO,<-hl]}}};rw[cF k1];by_cases k2:v.kind=2;{rw[cT k2,lN e (by omega) (by omega) (by omega) (by omega) (by omega) (by omega) (by omega),nV (by omega)];unfold Cn.oo;rw[nO,nO,nO,nO,nO,nO]};rw[cF k2];by_cases k3:v.kind=3;{have ci:(!(oG ((0:Int)<v3))||((oG ((0:Int)<v3))&&(bG (0:Int) v.kids.length)))=NS:=by{by_cases c:(0:Int)<v3;{rw[dC (by omega) (by omega)];cases oG ((0:Int)<v3)<;>rfl};{rw[ab c];rfl}};have c5:(!v5||(v5&&bG (0:Int) v.kids.length))=NS:=by{by_cases c:(0:Int)<v3;{rw[dC (by omega) (by omega)];cases v5<;>rfl};{rw[h5,ab c];rfl}};have c6:(!v5||(v5&&bG (0:Int) (bF.name v4).length))=NS:=by{by_cases c:bF.name v4=[];{rw[h5,aa c];cases oG ((0:Int)<v3)<;>rfl};{have:=List.length_pos_iff.2 c;rw[dC (by omega) (by omega)];cases v5<;>rfl}};have e7:v7=Cn.ln v.kids:=by{rw[h7,h6,h5,h4,h3];exact PT v.kids};rw[cT k3,iv,bC ci,iv,iv,iv,iv,iv,bC c5,iv,iv,bC c6,iv,iv,bC cA,bC cA,e7,YL e k3,h8];cases Cn.ln v.kids<;>rfl};rw[cF k3];by_cases k4:v.kind=4
 ·rw[cT k4,gK,bC cA,h9,jo,Yz e k4];cases Tree.regular v.kids with
  |false=>rfl
  |true=>rw[aG,ai,au];have:=alq n e v (by omega) (by omega) AE 0 [] [] v.kids.length 0 [] (by omega) rfl;rw[aZ,bg]at this;exact this
 rw[cF k4];by_cases k5:v.kind=5;{rw[cT k5,gK,bC (by rw[lZ];rfl),lN e (by omega) (by omega) (by omega) (by omega) (by omega) (by omega) (by omega),nV (by omega),rk,qB,lZ,lg];unfold Cn.oo;rw[ar k5]};rw[cF k5];by_cases k7:v.kind=7;{rw[cT k7,bC cL,lN e (by omega) (by omega) (by omega) (by omega) (by omega) (by omega) (by omega),nV (by omega),uM,qo];unfold Cn.oo;rw[ak k5,ar k7]};rw[cF k7];by_cases T5:v.kind=11;{rw[cT T5,lN e (by omega) (by omega) (by omega) (by omega) (by omega) (by omega) (by omega),nV (by omega),As,C8];unfold Cn.oo;rw[ak k5,ak k7,ar T5]};rw[cF T5];by_cases Vu:v.kind=12;{rw[cT Vu,bC cL,lN e (by omega) (by omega) (by omega) (by omega) (by omega) (by omega) (by omega),nV (by omega),GR,JM,uM,qo];unfold Cn.oo;rw[ak k5,ak k7,ak T5,ar Vu]};rw[cF Vu];by_cases Xj:v.kind=13;{rw[cT Xj,lN e (by omega) (by omega) (by omega) (by omega) (by omega) (by omega) (by omega),nV (by omega),PC];unfold Cn.oo;rw[ak k5,ak k7,ak T5,ak Vu,ar Xj]};rw[cF Xj];by_cases Zb:v.kind=14;{rw[cT Zb,lN e (by omega) (by omega) (by omega) (by omega) (by omega) (by omega) (by omega),nV (by omega),PB];unfold Cn.oo;rw[ak k5,ak k7,ak T5,ak Vu,ak Xj,ar Zb]};rw[cF Zb];by_cases Pq:v.kind=15;{rw[cT Pq,bC cA,Uy e Pq,Wb]};rw[cF Pq];by_cases Za:v.kind=17;{rw[cT Za,bC (by decide),lN e (by omega) (by omega) (by omega) (by omega) (by omega) (by omega) (by omega),Jv Za,V9,X7,Wa,Uj,Uk,PA];rfl};rw[cF Za,bC];rw[af];refine⟨Ml,?_⟩;have hn:Tree.name v.kind≠[]:=λw=>by{unfold Tree.own at ho;rw[ar w]at ho;exact absurd ho (by decide)};have:=Gt hn;exact dT
def agd(v:Val)(e:Bool)(hp:(oG (bF.bJ (bF.of [] v)<=1000000000))=NS):asu v e=BQ [.ag (cQ.cells (Wq.json e v)),.ag [.i .i64 (Cn.fC v).2,.i .i64 0,.sl .is (Cn.fC v).1]]:=by have hb:=aq hp;have hk:bF.bV v.kids+1<=bF.bJ (bF.of [] v):=by{simp only[bF.of,bF.bJ];omega};apply ast;intro v1 h1 v2 h2;rw[gK];have hj:Wq.json e v=if(Cn.fC v).2=0 then Wq.doc e v.kids else⟨0,[],[]⟩:=by{cases e<;>rfl};rw[hj];by_cases c:(Tree.fD (bF.of [] v) []).2=0;{rw[h2,aa c,aG,ai];by_cases k:v.kind=3;{have e:Cn.fC v=([],0):=by{unfold Cn.fC;rw[ak (by simp[c]),ar k]};have AE:(Tree.jv v.kids 0 []).2=0:=(ko c).2;rw[aa k,aG,ai,bC (by rw[af];exact⟨dT,aa AE⟩),e,ar rfl]};{have e:Cn.fC v=([],5):=by{unfold Cn.fC;rw[ak (by simp[c]),ak k]};rw[ab k,aJ,au,e,ak (by decide)];rfl}};{have e:Cn.fC v=Tree.fD (bF.of [] v) []:=by{unfold Cn.fC;rw[ar c]};rw[h2,ab c,aJ,au,e,ak c,h1];rfl}
def Bv{v:Val}(h:(Cn.fC v).2=0):Cn.fC v=([],0):=by unfold Cn.fC at h⊢;by_cases c:(Tree.fD (bF.of [] v) []).2=0;{rw[ak (by simp[c])]at h⊢;by_cases k:v.kind=3;{rw[ar k]};{rw[ak k]at h;exact absurd h (by decide)}};{rw[ar c]at h;exact(c h).elim}
def agl(v:Val)(e:Bool)(hp:(oG (bF.bJ (bF.of [] v)<=100000))=NS):asI v e=BQ [.s (Wq.text e v),.ag [.i .i64 (Cn.fC v).2,.i .i64 0,.sl .is (Cn.fC v).1]]:=by have hb:=aq hp;have hj:=Wq.Jz e v;rw[asH,gK];unfold Wq.text;by_cases c:(Cn.fC v).2=0;{rw[aa c,aG,ai,ak (by simp[c]),gK,Bv c]};{rw[ab c,aJ,au,ar c]}
end Go.Eng
namespace Go.Eng
def RW(M:Nat)(hM:M<=18446744073709551615)(n:Nat):n<=M->∀r:bD,Lib.parseUintM M 0 (Nr.dec n++r)=Lib.parseUintM M n r:=by
 have step:∀(a d:Nat)(r:bD),d<10->a*10+d<=M->Lib.parseUintM M a (UInt8.ofNat (48+d)::r)=Lib.parseUintM M (a*10+d) r:=λa d r hd h=>by{have e:(UInt8.ofNat (48+d)).toNat=48+d:=by{rw[UInt8.toNat_ofNat'];omega};simp only[Lib.parseUintM,e];rw[pO,nO,nO,show 48+d -48=d by omega]};induction n using Nat.strongRecOn with
 |_ n ih=>intro hn r;rw[Nr.dec];by_cases h:n<10;{rw[ar h,List.singleton_append,step 0 n r h (by omega)];rw[Nat.zero_mul,Nat.zero_add]};{rw[ak h,aA,ih (n/10) (by omega) (by omega),List.singleton_append,step (n/10) (n%10) r (by omega) (by omega),show n/10*10+n%10=n by omega]}
def HE(n:Nat)(h:n<=9223372036854775808):Lib.parseUintB 64 (Nr.dec n)=.ok n:=by unfold Lib.parseUintB;rw[ak (Nr.kH n).2.2.1];have:=RW 18446744073709551615 (Nat.le_refl _) n (by omega) [];rw[aM]at this;exact this
def zb(n:Int)(h:Nr.i64 n=NS):Lib.parseIntB 64 (Nr.itoa n)=.ok n:=by
 have h:=aq h;rw[Nr.jH];by_cases c:n<0;{rw[ar c,Lib.parseIntB_minus,HE _ (by omega)];show(if(9223372036854775808:Nat)<n.natAbs then Lib.NumEnd.range else .ok (-(n.natAbs:Int)))=_;rw[nO];congr 1;omega}
 ·rw[ak c];have hd:=vB n.natAbs;have e:=HE n.natAbs (by omega);cases hl:Nr.dec n.natAbs with
  |nil=>exact absurd hl (Nr.kH _).2.2.1
  |cons a r=>rw[hl]at hd e;have h1:a≠45:=hd.1;have h2:Nr.dG a=NS:=hd.2;have h3:a.toNat≠43:=λw=>by{have:a=43:=UInt8.toNat_inj.1 w;rw[this]at h2;revert h2;decide};rw[Lib.parseIntB_plain 64 a r h3 (λw=>h1 (UInt8.toNat_inj.1 w)),e];show(if(9223372036854775808:Nat)<=n.natAbs then Lib.NumEnd.range else .ok (n.natAbs:Int))=_;rw[nO];congr 1;omega
def IF{s:bD}{v:Int}(hv:Nr.i64 v=NS)(h:Nr.itoa v=s):Rl.kL s=BQ v:=by unfold Rl.kL;have he:∃n,Nr.i64 n=NS/\Nr.itoa n=s:=⟨v,hv,h⟩;rw[dif_pos he];congr 1;exact Er (he.choose_spec.2.trans h.symm)
def xh{s:bD}(h:∀v,Nr.i64 v=NS->Nr.itoa v≠s):Rl.kL s=Ku:=by unfold Rl.kL;rw[dif_neg];rintro⟨n,h1,h2⟩;exact h n h1 h2
def A1{s:bD}{v:Int}(h:Lib.parseIntB 64 s=.ok v):Nr.i64 v=NS:=by have:=Lib.parseIntB_bounds h;have e:((2^(64 -1):Nat):Int)=9223372036854775808:=by{decide};rw[e]at this;exact dT
def IE{s:bD}{v:Int}(h:Lib.parseIntB 64 s=.ok v):Rl.kL s=if Nr.itoa v=s then BQ v else Ku:=by by_cases c:Nr.itoa v=s;{rw[ar c];exact IF (A1 h) c};{rw[ak c];exact xh λn hn e=>by have:=zb n hn;rw[e,h]at this;cases this;exact c e}
def yv{s:bD}(h:∀v,Lib.parseIntB 64 s≠.ok v):Rl.kL s=Ku:=xh λn hn e=>h n (by rw[<-e];exact zb n hn)
open Go.RowKit Go.Proofs
variable{ee:Errs}
set_option maxRecDepth 100000
set_option maxHeartbeats 1000000
theorem Om{R:Reach}{w:World}(n:Int)(hn:Nr.i64 n=NS)(hG:GlOK (cnGl ee) R w):Calls Tryz.prog 77 #[.int .i64 n] w λe w'=>e=.returned (.string ⟨⟨Nr.itoa n⟩⟩)/\Below w.heap.size w w':=by have hp:=aq (Nr.Cs hn);go_enter Tryz.func77,Tryz.ntmps77;go_wp2_with (go_at_call 111;refine(Any.strconv_FormatInt_10 Tryz.Ec n hp.1 hp.2 w (xX hG)).mono ?_;rintro e w' ⟨rfl,q,os,rfl⟩);go_ret;exact⟨by rw[yb];rfl,rP _ _ _⟩
theorem NC{w W1 W2:World}(h1:Below w.heap.size w W1)(h2:Below W1.heap.size W1 W2):Below w.heap.size w W2:=⟨h2.os.trans h1.os,h2.tape.trans h1.tape,h2.output.trans h1.output,by have:=h1.size;have:=h2.size;omega,λk hk=>(h2.block k (by have:=h1.size;omega)).trans (h1.block k hk)⟩
theorem JP{R:Reach}{w w':World}(hR:∀b o,R b o->b<w.heap.size)(h:Below w.heap.size w w')(hG:GlOK (cnGl ee) R w):GlOK (cnGl ee) R w':=hG.eC (tG (io:=λ_=>False) hR h).eC
theorem PM{R:Reach}{w:World}(hG:GlOK (cnGl ee) R w):w.cell? ⟨1,0,Ku⟩=BQ ee.1.1:=(hG 1 [ee.1.1] rfl 0).2
theorem PN{R:Reach}{w:World}(hG:GlOK (cnGl ee) R w):w.cell? ⟨2,0,Ku⟩=BQ ee.1.2:=(hG 2 [ee.1.2] rfl 0).2
theorem Kx{R:Reach}{w:World}(s:bD)(hs:s.length<=281474976710656)(hR:∀b o,R b o->b<w.heap.size)(hG:GlOK (cnGl ee) R w):Calls Tryz.prog 75 #[.string ⟨⟨s⟩⟩] w λe w'=>e=.returned (.tuple #[.int .i64 ((Rl.kL s).getD 0),.bool (Rl.kL s).isSome])/\Below w.heap.size w w':=by
 have wL:(⟨⟨s⟩⟩:ByteArray).size<=281474976710656:=by{show(⟨s⟩:Array UInt8).size<=_;rw[List.size_toArray];exact hs};rcases h:Lib.parseIntB 64 s with v|_|_
 ·have hv:=A1 h;rw[IE h];go_enter Tryz.func75,Tryz.ntmps75;go_wp2_with (go_at_call 110;refine(Any.strconv_ParseInt_10_at64_ok Tryz.zB ⟨⟨s⟩⟩ (by omega) v h w).mono ?_;rintro e W1 ⟨rfl,hW⟩);have FF:Below w.heap.size w W1:=by{rcases hW with rfl|⟨t,rfl⟩;{exact Below.refl _ _};{exact Go.Joins.below_bytesWorld _ _ _ _ (Nat.le_refl _)}};have X4:=JP hR FF hG;go_at_call 77;refine(Om v hv X4).mono ?_;rintro e W2 ⟨rfl,C7⟩;have hb:=NC FF C7;by_cases c:Nr.itoa v=s;{go_wp2;go_ret2;exact⟨rfl,hb⟩}
  ·have c':¬(Nr.itoa v=s):=c;go_wp2;all_goals
    go_ret2
    first|exact⟨rfl,hb⟩|(exfalso;apply c;assumption)|(exfalso;apply c;simp_all)
 {rw[yv (λv w=>by rw[h]at w;cases w)];go_enter Tryz.func75,Tryz.ntmps75;go_wp2_with (go_at_call 110;refine(Any.strconv_ParseInt_10_at64_syntax Tryz.zB ⟨⟨s⟩⟩ wL h ee.1.1 w (PM hG) ee.2.1).mono ?_;rintro e W1 ⟨N,rfl,hN,hN2,FF⟩);go_ret2;exact⟨rfl,FF⟩};{rw[yv (λv w=>by rw[h]at w;cases w)];go_enter Tryz.func75,Tryz.ntmps75;go_wp2_with (go_at_call 110;refine(Any.strconv_ParseInt_10_at64_range Tryz.zB ⟨⟨s⟩⟩ wL h ee.1.2 w (PN hG) ee.2.2).mono ?_;rintro e W1 ⟨N,rfl,hN,hN2,FF⟩);go_ret2;exact⟨rfl,FF⟩}
theorem aqk:KO ee 75 amR bN:=Dy (n:=2) (by kernel_rfl) (by decide) λti lx w R xs hc ha hR hG=>by unfold amR at hc;split at hc;{rename_i s;obtain⟨hp,rfl⟩:=hc;obtain rfl:=lT ha rfl;refine(Kx s (aq hp) hR hG).mono ?_;rintro e w' ⟨rfl,hb⟩;exact⟨_,rfl,rfl,hb,λR w'=>.cons Qs (.cons (.sc rfl) .nil)⟩};{exact hc.elim}
end Go.Eng
namespace Go.Eng
open Go.IntWalk
def Ps(x:UInt8):((oK x ((4:UInt64)).toNat).toNat:Int).toNat=x.toNat/16:=by have:=x.toNat_lt;simp[oK,UInt8.toNat_ofNat'];omega
def Me(x:UInt8):(((x&&&(15:UInt8))).toNat:Int).toNat=x.toNat%16:=by have:x.toNat&&&15=x.toNat%16:=Nat.and_two_pow_sub_one_eq_mod x.toNat 4;simp[UInt8.toNat_and,this];omega
def Ct(n:Nat)(h:n<16):bG (n:Int) (([48,49,50,51,52,53,54,55,56,57,97,98,99,100,101,102]:bD)).length=NS:=by simp[bG];omega
def ayp(b:bD)(hb:b.length<=1099511627776):∀(m i:Nat)(acc:bD),i+m=b.length->acc.length=2*i->acJ b (b.length:Int) i acc=BQ [.s (acc++kQ.text (b.drop i))]:=by
 intro m;induction m with
 |zero=>intro i acc hi hl;apply alh;intro v1 h1 v2 h2 v3 h3 v4 h4 v5 h5 v6 h6;rw[cF,az (by omega)];simp[kQ.text]
 |succ m ih=>intro i acc hi hl;apply alh;intro v1 h1 v2 h2 v3 h3 v4 h4 v5 h5 v6 h6;rw[ah]at h1;have hx:=v1.toNat_lt;have e1:((v2.toNat:Nat):Int)=((v1.toNat/16:Nat):Int):=by{rw[h2];have:=Ps v1;omega};have e2:(((v1&&&(15:UInt8))).toNat:Int)=((v1.toNat%16:Nat):Int):=by{have:=Me v1;omega};rw[e1,ah]at h3;rw[e2,ah]at h4;have e5:v5=acc++kQ.two v1:=by{rw[h5,h3,h4];rfl};rw[cT,jQ,e1,e2,bC (Ct _ (by omega)),bC (Ct _ (by omega)),bC (dJ (by simp;omega) (by simp;omega)),e5,show v6=((i+1:Nat):Int) by rw[h6,iw];omega,ih _ _ (by omega) (by simp[kQ.two,hl];omega),TS (l:=b) (i:=i) (by omega) 0,<-h1,kQ.text,aA]
def aiy(b:bD)(hp:oG (b.length<=1099511627776)=NS):ayr b=BQ [.s (kQ.text b)]:=by have hp:=aq hp;apply ayq;intro v1 h1 v2 h2;have e:uu (0:Int) v1 1=NS:=by{rw[h1,iw,oy];unfold maxLen;omega};rw[e,bO,h2];exact ayp b hp b.length 0 [] (by omega) rfl
def aww(b:bD)(hb:b.length<=1099511627776):∀(m i:Nat)(acc:bD),i+m=b.length->acc.length=2*i->ab5 b i acc=BQ [.s (acc++kQ.text (b.drop i))]:=by
 intro m;induction m with
 |zero=>intro i acc hi hl;apply akF;intro v1 h1 v2 h2 v3 h3 v4 h4 v5 h5;rw[cF,az (by omega)];simp[kQ.text]
 |succ m ih=>intro i acc hi hl;apply akF;intro v1 h1 v2 h2 v3 h3 v4 h4 v5 h5;rw[ah]at h1;have hx:=v1.toNat_lt;have e1:(((v1/(16:UInt8))).toNat:Int)=((v1.toNat/16:Nat):Int):=by{simp[UInt8.toNat_div]};have e2:(((v1%(16:UInt8))).toNat:Int)=((v1.toNat%16:Nat):Int):=by{simp[UInt8.toNat_mod]};have e3:(!decide ((16:UInt8)=0))=NS:=by{decide};rw[e1,ah]at h2;rw[e2,ah]at h3;have e5:v4=acc++kQ.two v1:=by{rw[h4,h2,h3];rfl};rw[cT,jQ,e3,bO,bO,e1,e2,bC (Ct _ (by omega)),bC (Ct _ (by omega)),bC (dJ (by simp;omega) (by simp;omega)),jQ,e5,show v5=((i+1:Nat):Int) by rw[h5,iw];omega,ih _ _ (by omega) (by simp[kQ.two,hl];omega),TS (l:=b) (i:=i) (by omega) 0,<-h1,kQ.text,aA]
def ahQ(b:bD)(hp:oG (b.length<=1099511627776)=NS):awx b=BQ [.s (kQ.text b)]:=by have hp:=aq hp;rw[awv];exact aww b hp b.length 0 [] (by omega) rfl
namespace Jp
def Ng{m:Mem}{r:List Mem}(h:Cn.kg (m::r)=0):dE.whole m.name=NS/\Cn.rN m=0/\Cn.kg r=0:=by
 rw[Cn.kg]at h;cases e:dE.whole m.name with
 |false=>rw[ar e]at h;simp at h
 |true=>rw[ak (by simp[e])]at h;by_cases c:Cn.rN m≠0;{rw[ar c]at h;exact(c h).elim};{rw[ak c]at h;exact⟨rfl,Decidable.not_not.1 c,h⟩}
theorem Jo(m:Mem):Mem.of m.name m.val=m:=by cases m;rfl
end Jp
theorem ama(n:Nat)(j:cQ)(hb:cQ.bJ j<=1099511627776)(hn:cQ.bJ j<n+1):∀(m i:Nat),i+m=j.kids.length->adg n (i:Int) j=BQ [.i .i64 (Cn.kg (j.kids.drop i))]
 |0,i,hi=>by apply al9;intro v1 h1 v2 h2 v3 h3 v4 h4;rw[cF,az (by omega)];simp[Cn.kg]
 |m+1,i,hi=>by
  have hk:=nq j;have hlen:=oz j.kids;apply al9;intro v1 h1 v2 h2 v3 h3 v4 h4;rw[ah]at h2;have hf:=zk (l:=j.kids) (i:=i) (by omega) (fE.fu .ml);rw[<-h2]at hf;have hv:=ya v2;have Xs:=vk v2;have e4:v4=((i+1:Nat):Int):=by{rw[h4,iw];omega};have cc:((oG (cQ.bJ (Mem.val v2)<=1099511627776))&&oG ((cQ.bJ (Mem.val v2))<n))=NS:=by{rw[af];exact⟨dT,dT⟩};have uK:bG (i:Int) j.kids.length=NS:=dC (by omega) (by omega);rw[cT,uK,bO,gK,bO,cc,bO,e4,ama n j hb hn m (i+1) (by omega),TS (l:=j.kids) (i:=i) (by omega) (fE.fu .ml),<-h2,h3];simp only[Cn.kg];rw[E9];cases hw:dE.whole v2.name with
  |false=>rw[ar rfl];rfl
  |true=>rw[ak (by simp),aG,ai];by_cases c:Cn.iz v2.val=0;{rw[aa c,aG,ai,ak (by simp[c])]};{rw[ab c,aJ,au,ar c]}
def aAe(n:Nat)(j:cQ)(hb:cQ.bJ j<=1099511627776)(hn:cQ.bJ j<n+1):∀(m i:Nat),i+m=j.kids.length->aba n (i:Int) j=BQ [.i .i64 (if j.kind=6/\((j.kids.drop i).any λm=>!decide (m.name=[]))=NS then 1 else if j.kind=4/\(Nr.fy j.text=0\/300<j.text.length)then 10 else if j.kind=5/\dE.whole j.text=NT then 4 else Cn.kg j.kids)]:=by
 have hk:=nq j;have hlen:=oz j.kids;have fin:∀(i:Nat),(j.kind=6->j.kids.length<=i)->aba n (i:Int) j=BQ [.i .i64 (if j.kind=4/\(Nr.fy j.text=0\/300<j.text.length)then 10
   else if j.kind=5/\dE.whole j.text=NT then 4
   else Cn.kg j.kids)]:=by
  intro i hi
  apply amb
  intro v1 h1 v2 h2 v3 h3 v4 h4 v5 h5 v6 h6 v7 h7 v8 h8 v9 h9 v10 jo
  have e2:v2=NT:=by rw[h2];by_cases k:j.kind=6;{rw[ab (by have:=hi k;omega)];rfl};{rw[ab k];cases oG ((i:Int)<v1)<;>rfl}
  have ct:oG (j.text.length<=1099511627776)=NS:=dT
  have ca:∀a:Bool,(!a||(a&&NS))=NS:=by decide
  have c8:(!(oG (j.kind=4))||((oG (j.kind=4))&&((oG (Nr.fy j.text=0))||v5)))=NS:=by rw[h5];cases oG (j.kind=4)<;>cases oG (Nr.fy j.text=0)<;>rfl
  have e8:v8=oG (j.kind=4/\(Nr.fy j.text=0\/300<j.text.length)):=by have e6:oG ((300:Int)<v6)=oG (300<j.text.length):=aT.2 (by omega);rw[h8,h7,e6,Bool.decide_and,Bool.decide_or];cases oG (j.kind=4)<;>cases oG (Nr.fy j.text=0)<;>rfl
  have CM:v10=oG (j.kind=5/\dE.whole j.text=NT):=by rw[jo,h9,Bool.decide_and];cases oG (j.kind=5)<;>cases dE.whole j.text<;>rfl
  rw[ct,e2,iv,iv,iv,ai,iv,bC (ca _),iv,iv,iv,iv,iv,bC c8,iv,e8]
  by_cases k1:j.kind=4/\(Nr.fy j.text=0\/300<j.text.length)
  {rw[cT k1,ar k1]}
  rw[cF k1,ak k1,iv,bC (ca _),iv,iv,CM]
  by_cases k2:j.kind=5/\dE.whole j.text=NT
  {rw[cT k2,ar k2]}
  rw[cF k2,ak k2]
  exact ama n j hb hn j.kids.length 0 (by omega)
 intro m;induction m with
 |zero=>intro i hi;refine(fin i (λ_=>by omega)).trans ?_;rw[ak (show¬(j.kind=6/\((j.kids.drop i).any λm=>!decide (m.name=[]))=NS) by rw[az (by omega)];simp)]
 |succ m ih=>intro i hi;by_cases k:j.kind=6;{have ih:=ih (i+1) (by omega);apply amb;intro v1 h1 v2 h2 v3 h3 v4 h4 v5 h5 v6 h6 v7 h7 v8 h8 v9 h9 v10 jo;rw[ah]at h3;have e4:v4=((i+1:Nat):Int):=by{rw[h4,iw];omega};have e2:v2=NS:=by{rw[h2,dT,aa k];rfl};rw[iv,iv,iv,e2,au,jQ,e4,ih,TS (l:=j.kids) (i:=i) (by omega) (fE.fu .ml),<-h3,List.any_cons];by_cases k2:v3.name=[];{rw[aa k2,aG,ai,Bool.false_or]};{rw[ab k2,aJ,au,Bool.true_or,ar ⟨k,rfl⟩]}};{refine(fin i (λe=>(k e).elim)).trans ?_;rw[ak (show¬(j.kind=6/\((j.kids.drop i).any λm=>!decide (m.name=[]))=NS) by rintro⟨e,_⟩;exact k e)]}
def ajf(n:Nat)(j:cQ)(hp:((oG (cQ.bJ j<=1099511627776))&&oG ((cQ.bJ j)<n+1))=NS):aAg n j=BQ [.i .i64 (Cn.iz j)]:=by rw[af]at hp;have hb:=aq hp.1;have hn:=aq hp.2;apply aAf;intro v1 h1 v2 h2 v3 h3 v4 h4 v5 h5 v6 h6 v7 h7 v8 h8;have e3:v3=oG (j.kind<1\/7<j.kind):=by{rw[h3,Bool.decide_or];cases oG (j.kind<1)<;>rfl};have e5:v5=oG (j.kids≠[]/\j.kind≠6/\j.kind≠7):=by{have:oG ((0:Int)<v4)=oG (j.kids≠[]):=aT.2 (by rw[h4];exact⟨λh e=>by rw[e]at h;exact absurd h (by simp),λh=>by have:=List.length_pos_iff.2 h;omega⟩);rw[h5,h2,this,Bool.decide_and,Bool.decide_and];simp only[ne_eq,decide_not];cases oG (j.kids=[])<;>cases oG (j.kind=6)<;>cases oG (j.kind=7)<;>rfl};have e7:v7=oG (j.text≠[]/\j.kind≠4/\j.kind≠5):=by{rw[h7,h1,Bool.decide_and,Bool.decide_and];simp only[ne_eq,decide_not];cases oG (j.text=[])<;>cases oG (j.kind=4)<;>cases oG (j.kind=5)<;>rfl};have key:=aAe n j hb hn j.kids.length 0 (by omega);have d1':(!(!v3)||(!v3&&(!(!v2)||(!v3&&!v2))))=NS:=by{cases v3<;>cases v2<;>rfl};have d2:∀a:Bool,(!(!a)||!a)=NS:=by{decide};have d3:(!(!(cond v3 NS v5))||(!(cond v3 NS v5)&&(!(!v1)||v6)))=NS:=by{rw[h6];cases(cond v3 NS v5)<;>cases v1<;>rfl};simp only[aS,bh,aX,bO,d1',d3,Wn,cc2,d2];have e8:v8=(oG (j.kind<1\/7<j.kind)||(oG (j.kids≠[]/\j.kind≠6/\j.kind≠7)||oG (j.text≠[]/\j.kind≠4/\j.kind≠5))):=by{rw[h8,e3,e5,e7];cases oG (j.kind<1\/7<j.kind)<;>cases oG (j.kids≠[]/\j.kind≠6/\j.kind≠7)<;>rfl};simp only[Cn.iz,Mem.of,Cn.rN];rw[e8];by_cases k1:j.kind<1\/7<j.kind;{rw[aa k1,Bool.true_or,au,ar k1]};rw[ab k1,Bool.false_or,ak k1];by_cases k2:j.kids≠[]/\j.kind≠6/\j.kind≠7;{rw[aa k2,Bool.true_or,au,ar k2]};rw[ab k2,Bool.false_or,ak k2];by_cases k3:j.text≠[]/\j.kind≠4/\j.kind≠5;{rw[cT k3,ar k3]};rw[cF k3,ak k3];exact key
end Go.Eng
namespace Go.Eng
open Go.Proofs
variable{ee:Errs}
theorem ajX:KO ee 268 anN bB:=TR bH all_nil (.o) (TY λins=>by unfold anN;split;exact agS _;trivial)
end Go.Eng
namespace Go.Eng
open Go.RowKit Go.Proofs
variable{ee:Errs}
set_option maxRecDepth 100000
set_option maxHeartbeats 1000000
theorem Fl.Lg(a:Nat):Ieee.double.read (Fl.neg a)=(Ieee.double.read a).opposite:=by have e1:Fl.neg a%2^63=a%2^63:=by{unfold Fl.neg;rw[show 9223372036854775808=2^63 by decide,Nat.xor_mod_two_pow,Nat.mod_self,Nat.xor_zero]};have e2:(Fl.neg a/2^63%2==1)=!(a/2^63%2==1):=by{unfold Fl.neg;rw[show 9223372036854775808=2^63 by decide,Nat.xor_div_two_pow,Nat.div_self (by decide)];have:=Nat.xor_mod_two_pow (a:=a/2^63) (b:=1) (n:=1);rw[Nat.pow_one]at this;rw[this];rcases Nat.mod_two_eq_zero_or_one (a/2^63)with e|e<;>rw[e]<;>rfl};have h:Ieee.double.signWeight=2^63:=rfl;unfold Ieee.Format.read;rw[h];simp only[e1,e2];split;{rfl};{split;{rfl};{split<;>rfl}}
theorem Fl.W.neg{a:Nat}{x:Int}(h:Fl.W a x):Fl.W (Fl.neg a) (-x):=by show Fl.WD (Ieee.double.read (Fl.neg a)) (-x);rw[Fl.Lg];exact Fl.WD.opposite h
theorem Ky{R:Reach}{w:World}{x:Nat}(hx:Fl.num x=NS)(hR:∀b o,R b o->b<w.heap.size)(hG:GlOK (cnGl ee) R w):Calls Tryz.prog 268 #[.float .f64 x] w λe w'=>e=.returned (.float .f64 (Fl.om x))/\Below w.heap.size w w':=by
 refine((ajX [.c (.float .f64 x)] [.c (.float .f64 (Fl.om x))] ⟨hx,rfl⟩).2 w R [.float .f64 x] hR hG ⟨rfl,λi y v hy hv=>?_⟩ λi j v v' b hi=>(hi (by simp[bB])).elim).mono ?_
 ·cases i with
  |zero=>cases hy;cases hv;exact .sc rfl
  |succ i=>simp at hy
 ·rintro e w' ⟨y,R',qb,ys,rfl,hx,hr,ho⟩;refine⟨?_,hx.os,hx.tape,hx.output,hx.size,λk hk=>hx.heap k hk (by rintro⟨i,v,hm,_⟩;exact hm (by simp[bB]))⟩;congr 1;have hl:qb.length=1:=ho.len;have mM:=ho.rep;rw[ho.val];match qb,hl with
  |[y],_=>
   have mM:jy R' w' [.c (.float .f64 (Fl.om x))] [y]:=mM;cases mM with
   |cons a _=>exact a.dW rfl
theorem wh1{R:Reach}(b:Nat)(x m:Nat)(X M:Int)(w:World)(hc:w.cell? ⟨b,0,Ku⟩=BQ (.float .f64 m))(hX:Fl.W x X)(hM:Fl.W m M)(hXM:(X.natAbs:Int)<=M)(hB:M<=9007199254740992)(hR:∀b o,R b o->b<w.heap.size)(hG:GlOK (cnGl ee) R w):Calls Tryz.prog 270 #[.float .f64 x,.pointer (BQ ⟨b,0,Ku⟩)] w λe w'=>e=.returned (.bool NS)/\Below w.heap.size w w':=by
 have hn:∀w:World,(Op.unary .neg (.float .f64 m)).run Tryz.prog w=.ok (.float .f64 (Fl.neg m)) w:=λw=>rfl;have h1:FloatKind.f64.format.order x (Fl.neg m)=BQ .gt\/FloatKind.f64.format.order x (Fl.neg m)=BQ .eq:=by{have e:FloatKind.f64.format.order x (Fl.neg m)=BQ (compare X (-M)):=Fl.mT hX hM.neg;rw[e];rcases Int.lt_or_eq_of_le (show -M<=X by omega)with c|c;{rw[Int.compare_eq_gt.2 c];exact .inl rfl};{rw[<-c,Int.compare_eq_eq.2 rfl];exact .inr rfl}};have h2:FloatKind.f64.format.order x m=BQ .lt\/FloatKind.f64.format.order x m=BQ .eq:=by{have e:FloatKind.f64.format.order x m=BQ (compare X M):=Fl.mT hX hM;rw[e];rcases Int.lt_or_eq_of_le (show X<=M by omega)with c|c;{rw[Int.compare_eq_lt.2 c];exact .inl rfl};{rw[<-c,Int.compare_eq_eq.2 rfl];exact .inr rfl}};have h3:FloatKind.f64.format.order x (Fl.om x)=BQ .eq:=by{have e:FloatKind.f64.format.order x (Fl.om x)=BQ (compare X X):=Fl.mT hX (hX.om (by omega));rw[e,Int.compare_eq_eq.2 rfl]};go_enter Tryz.func270,Tryz.ntmps270;rcases h1 with h1|h1<;>rcases h2 with h2|h2;all_goals
  go_wp2_with (go_at_call 268;refine(Ky hX.num hR hG).mono ?_;rintro e w' ⟨rfl,hb⟩)
  go_ret
  exact⟨rfl,hb⟩
theorem ED{R:Reach}{w w':World}(hR:∀b o,R b o->b<w.heap.size)(h:Below w.heap.size w w')(hG:GlOK (cnGl ee) R w):GlOK (cnGl ee) R w':=hG.eC (tG (io:=λ_=>False) hR h).eC
theorem wh2{R:Reach}(z:Cx)(m:Nat)(X Y M:Int)(w:World)(hZ:Gz.Is z X Y)(hM:Fl.W m M)(hX:(X.natAbs:Int)<=M)(hY:(Y.natAbs:Int)<=M)(hB:M<=9007199254740992)(hR:∀b o,R b o->b<w.heap.size)(hG:GlOK (cnGl ee) R w):Calls Tryz.prog 264 #[.complex .f64 z.1 z.2,.float .f64 m] w λe w'=>e=.returned (.bool NS)/\Below w.heap.size w w':=by have hmf:∀(fn:Fn)(first cap:Array Value)(w:World),(Instr.makeFunc fn first cap).run Tryz.prog w=.ok (.func fn first cap) w:=λ_ _ _ _=>rfl;have FF:Below w.heap.size w (w.alloc (.cells #[.float .f64 m] 283)):=(Below.refl _ _).alloc (Nat.le_refl _) _;have Od:(w.alloc (.cells #[.float .f64 m] 283)).cell? ⟨w.heap.size,0,Ku⟩=BQ (.float .f64 m):=by{rw[World.cell?_alloc_at _ _ _ _ rfl];rfl};have Mh:(w.alloc (.cells #[.float .f64 m] 283)).heap.size=w.heap.size+1:=Array.size_push ..;have hre:∀(a:Array TypeId)(b:TypeId)(p q:Nat)(w:World),(Builtin.real_ a b #[.complex .f64 p q]).run Tryz.prog w=.ok (.float .f64 p) w:=λ_ _ _ _ _=>rfl;have him:∀(a:Array TypeId)(b:TypeId)(p q:Nat)(w:World),(Builtin.imag_ a b #[.complex .f64 p q]).run Tryz.prog w=.ok (.float .f64 q) w:=λ_ _ _ _ _=>rfl;have hR1:∀b o,R b o->b<(w.alloc (.cells #[.float .f64 m] 283)).heap.size:=λb o h=>by{have:=hR b o h;omega};go_enter Tryz.func264,Tryz.ntmps264;have X4:=ED hR FF hG;go_wp2_with (go_at_call 270;refine(wh1 (R:=R) w.heap.size z.1 m X M (w.alloc (.cells #[.float .f64 m] 283)) Od hZ.1 hM hX hB hR1 X4).mono ?ZQ;rintro e w2 ⟨rfl,C7⟩);have GO:w2.cell? ⟨w.heap.size,0,Ku⟩=BQ (.float .f64 m):=by{simp only[World.cell?,C7.block w.heap.size (by omega)];exact Od};have hR2:∀b o,R b o->b<w2.heap.size:=λb o h=>Nat.lt_of_lt_of_le (hR1 b o h) C7.size;refine(wh1 (R:=R) w.heap.size z.2 m Y M w2 GO hZ.2 hM hY hB hR2 (ED hR1 C7 X4)).mono ?_;rintro e w3 ⟨rfl,Uf⟩;go_wp2;go_ret;refine⟨rfl,?_⟩;exact⟨Uf.os.trans (C7.os.trans FF.os),Uf.tape.trans (C7.tape.trans FF.tape),Uf.output.trans (C7.output.trans FF.output),by have:=Uf.size;have:=C7.size;omega,λk hk=>(Uf.block k (by have:=C7.size;omega)).trans ((C7.block k (by omega)).trans (FF.block k hk))⟩
theorem ad2:KO ee 264 ad3 bB:=ki (by kernel_rfl) λti lx w R xs hc ha hR hG=>by unfold ad3 at hc;split at hc;{rename_i p q m;obtain⟨hp,rfl⟩:=hc;obtain rfl:=lT ha rfl;unfold Gz.Sp at hp;classical obtain⟨X,Y,M,h1,h2,h3,h4,h5⟩:=aq hp;refine(wh2 (p,q) m X Y M w h1 h2 h3 h4 h5 hR hG).mono ?_;rintro e w' ⟨rfl,hb⟩;exact⟨_,rfl,hb,λR w'=>sv (.sc rfl)⟩};{exact hc.elim}
end Go.Eng
namespace Go.Eng
open Go.IntWalk
def ahx(s:bD)(c:UInt8):avU s c=BQ [.i .i64 (Lib.indexByte s c)]:=avT s c
def agp(s t:bD)(hp:oG (t.length=1)=NS):asU s t=BQ [.i .i64 (Lib.indexByte s (t.getD 0 0))]:=by
 have hl:t.length=1:=aq hp;refine asT s t ?_;intro v1 h1 v2 h2;have e0:oG ((t.length:Int)=0)=NT:=dF;have e1:oG ((t.length:Int)=1)=NS:=dT;rw[e0]at h1⊢;simp only[aJ,aG,Bool.false_or,aX,bO,ai]at h1⊢;by_cases hs:t=s
 ·subst hs;rw[h1,cT rfl];obtain⟨c,rfl⟩:∃c,t=[c]:=by
   match t,hl with
   |[c],_=>exact⟨c,rfl⟩
  simp[Lib.indexByte]
 {rw[h1,cF hs,e1,au,jQ,h2];rfl}
def agq(s t:bD)(hp:oG (t.length=1)=NS):asX s t=BQ [.i .i64 (Lib.indexByte s (t.getD 0 0))]:=by refine asW s t ?_;intro v1 h1;rw[bC hp,h1]
def agY(s t:bD)(hp:oG (t.length=1)=NS):aue s t=BQ [.b (oG (0<=Lib.indexByte s (t.getD 0 0)))]:=by refine aud s t ?_;intro v1 h1;rw[bC hp,h1]
def agu(k:Int):as9 k=BQ [.s (Tree.name k)]:=by refine as8 k ?_;intro v1 h1 v2 h2;unfold Tree.name;by_cases a:k=127;{rw[ar a,aa a];rfl};{rw[ak a,cF a];by_cases b:k=255;{rw[ar b,aa b];rfl};{rw[ak b,cF b];simp only[aS,bh,bO];by_cases c:k<0\/20<=k;{rw[ar c,show v1=NS by rw[h1];by_cases d:k<0<;>simp[d];omega];rfl};{rw[ak c,show v1=NT by rw[h1];by_cases d:k<0<;>simp[d]<;>omega,ai,jQ,bC (by simp;omega),h2];rfl}}}
def agA:atp=BQ [.sl .is Tree.kinds]:=by refine ato ?_;intro v1 h1;rw[h1];rfl
def A0(k:Int):List Int->List bD->bD
 |a::ks,s::ss=>if a=k then s else A0 k ks ss
 |_,_=>[]
def axt(k:Int)(ss:List bD)(ks:List Int)(hl:ss.length=ks.length)(hb:ks.length<=1000):∀(m i:Nat),i+m=ks.length->acr k ss ks i=BQ [.s (A0 k (ks.drop i) (ss.drop i))]:=by
 intro m;induction m with
 |zero=>intro i hi;apply akW;intro v1 h1 v2 h2 v3 h3;rw[cF,az (by omega)];rfl
 |succ m ih=>intro i hi;apply akW;intro v1 h1 v2 h2 v3 h3;rw[ah]at h1 h2;rw[cT,jQ,TS (l:=ks) (i:=i) (by omega) 0,TS (l:=ss) (i:=i) (by omega) [],A0,<-h1,<-h2];by_cases h:v1=k;{rw[ar h,cT h,jQ,gK]};{rw[ak h,cF h,show v3=((i+1:Nat):Int) by rw[h3,iw];omega,ih _ (by omega)]}
def Tree.Jk(k:Int)(h:k∉Tree.kinds):Tree.name k=[]:=by simp only[Tree.kinds,aQ,List.not_mem_nil,not_or]at h;unfold Tree.name;rw[nO,nO];by_cases c:k<0\/20<=k;{rw[ar c]};{have:k=0:=by{omega};subst this;rfl}
theorem za(k:Int):∀(ks:List Int)(ss:List bD),k∉ks->A0 k ks ss=[]
 |[],_,_=>rfl
 |_::_,[],_=>rfl
 |a::ks,s::ss,h=>by rw[A0,ak (λe=>h (by rw[e];exact List.mem_cons_self ..))];exact za k ks ss λhm=>h (List.mem_cons_of_mem _ hm)
def aib(k:Int):axv k=BQ [.s (Tree.name k)]:=by refine axu k ?_;intro v1 h1;rw[show(0:Int)=((0:Nat):Int) from rfl,axt k v1 Tree.kinds (by rw[h1];rfl) (by decide) 21 0 (by decide)];by_cases h:k∈Tree.kinds;{have key:∀k∈Tree.kinds,A0 k (Tree.kinds.drop 0) (v1.drop 0)=Tree.name k:=by{rw[h1];decide+kernel};rw[key k h]};{rw[Tree.Jk k h,za _ _ _ (by simpa using h)]}
def ajm(k:Int):aAN k=BQ [.b (Tree.kT 0 k),.b (Tree.kT 1 k),.b (Tree.kT 2 k),.b (Tree.kT 3 k),.b (Tree.kT 4 k),.b (Tree.kT 5 k),.b (Tree.kT 6 k)]:=by have key:∀k,k∈Tree.kinds\/k∉Tree.kinds:=λk=>Decidable.em _;simp only[aAM,aAK,aAL,aAI,aAH,Tree.kT];by_cases a1:k=1;{subst a1;rfl};by_cases a2:k=2;{subst a2;rfl};by_cases a3:k=3;{subst a3;rfl};by_cases a4:k=4;{subst a4;rfl};by_cases a5:k=5;{subst a5;rfl};by_cases a7:k=7;{subst a7;rfl};by_cases a8:k=8;{subst a8;rfl};by_cases a9:k=9;{subst a9;rfl};by_cases WH:k=11;{subst WH;rfl};by_cases a12:k=12;{subst a12;rfl};by_cases WG:k=13;{subst WG;rfl};by_cases WE:k=14;{subst WE;rfl};by_cases WC:k=15;{subst WC;rfl};by_cases WB:k=16;{subst WB;rfl};by_cases WA:k=17;{subst WA;rfl};by_cases Wz:k=18;{subst Wz;rfl};by_cases Wy:k=19;{subst Wy;rfl};simp[a1,a2,a3,a4,a5,a7,a8,a9,WH,a12,WG,WE,WC,WB,WA,Wz,Wy]
theorem pU(c:UInt8):∀s:bD,oG (0<=Lib.indexByte s c)=s.contains c
 |[]=>by simp[Lib.indexByte]
 |b::l=>by have ih:=pU c l;have Mn:=Lib.indexByte_ge l c;rw[List.contains_cons,<-ih];rw[Lib.indexByte];by_cases h:b=c;{subst h;simp};{rw[ak (by simpa using h),show(c==b)=NT by rw[beq_eq_false_iff_ne];exact λe=>h e.symm,Bool.false_or];by_cases h1:Lib.indexByte l c=-1;{rw[h1];rfl};{rw[ak (by simpa using h1),dT,dT]}}
def ag3(s:bD)(plain:Bool)(hp:oG (s.length<=1099511627776)=NS):auq s plain=BQ [.b (Tree.ft s plain)]:=by have e:oG (0<=Lib.indexByte s (([0]:bD).getD 0 0))=dE.zero s:=pU 0 s;refine aup s plain ?_;intro v1 h1 v2 h2;rw[bC (vF (aq hp)),bC hp];rw[e]at h1;subst h1 h2;unfold Tree.ft;cases dE.whole s<;>cases plain<;>cases dE.zero s<;>rfl
theorem ajs(v:Val):aBf v=BQ [.b (Tree.ia v)]:=by
 have J2:∀(x:Bool)(v:Val),WJ x v=BQ [.b (x&&oG (v.bits=0)&&oG (v.high=0)&&oG (v.low=0)&&oG (v.text=[])&&oG (v.more=[])&&oG (v.sub=0)&&oG (v.bytes=[])&&oG (v.kids=[]))]:=by
  intro x v
  refine aBd x v ?_
  intro v1 h1 v2 h2 v3 h3 v4 h4 v5 h5 v6 h6 v7 h7 v8 h8 v9 h9 v10 jo
  simp only[aS,bO]
  have e1:oG (v7=0)=oG (v.bytes=[]):=by rw[h7,aO];simp
  have e2:oG (v9=0)=oG (v.kids=[]):=by rw[h9,aO];simp
  rw[e1]at h8
  rw[e2]at jo
  subst h1 h2 h3 h4 h5 h6 h8 jo
  simp only[Bool.cond_false_right]
 have J3:∀(x0:Bool)(x1:Int)(x2:Bool)(x3:Val),abl x0 x1 x2 x3=cond x2
  (WJ x0 (Val.mk (Val.kind x3) (Val.bits x3) (Val.high x3) (Val.low x3) ([]:bD) (Val.more x3) (Val.sub x3) (Val.bytes x3) (Val.kids x3)))
  (cond (oG (x1=(11:Int)))
  (WJ x0 (Val.mk (Val.kind x3) (Val.bits x3) (Val.high x3) (Val.low x3) ([]:bD) ([]:bD) (Val.sub x3) (Val.bytes x3) (Val.kids x3)))
  (cond (oG (x1=(5:Int)))
  (WJ (oG (0<=x3.sub)&&oG (x3.sub<=255)) (Val.mk (Val.kind x3) (Val.bits x3) (Val.high x3) (Val.low x3) (Val.text x3) (Val.more x3) (0:Int) ([]:List UInt8) (Val.kids x3)))
  (cond (oG (x1=(7:Int)))
  (WJ (oG (x3.bytes.length=12)) (Val.mk (Val.kind x3) (Val.bits x3) (Val.high x3) (Val.low x3) (Val.text x3) (Val.more x3) (Val.sub x3) ([]:List UInt8) (Val.kids x3)))
  (cond (oG (x1=(12:Int)))
  (WJ (oG (x3.bytes.length=12)) (Val.mk (Val.kind x3) (Val.bits x3) (Val.high x3) (Val.low x3) ([]:bD) (Val.more x3) (Val.sub x3) ([]:List UInt8) (Val.kids x3)))
  (cond (oG (x1=(3:Int)))
  (abk x0 x1 (oG (x1=(3:Int))) x3)
  (abk x0 x1 (oG (x1=(4:Int))) x3)))))):=by
  intro x0 x1 x2 x3
  refine aBb x0 x1 x2 x3 ?_
  intro v1 h1 v2 h2
  have e:oG (v2=12)=oG (x3.bytes.length=12):=by rw[h2,aO];simp;omega
  simp only[aS,bO,e,h1,Bool.cond_false_right]
 obtain⟨k,b,hi,lo,t,m,s,y,ks⟩:=v
 simp only[aBe,aBc,J3,aA9,J2,Tree.ia,Tree.kT]
 by_cases a1:k=1
 ·subst a1;simp;grind
 by_cases a2:k=2
 ·subst a2;simp;grind
 by_cases a3:k=3
 ·subst a3;simp;grind
 by_cases a4:k=4
 ·subst a4;simp;grind
 by_cases a5:k=5
 ·subst a5;simp;grind
 by_cases a7:k=7
 ·subst a7;simp;grind
 by_cases a8:k=8
 ·subst a8;simp;grind
 by_cases a9:k=9
 ·subst a9;simp;grind
 by_cases WH:k=11
 ·subst WH;simp;grind
 by_cases a12:k=12
 ·subst a12;simp;grind
 by_cases WG:k=13
 ·subst WG;simp;grind
 by_cases WE:k=14
 ·subst WE;simp;grind
 by_cases WC:k=15
 ·subst WC;simp;grind
 by_cases WB:k=16
 ·subst WB;simp;grind
 by_cases WA:k=17
 ·subst WA;simp;grind
 by_cases Wz:k=18
 ·subst Wz;simp;grind
 by_cases Wy:k=19
 ·subst Wy;simp;grind
 simp[a1,a2,a3,a4,a5,a7,a8,a9,WH,a12,WG,WE,WC,WB,WA,Wz,Wy];grind
def agX(s:bD)(hp:oG (s.length<=1099511627776)=NS):aub s=BQ [.b (Tree.ft s NS)]:=by refine aua s ?_;intro v1 h1;rw[bC hp,hp];subst h1;unfold Tree.ft;cases dE.whole s<;>cases dE.zero s<;>rfl
def ag9(p:List Int)(k:Int)(hp:oG (p.length<=1099511627776)=NS):auG p k=BQ [.sl .is (p++[k])]:=by have hp:=aq hp;refine auF p k ?_;intro v1 h1;rw[bC (dJ (by simp;omega) (by simp;omega)),bC (dJ (by simp;omega) (by simp;omega)),h1];rfl
def agM(v:Val)(hp:oG (bF.bJ (bF.of [] v)<=1099511627776)=NS):atN v=BQ [.i .i64 (Tree.own v)]:=by have hp:=aq hp;have FF:v.text.length<=1099511627776:=by{simp only[bF.of,bF.bJ]at hp;omega};have C7:v.more.length<=1099511627776:=by{simp only[bF.of,bF.bJ]at hp;omega};refine atM v ?_;intro v1 h1 v2 h2 v3 h3 v4 h4 v5 h5 v6 h6 v7 h7 v8 h8 v9 h9 v10 jo v11 lg v12 lZ jw qB iI rk iO qo mo uM ug C8 o8 As sj JM v20 GR v21 PC v22 PB FU Wb v24 PA v25 Uk r8 Uj v27 Wa v28 X7 N7 V9 v30 h30 v31 h31 Kl h32 v33 h33 YM h34 v35 h35 v36 h36;unfold Tree.own;by_cases hn:Tree.name v.kind=[];{rw[ar hn,aa hn];rfl};{rw[ak hn,cF hn];subst h4 qo Wb Wa h32 h33;simp only[aS,bh,aX,bO,ck4,ck5,aa FF,aa C7,Bool.and_true];have u1:oG ((4294967296:UInt64)<=v.bits)=!decide (v.bits<4294967296):=by{rw[aO];simp[aL,aI]};have u2:oG ((1:UInt64)<v.bits)=!decide (v.bits<2):=by{rw[aO];simp[aL,aI];omega};have l1:oG ((0:Int)<mo)=!decide (v.bytes=[]):=by{rw[uM,aO];simp[List.length_pos_iff]};have l2:oG ((0:Int)<v20)=!decide (v.kids=[]):=by{rw[GR,aO];simp[List.length_pos_iff]};have l3:oG (mo=(12:Int))=oG (v.bytes.length=12):=by{rw[uM,aO];simp;omega};rw[u1]at PB;rw[u2]at PA;rw[l1]at C8;rw[l2]at PC;rw[l3]at V9;have e1:Tree.ia v=!(cond (cond (cond o8 NS v21) NS r8) NS N7):=by{subst h1 h2 h3 h5 h6 h7 h8 h9 jo lg lZ qB rk C8 As JM PC PB PA Uk Uj X7 V9;unfold Tree.ia;have s1:oG (v.sub<0)=!decide (0<=v.sub):=by{rw[aO];simp};have s2:oG (255<v.sub)=!decide (v.sub<=255):=by{rw[aO];simp};rw[s1,s2];simp only[Bool.cond_true_left,Bool.cond_false_right,Bool.not_or,Bool.not_and,Bool.not_not,Bool.and_assoc]};have e2:v36=oG (Tree.ft v.text (oG (v.kind=11))=NT\/Tree.ft v.more (oG (v.kind=11))=NT):=by{subst h30 h31 h34 h35 h36;unfold Tree.ft;cases dE.whole v.text<;>cases dE.whole v.more<;>cases dE.zero v.text<;>cases dE.zero v.more<;>by_cases k:v.kind=11<;>simp[k]};rw[e1,e2];clear h1 h2 h3 h5 h6 h7 h8 h9 jo lg lZ qB rk C8 As JM PC PB PA Uk Uj X7 V9 h30 h31 h34 h35 h36 e1 e2;by_cases c:Tree.ft v.text (oG (v.kind=11))=NT\/Tree.ft v.more (oG (v.kind=11))=NT;{rw[aa c,ar c];cases o8<;>cases v21<;>cases r8<;>cases N7<;>rfl};{rw[ab c,ak c];cases o8<;>cases v21<;>cases r8<;>cases N7<;>rfl}}
def adI(v:Val)(n:bD)(m:Nat)(h:bF.bJ (bF.of n v)<=m):v.text.length<=m/\v.more.length<=m/\n.length<=m/\v.bytes.length<=m/\bF.bV v.kids+1<=m:=by simp only[bF.of,bF.bJ]at h;omega
def bF.No(f:bF):1<=f.bJ:=by cases f;simp only[bF.bJ];omega
def bF.tF:∀(l:List bF)(i:Nat)(d:bF),i<l.length->(l.getD i d).bJ<=bF.bV l
 |f::l,0,d,_=>by simp[bF.bV]
 |f::l,i+1,d,h=>by have:=bF.tF l i d (by simpa using h);simp only[List.getD_cons_succ,bF.bV];omega
def bF.xb:∀(l:List bF),l.length<=bF.bV l
 |[]=>by simp
 |f::l=>by have:=bF.xb l;have:=bF.No f;simp only[av,bF.bV];omega
theorem bF.Lz(f:bF):bF.of f.name f.val=f:=by cases f;rfl
def bF.Nn(f:bF):bF.bJ (bF.of [] f.val)<=f.bJ:=by cases f;simp only[bF.of,bF.val,bF.bJ,bF.kind,bF.bits,bF.high,bF.low,bF.text,bF.more,bF.sub,bF.bytes,bF.kids];simp
theorem KM(v:Val)(n:bD):Tree.sC v n=(if Tree.name v.kind=[]then 5 else if Tree.ia v=NT then 1 else if Tree.ft v.text (oG (v.kind=11))=NT\/Tree.ft v.more (oG (v.kind=11))=NT\/Tree.ft n NS=NT then 4 else 0):=by unfold Tree.sC Tree.own;grind
theorem Tree.Ip(n:bD)(v:Val)(p:List Int):Tree.fD (bF.of n v) p=if Tree.sC v n≠0 then(p,Tree.sC v n)else Tree.jv v.kids 0 p:=by cases v;simp only[bF.of,Tree.fD]
def az9(n:Nat)(ks:List bF)(p:List Int)(hb:bF.bV ks+p.length<1099511627776)(hn:bF.bV ks<n):∀(m i:Nat),i+m=ks.length->adf n ks (ks.length:Int) i p=BQ [.sl .is (Tree.jv (ks.drop i) i p).1,.i .i64 (Tree.jv (ks.drop i) i p).2,.sl .is p]:=by
 have hlen:=bF.xb ks;intro m;induction m with
 |zero=>intro i hi;apply al8;intro v1 h1 v2 h2 v3 h3 v4 h4;rw[cF,az (by omega)];rfl
 |succ m ih=>intro i hi;apply al8;intro v1 h1 v2 h2 v3 h3 v4 h4;rw[ah]at h1;have hg:=bF.tF ks i (fE.fu .fl) (by omega);rw[<-h1]at hg;rw[bF.Lz]at h2 h3⊢;rw[cT,jQ,bC (dJ (by simp;omega) (by simp;omega)),aa (by simp;omega),dT,aX,bO,TS (l:=ks) (i:=i) (by omega) (fE.fu .fl),<-h1,Tree.jv];by_cases h:v3=0;{rw[aa h,ak (by rw[h3]at h;simpa using h)];simp only[aG,ai];rw[show v4=((i+1:Nat):Int) by rw[h4,iw];omega,ih _ (by omega)]};{rw[ab h,ar (by rw[h3]at h;simpa using h)];simp only[aJ,au];rw[h2,h3]}
def ajd(n:Nat)(v:Val)(name:bD)(path:List Int)(hp:((oG (bF.bJ (bF.of name v)+path.length<=1099511627776))&&oG ((bF.bJ (bF.of name v))<n+1))=NS):aAb n v name path=BQ [.sl .is (Tree.fD (bF.of name v) path).1,.i .i64 (Tree.fD (bF.of name v) path).2,.sl .is path]:=by simp only[af,aD]at hp;obtain⟨hp,hn⟩:=hp;obtain⟨b1,b2,b3,_,_⟩:=adI v name 1099511627776 (by omega);have Xu:bF.bV v.kids<bF.bJ (bF.of name v):=by{simp only[bF.of,bF.bJ];omega};refine aAa n v name path ?_;intro v1 h1 v2 h2 v3 h3 v4 h4;rw[Tree.Ip,KM];simp only[aS,bh,aX,bO,aa b1,aa b2,aa b3,Bool.and_true];have hap:dP path.length 8=NS:=dJ (by omega) (by omega);simp only[hap,bO];by_cases a:Tree.name v.kind=[];{rw[aa a];simp[a]};{rw[cF a];by_cases b:Tree.ia v=NT;{rw[b];simp[a]};{have b':Tree.ia v=NS:=by{simpa using b};rw[b'];have e3:v3=oG (Tree.ft v.text (oG (v.kind=11))=NT\/Tree.ft v.more (oG (v.kind=11))=NT\/Tree.ft name NS=NT):=by{subst h1 h2 h3;cases Tree.ft v.text (oG (v.kind=11))<;>cases Tree.ft v.more (oG (v.kind=11))<;>cases Tree.ft name NS<;>rfl};rw[e3,h4];by_cases c:Tree.ft v.text (oG (v.kind=11))=NT\/Tree.ft v.more (oG (v.kind=11))=NT\/Tree.ft name NS=NT;{rw[aa c];simp[a,c]};{rw[ab c];simp only[aG,ai,ak a,ak c];have:=az9 n v.kids path (by omega) (by omega) v.kids.length 0 (by omega);rw[aZ]at this;simpa using this}}}
def agZ(v:Val)(hp:oG (bF.bJ (bF.of [] v)<=1099511627776)=NS):aug v=BQ [.sl .is (Tree.fD (bF.of [] v) []).1,.i .i64 (Tree.fD (bF.of [] v) []).2]:=by refine auf v ?_;intro v1 h1 v2 h2;rw[bC (by simpa using hp),h1,h2]
def aAj(n:Nat)(v:Val)(p:List Int)(hb:bF.bV v.kids+p.length<1099511627776)(hn:bF.bV v.kids<n):∀(m i:Nat),i+m=v.kids.length->abc n p i v=BQ [.sl .is (Tree.jv (v.kids.drop i) i p).1,.i .i64 (Tree.jv (v.kids.drop i) i p).2]:=by
 have hlen:=bF.xb v.kids;intro m;induction m with
 |zero=>intro i hi;apply amd;intro v1 h1 v2 h2 v3 h3 v4 h4 v5 h5;rw[cF,az (by omega)];rfl
 |succ m ih=>intro i hi;apply amd;intro v1 h1 v2 h2 v3 h3 v4 h4 v5 h5;rw[ah]at h2;have hg:=bF.tF v.kids i (fE.fu .fl) (by omega);rw[<-h2]at hg;rw[bF.Lz]at h3 h4⊢;rw[cT,jQ,jQ,gK,aa (by simp;omega),dT,aX,bO,TS (l:=v.kids) (i:=i) (by omega) (fE.fu .fl),<-h2,Tree.jv];by_cases h:v4=0;{rw[aa h,ak (by rw[h4]at h;simpa using h)];simp only[aG,ai];rw[show v5=((i+1:Nat):Int) by rw[h5,iw];omega,ih _ (by omega)]};{rw[ab h,ar (by rw[h4]at h;simpa using h)];simp only[aJ,au];rw[h3,h4]}
def ajh(n:Nat)(v:Val)(name:bD)(p:List Int)(hp:((oG (bF.bJ (bF.of name v)+p.length<=1099511627776))&&oG ((bF.bJ (bF.of name v))<n+1))=NS):aAl n v name p=BQ [.sl .is (Tree.fD (bF.of name v) p).1,.i .i64 (Tree.fD (bF.of name v) p).2]:=by simp only[af,aD]at hp;obtain⟨hp,hn⟩:=hp;obtain⟨b1,b2,b3,_,_⟩:=adI v name 1099511627776 (by omega);have Xu:bF.bV v.kids<bF.bJ (bF.of name v):=by{simp only[bF.of,bF.bJ];omega};have hbv:bF.bJ (bF.of [] v)<=bF.bJ (bF.of name v):=by{simp only[bF.of,bF.bJ,aE];omega};refine aAk n v name p ?_;intro v1 h1;rw[gK,aa b3];simp only[Bool.and_true,aS,bO,aAi];rw[Tree.Ip];unfold Tree.sC;have key:=aAj n v p (by omega) (by omega) v.kids.length 0 (by omega);rw[aZ]at key;have key:abc n p 0 v=_:=key;rw[key];by_cases a:Tree.own v=0;{rw[aa a]at h1;cases b:Tree.ft name NS;{rw[b]at h1;rw[h1];simp[a]};{rw[b]at h1;rw[h1];simp[a]}};{rw[ab a]at h1;rw[h1];simp[a]}
def ahg(v:Val)(hp:oG (bF.bJ (bF.of [] v)<=1099511627776)=NS):au6 v=BQ [.sl .is (Tree.fD (bF.of [] v) []).1,.i .i64 (Tree.fD (bF.of [] v) []).2]:=by refine au5 v ?_;intro v1 h1 v2 h2;rw[bC (by simpa using hp),h1,h2]
def azT(a b:List Int)(hl:a.length=b.length)(hb:a.length<9223372036854775807):∀(m i:Nat),i+m=a.length->ac9 a b i=BQ [.b (oG (a.drop i=b.drop i))]:=by
 intro m;induction m with
 |zero=>intro i hi;apply al2;intro v1 h1 v2 h2 v3 h3;rw[cF,az (by omega),az (by omega)];rfl
 |succ m ih=>intro i hi;apply al2;intro v1 h1 v2 h2 v3 h3;rw[ah]at h1 h2;rw[cT,jQ,jQ,TS (l:=a) (i:=i) (by omega) 0,TS (l:=b) (i:=i) (by omega) 0,<-h1,<-h2];by_cases h:v1=v2;{rw[aa h];simp only[aG,ai];rw[show v3=((i+1:Nat):Int) by rw[h3,iw];omega,ih _ (by omega)];simp[h]};{rw[ab h];simp[h]}
def ai6(a b:List Int)(hp:oG (a.length<=1099511627776)=NS):azU a b=BQ [.b (oG (a=b))]:=by have hp:=aq hp;rw[azS];by_cases hl:a.length=b.length;{rw[dT];have:=azT a b hl (by omega) a.length 0 (by omega);simpa using this};{rw[dF,ab (λe=>hl (by rw[e]))];rfl}
def azW(l:List bF)(hb:l.length<=1099511627776):∀(m i:Nat),i+m=l.length->ada l (l.length:Int) i=BQ [.b (Tree.mR i (l.drop i))]:=by
 intro m;induction m with
 |zero=>intro i hi;apply al4;intro v1 h1 v2 h2;rw[cF,az (by omega)];rfl
 |succ m ih=>intro i hi;apply al4;intro v1 h1 v2 h2;rw[ah]at h1;rw[cT,jQ,bC (show Nr.i64 (i:Int)=NS from dT),<-yb,show v2=((i+1:Nat):Int) by rw[h2,iw];omega,ih _ (by omega),TS (l:=l) (i:=i) (by omega) (fE.fu .fl),<-h1,Tree.mR,L8];by_cases a:v1.name=kn i;{rw[aa a];rfl};{rw[ab a];rfl}
def ai8(l:List bF)(hp:oG (l.length<=1099511627776)=NS):azX l=BQ [.b (Tree.regular l)]:=by rw[azV];exact azW l (aq hp) l.length 0 (by omega)
def az5(l:List bF)(hb:l.length<=1099511627776):∀(m i:Nat),i+m=l.length->ade l i=BQ [.b (Tree.mR i (l.drop i))]:=by
 intro m;induction m with
 |zero=>intro i hi;apply al7;intro v1 h1 v2 h2 v3 h3;rw[cF,az (by omega)];rfl
 |succ m ih=>intro i hi;apply al7;intro v1 h1 v2 h2 v3 h3;rw[ah]at h1;rw[rp,Nat.mod_eq_of_lt (by omega),E2]at h2;rw[cT,jQ,show v3=((i+1:Nat):Int) by rw[h3,iw];omega,ih _ (by omega),TS (l:=l) (i:=i) (by omega) (fE.fu .fl),<-h1,Tree.mR,h2];by_cases a:v1.name=kn i;{rw[aa a];rfl};{rw[ab a];rfl}
def ajc(l:List bF)(hp:oG (l.length<=1099511627776)=NS):az6 l=BQ [.b (Tree.regular l)]:=by rw[az4];exact az5 l (aq hp) l.length 0 (by omega)
def awE(ly:List Int)(hl:ly.length<=10)(hs:∀s∈ly,0<=s):∀(m i:Nat)(left:Int),i+m=ly.length->left<=1200->ab7 left ly i=BQ [.i .i64 (gn.room left (ly.drop i))]:=by
 intro m;induction m with
 |zero=>intro i left hi hle;apply akG;intro v1 h1 v2 h2 v3 h3;rw[cF,az (by omega)];rfl
 |succ m ih=>intro i left hi hle;apply akG;intro v1 h1 v2 h2 v3 h3;rw[ah]at h1;have h0:0<=v1:=hs v1 (by rw[h1,aj,aw (show i<ly.length by omega)];simp);rw[cT,show bG (i:Int) ly.length=NS from dC (by omega) (by omega),TS (l:=ly) (i:=i) (by omega) 0,<-h1,gn.room];simp only[aX,Bool.and_true,aS,bh,bO];by_cases a:left<0\/left<v1;{rw[ar a,show v2=NS by rw[h2];by_cases b:left<0<;>simp[b];omega];rfl};{rw[ak a,show v2=NT by rw[h2];by_cases b:left<0<;>simp[b]<;>omega,ai,show v3=((i+1:Nat):Int) by rw[h3,iw];omega,iw,ih _ _ (by omega) (by omega)]}
def ahS(left:Int)(ly:List Int)(hp:(oG (left<=1200/\ly.length<=10)&&ly.all (λs=>oG (0<=s)))=NS):awF left ly=BQ [.i .i64 (gn.room left ly)]:=by simp only[af,aD,aC]at hp;rw[awD];exact awE ly hp.1.2 hp.2 ly.length 0 left (by omega) hp.1.1
def gn.Qr(left a:Int)(ha:0<=a)(hl:left<=1200):gn.room left [a]<=1200/\(gn.room left [a]=-1\/(gn.room left [a]=left -a/\0<=left -a)):=by simp only[gn.room];split<;>omega
def gn.Qq(left a b c d:Int)(ha:0<=a)(hb:0<=b)(hc:0<=c)(hd:0<=d)(hl:left<=1200):gn.room left [a,b,c,d]<=1200/\(gn.room left [a,b,c,d]=-1\/(gn.room left [a,b,c,d]=left -a -b -c -d/\0<=left -a -b -c -d)):=by simp only[gn.room];split;{omega};{split;{omega};{split;{omega};{split<;>omega}}}
mutual
theorem gn.yx:∀(f:bF)(left:Int),left<=1200->gn.value left f<=1200/\(0<=gn.value left f->(bF.bJ f:Int) -f.name.length<=left -gn.value left f)
 |.mk n k b h l t m s y ks,left,hl=>by
  have h1:=gn.Qq left 2 t.length m.length y.length (by omega) (by omega) (by omega) (by omega) hl
  have h2:=gn.AJ ks (gn.room left [2,(t.length:Int),(m.length:Int),(y.length:Int)]) h1.1
  simp only[gn.value,bF.bJ,bF.name]
  refine⟨h2.1,fun h0=>?_⟩
  rcases h1.2 with e|⟨e,e0⟩
  ·have:=h2.2.2 (by omega);omega
  ·have:=h2.2.1 h0;omega
theorem gn.AJ:∀(ks:List bF)(left:Int),left<=1200->gn.values left ks<=1200/\(0<=gn.values left ks->(bF.bV ks:Int)<=left -gn.values left ks)/\(left<0->gn.values left ks<0)
 |[],left,hl=>by simp only[gn.values,bF.bV];omega
 |f::r,left,hl=>by
  simp only[gn.values,bF.bV]
  by_cases h:left<0
  ·rw[ar h];omega
  ·rw[ak h]
   have h1:=gn.Qr left f.name.length (by omega) hl
   have h2:=gn.yx f (gn.room left [(f.name.length:Int)]) h1.1
   have h3:=gn.AJ r (gn.value (gn.room left [(f.name.length:Int)]) f) h2.1
   refine⟨h3.1,fun h0=>?_,fun h0=>by omega⟩
   have h4:=h3.2.1 h0
   have h5:0<=gn.value (gn.room left [(f.name.length:Int)]) f:=by
    by_cases h6:gn.value (gn.room left [(f.name.length:Int)]) f<0
    ·have:=h3.2.2 h6;omega
    ·omega
   have h7:=h2.2 h5
   have hb:(f.name.length:Int)<=bF.bJ f:=by cases f;simp only[bF.name,bF.bJ];omega
   rcases h1.2 with e|⟨e,e0⟩
   ·omega
   ·omega
end
def gn.F6(v:Val)(h:0<=gn.value 1200 (bF.of [] v)):bF.bJ (bF.of [] v)<=1200:=by have:=(gn.yx (bF.of [] v) 1200 (by omega)).2 h;have hn:(bF.of [] v).name=[]:=rfl;rw[hn]at this;simp at this;omega
theorem gn.IG(left:Int)(f:bF):gn.value left (bF.of [] f.val)=gn.value left f:=by cases f;rfl
def gn.Kz(f:bF)(left:Int)(hl:left<=1200)(h0:0<=gn.value left f):gn.value left f+1<=left:=by have:=(gn.yx f left hl).2 h0;have hb:(f.name.length:Int)+1<=bF.bJ f:=by{cases f;simp only[bF.name,bF.bJ];omega};omega
def azC(n:Nat)(v:Val)(hn:bF.bV v.kids<n):∀(m i:Nat)(left:Int),i+m=v.kids.length->(i:Int)+left<=1200->ac1 n left i v=BQ [.i .i64 (gn.values left (v.kids.drop i))]:=by
 intro m;induction m with
 |zero=>intro i left hi hle;apply alU;intro v1 h1 v2 h2 v3 h3 v4 h4 v5 h5 v6 h6 v7 h7;simp only[aS,bO];rw[show v2=NT by rw[h2,dF];rfl,ai,az (by omega)];rfl
 |succ m ih=>
  intro i left hi hle;apply alU;intro v1 h1 v2 h2 v3 h3 v4 h4 v5 h5 v6 h6 v7 h7;rw[ah]at h3;have hg:=bF.tF v.kids i (fE.fu .fl) (by omega);rw[<-h3]at hg;have hv:=bF.Nn v3;have r1:=gn.Qr left v4 (by omega) (by omega);rw[<-h5]at r1;have r2:=gn.Kz v3 v5 r1.1;rw[gn.IG]at h6;simp only[aS,bO];rw[TS (l:=v.kids) (i:=i) (by omega) (fE.fu .fl),<-h3,gn.values];by_cases h:left<0;{rw[ar h,show v2=NT by rw[h2,ab (show¬0<=left by omega)];simp];rfl}
  ·have r3:(i:Int)+1+v6<=1200:=by{rw[h6];by_cases hx:0<=gn.value v5 v3;{have:=r2 hx;omega};{omega}};rw[ak h,show v2=NS by rw[h2,dT,dT];rfl,au,jQ,bC (by simp;omega),jQ,aa r1.1,dT,aX,bO,
    show v7=((i+1:Nat):Int) by rw[h7,iw];omega,ih _ _ (by omega) (by omega),h6,h5,h4]
def aiZ(n:Nat)(left:Int)(v:Val)(hp:((oG (left<=1200))&&oG ((bF.bJ (bF.of [] v))<n+1))=NS):azE n left v=BQ [.i .i64 (gn.value left (bF.of [] v))]:=by simp only[af,aD]at hp;obtain⟨hl,hn⟩:=hp;have Xu:bF.bV v.kids<bF.bJ (bF.of [] v):=by{simp only[bF.of,bF.bJ];omega};refine azD n left v ?_;intro v1 h1 v2 h2 v3 h3 v4 h4;have r:=gn.Qq left 2 v1 v2 v3 (by omega) (by omega) (by omega) (by omega) hl;rw[<-h4]at r;rw[bC (by rw[h4];simp;omega)];have key:=azC n v (by omega) v.kids.length 0 (gn.room left v4) (by omega) (by omega);rw[aZ]at key;refine key.trans ?_;rw[h4,h1,h2,h3];rfl
def agF(v:Val):atw v=BQ [.b (oG (0<=gn.value 1200 (bF.of [] v)))]:=by refine atv v ?_;intro v1 h1;rw[bC (by decide),h1]
end Go.Eng
