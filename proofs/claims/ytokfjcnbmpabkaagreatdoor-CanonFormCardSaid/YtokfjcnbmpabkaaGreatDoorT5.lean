/- Texts of my own, one behind the other: CnP11, CnP12, CnP13, CnP14, CnP15, CnP16, CnN2, CnN3, CnN4, CnE1, CnE2, CnR1, CnM1, CnM2, CnM3, CnM4, CnM5, CnN5, CnM6, CnS1, CnS2, CnQ4, CnQ5, CnQ6, CnQ7, CnQ8, CnUtfP, CnQ9, CnQ10, CnQ11, CnQ12, CnS3, CnS4, CnS5, CnFlip, CnQ13, CnQ14, CnA, CnHx. -/
import Derived.Test.YtokfjcnbmpabkaaGreatDoorT4
import Derived.IntWalk
set_option linter.unusedVariables false
set_option linter.unusedSimpArgs false
set_option maxRecDepth 20000
namespace Go.Eng
open Go.IntWalk
theorem vG {v:List UInt16} (h:v≠[]):v.getLast?.getD 0=v.getD (v.length - 1) 0:=by
 obtain ⟨b,d,rfl⟩:∃b d,v=b++[d]:=⟨v.dropLast,v.getLast h,(List.dropLast_concat_getLast _).symm⟩
 rw [ao,az,Nat.add_sub_cancel,qn];simp
theorem pG (w:List UInt16) (k:Nat):Nt.val w=Nt.val (w.take k)+65536 ^ (w.take k).length * Nt.val (w.drop k):=by
 rw [←Nt.fJ,List.take_append_drop]
theorem vH {w u:List UInt16} {k i:Nat} (h:w.take k=u.take k) (hi:i<k):w.getD i 0=u.getD i 0:=by
 have:=congrArg (fun l=>l.getD i 0) h
 simpa [af,aT,hi] using this
theorem A7 {w u:List UInt16} {k j:Nat} (h:w.take k=u.take k) (hj:j≤k):w.take j=u.take j:=by
 have:=congrArg (fun l=>l.take j) h
 simpa [List.take_take,Nat.min_eq_left hj] using this
theorem bE.cW (v U:List UInt16) (n:Nat) (hn:n=v.length) (h2:2≤n) (hU:n<U.length) (hl:U.length≤1000001) (hv1:32768≤(v.getD (n - 1) 0).toNat) :
  ∀(k:Nat) (w qs:List UInt16),k+n≤U.length→w.length=U.length→qs.length=U.length - n→w.take k=U.take k→Nt.val (w.drop k)=Nt.val (U.drop k) % Nt.val v→Nt.val (qs.drop k)=Nt.val (U.drop k) / Nt.val v →
   bE.l1 v n ((k:Int) - 1) w qs=some [.sl .ws (Nt.fix (U.length - n) (Nt.val U / Nt.val v)),.sl .ws (Nt.fix n (Nt.val U % Nt.val v))]:=by
 -- the B6 two AJ digits
 have e1:=dn v (n - 1) (by omega)
 have e2:=dn v (n - 2) (by omega)
 rw [show n - 1+1=n by omega,List.take_of_length_le (by omega)] at e1
 rw [show n - 2+1=n - 1 by omega] at e2
 have yG:=Nt.gW (v.take (n - 2))
 rw [aF,Nat.min_eq_left (by omega)] at yG
 have JH:65536 ^ (n - 1)=65536 ^ (n - 2) * 65536:=by rw [←Nat.pow_succ];congr 1;omega
 have QH:0<65536 ^ (n - 2):=Nat.pow_pos (by omega)
 rw [JH] at e1
 have QA:Nt.val v=Nt.val (v.take (n - 2))+65536 ^ (n - 2) * ((v.getD (n - 1) 0).toNat * 65536+(v.getD (n - 2) 0).toNat):=by
  rw [e1,e2,Nat.mul_add,Nat.mul_assoc,Nat.mul_comm (v.getD (n - 1) 0).toNat 65536];omega
 have JE:((v.getD (n - 1) 0).toNat * 65536+(v.getD (n - 2) 0).toNat) * 65536 ^ (n - 2)≤Nt.val v:=by rw [QA,Nat.mul_comm];omega
 have Nu:Nt.val v<((v.getD (n - 1) 0).toNat * 65536+(v.getD (n - 2) 0).toNat+1) * 65536 ^ (n - 2):=by
  rw [QA,Nat.add_mul _ 1,Nat.one_mul,Nat.mul_comm ((v.getD (n - 1) 0).toNat * 65536+(v.getD (n - 2) 0).toNat)];omega
 have yH:0<Nt.val v:=Nat.lt_of_lt_of_le (Nat.mul_pos (by omega) QH) JE
 have S9:Nt.val v<65536 ^ n:=by rw [hn];exact Nt.gW v
 intro k
 induction k with
 | zero =>
  intro w qs hk Gy Nk ht hw hq
  refine bE.bV _ _ _ _ _ ?_
  intro v1 h1 v2 h2 v3 h3 v4 h4 v5 h5 v6 h6 v7 h7 v8 h8 v9 h9 v10 iA
  rw [bh,bh] at hw hq
  rw [ab (by omega),ae,bw (jm (by omega) (by omega) (by omega)),aj]
  have eq:qs=Nt.fix (U.length - n) (Nt.val U / Nt.val v):=Nt.val_inj (by rw [Nt.jN,Nk]) (by
   rw [Nt.nG,hq,Nat.mod_eq_of_lt]
   rw [←hq,←Nk];exact Nt.gW qs)
  have er:w.take n=Nt.fix n (Nt.val U % Nt.val v):=Nt.val_inj (by rw [Nt.jN,aF];omega) (by
   have hm:=Nat.mod_lt (Nt.val U) yH
   have hs:=pG w n
   have Oz:(w.take n).length=n:=by rw [aF];omega
   rw [Oz] at hs
   have h0:Nt.val (w.drop n)=0:=by
    rcases Nat.eq_zero_or_pos (Nt.val (w.drop n)) with e | e
    ·exact e
    ·have:=Nat.mul_le_mul_left (65536 ^ n) e
     rw [Nat.mul_one] at this
     omega
   rw [h0,Nat.mul_zero,Nat.add_zero] at hs
   rw [Nt.nG,Nat.mod_eq_of_lt (by omega),←hs,hw])
  rw [eq,er]
 | succ j ih =>
  intro w qs hk Gy Nk ht hw hq
  have ek:((j+1:Nat):Int) - 1=(j:Int):=by omega
  rw [ek]
  -- NY is NF now
  have hm:=Nat.mod_lt (Nt.val (U.drop (j+1))) yH
  have hs:=pG (w.drop (j+1)) n
  have Oz:((w.drop (j+1)).take n).length=n:=by rw [aF,aU];omega
  rw [Oz] at hs
  have h0:Nt.val ((w.drop (j+1)).drop n)=0:=by
   rcases Nat.eq_zero_or_pos (Nt.val ((w.drop (j+1)).drop n)) with e | e
   ·exact e
   ·have:=Nat.mul_le_mul_left (65536 ^ n) e
    rw [Nat.mul_one] at this
    omega
  have hs:Nt.val (w.drop (j+1))=Nt.val ((w.drop (j+1)).take n):=by rw [h0,Nat.mul_zero] at hs;exact hs
  have hd:w.drop j=w.getD j 0 :: w.drop (j+1):=drop_cons (by omega) 0
  obtain ⟨T,hT⟩:∃T,T=Nt.val ((w.drop j).take (n+1)):=⟨_,rfl⟩
  have Pj:T=(w.getD j 0).toNat+65536 * Nt.val (w.drop (j+1)):=by
   rw [hT,hd,List.take_succ_cons,Nt.val,←hs]
  have wj:=(w.getD j 0).toNat_lt
  have Tb:T / Nt.val v≤65535:=by
   have:T<65536 * Nt.val v:=by rw [Pj,hw];omega
   have:=(Nat.div_lt_iff_lt_mul yH).2 this
   omega
  -- UG AJ digits
  have t1:=jU w j n (by omega)
  have t2:=jU w j (n - 1) (by omega)
  have t3:=jU w j (n - 2) (by omega)
  rw [show n - 1+1=n by omega,show j+(n - 1)=j+n - 1 by omega] at t2
  rw [show n - 2+1=n - 1 by omega,show j+(n - 2)=j+n - 2 by omega] at t3
  have UI:=yK w j (n - 2)
  have Te:65536 ^ n=65536 ^ (n - 2) * (65536 * 65536):=by rw [show (65536 * 65536:Nat)=65536 ^ 2 by decide,←Nat.pow_add];congr 1;omega
  obtain ⟨top,qj⟩:∃top,top=(w.getD (j+n) 0).toNat * 65536+(w.getD (j+n - 1) 0).toNat:=⟨_,rfl⟩
  have Mh:T=Nt.val ((w.drop j).take (n - 2))+65536 ^ (n - 2) * (top * 65536+(w.getD (j+n - 2) 0).toNat):=by
   rw [hT,t1,t2,t3,Te,JH,qj]
   generalize (w.getD (j+n) 0).toNat=a
   generalize (w.getD (j+n - 1) 0).toNat=b
   generalize (w.getD (j+n - 2) 0).toNat=c
   generalize 65536 ^ (n - 2)=P
   rw [Nat.mul_add,Nat.mul_assoc,Nat.mul_assoc,Nat.add_mul,Nat.mul_add,Nat.mul_comm b 65536,show a * 65536 * 65536=65536 * 65536 * a by rw [Nat.mul_assoc,Nat.mul_comm a]]
   omega
  have Nx:(top * 65536+(w.getD (j+n - 2) 0).toNat) * 65536 ^ (n - 2)≤T:=by rw [Mh,Nat.mul_comm];omega
  have Nw:T<(top * 65536+(w.getD (j+n - 2) 0).toNat+1) * 65536 ^ (n - 2):=by
   rw [Mh,Nat.add_mul _ 1,Nat.one_mul,Nat.mul_comm (top * 65536+(w.getD (j+n - 2) 0).toNat)];omega
  have a1:=(w.getD (j+n) 0).toNat_lt
  have a2:=(w.getD (j+n - 1) 0).toNat_lt
  have a3:=(v.getD (n - 1) 0).toNat_lt
  -- the AJ digit is at sB the B6
  have Ss:(w.getD (j+n) 0).toNat≤(v.getD (n - 1) 0).toNat:=by
   have hA:T<65536 * Nt.val v:=by rw [Pj,hw];omega
   rcases Nat.lt_or_ge (v.getD (n - 1) 0).toNat (w.getD (j+n) 0).toNat with h | h
   ·have g1:65536 ^ n * ((v.getD (n - 1) 0).toNat+1)≤65536 ^ n * (w.getD (j+n) 0).toNat:=Nat.mul_le_mul_left _ h
    have g2:65536 * Nt.val v<65536 ^ n * ((v.getD (n - 1) 0).toNat+1):=by
     have g3:Nt.val v<65536 ^ (n - 1) * ((v.getD (n - 1) 0).toNat+1):=by
      have:=Nt.gW (v.take (n - 1))
      rw [aF,Nat.min_eq_left (by omega),JH] at this
      rw [e1,JH,Nat.mul_add,Nat.mul_one];omega
     have g4:=Nat.mul_lt_mul_of_pos_left g3 (show 0<65536 by omega)
     have g5:65536 * (65536 ^ (n - 1) * ((v.getD (n - 1) 0).toNat+1))=65536 ^ n * ((v.getD (n - 1) 0).toNat+1):=by
      rw [←Nat.mul_assoc,Nat.mul_comm 65536,←Nat.pow_succ];congr 2;omega
     omega
    omega
   ·exact h
  obtain ⟨d,Pa⟩:∃d,d=(v.getD (n - 1) 0).toNat:=⟨_,rfl⟩
  have O6:top / d≤65537:=by
   have:top<65538 * d:=by rw [qj];omega
   have:=(Nat.div_lt_iff_lt_mul (show 0<d by omega)).2 this
   omega
  have JB:T / Nt.val v≤top / d:=by
   -- T<(top+1) * B^(n-1),and the ND is at least d * B^(n-1)
   have g1:T<(top+1) * 65536 ^ (n - 1):=by
    refine Nat.lt_of_lt_of_le Nw ?_
    rw [JH,Nat.mul_comm (65536 ^ (n - 2)) 65536,←Nat.mul_assoc]
    refine ak _ ?_
    have:=(w.getD (j+n - 2) 0).toNat_lt
    omega
   have g2:d * 65536 ^ (n - 1)≤Nt.val v:=by
    have h9:=e1
    rw [←Pa,←JH] at h9
    rw [h9,Nat.mul_comm d];exact Nat.le_add_left _ _
   have g3:T / Nt.val v≤T / (d * 65536 ^ (n - 1)):=Nat.div_le_div_left g2 (Nat.mul_pos (by omega) (Nat.pow_pos (by omega)))
   have g4:T / (d * 65536 ^ (n - 1))=T / 65536 ^ (n - 1) / d:=by rw [Nat.mul_comm,Nat.div_div_eq_div_mul]
   have g5:T / 65536 ^ (n - 1)≤top:=by
    have:=(Nat.div_lt_iff_lt_mul (show 0<65536 ^ (n - 1) from Nat.pow_pos (by omega))).2 g1
    omega
   rw [g4] at g3
   exact Nat.le_trans g3 (Nat.div_le_div_right g5)
  have OC:top<65536 * 65536:=by rw [qj];omega
  -- the operands
  have key:∀(g r:UInt64),g.toNat=top / d→r.toNat=top % d→bE.l2 v n j g r w qs=some [.sl .ws (Nt.fix (U.length - n) (Nt.val U / Nt.val v)),.sl .ws (Nt.fix n (Nt.val U % Nt.val v))]:=by
   intro g r hg hr
   have JC:=Nat.div_add_mod top d
   have Js:=Nat.mod_lt top (show 0<d by omega)
   obtain ⟨g',i1,i2,i3,i4⟩:=bE.ju v w qs n j hn (by omega) (by omega) (by omega) (V:=Nt.val v) (T:=T) (P:=65536 ^ (n - 2)) (top:=top) QH hv1 qj JE Nu Nx Nw Tb (top / d) g r (by omega) (by omega) (by rw [hg,hr,←Pa,Nat.mul_comm];omega) (by omega) (by rw [hg];exact JB)
   rw [i4,bE.LC]
   obtain ⟨q,w',r1,r2,r3,r4,r5,r6⟩:=bE.DF v w qs n j g' hn (by omega) (by omega) i3 hT yH i1 i2 n 0 0 0 w (by omega) (by omega) (by decide) rfl rfl rfl (by simp [Nt.val])
   refine r6.trans ?_
   refine bE.DM _ _ _ _ _ _ ?_
   intro u1 k1 u2 k2 u3 k3
   rw [aj] at k2
   rw [bw (bK (by omega) (by omega)),bw (aa (by omega)),k3,i64_in _ (by omega)]
   have QD:=oE U j (by omega)
   have Ts:w.getD j 0=U.getD j 0:=vH ht (by omega)
   rw [←Ts] at QD
   have QC:Nt.val (U.drop j)=T+Nt.val v * (65536 * (Nt.val (U.drop (j+1)) / Nt.val v)):=by
    have:=Nat.div_add_mod (Nt.val (U.drop (j+1))) (Nt.val v)
    rw [QD,Pj,hw]
    conv=>lhs;rw [←this]
    rw [Nat.mul_add,Nat.mul_left_comm];omega
   refine ih w' u2 (by omega) (by omega) (by rw [k2,List.length_set];exact Nk) (by rw [r3];exact A7 ht (by omega)) ?_ ?_
   ·have P8:=pG (w'.drop j) (n+1)
    have Oy:((w'.drop j).take (n+1)).length=n+1:=by rw [aF,aU];omega
    have e3:(w'.drop j).drop (n+1)=(w.drop (j+1)).drop n:=by
     rw [List.drop_drop,List.drop_drop,show j+(n+1)=j+n+1 by omega,r4];congr 1;omega
    rw [Oy,e3,h0,Nat.mul_zero,Nat.add_zero,r5] at P8
    rw [P8,QC,Nat.add_mul_mod_self_left]
   ·have e4:(u2.getD j 0).toNat=T / Nt.val v:=by
     rw [k2,getD_set_ne _ _ _ _ (by omega),k1,mf,Nt.dz,r1,Nat.mod_eq_of_lt (by omega)]
    rw [oE u2 j (by rw [k2,List.length_set];omega),e4,k2,List.drop_set_of_lt (by omega),hq,QC,Nat.add_mul_div_left _ _ yH]
  refine bE.bV _ _ _ _ _ ?_
  intro v1 h1 v2 GK v3 h3 v4 h4 v5 h5 v6 h6 v7 h7 v8 h8 v9 h9 v10 iA
  have Tw:IntKind.i64.wrap ((j:Int)+(n:Int))=((j+n:Nat):Int):=by rw [i64_in _ (by omega)];omega
  rw [Tw] at h1 h5 ⊢
  rw [aj] at h1
  have e5:v5=((j+n - 1:Nat):Int):=by rw [h5,i64_in _ (by omega)];omega
  have e8:v8=((n - 1:Nat):Int):=by rw [h8,i64_in _ (by omega)];omega
  rw [h1] at GK
  rw [e5,aj] at h6
  rw [e8,aj] at h9
  have f10:v10.toNat=d:=by rw [iA,gB,h9,Pa]
  have f3:v3.toNat=(w.getD (j+n) 0).toNat:=by rw [h3,gB,GK]
  have f7:v7.toNat=(w.getD (j+n - 1) 0).toNat:=by rw [h7,gB,h6]
  have f4:v4.toNat=(w.getD (j+n) 0).toNat * 65536:=by rw [h4,←f3];exact wH (by omega)
  have f47:(v4 ||| v7).toNat=top:=by rw [Ls f4 (by omega),f7,qj]
  have R9:v10≠0:=fun e=>by
   have:=congrArg UInt64.toNat e
   rw [f10] at this
   have e0:(0:UInt64).toNat=0:=rfl
   omega
  rw [aa (by omega),ai,bw (bK (by omega) (by omega)),bw (aa (by omega)),bw (bK (by omega) (by omega)),bw (aa (by omega)),bw (bK (by omega) (by omega)),ab R9,aM,bQ,bw (bK (by omega) (by omega)),bQ]
  exact key _ _ (by rw [UInt64.toNat_div,f47,f10]) (by rw [UInt64.toNat_mod,f47,f10])
theorem bE.goal (u v:List UInt16) (hp:decide (u.length≤1000000∧2≤v.length∧v.length≤u.length∧32768≤(v.getLast?.getD 0).toNat)=true):bE.F u v=some [.sl .ws (Nt.fix (u.length+1 - v.length) (Nt.val u / Nt.val v)),.sl .ws (Nt.fix v.length (Nt.val u % Nt.val v))]:=by
 obtain ⟨l1,l2,l3,l4⟩:=ar hp
 rw [vG (by intro e;subst e;simp at l2)] at l4
 refine bE.bZ _ _ ?_
 intro v1 h1 v2 h2 v3 h3 v4 h4
 subst h1
 have hl:(u++[(0:UInt16)]).length=u.length+1:=by simp
 have e2:v2=((u.length+1 - v.length:Nat):Int):=by rw [h2,hl,i64_in _ (by omega)];omega
 have e4:v4=((u.length+1 - v.length:Nat):Int) - 1:=by rw [h4,e2,i64_in _ (by omega)]
 have hU:Nt.val (u++[0])=Nt.val u:=Nt.pH u
 have yH:0<Nt.val v:=by
  have:=dn v (v.length - 1) (by omega)
  rw [show v.length - 1+1=v.length by omega,List.take_length] at this
  have h5:=Nat.mul_pos (show 0<65536 ^ (v.length - 1) from Nat.pow_pos (by omega)) (show 0<(v.getD (v.length - 1) 0).toNat by omega)
  omega
 have Ju:Nt.val ((u++[(0:UInt16)]).drop (u.length+1 - v.length))<Nt.val v:=by
  rw [List.drop_append_of_le_length (by omega),Nt.pH]
  have h6:=Nt.gW (u.drop (u.length+1 - v.length))
  rw [aU,show u.length - (u.length+1 - v.length)=v.length - 1 by omega] at h6
  have:=dn v (v.length - 1) (by omega)
  rw [show v.length - 1+1=v.length by omega,List.take_length] at this
  have h5:=Nat.mul_le_mul_left (65536 ^ (v.length - 1)) (show 1≤(v.getD (v.length - 1) 0).toNat by omega)
  omega
 have:=bE.cW v (u++[0]) v.length rfl l2 (by omega) (by omega) l4 (u.length+1 - v.length) (u++[0]) v3 (by omega) rfl (by rw [h3,e2];simp) rfl (Nat.mod_eq_of_lt Ju).symm (by
  rw [Nat.div_eq_of_lt Ju,h3,e2];simp [Nt.val])
 rw [hU,hl] at this
 rw [bw (dW (by rw [az];omega) (by rw [az];omega)),bw (jY.2 ⟨by omega,by omega,by omega,by rw [iR];omega⟩),e4]
 exact this
end Go.Eng
set_option maxRecDepth 20000
namespace Go.Eng
open Go.IntWalk Ieee
namespace Fl
theorem EF {s:Bool} {X N d:Nat} (h:X=N * 2 ^ d):Toward.zero.cut s X d=N:=by
 have e:Toward.zero.cut s X d=X / (1 <<< min d (X.log2+2)):=by
  unfold Toward.cut
  simp
 rw [e,Nat.one_shiftLeft]
 rcases Nat.eq_zero_or_pos N with rfl | hN
 ·rw [h];simp
 ·have hl:X.log2=N.log2+d:=by rw [h];exact mz N d (by omega)
  rw [Nat.min_eq_left (by omega),h,Nat.mul_div_cancel _ (Nat.two_pow_pos d)]
theorem WD.integral {d:Datum} {n:Int} (h:WD d n):∃s,d.integral .zero = .number s n.natAbs 0∧(n<0→s=true)∧(0<n→s=false):=by
 obtain ⟨s,m,p,rfl,hv,h1,h2⟩:=h
 refine ⟨s,?_,h1,h2⟩
 show Datum.number s (Toward.zero.cut s (m <<< p.toNat) (-p).toNat) 0=_
 rw [Nat.shiftLeft_eq,EF hv]
theorem WD.whole {s:Bool} {n:Int} (h1:n<0→s=true) (h2:0<n→s=false):WD (.number s n.natAbs 0) n:=⟨s,_,_,rfl,by unfold Val;simp,h1,h2⟩
theorem W.num {b:Nat} {n:Int} (h:W b n):Fl.num b=true:=by
 obtain ⟨s,m,p,hr,_⟩:=h
 show (!(double.read b).isNaN)=true
 rw [hr];rfl
theorem W.jW {b:Nat} {n:Int} (h:W b n) (hn:n.natAbs≤9007199254740992):W (Fl.jW b) n:=by
 obtain ⟨s,e,h1,h2⟩:=WD.integral h
 have e':(FloatKind.f64.decode b).integral .zero = .number s n.natAbs 0:=e
 unfold Fl.jW
 rw [e']
 exact (WD.whole h1 h2).write hn
theorem W.toInt {b:Nat} {n:Int} (h:W b n) (hn:n.natAbs≤9007199254740992):Fl.mg b=true∧Fl.toInt b=n:=by
 obtain ⟨s,e,h1,h2⟩:=WD.integral h
 have e':(FloatKind.f64.decode b).integral .zero = .number s n.natAbs 0:=e
 have e2:floatToIntVal .f64 b .i64=some n:=by
  unfold floatToIntVal Datum.toInt
  rw [e']
  have e3:signed s n.natAbs 0=n:=by
   have:=kD (s:=s) (m:=n.natAbs) (i:=0) (base:=0) (x:=n) (by unfold Val;simp) h1 h2 (by omega)
   simpa using this
  simp only [e3]
  have e4:IntKind.i64.min=-9223372036854775808:=by decide
  have e5:IntKind.i64.max=9223372036854775807:=by decide
  rw [e4,e5,aw (by omega)]
 unfold Fl.mg Fl.toInt
 rw [e2]
 exact ⟨rfl,rfl⟩
theorem W.ofInt {n:Int} (hn:n.natAbs≤9007199254740992):W (Fl.ofInt n) n:=wX n hn
theorem W.add {a b:Nat} {x y:Int} (ha:W a x) (hb:W b y) (h:(x+y).natAbs≤9007199254740992):Fl.kn a b=true∧W (Fl.add a b) (x+y):=by
 obtain ⟨r,e,hr⟩:=Ci ha hb h
 unfold Fl.kn Fl.add
 rw [e];exact ⟨rfl,hr⟩
theorem W.sub {a b:Nat} {x y:Int} (ha:W a x) (hb:W b y) (h:(x - y).natAbs≤9007199254740992):Fl.qN a b=true∧W (Fl.sub a b) (x - y):=by
 obtain ⟨r,e,hr⟩:=A8 ha hb h
 unfold Fl.qN Fl.sub
 rw [e];exact ⟨rfl,hr⟩
theorem W.mul {a b:Nat} {x y:Int} (ha:W a x) (hb:W b y) (h:(x * y).natAbs≤9007199254740992):Fl.nn a b=true∧W (Fl.mul a b) (x * y):=by
 obtain ⟨r,e,hr⟩:=BB ha hb h
 unfold Fl.nn Fl.mul
 rw [e];exact ⟨rfl,hr⟩
theorem W.eq {a b:Nat} {x y:Int} (ha:W a x) (hb:W b y):Fl.eq a b=decide (x=y):=by
 unfold Fl.eq
 rw [jr ha hb]
 rcases Int.lt_trichotomy x y with c | c | c
 ·rw [Int.compare_eq_lt.2 c,ab (by omega)];rfl
 ·subst c;simp
 ·rw [Int.compare_eq_gt.2 c,ab (by omega)];rfl
theorem W.lt {a b:Nat} {x y:Int} (ha:W a x) (hb:W b y):Fl.lt a b=decide (x<y):=by
 unfold Fl.lt
 rw [jr ha hb]
 rcases Int.lt_trichotomy x y with c | c | c
 ·rw [Int.compare_eq_lt.2 c,aa c];rfl
 ·subst c;simp
 ·rw [Int.compare_eq_gt.2 c,ab (by omega)];rfl
theorem W.gt {a b:Nat} {x y:Int} (ha:W a x) (hb:W b y):Fl.gt a b=decide (y<x):=by
 unfold Fl.gt
 rw [jr ha hb]
 rcases Int.lt_trichotomy x y with c | c | c
 ·rw [Int.compare_eq_lt.2 c,ab (by omega)];rfl
 ·subst c;simp
 ·rw [Int.compare_eq_gt.2 c,aa c];rfl
theorem PL:W 4719772409484279808 33554432:=by
 have e:Fl.ofInt 33554432=4719772409484279808:=by decide +kernel
 rw [←e];exact W.ofInt (by decide)
theorem MI:W 4841369599423283200 4503599627370496:=by
 have e:Fl.ofInt 4503599627370496=4841369599423283200:=by decide +kernel
 rw [←e];exact W.ofInt (by decide)
theorem MJ:W 4832362400168542208 1125899906842624:=by
 have e:Fl.ofInt 1125899906842624=4832362400168542208:=by decide +kernel
 rw [←e];exact W.ofInt (by decide)
theorem H9:W 14055734437023318016 (-1125899906842624):=by
 have e:Fl.ofInt (-1125899906842624)=14055734437023318016:=by decide +kernel
 rw [←e];exact W.ofInt (by decide)
theorem Ia:W 0 0:=by
 have e:Fl.ofInt 0=0:=by decide +kernel
 rw [←e];exact W.ofInt (by decide)
theorem Ri:W 4607182418800017408 1:=by
 have e:Fl.ofInt 1=4607182418800017408:=by decide +kernel
 rw [←e];exact W.ofInt (by decide)
theorem MH:W 13830554455654793216 (-1):=by
 have e:Fl.ofInt (-1)=13830554455654793216:=by decide +kernel
 rw [←e];exact W.ofInt (by decide)
end Fl
namespace Gz
theorem jS {z:Cx} {M:Nat}:tK z M=true ↔ In z M:=by classical exact (by unfold tK;exact decide_eq_true_iff)
theorem rz {l:Qd} {M:Nat}:wg l M=true ↔ Ig l M:=by classical exact (by unfold wg;exact decide_eq_true_iff)
theorem AH {l:Qd}:I8 l=true ↔ ∀k,k<4→Ro (part l (-1) k 4):=by unfold I8;simp only [aA]
theorem zD {z:Cx} {b M:Nat} (h:In z M) (hb:Fl.W b (M:Int)) (hM:M≤9007199254740992):I7 z b=true:=by
 classical
 unfold I7
 obtain ⟨x,y,h1,h2,h3⟩:=h
 exact aa ⟨x,y,M,h1,hb,by omega,by omega,by omega⟩
theorem In.le {z:Cx} {M N:Nat} (h:In z M) (hn:M≤N):In z N:=by
 obtain ⟨x,y,h1,h2,h3⟩:=h
 exact ⟨x,y,h1,by omega,by omega⟩
theorem zm {z w:Cx} {x y u v:Int} (hz:Is z x y) (hw:Is w u v) (h1:(x * u).natAbs≤2251799813685248) (h2:(y * v).natAbs≤2251799813685248) (h3:(x * v).natAbs≤2251799813685248) (h4:(y * u).natAbs≤2251799813685248) :
  Fl.nD z.1 z.2 w.1 w.2=true∧Is (mul z w) (x * u - y * v) (x * v+y * u):=by
 obtain ⟨a1,b1⟩:=Fl.W.mul hz.1 hw.1 (by omega)
 obtain ⟨a2,b2⟩:=Fl.W.mul hz.2 hw.2 (by omega)
 obtain ⟨a3,b3⟩:=Fl.W.sub b1 b2 (by omega)
 obtain ⟨a4,b4⟩:=Fl.W.mul hz.1 hw.2 (by omega)
 obtain ⟨a5,b5⟩:=Fl.W.mul hz.2 hw.1 (by omega)
 obtain ⟨a6,b6⟩:=Fl.W.add b4 b5 (by omega)
 refine ⟨?_,b3,b6⟩
 unfold Fl.nD
 rw [a1,a2,a3,a4,a5,a6];rfl
theorem zV {z w:Cx} {x y u v:Int} (hz:Is z x y) (hw:Is w u v) (h1:(x+u).natAbs≤9007199254740992) (h2:(y+v).natAbs≤9007199254740992):(Fl.kn z.1 w.1&&Fl.kn z.2 w.2)=true∧Is (add z w) (x+u) (y+v):=by
 obtain ⟨a1,b1⟩:=Fl.W.add hz.1 hw.1 h1
 obtain ⟨a2,b2⟩:=Fl.W.add hz.2 hw.2 h2
 rw [a1,a2]
 exact ⟨rfl,b1,b2⟩
def pI (k:Int):Int:=if k % 4=0 then 1 else if k % 4=2 then -1 else 0
def pJ (k:Int):Int:=if k % 4=1 then 1 else if k % 4=3 then -1 else 0
theorem lP (k:Int):pI k=0∨pI k=1∨pI k=-1:=by
 unfold pI
 split
 ·simp
 ·split <;> simp
theorem lQ (k:Int):pJ k=0∨pJ k=1∨pJ k=-1:=by
 unfold pJ
 split
 ·simp
 ·split <;> simp
theorem FF (k:Int):Is (unit k) (pI k) (pJ k):=by
 have h:k % 4=0∨k % 4=1∨k % 4=2∨k % 4=3:=by omega
 unfold unit pI pJ
 rcases h with h | h | h | h <;> rw [h]
 ·exact ⟨Fl.Ri,Fl.Ia⟩
 ·exact ⟨Fl.Ia,Fl.Ri⟩
 ·exact ⟨Fl.MH,Fl.Ia⟩
 ·exact ⟨Fl.Ia,Fl.MH⟩
theorem vd {z:Cx} {x y:Int} (k:Int) (hz:Is z x y) (hx:x.natAbs≤1125899906842624) (hy:y.natAbs≤1125899906842624) :
  Fl.nD z.1 z.2 (unit k).1 (unit k).2=true∧Is (nU z k) (x * pI k - y * pJ k) (x * pJ k+y * pI k):=by
 have hu:=FF k
 have h1:pI k=0∨pI k=1∨pI k=-1:=lP k
 have h2:pJ k=0∨pJ k=1∨pJ k=-1:=lQ k
 refine zm hz hu ?_ ?_ ?_ ?_
 ·rcases h1 with e | e | e <;> rw [e] <;> omega
 ·rcases h2 with e | e | e <;> rw [e] <;> omega
 ·rcases h2 with e | e | e <;> rw [e] <;> omega
 ·rcases h1 with e | e | e <;> rw [e] <;> omega
theorem z7 {z:Cx} {k:Int} (h:In z 1125899906842624):In (nU z k) 2251799813685248:=by
 obtain ⟨x,y,hz,hx,hy⟩:=h
 refine ⟨_,_,(vd k hz hx hy).2,?_,?_⟩
 all_goals
  have h1:pI k=0∨pI k=1∨pI k=-1:=lP k
  have h2:pJ k=0∨pJ k=1∨pJ k=-1:=lQ k
  rcases h1 with e | e | e <;> rcases h2 with f | f | f <;> rw [e,f] <;> omega
end Gz
theorem dt.goal (x:Nat) (hp:(Fl.num x)=true):dt.F x=some [.c (.float .f64 (Fl.jW x))]:=by
 rw [dt.eJ,ai,hp];rfl
theorem fu.goal (z:Cx) (hp:(Gz.tK z 33554432)=true):fu.F z=some [.b true]:=by
 rw [fu.eJ,Gz.zD (Gz.jS.1 hp) Fl.PL (by omega)];rfl
theorem jh.goal (x y:Int) (hp:decide (-33554432≤x∧x≤33554432∧-33554432≤y∧y≤33554432)=true):jh.F x y=some [.c (.complex .f64 ((Fl.ofInt x,Fl.ofInt y):Cx).1 ((Fl.ofInt x,Fl.ofInt y):Cx).2)]:=by
 obtain ⟨h1,h2,h3,h4⟩:=ar hp
 refine jh.bZ _ _ ?_
 intro v1 e1 v2 e2 v3 e3 v4 e4
 have d1:v1=false:=by rw [e1,ab (by omega),ae];exact ab (by omega)
 have d2:v2=false:=by rw [e2,d1,ae];exact ab (by omega)
 have d3:v3=false:=by rw [e3,d2,ae];exact ab (by omega)
 simp only [aR,bm,Bool.not_not,bQ]
 rw [d3,ae,e4]
theorem eG.goal (z:Cx) (hp:(Gz.tK z 4503599627370496)=true):eG.F z=some [.i .i64 (Fl.toInt z.1),.i .i64 (Fl.toInt z.2),.b true]:=by
 have h:=Gz.jS.1 hp
 have hm:=Gz.zD h Fl.MI (by omega)
 obtain ⟨x,y,hz,hx,hy⟩:=h
 rw [eG.eJ,hm,(hz.1.toInt (by omega)).1,(hz.2.toInt (by omega)).1];rfl
theorem Fa (k:Int) (h1 : -100≤k) (h2:k≤100):cI .and .i64 k 3=k % 4:=by
 have:∀n:Nat,n<201→cI .and .i64 ((n:Int) - 100) 3=((n:Int) - 100) % 4:=by decide +kernel
 have:=this (k+100).toNat (by omega)
 rwa [show (((k+100).toNat:Nat):Int) - 100=k by omega] at this
theorem gj.goal (z:Cx) (k:Int) (hp:(Gz.tK z 1125899906842624&&decide (-100≤k∧k≤100))=true):gj.F z k=some [.c (.complex .f64 (Gz.nU z k).1 (Gz.nU z k).2)]:=by
 simp only [ah,aA] at hp
 obtain ⟨h,k1,k2⟩:=hp
 have h:=Gz.jS.1 h
 have hm:=Gz.zD (h.le (show 1125899906842624≤4503599627370496 by omega)) Fl.MI (by omega)
 obtain ⟨x,y,hz,hx,hy⟩:=h
 obtain ⟨c1,_⟩:=Gz.vd k hz hx hy
 refine gj.bZ _ _ ?_
 intro v1 h1 v2 h2 v3 h3 v4 h4 v5 h5 v6 h6 v7 h7
 rw [Fa k k1 k2] at h5
 have e6:v6=Gz.unit k:=by rw [h6,h1,h2,h3,h4,h5];rfl
 rw [hm,bQ,aH,ae,bw (bK (by omega) (by omega)),bw (aa (by omega)),e6,c1,bQ,h7,e6]
 rfl
theorem fv.goal (z w:Cx) (hp:(Gz.tK z 33554432&&Gz.tK w 33554432)=true):fv.F z w=some [.c (.complex .f64 (Gz.mul z w).1 (Gz.mul z w).2)]:=by
 simp only [ah] at hp
 obtain ⟨x,y,hz,hx,hy⟩:=Gz.jS.1 hp.1
 obtain ⟨u,v,hw,hu,hv⟩:=Gz.jS.1 hp.2
 have hm:∀a b:Int,a.natAbs≤33554432→b.natAbs≤33554432→(a * b).natAbs≤2251799813685248:=fun a b h1 h2=>by
  rw [Int.natAbs_mul]
  exact Nat.le_trans (Nat.mul_le_mul h1 h2) (by omega)
 obtain ⟨c1,_⟩:=Gz.zm hz hw (hm _ _ hx hu) (hm _ _ hy hv) (hm _ _ hx hv) (hm _ _ hy hu)
 refine fv.bZ _ _ ?_
 intro v1 h1 v2 h2
 have e1:v1=false:=h1
 rw [hp.1,hp.2,c1,e1,h2]
 rfl
theorem gf.goal (x:Nat) (hp:(Gz.HD x)=true):gf.F x=some [.b true]:=by
 classical
 unfold Gz.HD at hp
 obtain ⟨n,hn,hb⟩:=ar hp
 refine gf.bZ _ ?_
 intro v1 h1 v2 h2 v3 h3
 have e1:v1=true:=by
  rw [h1,hn.gt Fl.H9,hn.eq Fl.H9]
  rcases Int.lt_or_eq_of_le (show (-1125899906842624:Int)≤n by omega) with c | c
  ·rw [aa c];rfl
  ·rw [aa c.symm,Bool.or_true]
 have e2:v2=true:=by
  rw [h2,hn.lt Fl.MJ,hn.eq Fl.MJ]
  rcases Int.lt_or_eq_of_le (show n≤(1125899906842624:Int) by omega) with c | c
  ·rw [aa c];rfl
  ·rw [aa c,Bool.or_true]
 have e3:v3=true:=by rw [h3,e1,e2,ai,ai,hn.eq (hn.jW (by omega)),aa rfl]
 rw [e1,e2,e3,hn.num]
 rfl
theorem Gz.In.parts {z:Cx} (h:Gz.In z 1125899906842624):Gz.HD z.1=true∧Gz.HD z.2=true:=by
 obtain ⟨x,y,h1,h2,h3⟩:=h
 classical
 unfold Gz.HD
 exact ⟨aa ⟨x,h1.1,h2⟩,aa ⟨y,h1.2,h3⟩⟩
theorem Gz.Ig.get {l:Qd} {M:Nat} (h:Gz.Ig l M) (i:Nat) (hi:i<4):Gz.In (l.get i) M:=by
 obtain ⟨a,b,c,d⟩:=h
 have:i=0∨i=1∨i=2∨i=3:=by omega
 rcases this with rfl | rfl | rfl | rfl
 ·exact a
 ·exact b
 ·exact c
 ·exact d
theorem wv_fit.cW (l:Qd) (h:Gz.Ig l 1125899906842624):∀(m i:Nat),i+m=4→wv_fit.l1 l i=some [.b true]:=by
 intro m
 induction m with
 | zero =>
  intro i hi
  refine wv_fit.bV _ _ ?_
  intro v1 h1 v2 h2
  rw [ab (by omega),ae]
 | succ m ih =>
  intro i hi
  refine wv_fit.bV _ _ ?_
  intro v1 h1 v2 h2
  have e1:v1=false:=h1
  have e2:v2=((i+1:Nat):Int):=by rw [h2,i64_in _ (by omega)];omega
  obtain ⟨p1,p2⟩:=(h.get i (by omega)).parts
  rw [aa (by omega),ai,bw (bK (by omega) (by omega)),aj,p1,p2,e1,e2]
  exact ih (i+1) (by omega)
theorem wv_fit.goal (l:Qd) (hp:(Gz.wg l 1125899906842624)=true):wv_fit.F l=some [.b true]:=by
 rw [wv_fit.eJ];exact wv_fit.cW l (Gz.rz.1 hp) 4 0 (by omega)
theorem gg.goal (l:Qd) (hp:(Gz.wg l 1125899906842624)=true):gg.F l=some [.ag (Qd.cells (Gz.mh l 1))]:=by
 rw [gg.eJ,hp];rfl
end Go.Eng
set_option maxRecDepth 20000
namespace Go.Eng
open Go.IntWalk
theorem Qd.GM (q:Qd) (k:Nat) (x:Cx) (hk:k<4):(q.set k x).get k=x:=by
 have:k=0∨k=1∨k=2∨k=3:=by omega
 rcases this with rfl | rfl | rfl | rfl <;> rfl
theorem Qd.set_set (q:Qd) (k:Nat) (x y:Cx) (hk:k<4):(q.set k x).set k y=q.set k y:=by
 have:k=0∨k=1∨k=2∨k=3:=by omega
 rcases this with rfl | rfl | rfl | rfl <;> rfl
theorem Qd.FX (q:Qd) (k:Nat) (hk:k<4):q.set k (q.get k)=q:=by
 have:k=0∨k=1∨k=2∨k=3:=by omega
 rcases this with rfl | rfl | rfl | rfl <;> rfl
theorem Gz.Aq {l:Qd} (h:Gz.Ig l 1125899906842624) (w:Int) (k:Nat):∀j,j≤4→Gz.In (Gz.part l w k j) (j * 2251799813685248)
 | 0,_=>⟨0,0,⟨Fl.Ia,Fl.Ia⟩,by omega,by omega⟩
 | j+1,hj=>by
  obtain ⟨x,y,h1,h2,h3⟩:=Gz.Aq h w k j (by omega)
  obtain ⟨u,v,g1,g2,g3⟩:=Gz.z7 (k:=j * k * w) (h.get j (by omega))
  obtain ⟨_,e⟩:=Gz.zV h1 g1 (by omega) (by omega)
  exact ⟨_,_,e,by omega,by omega⟩
theorem cF.ju (l:Qd) (w:Int) (h:Gz.Ig l 1125899906842624) (hw:w=1∨w=-1) (k:Nat) (hk:k<4) (Z:Qd):∀(m j:Nat) (acc:Qd),j+m=4→acc.get k=Gz.part l w k j →
  cF.l2 w k k l j l Z acc=cF.l1 w ((k+1:Nat):Int) l Z (acc.set k (Gz.part l w k 4)):=by
 intro m
 induction m with
 | zero =>
  intro j acc hj ha
  refine cF.iw _ _ _ _ _ _ _ _ ?_
  intro v1 h1 v2 h2 v3 h3 v4 h4 v5 h5
  obtain rfl:j=4:=by omega
  rw [ab (by omega),ae,←ha,Qd.FX _ _ hk,h5,i64_in _ (by omega)];rfl
 | succ m ih =>
  intro j acc hj ha
  refine cF.iw _ _ _ _ _ _ _ _ ?_
  intro v1 h1 v2 h2 v3 h3 v4 h4 v5 h5
  rw [aj] at h2 h3
  have Qq:((j:Int) * (k:Int))=((j * k:Nat):Int):=by rw [Int.natCast_mul]
  have SS:j * k≤3 * 3:=Nat.mul_le_mul (by omega) (by omega)
  have e1:v1=(j:Int) * k * w:=by
   rw [h1,Qq,i64_in ((j * k:Nat):Int) (by omega)]
   rcases hw with rfl | rfl <;> rw [i64_in _ (by omega)]
  have b1 : -100≤v1∧v1≤100:=by
   rw [e1,Qq]
   rcases hw with rfl | rfl <;> omega
  have e2:v2=Gz.nU (l.get j) ((j:Int) * k * w):=by rw [h2,e1]
  rw [ha] at h3
  obtain ⟨x,y,p1,p2,p3⟩:=Gz.Aq h w k j (by omega)
  obtain ⟨u,v,g1,g2,g3⟩:=Gz.z7 (k:=(j:Int) * k * w) (h.get j (by omega))
  obtain ⟨c1,_⟩:=Gz.zV p1 g1 (by omega) (by omega)
  have e3:v3=Gz.part l w k (j+1):=by rw [h3,e2];rfl
  have e4:v4=((j+1:Nat):Int):=by rw [h4,i64_in _ (by omega)];omega
  have x1:bB (j:Int) 4=true:=bK (by omega) (by omega)
  have x2:bB (k:Int) 4=true:=bK (by omega) (by omega)
  have x3:decide ((k:Int).toNat<4)=true:=aa (by omega)
  rw [aa (show (j:Int)<4 by omega),ai,x1,x2,x3,aj,aj,Gz.jS.2 (h.get j (by omega)),aa b1,ha,e2,c1,e3,e4]
  simp only [aY,bQ]
  rw [ih (j+1) (acc.set k (Gz.part l w k (j+1))) (by omega) (Qd.GM _ _ _ hk),Qd.set_set _ _ _ _ hk]
theorem cF.goal (l:Qd) (w:Int) (hp:(Gz.wg l 1125899906842624&&decide (w=1∨w=-1))=true):cF.F l w=some [.ag (Qd.cells (Gz.mh l w))]:=by
 simp only [ah,aA] at hp
 obtain ⟨h,hw⟩:=hp
 have h:=Gz.rz.1 h
 have st:∀(k:Nat) (Z acc:Qd),k<4→acc.get k=(0,0)→cF.l1 w k l Z acc=cF.l1 w ((k+1:Nat):Int) l Z (acc.set k (Gz.part l w k 4)):=fun k Z acc hk ha=>by
  rw [cF.Hw,aa (by omega),ai]
  exact cF.ju l w h hw k hk Z 4 0 acc (by omega) (by rw [ha];rfl)
 rw [cF.eJ]
 refine (st 0 _ _ (by omega) rfl).trans ?_
 refine (st 1 _ _ (by omega) rfl).trans ?_
 refine (st 2 _ _ (by omega) rfl).trans ?_
 refine (st 3 _ _ (by omega) rfl).trans ?_
 rw [cF.Hw,ab (by decide),ae]
 rfl
theorem Gz.rR (l:Qd) (w:Int) (k:Nat) (hk:k<4):(Gz.mh l w).get k=Gz.part l w k 4:=by
 have:k=0∨k=1∨k=2∨k=3:=by omega
 rcases this with rfl | rfl | rfl | rfl <;> rfl
theorem dN.goal (l:Qd) (hp:(Gz.wg l 1125899906842624&&Gz.I8 l)=true):dN.F l=some [.ag (Qd.cells (Gz.back l)),.b true]:=by
 simp only [ah] at hp
 obtain ⟨h,h4⟩:=hp
 have hq:=h
 have h4:=Gz.AH.1 h4
 rw [dN.eJ,hq,bQ,aH,ae,Bool.true_and,bw (aa (.inr rfl))]
 have st:∀(k:Nat) (Y acc:Qd),k<4→dN.l1 (Gz.mh l (-1)) k Y acc=dN.l1 (Gz.mh l (-1)) ((k+1:Nat):Int) Y (acc.set k (Gz.quarter (Gz.part l (-1) k 4))):=fun k Y acc hk=>by
  refine dN.bV _ _ _ _ ?_
  intro v1 h1 v2 h2 v3 h3 v4 QU v5 h5 v6 h6 v7 h7 v8 h8
  rw [aj,Gz.rR l _ k hk] at h1 h2
  obtain ⟨x,y,p1,p2,p3⟩:=h4 k hk
  have e1:v1=4 * x:=by rw [h1];exact (p1.1.toInt (by omega)).2
  have e2:v2=4 * y:=by rw [h2];exact (p1.2.toInt (by omega)).2
  have m1:Int.tmod v1 4=0:=by rw [e1];exact Int.mul_tmod_right _ _
  have m2:Int.tmod v2 4=0:=by rw [e2];exact Int.mul_tmod_right _ _
  have e3:v3=false:=by rw [h3,m1];rfl
  have e4:v4=false:=by rw [QU,e3,m2];rfl
  have d1:Int.tdiv v1 4=x:=by rw [e1];exact Int.mul_tdiv_cancel_left _ (by omega)
  have d2:Int.tdiv v2 4=y:=by rw [e2];exact Int.mul_tdiv_cancel_left _ (by omega)
  have e5:v5=Int.tdiv v1 4:=by rw [h5,i64_in _ (by rw [d1];omega)]
  have e6:v6=Int.tdiv v2 4:=by rw [h6,i64_in _ (by rw [d2];omega)]
  have e8:v8=((k+1:Nat):Int):=by rw [h8,i64_in _ (by omega)];omega
  have e7:v7=Gz.quarter (Gz.part l (-1) k 4):=by rw [h7,e5,e6,h1,h2];rfl
  have x1:bB (k:Int) 4=true:=bK (by omega) (by omega)
  have x2:decide ((k:Int).toNat<4)=true:=aa (by omega)
  have b1:Gz.tK (Gz.part l (-1) k 4) 4503599627370496=true:=Gz.jS.2 ⟨_,_,p1,by omega,by omega⟩
  rw [aa (show (k:Int)<4 by omega),ai,x1,x2,aj,Gz.rR l _ k hk,b1,e3,e4,e7,e8]
  rfl
 refine (st 0 _ _ (by omega)).trans ?_
 refine (st 1 _ _ (by omega)).trans ?_
 refine (st 2 _ _ (by omega)).trans ?_
 refine (st 3 _ _ (by omega)).trans ?_
 refine dN.bV _ _ _ _ ?_
 intro v1 h1 v2 h2 v3 h3 v4 QU v5 h5 v6 h6 v7 h7 v8 h8
 rw [ab (by decide),ae]
 rfl
theorem Gz.po {l:List Int} (h:Gz.ie l=true) (i:Nat) (hi:i<l.length):0≤l.getD i 0∧l.getD i 0≤65535:=by
 unfold Gz.ie at h
 rw [af,aq hi]
 simpa using aC.1 h _ (List.getElem_mem hi)
theorem cJ.cW (l:List Int) (h:Gz.ie l=true) (hl:l.length≤256):∀(m i:Nat),i+m=l.length→cJ.l1 l l l.length i=some [.b true]:=by
 intro m
 induction m with
 | zero =>
  intro i hi
  refine cJ.bV _ _ _ _ ?_
  intro v1 h1 v2 h2 v3 h3
  rw [ab (by omega),ae,aa (by omega)]
 | succ m ih =>
  intro i hi
  refine cJ.bV _ _ _ _ ?_
  intro v1 h1 v2 h2 v3 h3
  rw [aj] at h1
  have hd:=Gz.po h i (by omega)
  rw [←h1] at hd
  have e2:v2=false:=by rw [h2,ab (by omega),ae];exact ab (by omega)
  have e3:v3=((i+1:Nat):Int):=by rw [h3,i64_in _ (by omega)];omega
  simp only [aR,bm,Bool.not_not,bQ]
  rw [aa (by omega),ai,bw (bK (by omega) (by omega)),e2,ae,e3]
  exact ih (i+1) (by omega)
theorem cJ.goal (l:List Int) (hp:(decide (l.length≤256)&&Gz.ie l)=true):cJ.F l=some [.b true]:=by
 simp only [ah,aA] at hp
 rw [cJ.eJ];exact cJ.cW l hp.2 hp.1 l.length 0 (by omega)
theorem Gz.zh {a:Int} (h:0≤a∧a≤65535):Gz.Is (Gz.wc a) a 0:=⟨Fl.W.ofInt (by omega),Fl.W.ofInt (n:=0) (by decide)⟩
theorem Gz.zi {a:Int} (h:0≤a∧a≤65535):Gz.In (Gz.wc a) 1125899906842624:=⟨_,_,Gz.zh h,by omega,by omega⟩
theorem Gz.ra:Gz.Is (0,0) 0 0:=⟨Fl.Ia,Fl.Ia⟩
theorem Gz.oD:Gz.In (0,0) 1125899906842624:=⟨_,_,Gz.ra,by omega,by omega⟩
theorem Gz.zg (l:List Int) (i:Nat) (h:i<l.length):Gz.gS (l.drop i)=(if i+1<l.length then Gz.mh ⟨Gz.wc (l.getD i 0),Gz.wc (l.getD (i+1) 0),(0,0),(0,0)⟩ 1 else Gz.mh ⟨Gz.wc (l.getD i 0),(0,0),(0,0),(0,0)⟩ 1) :: Gz.gS (l.drop (i+2)):=by
 rw [drop_cons h 0]
 by_cases c:i+1<l.length
 ·rw [drop_cons c 0,Gz.gS,aw c]
 ·rw [aE (i:=i+1) (by omega),aE (i:=i+2) (by omega),Gz.gS,au c];rfl
theorem cw.cW (l:List Int) (h:Gz.ie l=true) (hl:l.length≤256):∀(m i:Nat) (acc:List Qd),l.length≤i+2 * m→i≤300→acc.length≤i→cw.l1 l acc i=some [.sl .qd (acc++Gz.gS (l.drop i))]:=by
 intro m
 induction m with
 | zero =>
  intro i acc hi Np ha
  refine cw.bV _ _ _ ?_
  intro v1 h1 v2 h2 v3 h3 v4 h4 v5 h5 v6 h6
  rw [ab (by omega),ae,aE (by omega),Gz.gS,bj]
 | succ m ih =>
  intro i acc hi Np ha
  refine cw.bV _ _ _ ?_
  intro v1 h1 v2 h2 v3 h3 v4 h4 v5 h5 v6 h6
  by_cases c0:i<l.length
  ·rw [aj] at h1
   have e3:v3=((i+1:Nat):Int):=by rw [h3,i64_in _ (by omega)];omega
   rw [e3,aj] at h4
   have hd:=Gz.po h i (by omega)
   rw [←h1] at hd
   have jn:∀q:Qd,Gz.Ig q 1125899906842624→cw.j2 l acc i q=some [.sl .qd (acc++[Gz.mh q 1]++Gz.gS (l.drop (i+2)))]:=fun q hq=>by
    refine cw.jg _ _ _ _ ?_
    intro u1 g1 u2 g2
    have e2:u2=((i+2:Nat):Int):=by rw [g2,i64_in _ (by omega)];omega
    rw [Gz.rz.2 hq,bQ,bw (dW (by rw [az];omega) (by rw [az];omega)),g1,e2]
    exact ih (i+2) _ (by omega) (by omega) (by rw [ao,az];omega)
   rw [aa (by omega),ai,bw (bK (by omega) (by omega)),bw (aa (by omega)),Gz.zg l i c0]
   by_cases c:i+1<l.length
   ·have hd2:=Gz.po h (i+1) c
    rw [←h4] at hd2
    rw [e3,aa (by omega),ai,bw (bK (by omega) (by omega)),bw (aa (by omega)),bw (bK (by omega) (by omega)),bw (by decide),aw c]
    have e6:v6=⟨Gz.wc v1,Gz.wc v4,(0,0),(0,0)⟩:=by rw [h6,h5,h2];rfl
    rw [e6,jn _ ⟨Gz.zi hd,Gz.zi hd2,Gz.oD,Gz.oD⟩,←h1,←h4,aG];rfl
   ·rw [e3,ab (by omega),ae,au c]
    have e6:(Qd.mk v2 (0,0) (0,0) (0,0))=⟨Gz.wc v1,(0,0),(0,0),(0,0)⟩:=by rw [h2];rfl
    rw [e6,jn _ ⟨Gz.zi hd,Gz.oD,Gz.oD,Gz.oD⟩,←h1,aG];rfl
  ·rw [ab (by omega),ae,aE (by omega),Gz.gS,bj]
theorem cw.goal (l:List Int) (hp:(decide (l.length≤256)&&Gz.ie l)=true):cw.F l=some [.sl .qd (Gz.gS l)]:=by
 simp only [ah,aA] at hp
 rw [cw.eJ]
 have:=cw.cW l hp.2 hp.1 l.length 0 [] (by omega) (by omega) (by simp)
 rw [bh,bq] at this
 exact this
end Go.Eng
set_option maxRecDepth 20000
namespace Go.Eng
open Go.IntWalk
namespace Gz
def pre (X Y:Nat→Int) (w:Int) (k:Nat):Nat→Int
 | 0=>0
 | j+1=>pre X Y w k j+(X j * pI (j * k * w) - Y j * pJ (j * k * w))
def F6 (X Y:Nat→Int) (w:Int) (k:Nat):Nat→Int
 | 0=>0
 | j+1=>F6 X Y w k j+(X j * pJ (j * k * w)+Y j * pI (j * k * w))
theorem vk {l:Qd} {X Y:Nat→Int} {w:Int} {k:Nat} (h:∀j,j<4→Is (l.get j) (X j) (Y j)∧(X j).natAbs≤1125899906842624∧(Y j).natAbs≤1125899906842624) :
  ∀j,j≤4→Is (part l w k j) (pre X Y w k j) (F6 X Y w k j)∧(pre X Y w k j).natAbs≤j * 2251799813685248∧(F6 X Y w k j).natAbs≤j * 2251799813685248
 | 0,_=>⟨ra,by show (0:Int).natAbs≤_;omega,by show (0:Int).natAbs≤_;omega⟩
 | j+1,hj=>by
  obtain ⟨i1,i2,i3⟩:=vk (w:=w) (k:=k) h j (by omega)
  obtain ⟨g1,g2,g3⟩:=h j (by omega)
  have t:=(vd (j * k * w) g1 g2 g3).2
  have b1:(X j * pI (j * k * w) - Y j * pJ (j * k * w)).natAbs≤2251799813685248:=by
   rcases lP (j * k * w) with e | e | e <;> rcases lQ (j * k * w) with f | f | f <;> rw [e,f] <;> omega
  have b2:(X j * pJ (j * k * w)+Y j * pI (j * k * w)).natAbs≤2251799813685248:=by
   rcases lP (j * k * w) with e | e | e <;> rcases lQ (j * k * w) with f | f | f <;> rw [e,f] <;> omega
  show Is (add (part l w k j) (nU (l.get j) (j * k * w))) (pre X Y w k j+(X j * pI (j * k * w) - Y j * pJ (j * k * w))) (F6 X Y w k j+(X j * pJ (j * k * w)+Y j * pI (j * k * w)))∧(pre X Y w k j+(X j * pI (j * k * w) - Y j * pJ (j * k * w))).natAbs≤_∧(F6 X Y w k j+(X j * pJ (j * k * w)+Y j * pI (j * k * w))).natAbs≤_
  generalize X j * pI (j * k * w) - Y j * pJ (j * k * w)=A at *
  generalize X j * pJ (j * k * w)+Y j * pI (j * k * w)=B at *
  exact ⟨(zV i1 t (by omega) (by omega)).2,by omega,by omega⟩
def dg (x:Int):Prop:=0≤x∧x≤65535
def two (a b:Int):Qd:=mh ⟨wc a,wc b,(0,0),(0,0)⟩ 1
def rx (a b:Int) (k:Nat):Int:=a+b * pI k
def ry (b:Int) (k:Nat):Int:=b * pJ k
theorem yN {a b:Int} (ha:dg a) (hb:dg b) (k:Nat) (hk:k<4):Is ((two a b).get k) (rx a b k) (ry b k):=by
 unfold two
 rw [rR _ _ _ hk]
 have h:=(vk (l:=⟨wc a,wc b,(0,0),(0,0)⟩) (w:=1) (k:=k) (X:=fun j=>[a,b].getD j 0) (Y:=fun _=>0) (fun j hj=>by
  have:j=0∨j=1∨j=2∨j=3:=by omega
  obtain ⟨a1,a2⟩:=ha
  obtain ⟨b1,b2⟩:=hb
  rcases this with rfl | rfl | rfl | rfl
  ·exact ⟨zh ⟨a1,a2⟩,by show a.natAbs≤_;omega,by decide⟩
  ·exact ⟨zh ⟨b1,b2⟩,by show b.natAbs≤_;omega,by decide⟩
  ·exact ⟨ra,by show (0:Int).natAbs≤_;omega,by show (0:Int).natAbs≤_;omega⟩
  ·exact ⟨ra,by show (0:Int).natAbs≤_;omega,by show (0:Int).natAbs≤_;omega⟩) 4 (by omega)).1
 have e1:pre (fun j=>[a,b].getD j 0) (fun _=>0) 1 k 4=rx a b k:=by simp [pre,rx,pI]
 have e2:F6 (fun j=>[a,b].getD j 0) (fun _=>0) 1 k 4=ry b k:=by simp [F6,ry,pJ]
 rw [e1,e2] at h
 exact h
theorem C2 {a b:Int} (ha:dg a) (hb:dg b) (k:Nat):(rx a b k).natAbs≤131070:=by
 obtain ⟨a1,a2⟩:=ha
 obtain ⟨b1,b2⟩:=hb
 unfold rx
 rcases lP k with e | e | e <;> rw [e] <;> omega
theorem C1 {b:Int} (hb:dg b) (k:Nat):(ry b k).natAbs≤65535:=by
 obtain ⟨b1,b2⟩:=hb
 unfold ry
 rcases lQ k with e | e | e <;> rw [e] <;> omega
def oc (x y:Qd):Qd:=⟨mul (x.get 0) (y.get 0),mul (x.get 1) (y.get 1),mul (x.get 2) (y.get 2),mul (x.get 3) (y.get 3)⟩
def zx (a b c d:Int) (k:Nat):Int:=rx a b k * rx c d k - ry b k * ry d k
def zy (a b c d:Int) (k:Nat):Int:=rx a b k * ry d k+ry b k * rx c d k
theorem Bq (x y:Qd) (k:Nat) (hk:k<4):(oc x y).get k=mul (x.get k) (y.get k):=by
 have:k=0∨k=1∨k=2∨k=3:=by omega
 rcases this with rfl | rfl | rfl | rfl <;> rfl
theorem qe {a b:Int} {m n:Nat} (h1:a.natAbs≤m) (h2:b.natAbs≤n):(a * b).natAbs≤m * n:=by
 rw [Int.natAbs_mul];exact Nat.mul_le_mul h1 h2
theorem CB {a b:Int} (ha:dg a) (hb:dg b) (k:Nat) (hk:k<4):In ((two a b).get k) 33554432 :=
 ⟨_,_,yN ha hb k hk,by have:=C2 ha hb k;omega,by have:=C1 hb k;omega⟩
theorem An {a b c d:Int} (ha:dg a) (hb:dg b) (hc:dg c) (hd:dg d) (k:Nat) (hk:k<4) :
  Is ((oc (two a b) (two c d)).get k) (zx a b c d k) (zy a b c d k)∧(zx a b c d k).natAbs≤1125899906842624∧(zy a b c d k).natAbs≤1125899906842624:=by
 have x1:=C2 ha hb k
 have x2:=C1 hb k
 have x3:=C2 hc hd k
 have x4:=C1 hd k
 have y1:=qe x1 x3
 have y2:=qe x2 x4
 have y3:=qe x1 x4
 have y4:=qe x2 x3
 rw [Bq _ _ _ hk]
 refine ⟨(zm (yN ha hb k hk) (yN hc hd k hk) (by omega) (by omega) (by omega) (by omega)).2,?_,?_⟩
 ·unfold zx;omega
 ·unfold zy;omega
def co (a b c d:Int) (k:Nat):Int:=if k=0 then a * c else if k=1 then a * d+b * c else if k=2 then b * d else 0
theorem yr (a b c d:Int) (k:Nat) (hk:k<4):pre (zx a b c d) (zy a b c d) (-1) k 4=4 * co a b c d k∧F6 (zx a b c d) (zy a b c d) (-1) k 4=4 * 0:=by
 have:k=0∨k=1∨k=2∨k=3:=by omega
 rcases this with rfl | rfl | rfl | rfl <;> constructor <;> simp [pre,F6,co,zx,zy,rx,ry,pI,pJ,Int.add_mul,Int.mul_add,Int.sub_mul,Int.mul_sub,Int.neg_mul,Int.mul_neg] <;> omega
theorem EM {a b c d:Int} (ha:dg a) (hb:dg b) (hc:dg c) (hd:dg d) (k:Nat):0≤co a b c d k∧co a b c d k≤8589672450:=by
 have m:∀{x y:Int},dg x→dg y→0≤x * y∧x * y≤4294836225:=fun {x y} h1 h2=>by
  have:=qe (a:=x) (b:=y) (m:=65535) (n:=65535) (by obtain ⟨_,_⟩:=h1;omega) (by obtain ⟨_,_⟩:=h2;omega)
  have h0:=Int.mul_nonneg h1.1 h2.1
  omega
 have m1:=m ha hc
 have m2:=m ha hd
 have m3:=m hb hc
 have m4:=m hb hd
 unfold co
 split
 ·omega
 ·split
  ·omega
  ·split <;> omega
theorem wS {a b c d:Int} (ha:dg a) (hb:dg b) (hc:dg c) (hd:dg d) (k:Nat) (hk:k<4):Is (part (oc (two a b) (two c d)) (-1) k 4) (4 * co a b c d k) (4 * 0):=by
 have h:=(vk (w:=-1) (k:=k) (fun j hj=>An ha hb hc hd j hj) 4 (by omega)).1
 rw [(yr a b c d k hk).1,(yr a b c d k hk).2] at h
 exact h
theorem E4 (l:Qd) (k:Nat) (hk:k<4):(back l).get k=quarter (part l (-1) k 4):=by
 have:k=0∨k=1∨k=2∨k=3:=by omega
 rcases this with rfl | rfl | rfl | rfl <;> rfl
theorem ze {z:Cx} {x y:Int} (h:Is z (4 * x) (4 * y)) (hx:x.natAbs≤562949953421312) (hy:y.natAbs≤562949953421312):Is (quarter z) x y:=by
 unfold quarter
 rw [(h.1.toInt (by omega)).2,(h.2.toInt (by omega)).2,Int.mul_tdiv_cancel_left _ (by omega),Int.mul_tdiv_cancel_left _ (by omega)]
 exact ⟨Fl.W.ofInt (by omega),Fl.W.ofInt (by omega)⟩
theorem Hb {a b c d:Int} (ha:dg a) (hb:dg b) (hc:dg c) (hd:dg d) (k:Nat) (hk:k<4):Is ((back (oc (two a b) (two c d))).get k) (co a b c d k) 0:=by
 rw [E4 _ _ hk]
 have:=EM ha hb hc hd k
 exact ze (wS ha hb hc hd k hk) (by omega) (by omega)
theorem F5 {a b c d:Int} (ha:dg a) (hb:dg b) (hc:dg c) (hd:dg d):(wg (oc (two a b) (two c d)) 1125899906842624&&I8 (oc (two a b) (two c d)))=true:=by
 have h:∀k,k<4→In ((oc (two a b) (two c d)).get k) 1125899906842624:=fun k hk=>by
  obtain ⟨h1,h2,h3⟩:=An ha hb hc hd k hk
  exact ⟨_,_,h1,h2,h3⟩
 rw [rz.2 ⟨h 0 (by omega),h 1 (by omega),h 2 (by omega),h 3 (by omega)⟩,AH.2 fun k hk=>?_]
 ·rfl
 ·have:=EM ha hb hc hd k
  exact ⟨_,_,wS ha hb hc hd k hk,by omega,by omega⟩
theorem jy:∀l:List Int,(gS l).length=(l.length+1) / 2
 | []=>rfl
 | [a]=>by simp [gS]
 | a :: b :: r=>by rw [gS,ay,jy r,ay,ay];omega
theorem Lv:wc 0=(0,0):=by
 have e:Fl.ofInt 0=0:=by decide +kernel
 unfold wc;rw [e]
theorem pZ (e:Qd):∀(l:List Int) (i:Nat),i<(l.length+1) / 2→(gS l).getD i e=two (l.getD (2 * i) 0) (l.getD (2 * i+1) 0)
 | [],i,h=>by simp at h
 | [a],i,h=>by
  obtain rfl:i=0:=by simp at h;omega
  show mh ⟨wc a,(0,0),(0,0),(0,0)⟩ 1=two a 0
  unfold two;rw [Lv]
 | a :: b :: r,0,h=>rfl
 | a :: b :: r,i+1,h=>by
  rw [ay,ay] at h
  have:=pZ e r i (by omega)
  rw [show 2 * (i+1)=2 * i+2 by omega]
  exact this
theorem rF {l:List Int} (h:ie l=true) (i:Nat):dg (l.getD i 0):=by
 by_cases c:i<l.length
 ·exact po h i c
 ·rw [af,List.getElem?_eq_none (by omega)];exact ⟨by decide,by decide⟩
end Gz
end Go.Eng
set_option maxRecDepth 20000
namespace Go.Eng
open Go.IntWalk
namespace Gz
def T (f g:Nat→Int) (m:Nat):Nat→Int
 | 0=>0
 | n+1=>T f g m n+if n≤m then f n * g (m - n) else 0
def U (f g:Nat→Int) (i n m:Nat):Int:=(if i≤m∧m - i<n then f i * g (m - i) else 0)+if i+1≤m∧m - (i+1)<n then f (i+1) * g (m - (i+1)) else 0
theorem J7 {x y:Int} (h1:dg x) (h2:dg y):0≤x * y∧x * y≤4294836225:=by
 have:=qe (a:=x) (b:=y) (m:=65535) (n:=65535) (by obtain ⟨_,_⟩:=h1;omega) (by obtain ⟨_,_⟩:=h2;omega)
 have h0:=Int.mul_nonneg h1.1 h2.1
 omega
theorem Ku {f g:Nat→Int} (hf:∀i,dg (f i)) (hg:∀i,dg (g i)) (m:Nat):∀n,0≤T f g m n∧T f g m n≤n * 4294836225
 | 0=>⟨Int.le_refl _,by show (0:Int)≤_;omega⟩
 | n+1=>by
  have h:=Ku hf hg m n
  have h2:=J7 (hf n) (hg (m - n))
  rw [T]
  split <;> omega
theorem PM {f g:Nat→Int} (hf:∀i,dg (f i)) (hg:∀i,dg (g i)) (i n m:Nat):0≤U f g i n m∧U f g i n m≤8589672450:=by
 have h1:=J7 (hf i) (hg (m - i))
 have h2:=J7 (hf (i+1)) (hg (m - (i+1)))
 unfold U
 split <;> split <;> omega
theorem TG (f g:Nat→Int) (i m:Nat):U f g i 0 m=0:=by
 unfold U
 rw [au (by omega),au (by omega)];rfl
theorem Ks (f g:Nat→Int) (i n m:Nat):U f g i (n+2) m=U f g i n m+if m=i+n then co (f i) (f (i+1)) (g n) (g (n+1)) 0 else if m=i+n+1 then co (f i) (f (i+1)) (g n) (g (n+1)) 1 else if m=i+n+2 then co (f i) (f (i+1)) (g n) (g (n+1)) 2 else 0:=by
 unfold U co
 by_cases c0:m=i+n
 ·subst c0
  rw [aw (by omega),aw rfl,aw rfl,au (show ¬(i≤i+n∧i+n - i<n) by omega),show i+n - i=n by omega]
  by_cases c:n=0
  ·rw [au (by omega),au (by omega)];omega
  ·rw [aw (by omega),aw (by omega)];omega
 ·rw [au c0]
  by_cases c1:m=i+n+1
  ·subst c1
   rw [aw (by omega),aw (by omega),aw rfl,au (show ¬(i≤i+n+1∧i+n+1 - i<n) by omega),au (show ¬(i+1≤i+n+1∧i+n+1 - (i+1)<n) by omega),show i+n+1 - i=n+1 by omega,show i+n+1 - (i+1)=n by omega,au (by omega),aw rfl];omega
  ·rw [au c1]
   by_cases c2:m=i+n+2
   ·subst c2
    rw [au (by omega),aw (by omega),aw rfl,au (show ¬(i≤i+n+2∧i+n+2 - i<n) by omega),au (show ¬(i+1≤i+n+2∧i+n+2 - (i+1)<n) by omega),show i+n+2 - (i+1)=n+1 by omega,au (by omega),au (by omega),aw rfl];omega
   ·rw [au c2]
    have e1:(i≤m∧m - i<n+2) ↔ (i≤m∧m - i<n):=by omega
    have e2:(i+1≤m∧m - (i+1)<n+2) ↔ (i+1≤m∧m - (i+1)<n):=by omega
    simp only [e1,e2,Int.add_zero]
theorem MM {f g:Nat→Int} {n:Nat} (hg:∀i,n≤i→g i=0) (i m:Nat):T f g m (i+2)=T f g m i+U f g i n m:=by
 rw [T,T,U]
 have e:∀k,(if k≤m then f k * g (m - k) else 0)=if k≤m∧m - k<n then f k * g (m - k) else 0:=fun k=>by
  by_cases c:k≤m
  ·by_cases d:m - k<n
   ·rw [aw c,aw ⟨c,d⟩]
   ·rw [aw c,au (by omega),hg _ (by omega),Int.mul_zero]
  ·rw [au c,au (by omega)]
 rw [e,e];omega
theorem Fi {f g:Nat→Int} {m n:Nat} (h:∀i,n≤i→i≤m→f i=0):∀k,T f g m (n+k)=T f g m n
 | 0=>rfl
 | k+1=>by
  rw [←Nat.add_assoc,T,Fi h k]
  split
  ·rw [h _ (by omega) (by omega),Int.zero_mul,Int.add_zero]
  ·rw [Int.add_zero]
theorem G3 (a b:List Int) (m:Nat):Cc a b m=T (a.getD · 0) (b.getD · 0) m (m+1):=by
 unfold Cc
 have:∀n,n≤m+1→(List.range n).foldl (fun s i=>s+a.getD i 0 * b.getD (m - i) 0) 0=T (a.getD · 0) (b.getD · 0) m n:=by
  intro n
  induction n with
  | zero=>intro _;rfl
  | succ n ih =>
   intro h
   rw [List.range_succ,List.foldl_append,ih (by omega),T,aw (by omega)];rfl
 exact this _ (Nat.le_refl _)
theorem zN (a b:List Int) (m n:Nat) (hn:a.length≤n):T (a.getD · 0) (b.getD · 0) m n=Cc a b m:=by
 rw [G3,←Fi (n:=n) (k:=m+1) (fun i h1 _=>by
  show a.getD i 0=0
  rw [af,List.getElem?_eq_none (by omega)];rfl),Nat.add_comm n (m+1),Fi (fun i h1 h2=>by omega)]
theorem vp {l:List Int} {n:Nat} (x:Int) (m:Nat) (h:n<l.length):(l.set n x).getD m 0=if m=n then x else l.getD m 0:=by
 rw [af,List.getElem?_set]
 by_cases c:n=m
 ·subst c;rw [aw rfl,aw h,aw rfl];rfl
 ·rw [au c,au (fun e=>c e.symm),af]
def grow (o:List Int) (p:Nat) (x y z:Int):List Int :=
 let o1:=o.set p (o.getD p 0+x)
 let o2:=o1.set (p+1) (o1.getD (p+1) 0+y)
 o2.set (p+2) (o2.getD (p+2) 0+z)
theorem D5 {o:List Int} {p:Nat} (x y z:Int) (h:p+2<o.length) (m:Nat):(grow o p x y z).getD m 0=o.getD m 0+if m=p then x else if m=p+1 then y else if m=p+2 then z else 0:=by
 unfold grow
 simp only
 have hl:∀(o:List Int) (n:Nat) (x:Int),p+2<o.length→p+2<(o.set n x).length:=fun o n x h=>by rw [List.length_set];exact h
 have q1:=hl o p (o.getD p 0+x) h
 rw [vp (n:=p+2) _ m (hl _ _ _ q1),vp (n:=p+1) _ m (by omega),vp (n:=p+1) _ (p+2) (by omega),vp (n:=p) _ m (by omega),vp (n:=p) _ (p+1) (by omega),vp (n:=p) _ (p+2) (by omega)]
 by_cases c0:m=p
 ·subst c0
  rw [au (by omega),au (by omega),aw rfl,aw rfl]
 ·by_cases c1:m=p+1
  ·subst c1
   rw [au (by omega),aw rfl,au (by omega),au (by omega),aw rfl]
  ·by_cases c2:m=p+2
   ·subst c2
    rw [aw rfl,au (by omega),au (by omega),au c0,au c1,aw rfl]
   ·rw [au c2,au c1,au c0,au c0,au c1,au c2,Int.add_zero]
theorem xK (o:List Int) (p:Nat) (x y z:Int):(grow o p x y z).length=o.length:=by
 unfold grow;simp
end Gz
open Gz
theorem bL.DG (x0 x1:List Int) (x2:List Qd) (x3 x4:Int) (x5:List Qd) (x6 x7:Int) (x8:List Qd) (x9 tw:Int) (o:List Int) (x y:Qd) (hx:∀k,k<4→In (x.get k) 33554432) (hy:∀k,k<4→In (y.get k) 33554432) (ho:(wg (oc x y) 1125899906842624&&I8 (oc x y))=true) :
  bL.l3 x0 x1 x2 x3 x4 x5 x6 x7 x8 x9 tw 0 x y ⟨(0,0),(0,0),(0,0),(0,0)⟩ o=bL.l4 x0 x1 x2 x3 x4 x5 x6 x7 x8 x9 tw 0 x (back (oc x y)) o:=by
 have st:∀(k:Nat) (z:Qd),k<4→bL.l3 x0 x1 x2 x3 x4 x5 x6 x7 x8 x9 tw k x y z o=bL.l3 x0 x1 x2 x3 x4 x5 x6 x7 x8 x9 tw ((k+1:Nat):Int) x y (z.set k (mul (x.get k) (y.get k))) o:=fun k z hk=>by
  refine bL.sJ _ _ _ _ _ _ _ _ _ _ _ _ _ _ _ _ ?_
  intro v1 h1 v2 h2 v3 h3
  have e3:v3=((k+1:Nat):Int):=by rw [h3,i64_in _ (by omega)];omega
  rw [aj] at h1 h2
  rw [aa (by omega),ai,bw (bK (by omega) (by omega)),bw (aa (by omega)),bw (bK (by omega) (by omega)),bw (aa (by omega)),aj,jS.2 (hx k hk),jS.2 (hy k hk),aY,bQ,bw (bK (by omega) (by omega)),bw (aa (by omega)),e3,h2,h1]
 refine (st 0 _ (by omega)).trans ?_
 refine (st 1 _ (by omega)).trans ?_
 refine (st 2 _ (by omega)).trans ?_
 refine (st 3 _ (by omega)).trans ?_
 refine bL.sJ _ _ _ _ _ _ _ _ _ _ _ _ _ _ _ _ ?_
 intro v1 h1 v2 h2 v3 h3
 rw [ab (by decide),ae]
 exact bw ho
theorem bL.DF (x0 x1:List Int) (x2:List Qd) (x3:Int) (i j:Nat) (x5:List Qd) (x6 x7:Int) (x8:List Qd) (x9:Int) (o:List Int) (x y:Qd) (c:Nat→Int) (hc:∀k,k<4→Is (y.get k) (c k) 0∧0≤c k∧c k≤8589672450) (hi:i≤128) (hj:j≤128) (ho:2 * i+2 * j+2<o.length) (hb:∀m,0≤o.getD m 0∧o.getD m 0≤1125899906842624) (Sn:x3=i) :
  bL.l4 x0 x1 x2 x3 j x5 x6 x7 x8 x9 j 0 x y o=bL.l2 x0 x1 x2 x3 x5 x6 x7 x8 x9 ((j+1:Nat):Int) x (grow o (2 * i+2 * j) (c 0) (c 1) (c 2)):=by
 have st:∀(k:Nat) (o:List Int),k<3→2 * i+2 * j+2<o.length→(0≤o.getD (2 * i+2 * j+k) 0∧o.getD (2 * i+2 * j+k) 0≤1125899906842624)→bL.l4 x0 x1 x2 x3 j x5 x6 x7 x8 x9 j k x y o=bL.l4 x0 x1 x2 x3 j x5 x6 x7 x8 x9 j ((k+1:Nat):Int) x y (o.set (2 * i+2 * j+k) (o.getD (2 * i+2 * j+k) 0+c k)):=fun k o hk ho hb=>by
  refine bL.xv _ _ _ _ _ _ _ _ _ _ _ _ _ _ _ ?_
  intro v1 h1 v2 h2 v3 h3 v4 h4 v5 h5 v6 h6 v7 h7 v8 h8 v9 h9
  obtain ⟨q1,q2,q3⟩:=hc k (by omega)
  rw [aj] at h1 h2
  have e1:v1=c k:=by rw [h1];exact (q1.1.toInt (by omega)).2
  have e3:v3=2 * i:=by rw [h3,Sn,i64_in _ (by omega)]
  have e4:v4=2 * j:=by rw [h4,i64_in _ (by omega)]
  have e5:v5=((2 * i+2 * j+k:Nat):Int):=by rw [h5,e3,e4,i64_in (2 * (i:Int)+2 * j) (by omega),i64_in _ (by omega)];omega
  rw [e5,aj] at h6 h7
  have e7:v7=o.set (2 * i+2 * j+k) (o.getD (2 * i+2 * j+k) 0+c k):=by rw [h7,h6,e1,i64_in _ (by omega)]
  have e8:v8=((k+1:Nat):Int):=by rw [h8,i64_in _ (by omega)];omega
  have b1:tK (y.get k) 4503599627370496=true:=jS.2 ⟨_,_,q1,by omega,by omega⟩
  rw [aa (by omega),ai,bw (bK (by omega) (by omega)),bw (aa (by omega)),aj,bw b1,e5,bw (bK (by omega) (by omega)),aj,bw (aa (by omega)),bw (bK (by omega) (by omega)),bw (aa (by omega)),e7,e8]
 refine (st 0 _ (by omega) ho (hb _)).trans ?_
 refine (st 1 _ (by omega) (by rw [List.length_set];exact ho) (by rw [vp _ _ (by omega),au (by omega)];exact hb _)).trans ?_
 refine (st 2 _ (by omega) (by rw [List.length_set,List.length_set];exact ho) (by rw [vp _ _ (by rw [List.length_set];omega),au (by omega),vp _ _ (by omega),au (by omega)];exact hb _)).trans ?_
 refine bL.xv _ _ _ _ _ _ _ _ _ _ _ _ _ _ _ ?_
 intro v1 h1 v2 h2 v3 h3 v4 h4 v5 h5 v6 h6 v7 h7 v8 h8 v9 h9
 have e9:v9=((j+1:Nat):Int):=by rw [h9,i64_in _ (by omega)];omega
 rw [ab (by decide),ae,e9]
 rfl
theorem bL.ju (a b:List Int) (ha:Gz.ie a=true) (hb:Gz.ie b=true) (la:a.length≤256) (lb:b.length≤256) (i:Nat) (hi:i<(a.length+1) / 2):∀(m j:Nat) (o:List Int),j+m=(b.length+1) / 2→o.length=a.length+b.length+2→(∀q,o.getD q 0=T (a.getD · 0) (b.getD · 0) q (2 * i)+U (a.getD · 0) (b.getD · 0) (2 * i) (2 * j) q) →
  ∃o':List Int,bL.l2 a b (gS b) i (gS a) ((gS a).length:Int) i (gS b) ((gS b).length:Int) j (two (a.getD (2 * i) 0) (a.getD (2 * i+1) 0)) o=bL.l1 a b (gS b) (gS a) ((gS a).length:Int) ((i+1:Nat):Int) o'∧o'.length=a.length+b.length+2∧∀q,o'.getD q 0=T (a.getD · 0) (b.getD · 0) q (2 * (i+1)):=by
 intro m
 induction m with
 | zero =>
  intro j o hj ho hv
  refine ⟨o,?_,ho,?_⟩
  ·refine bL.iw _ _ _ _ _ _ _ _ _ _ _ _ ?_
   intro v1 h1 v2 h2
   have e2:v2=((i+1:Nat):Int):=by rw [h2,i64_in _ (by omega)];omega
   rw [jy,ab (by omega),ae,e2]
  ·intro q
   rw [hv q,show 2 * (i+1)=2 * i+2 by omega,MM (n:=2 * j) (fun k hk=>by
    show b.getD k 0=0
    rw [af,List.getElem?_eq_none (by omega)];rfl)]
 | succ m ih =>
  intro j o hj ho hv
  have hf:=rF ha
  have hg:=rF hb
  have f0:=hf (2 * i)
  have f1:=hf (2 * i+1)
  have g0:=hg (2 * j)
  have g1:=hg (2 * j+1)
  obtain ⟨o',h1,h2,h3⟩:=ih (j+1) (grow o (2 * i+2 * j) (co (a.getD (2 * i) 0) (a.getD (2 * i+1) 0) (b.getD (2 * j) 0) (b.getD (2 * j+1) 0) 0) (co (a.getD (2 * i) 0) (a.getD (2 * i+1) 0) (b.getD (2 * j) 0) (b.getD (2 * j+1) 0) 1) (co (a.getD (2 * i) 0) (a.getD (2 * i+1) 0) (b.getD (2 * j) 0) (b.getD (2 * j+1) 0) 2)) (by omega) (by rw [xK];exact ho) (fun q=>by
   rw [D5 _ _ _ (by omega),hv q,show 2 * (j+1)=2 * j+2 by omega,Ks,Int.add_assoc])
  refine ⟨o',Eq.trans ?_ h1,h2,h3⟩
  refine bL.iw _ _ _ _ _ _ _ _ _ _ _ _ ?_
  intro v1 h1 v2 h2
  rw [aj,pZ _ _ _ (by omega)] at h1
  have hp:=jy b
  rw [aa (by omega),ai,bw (bK (by omega) (by omega)),h1]
  rw [bL.DG _ _ _ _ _ _ _ _ _ _ _ _ _ _ (fun k hk=>CB f0 f1 k hk) (fun k hk=>CB g0 g1 k hk) (F5 f0 f1 g0 g1)]
  exact bL.DF _ _ _ _ i j _ _ _ _ _ _ _ _ (co (a.getD (2 * i) 0) (a.getD (2 * i+1) 0) (b.getD (2 * j) 0) (b.getD (2 * j+1) 0)) (fun k hk=>⟨Hb f0 f1 g0 g1 k hk,EM f0 f1 g0 g1 k⟩) (by omega) (by omega) (by omega) (fun q=>by
   rw [hv q]
   have t1:=Ku (f:=(a.getD · 0)) (g:=(b.getD · 0)) hf hg q (2 * i)
   have t2:=PM (f:=(a.getD · 0)) (g:=(b.getD · 0)) hf hg (2 * i) (2 * j) q
   omega) rfl
theorem Aw (o:List Int) (f:Nat→Int) (n:Nat) (hn:n≤o.length) (h:∀q,o.getD q 0=f q):o.take n=(List.range n).map f:=by
 apply List.ext_getElem
 ·rw [aF,bf,List.length_range];omega
 ·intro i h1 h2
  rw [aF] at h1
  have:=h i
  rw [af,aq (by omega)] at this
  rw [List.getElem_take,List.getElem_map,List.getElem_range]
  exact this
theorem bL.cW (a b:List Int) (ha:Gz.ie a=true) (hb:Gz.ie b=true) (la:a.length≤256) (lb:b.length≤256) (na:a≠[]) (nb:b≠[]):∀(m i:Nat) (o:List Int),i+m=(a.length+1) / 2→o.length=a.length+b.length+2→(∀q,o.getD q 0=T (a.getD · 0) (b.getD · 0) q (2 * i)) →
  bL.l1 a b (gS b) (gS a) ((gS a).length:Int) i o=some [.sl .is (conv a b),.b true]:=by
 have pa:=List.length_pos_iff.2 na
 have pb:=List.length_pos_iff.2 nb
 intro m
 induction m with
 | zero =>
  intro i o hi ho hv
  refine bL.bV _ _ _ _ _ _ _ ?_
  intro v1 h1 v2 h2 v3 h3
  have e2:v2=a.length+b.length:=by rw [h2,i64_in _ (by omega)]
  have e3:v3=((a.length+b.length - 1:Nat):Int):=by rw [h3,e2,i64_in _ (by omega)];omega
  have e:o.take (a.length+b.length - 1)=conv a b:=by
   rw [Aw o (Cc a b) _ (by omega) (fun q=>by rw [hv q,zN a b q _ (by omega)])]
   unfold conv
   rw [au (by simp [na,nb])]
  rw [jy,ab (by omega),ae,e3,aj,bw (jm (by omega) (by omega) (by omega)),bw (dW (by rw [aF];omega) (by rw [aF];omega)),e]
 | succ m ih =>
  intro i o hi ho hv
  refine bL.bV _ _ _ _ _ _ _ ?_
  intro v1 h1 v2 h2 v3 h3
  have hp:=jy a
  rw [aj,pZ _ _ _ (by omega)] at h1
  obtain ⟨o',q1,q2,q3⟩:=bL.ju a b ha hb la lb i (by omega) ((b.length+1) / 2) 0 o (by omega) ho (fun q=>by rw [hv q,Nat.mul_zero,TG,Int.add_zero])
  rw [aa (by omega),ai,bw (bK (by omega) (by omega)),h1]
  exact Eq.trans q1 (ih (i+1) o' (by omega) q2 q3)
theorem bL.goal (a b:List Int) (hp:(decide (a.length≤256∧b.length≤256)&&(Gz.ie a&&Gz.ie b))=true):bL.F a b=some [.sl .is (Gz.conv a b),.b true]:=by
 simp only [ah,aA] at hp
 obtain ⟨⟨la,lb⟩,ha,hb⟩:=hp
 refine bL.bZ _ _ ?_
 intro v1 h1 v2 h2 v3 h3 v4 h4 v5 h5 v6 h6
 have e1:v1=false:=h1
 have ca:(decide (a.length≤256)&&Gz.ie a)=true:=by rw [ha,aa la];rfl
 have cb:(decide (b.length≤256)&&Gz.ie b)=true:=by rw [hb,aa lb];rfl
 simp only [aR,bm,Bool.not_not,aH,Bool.true_and,Bool.false_or,Bool.or_self,bQ,ca,cb,e1,ae]
 by_cases na:a=[]
 ·subst na
  have e2:v2=true:=h2
  rw [e2,ai];unfold conv;rw [aw (Or.inl rfl)];rfl
 ·by_cases nb:b=[]
  ·subst nb
   have e2:v2=true:=by
    rw [h2]
    cases decide ((a.length:Int)=0) <;> rfl
   rw [e2,ai];unfold conv;rw [aw (Or.inr rfl)];rfl
  ·have pa:=List.length_pos_iff.2 na
   have pb:=List.length_pos_iff.2 nb
   have e2:v2=false:=by rw [h2,ab (by omega),ae];exact ab (by omega)
   have e3:v3=a.length+b.length:=by rw [h3,i64_in _ (by omega)]
   have e4:v4=((a.length+b.length+2:Nat):Int):=by rw [h4,e3,i64_in _ (by omega)];omega
   rw [e4,aj] at h5
   rw [e2,ae,e4]
   refine Eq.trans (bw rfl) ?_
   rw [bw (jY.2 ⟨by omega,by omega,by omega,by rw [iR];omega⟩),h6]
   exact bL.cW a b ha hb la lb na nb ((a.length+1) / 2) 0 v5 (by omega) (by rw [h5,List.length_replicate]) (fun q=>by
    rw [h5]
    show _=(0:Int)
    rw [af,List.getElem?_replicate]
    split <;> rfl)
end Go.Eng
set_option maxRecDepth 20000
namespace Go.Eng
open Go.IntWalk
namespace Gz
def vL:List Int→Int
 | []=>0
 | x :: r=>x+65536 * vL r
def qq (h:Nat→Int):Nat→Int
 | 0=>0
 | n+1=>qq h n+h n * 65536 ^ n
theorem xV:∀(l:List Int) (x:Int),vL (l++[x])=vL l+x * 65536 ^ l.length
 | [],x=>by simp [vL]
 | y :: r,x=>by
  rw [List.cons_append,vL,xV r x,vL,ay,Int.pow_succ,Int.mul_add,←Int.mul_assoc x,Int.mul_comm 65536 (x * _),Int.add_assoc]
theorem qt (f:Nat→Int):∀n,vL ((List.range n).map f)=qq f n
 | 0=>rfl
 | n+1=>by rw [List.range_succ,List.map_append,List.map_singleton,xV,qt f n,bf,List.length_range];rfl
theorem Ep (l:List Int):vL l=qq (l.getD · 0) l.length:=by
 rw [←qt,←Aw l _ l.length (Nat.le_refl _) (fun _=>rfl),List.take_length]
theorem qp {f g:Nat→Int}:∀n,(∀i,i<n→f i=g i)→qq f n=qq g n
 | 0,_=>rfl
 | n+1,h=>by rw [qq,qq,qp n (fun i hi=>h i (by omega)),h n (by omega)]
theorem AP (f g:Nat→Int):∀n,qq (fun i=>f i+g i) n=qq f n+qq g n
 | 0=>rfl
 | n+1=>by
  simp only [qq]
  rw [AP f g n,Int.add_mul];omega
theorem sV:∀n,qq (fun _=>0) n=0
 | 0=>rfl
 | n+1=>by
  simp only [qq]
  rw [sV n,Int.zero_mul];rfl
theorem AO {g:Nat→Int} {n:Nat} (h:∀i,n≤i→g i=0):∀k,qq g (n+k)=qq g n
 | 0=>rfl
 | k+1=>by rw [←Nat.add_assoc,qq,AO h k,h _ (by omega),Int.zero_mul,Int.add_zero]
theorem uI (c:Int) (g:Nat→Int) (n:Nat):∀k,qq (fun m=>if n≤m then c * g (m - n) else 0) (n+k)=c * 65536 ^ n * qq g k
 | 0=>by
  rw [Nat.add_zero,qp (g:=fun _=>0) n (fun i hi=>au (by omega)),sV,qq,Int.mul_zero]
 | k+1=>by
  rw [←Nat.add_assoc,qq,uI c g n k,qq]
  rw [aw (by omega),show n+k - n=k by omega,Int.mul_add,Int.pow_add,Int.mul_assoc c (g k),Int.mul_assoc c (65536 ^ n) (g k * 65536 ^ k),←Int.mul_assoc (g k),Int.mul_comm (g k) (65536 ^ n),Int.mul_assoc (65536 ^ n) (g k)]
theorem HV {f g:Nat→Int} {L:Nat} (hg:∀i,L≤i→g i=0) (N:Nat):∀n,n+L≤N+1→n≤N→qq (fun m=>T f g m n) N=qq f n * qq g L
 | 0,_,_=>by
  rw [qq,Int.zero_mul];exact sV N
 | n+1,h,h2=>by
  have e:=uI (f n) g n (N - n)
  rw [show n+(N - n)=N by omega] at e
  have e2:qq g (N - n)=qq g L:=by
   rw [show N - n=L+(N - n - L) by omega];exact AO hg _
  have:=AP (fun m=>T f g m n) (fun m=>if n≤m then f n * g (m - n) else 0) N
  rw [e,e2,HV hg N n (by omega) (by omega),←Int.add_mul] at this
  exact this
theorem Er (a b:List Int):vL (conv a b)=vL a * vL b:=by
 by_cases na:a=[]
 ·subst na;unfold conv;rw [aw (Or.inl rfl)];simp [vL]
 ·by_cases nb:b=[]
  ·subst nb;unfold conv;rw [aw (Or.inr rfl)];simp [vL]
  ·have pa:=List.length_pos_iff.2 na
   have pb:=List.length_pos_iff.2 nb
   unfold conv
   rw [au (by simp [na,nb]),qt,Ep a,Ep b]
   rw [qp (g:=fun m=>T (a.getD · 0) (b.getD · 0) m a.length) _ (fun i _=>(zN a b i _ (Nat.le_refl _)).symm)]
   exact HV (fun i hi=>by
    show b.getD i 0=0
    rw [af,List.getElem?_eq_none (by omega)];rfl) _ _ (by omega) (by omega)
theorem vK:∀a:List UInt16,vL (a.map fun d=>(d.toNat:Int))=(Nt.val a:Int)
 | []=>rfl
 | d :: r=>by rw [aX,vL,vK r,Nt.val];omega
theorem q5 (a b:List Int):(conv a b).length=if a=[]∨b=[] then 0 else a.length+b.length - 1:=by
 unfold conv
 split
 ·rfl
 ·rw [bf,List.length_range]
theorem EI (a b:List Int) (ha:ie a=true) (hb:ie b=true) (la:a.length≤256) (i:Nat):0≤(conv a b).getD i 0∧(conv a b).getD i 0≤1099478073600:=by
 by_cases h:i<(conv a b).length
 ·have hl:=q5 a b
  by_cases c:a=[]∨b=[]
  ·rw [hl,aw c] at h;omega
  ·have e:(conv a b).getD i 0=Cc a b i:=by
    rw [af,aq h]
    unfold conv
    simp only [au c,List.getElem_map,List.getElem_range,Option.getD_some]
   rw [e,←zN a b i _ (Nat.le_refl _)]
   have:=Ku (f:=(a.getD · 0)) (g:=(b.getD · 0)) (rF ha) (rF hb) i a.length
   omega
 ·rw [af,List.getElem?_eq_none (by omega)];exact ⟨by decide,by decide⟩
end Gz
open Gz
theorem wu (acc:List UInt16) (c:Nat):Nt.val (acc++[UInt16.ofNat c])+65536 ^ (acc.length+1) * (c / 65536)=Nt.val acc+65536 ^ acc.length * c:=by
 rw [Nt.fJ]
 simp only [Nt.val,Nat.mul_zero,Nat.add_zero,Nt.dz]
 rw [Nat.pow_succ,Nat.mul_assoc,Nat.add_assoc,←Nat.mul_add,Nat.mod_add_div]
theorem dp.ju (R:Nat):∀(k:Nat) (acc:List UInt16) (c:Nat),c<65536 ^ k→acc.length+k≤10000→Nt.val acc+65536 ^ acc.length * c=R→dp.l2 acc c=some [.sl .ws (Nt.of R)]:=by
 intro k
 induction k with
 | zero =>
  intro acc c hc hl hv
  obtain rfl:c=0:=by simpa using hc
  refine dp.iw _ _ ?_
  intro v1 h1 v2 h2
  rw [ab (by omega),ae,bw (aa (by omega)),←hv,Nat.mul_zero,Nat.add_zero]
 | succ k ih =>
  intro acc c hc hl hv
  refine dp.iw _ _ ?_
  intro v1 h1 v2 h2
  by_cases c0:c=0
  ·subst c0
   rw [ab (by omega),ae,bw (aa (by omega)),←hv,Nat.mul_zero,Nat.add_zero]
  ·rw [mT] at h1
   rw [vJ] at h2
   rw [aa (by omega),ai,h1,h2,bw (dW (by rw [az];omega) (by rw [az];omega))]
   exact ih _ _ (by rw [Nat.pow_succ] at hc;exact Nat.div_lt_of_lt_mul (by rw [Nat.mul_comm];exact hc)) (by rw [ao,az];omega) (by
    rw [ao,az,wu];exact hv)
theorem dp.cW (l:List Int) (hl:l.length≤600) (hb:∀i,0≤l.getD i 0∧l.getD i 0≤1099478073600) (R:Nat):∀(m i:Nat) (acc:List UInt16) (c:Nat),i+m=l.length→acc.length=i→c≤1099511627776→((Nt.val acc:Nat):Int)+65536 ^ i * (c+vL (l.drop i))=R→dp.l1 acc c l l.length i=some [.sl .ws (Nt.of R)]:=by
 intro m
 induction m with
 | zero =>
  intro i acc c hi ha hc hv
  refine dp.bV _ _ _ _ _ ?_
  intro v1 h1 v2 h2 v3 h3 v4 h4
  rw [aE (by omega),vL,Int.add_zero] at hv
  rw [ab (by omega),ae]
  refine dp.ju R 3 acc c (by omega) (by omega) ?_
  rw [ha]
  have e:((65536 ^ i * c:Nat):Int)=65536 ^ i * (c:Int):=by rw [Int.natCast_mul,Int.natCast_pow];rfl
  omega
 | succ m ih =>
  intro i acc c hi ha hc hv
  refine dp.bV _ _ _ _ _ ?_
  intro v1 h1 v2 h2 v3 h3 v4 h4
  rw [aj] at h1
  have hx:=hb i
  rw [←h1] at hx
  obtain ⟨x,rfl⟩:=Int.eq_ofNat_of_zero_le hx.1
  have e0:IntKind.i64.wrap ((c:Int)+(x:Int))=((c+x:Nat):Int):=by rw [i64_in _ (by omega)];omega
  rw [e0] at h2 h3
  rw [mT] at h2
  rw [vJ] at h3
  have e4:v4=((i+1:Nat):Int):=by rw [h4,i64_in _ (by omega)];omega
  rw [aa (by omega),ai,bw (bK (by omega) (by omega)),bw (dW (by rw [az];omega) (by rw [az];omega)),h2,h3,e4]
  refine ih (i+1) _ _ (by omega) (by rw [ao,az];omega) (by omega) ?_
  rw [drop_cons (show i<l.length by omega) 0,vL,←h1] at hv
  have hm:=wu acc (c+x)
  rw [ha] at hm
  have LQ:((Nt.val (acc++[UInt16.ofNat (c+x)]):Nat):Int)+65536 ^ (i+1) * (((c+x) / 65536:Nat):Int)=(Nt.val acc:Int)+65536 ^ i * ((c+x:Nat):Int):=by
   have:=congrArg (Nat.cast:Nat→Int) hm
   rw [Int.natCast_add,Int.natCast_add,Int.natCast_mul,Int.natCast_mul,Int.natCast_pow,Int.natCast_pow] at this
   exact this
  generalize vL (l.drop (i+1))=E at *
  rw [Int.mul_add,←Int.add_assoc,LQ,←hv,Int.pow_succ,Int.mul_assoc,Int.add_assoc,←Int.mul_add]
  congr 2
  omega
theorem dp.goal (a b:List UInt16) (hp:(Nt.is a&&Nt.is b)=true):dp.F a b=some [.sl .ws (Nt.of (Nt.val a * Nt.val b))]:=by
 simp only [ah] at hp
 obtain ⟨ha,hb⟩:=hp
 have la:=Nt.iY ha
 have lb:=Nt.iY hb
 have hd:∀a:List UInt16,Gz.ie (a.map fun d=>(d.toNat:Int))=true:=fun a=>by
  unfold Gz.ie
  rw [aC]
  intro x hx
  obtain ⟨d,_,rfl⟩:=bg.1 hx
  have:=d.toNat_lt
  exact aa (by omega)
 refine dp.bZ _ _ ?_
 intro v1 h1 v2 h2 v3 h3 v4 h4
 have e1:v1=false:=by rw [h1,ha,hb];rfl
 have l2:v2.length=a.length:=by rw [h2,bf]
 have l3:v3.length=b.length:=by rw [h3,bf]
 have d2:Gz.ie v2=true:=by rw [h2];exact hd a
 have d3:Gz.ie v3=true:=by rw [h3];exact hd b
 have c1:(decide (v2.length≤256∧v3.length≤256)&&(Gz.ie v2&&Gz.ie v3))=true:=by rw [d2,d3,aa ⟨by omega,by omega⟩];rfl
 rw [e1,ha,h4,bw c1,aa (show a.length≤1099511627776 by omega),aa (show b.length≤1099511627776 by omega),aa (show a.length≤256 by omega),aa (show b.length≤256 by omega)]
 refine Eq.trans (b:=dp.l1 [] 0 (Gz.conv v2 v3) (Gz.conv v2 v3).length 0) rfl ?_
 have hl:(Gz.conv v2 v3).length≤600:=by
  rw [Gz.q5]
  split <;> omega
 refine dp.cW _ hl (Gz.EI _ _ d2 d3 (by omega)) _ (Gz.conv v2 v3).length 0 [] 0 (by omega) rfl (by omega) ?_
 rw [bh,Gz.Er,h2,h3,Gz.vK,Gz.vK,Int.natCast_mul]
 simp [Nt.val]
end Go.Eng
set_option maxRecDepth 20000
namespace Go.Eng
open Go.IntWalk
namespace Nr
theorem scB_pos {a:Nat} (h:0<a) (e:Int):0<iU a e:=Nat.mul_pos h (Nat.two_pow_pos _)
def pt (Q F:Nat):Nat:=if Q<4503599627370496 then Q else (F+1) * 4503599627370496+(Q - 4503599627370496)
theorem Hs {Q F:Nat} (h:4503599627370496≤Q∨F=0) (h2:Q<9007199254740992):mG (pt Q F)=Q∧sh (pt Q F)=F:=by
 unfold pt
 split
 ·rename_i c
  obtain rfl:F=0:=by omega
  unfold mG sh
  rw [aw c,show Q / 4503599627370496=0 by omega];exact ⟨rfl,rfl⟩
 ·rename_i c
  exact Fg (by omega) h2
theorem IJ (Q F:Nat):pt Q F % 2=Q % 2:=by
 unfold pt
 split <;> omega
theorem Fe {a b Q:Nat} {E:Int} {F:Nat} (hb:0<b) (hE:E+1074=F) (hQ:Q=jb a E / iU b E) (h:4503599627370496≤Q∨F=0) (h2:Q<9007199254740992) :
  (V (pt Q F) * b≤a * 2 ^ 1074∧a * 2 ^ 1074<V (pt Q F+1) * b)∧(fZ a b (pt Q F) ↔ (iU b E<2 * (jb a E % iU b E)∨(iU b E=2 * (jb a E % iU b E)∧Q % 2=1))):=by
 obtain ⟨m1,m2⟩:=Hs h h2
 have hB:=scB_pos hb E
 have JC:=Nat.div_add_mod (jb a E) (iU b E)
 have hr:=Nat.mod_lt (jb a E) hB
 rw [←hQ] at JC
 generalize hR:jb a E % iU b E=R at *
 have JF:V (pt Q F)=Q * 2 ^ F:=by unfold V;rw [m1,m2]
 have KO:V (pt Q F+1)=(Q+1) * 2 ^ F:=by rw [vX,m1,m2]
 -- both PX times 2^(-E)
 have k1:∀n:Nat,n * 2 ^ F * b * 2 ^ (-E).toNat=n * iU b E * 2 ^ 1074:=fun n=>by
  unfold iU
  exact Dq (wQ (a:=F) (b:=(-E).toNat) (c:=E.toNat) (d:=1074) (by omega))
 have k2:a * 2 ^ 1074 * 2 ^ (-E).toNat=jb a E * 2 ^ 1074:=by unfold jb;rw [Nat.mul_right_comm]
 have hp:=Nat.two_pow_pos (-E).toNat
 have Fu:=Nat.two_pow_pos 1074
 refine ⟨⟨?_,?_⟩,?_⟩
 ·refine Nat.le_of_mul_le_mul_right ?_ hp
  rw [JF,k1,k2]
  refine ak _ ?_
  rw [Nat.mul_comm];omega
 ·refine Nat.lt_of_mul_lt_mul_right (a:=2 ^ (-E).toNat) ?_
  rw [KO,k1,k2]
  refine Nat.mul_lt_mul_of_pos_right ?_ Fu
  rw [Nat.add_mul,Nat.mul_comm Q];omega
 ·unfold fZ
  rw [kH,JF,KO,IJ,←Nat.add_mul]
  have e:a * ig * 2 ^ (-E).toNat=2 * jb a E * 2 ^ 1074:=by
   rw [mul_two (a:=a) jJ,Nat.mul_assoc 2,k2,←Nat.mul_assoc]
  have k3:=k1 (Q+(Q+1))
  have g1:((Q+(Q+1)) * 2 ^ F * b<a * ig) ↔ (Q+(Q+1)) * iU b E<2 * jb a E:=by
   constructor
   ·intro h
    have:=Nat.mul_lt_mul_of_pos_right h hp
    rw [k3,e] at this
    exact Nat.lt_of_mul_lt_mul_right this
   ·intro h
    refine Nat.lt_of_mul_lt_mul_right (a:=2 ^ (-E).toNat) ?_
    rw [k3,e]
    exact Nat.mul_lt_mul_of_pos_right h Fu
  have g2:((Q+(Q+1)) * 2 ^ F * b=a * ig) ↔ (Q+(Q+1)) * iU b E=2 * jb a E:=by
   constructor
   ·intro h
    have this:(Q+(Q+1)) * 2 ^ F * b * 2 ^ (-E).toNat=a * ig * 2 ^ (-E).toNat:=by rw [h]
    rw [k3,e] at this
    exact Nat.eq_of_mul_eq_mul_right Fu this
   ·intro h
    refine Nat.eq_of_mul_eq_mul_right hp ?_
    rw [k3,e,h]
  rw [g1,g2,Nat.add_mul,Nat.add_mul,Nat.one_mul]
  have hc:Q * iU b E=iU b E * Q:=Nat.mul_comm _ _
  omega
theorem pS (A B:Nat):(tp A B=A / B+1∧(B<2 * (A % B)∨(B=2 * (A % B)∧A / B % 2=1)))∨(tp A B=A / B∧¬(B<2 * (A % B)∨(B=2 * (A % B)∧A / B % 2=1))):=by
 unfold tp
 split
 ·rename_i h;exact .inl ⟨rfl,h⟩
 ·rename_i h;exact .inr ⟨rfl,h⟩
theorem um {a b:Nat} {E:Int} (hb:0<b) (hE : -1074≤E) (h:4503599627370496≤jb a E / iU b E∨E=-1074) (h2:jb a E / iU b E<9007199254740992):gZ a b=join false (tp (jb a E) (iU b E)) E:=by
 classical
 obtain ⟨F,hF⟩:=Int.eq_ofNat_of_zero_le (show 0≤E+1074 by omega)
 generalize hQ:jb a E / iU b E=Q at *
 have QF:4503599627370496≤Q∨F=0:=by omega
 obtain ⟨⟨a1,a2⟩,a3⟩:=Fe hb hF hQ.symm QF h2
 obtain ⟨m1,m2⟩:=Hs QF h2
 have JF:V (pt Q F)=Q * 2 ^ F:=by unfold V;rw [m1,m2]
 have KO:V (pt Q F+1)=(Q+1) * 2 ^ F:=by rw [vX,m1,m2]
 have ex:(-(E+1074)).toNat=0:=by omega
 have ey:(E+1074).toNat=F:=by omega
 have hj:∀p M,V p=M * 2 ^ F→join false M E=if p≤top then some p else none:=fun p M hv=>by
  split
  ·rename_i ht
   exact join_some false ht (by rw [ex,ey,Nat.pow_zero,Nat.mul_one,hv])
  ·rename_i ht
   refine join_none false fun q hq e=>ht ?_
   rw [ex,ey,Nat.pow_zero,Nat.mul_one,←hv] at e
   exact Ic e ▸ hq
 have hr:=pS (jb a E) (iU b E)
 rw [hQ] at hr
 by_cases hp:pt Q F≤top
 ·rw [Gg hb a1 a2 hp]
  rcases hr with ⟨r1,r2⟩ | ⟨r1,r2⟩
  ·rw [aw (a3.2 r2),r1,hj _ _ KO]
  ·rw [au (fun h=>r2 (a3.1 h)),r1,hj _ _ JF,aw hp]
 ·rw [Dp hb a1 (by omega)]
  rcases hr with ⟨r1,r2⟩ | ⟨r1,r2⟩
  ·rw [r1,hj _ _ KO,au (by omega)]
  ·rw [r1,hj _ _ JF,au hp]
end Nr
theorem nP (a b:Nat):(Nt.cmp a b=-1∧a<b)∨(Nt.cmp a b=0∧a=b)∨(Nt.cmp a b=1∧b<a):=by
 unfold Nt.cmp
 by_cases c:a<b
 ·rw [aw c];exact .inl ⟨rfl,c⟩
 ·rw [au c]
  by_cases d:a=b
  ·rw [aw d];exact .inr (.inl ⟨rfl,d⟩)
  ·rw [au d];exact .inr (.inr ⟨rfl,by omega⟩)
theorem F9 {n:Nat} (h:n<2 ^ 64):(Nt.of n).length≤4:=(Nt.js n 4).2 (by rw [show (65536:Nat) ^ 4=2 ^ 64 by decide];exact h)
theorem nr_rounded.gM (A B:Nat) (hB:0<B) (hA:A<2 ^ 4090) (Pq:B<2 ^ 4090) (JI:A<2 ^ 60 * B):nr_rounded.j1 (Nt.of A) (Nt.of B)=some [.u64 (UInt64.ofNat (Nr.tp A B)),.b (Nr.lg A B)]:=by
 have UO:(2:Nat) ^ (6+4090)=64 * 2 ^ 4090:=Nr.II 4090
 refine nr_rounded.iI _ _ ?_
 intro v1 h1 v2 h2 v3 h3 v4 h4 v5 h5 v6 h6 v7 h7 v8 h8 v9 h9
 rw [Nt.val_of,Nt.val_of] at h1 h2
 have hr:=Nat.mod_lt A hB
 have hq:A / B<2 ^ 60:=(Nat.div_lt_iff_lt_mul hB).2 JI
 have e1:Nt.val v1=A / B:=by rw [h1,Nt.val_of]
 have e2:Nt.val v2=A % B:=by rw [h2,Nt.val_of]
 have e3:Nt.val v3=2 * (A % B):=by rw [h3,Nt.val_of,e2];exact Nat.mul_comm ..
 rw [e3,Nt.val_of] at h4
 have i1:Nt.is (Nt.of A)=true:=Nt.oe (by omega)
 have i2:Nt.is (Nt.of B)=true:=Nt.oe (by omega)
 have i3:Nt.is v1=true:=by rw [h1];exact Nt.oe (by omega)
 have i4:Nt.is v2=true:=by rw [h2];exact Nt.oe (by omega)
 have i5:Nt.is v3=true:=by rw [h3];exact Nt.oe (by rw [e2];show A % B * 2 ^ 1<_;omega)
 have nb:Nt.of B≠[]:=by rw [Nt.kG hB];simp
 have l4:v1.length≤4:=by rw [h1];exact F9 (Nat.lt_of_lt_of_le hq (Nat.pow_le_pow_right (by omega) (by omega)))
 rw [i1,i2,i3,i4,i5,aa nb]
 refine (bw (by rfl)).trans ?_
 rw [bw (aa ⟨rfl,l4⟩)]
 refine (bw (by rfl)).trans ?_
 refine (bw (by rfl)).trans ?_
 rw [e1] at h6 h9 ⊢
 have S6:(2:Nat) ^ 60=1152921504606846976:=by decide
 have e6:decide (v6=1)=decide (A / B % 2=1):=by
  have e6:v6.toNat=A / B % 2:=by
   rw [h6,UInt64.toNat_mod,fc]
   show A / B % 18446744073709551616 % 2=_
   omega
  by_cases c:A / B % 2=1
  ·rw [aa c,aa (fI (by rw [e6,c];rfl))]
  ·rw [ab c,ab (fun h=>c (by rw [←e6,h];rfl))]
 have e9:v9=UInt64.ofNat (A / B+1):=fI (by
  rw [h9,UInt64.toNat_add,fc,fc]
  show (A / B % 18446744073709551616+1) % 18446744073709551616=_
  omega)
 have QZ:decide (v9=9007199254740992)=decide (A / B+1=9007199254740992):=by
  by_cases c:A / B+1=9007199254740992
  ·rw [aa c,e9,c];rfl
  ·rw [ab c,ab (fun h=>c (by
    have:=congrArg UInt64.toNat h
    rw [e9,fc] at this
    have e0:(9007199254740992:UInt64).toNat=9007199254740992:=rfl
    omega))]
 rw [e6] at h7
 rcases nP (2 * (A % B)) B with ⟨q1,q2⟩ | ⟨q1,q2⟩ | ⟨q1,q2⟩
 ·rw [q1] at h4
  subst h4
  have e7:v7=false:=h7
  have e8:v8=false:=by rw [h8,e7];rfl
  have e5:v5=false:=h5
  have hn:Nr.tp A B=A / B:=by unfold Nr.tp;rw [au (by omega)]
  have hu:Nr.lg A B=false:=by unfold Nr.lg;rw [hn];exact ab (by omega)
  rw [e8,e5,hn,hu];rfl
 ·rw [q1] at h4
  subst h4
  have e7:v7=decide (A / B % 2=1):=h7
  have e8:v8=decide (A / B % 2=1):=by rw [h8,e7];rfl
  have e5:v5=true:=h5
  rw [e8,e5]
  refine Eq.trans (b:=cond (decide (A / B % 2=1)) (some [.u64 v9,.b (decide (v9=9007199254740992))]) (some [.u64 (UInt64.ofNat (A / B)),.b false])) rfl ?_
  by_cases c:A / B % 2=1
  ·have hn:Nr.tp A B=A / B+1:=by unfold Nr.tp;rw [aw (.inr ⟨q2.symm,c⟩)]
   have hu:Nr.lg A B=decide (A / B+1=9007199254740992):=by
    unfold Nr.lg;rw [hn]
    by_cases d:A / B+1=9007199254740992
    ·rw [aa d,aa ⟨rfl,d⟩]
    ·rw [ab d,ab (fun h=>d h.2)]
   rw [aa c,ai,QZ,e9,hn,hu]
  ·have hn:Nr.tp A B=A / B:=by unfold Nr.tp;rw [au (by omega)]
   have hu:Nr.lg A B=false:=by unfold Nr.lg;rw [hn];exact ab (by omega)
   rw [ab c,ae,hn,hu]
 ·rw [q1] at h4
  subst h4
  have e7:v7=false:=h7
  have e8:v8=true:=by rw [h8];rfl
  have e5:v5=false:=h5
  have hn:Nr.tp A B=A / B+1:=by unfold Nr.tp;rw [aw (.inl q2)]
  have hu:Nr.lg A B=decide (A / B+1=9007199254740992):=by
   unfold Nr.lg;rw [hn]
   by_cases d:A / B+1=9007199254740992
   ·rw [aa d,aa ⟨rfl,d⟩]
   ·rw [ab d,ab (fun h=>d h.2)]
  rw [e8,e5]
  refine Eq.trans (b:=some [.u64 v9,.b (decide (v9=9007199254740992))]) rfl ?_
  rw [QZ,e9,hn,hu]
theorem nr_rounded.goal (a b:List UInt16) (e:Int) (hp:(Nt.is a&&Nt.is b&&decide (-4096≤e∧e≤4096∧0<Nt.val b∧Nr.jb (Nt.val a) e<2 ^ 4090∧Nr.iU (Nt.val b) e<2 ^ 4090∧Nr.jb (Nt.val a) e<2 ^ 60 * Nr.iU (Nt.val b) e))=true) :
  nr_rounded.F a b e=some [.u64 (UInt64.ofNat (Nr.tp (Nr.jb (Nt.val a) e) (Nr.iU (Nt.val b) e))),.b (Nr.lg (Nr.jb (Nt.val a) e) (Nr.iU (Nt.val b) e))]:=by
 simp only [ah,aA] at hp
 obtain ⟨⟨ha,hb⟩,p1,p2,p3,p4,p5,p6⟩:=hp
 have key:=nr_rounded.gM (Nr.jb (Nt.val a) e) (Nr.iU (Nt.val b) e) (Nr.scB_pos p3 e) p4 p5 p6
 refine nr_rounded.bZ _ _ _ ?_
 intro v1 h1 v2 h2
 by_cases c:e<0
 ·have ew:IntKind.i64.wrap (0 - e)=-e:=by rw [i64_in _ (by omega)];omega
  rw [ew] at h1
  have eB:Nr.iU (Nt.val b) e=Nt.val b:=by unfold Nr.iU;rw [show e.toNat=0 by omega,Nat.pow_zero,Nat.mul_one]
  rw [aa c,ai,ew,ha,aa (show 0≤-e∧-e≤4096 by omega)]
  refine (bw (by rfl)).trans ?_
  rw [h1,←Nt.of_val (Nt.iS hb)]
  rw [eB] at key
  rw [Nt.val_of,eB]
  exact key
 ·have eA:Nr.jb (Nt.val a) e=Nt.val a:=by unfold Nr.jb;rw [show (-e).toNat=0 by omega,Nat.pow_zero,Nat.mul_one]
  rw [ab c,ae,hb,aa (show 0≤e∧e≤4096 by omega)]
  refine (bw (by rfl)).trans ?_
  rw [h2,←Nt.of_val (Nt.iS ha)]
  rw [eA] at key
  rw [Nt.val_of,eA]
  exact key
end Go.Eng
set_option maxRecDepth 20000
namespace Go.Eng
open Go.IntWalk
namespace Nr
theorem CZ {a b i j t:Nat} {E:Int} (ha:a<2 ^ i) (hb:2 ^ (j - 1)≤b) (hj:0<j) (h:(i:Int) - j+1 - E≤t):jb a E<2 ^ t * iU b E:=by
 unfold jb iU
 have h1:a * 2 ^ (-E).toNat<2 ^ (i+(-E).toNat):=by rw [Nat.pow_add];exact Nat.mul_lt_mul_of_pos_right ha (Nat.two_pow_pos _)
 have h2:2 ^ (t+(j - 1)+E.toNat)≤2 ^ t * (b * 2 ^ E.toNat):=by
  rw [Nat.pow_add,Nat.pow_add,Nat.mul_assoc];exact Nat.mul_le_mul_left _ (ak _ hb)
 have h3:2 ^ (i+(-E).toNat)≤2 ^ (t+(j - 1)+E.toNat):=Nat.pow_le_pow_right (by omega) (by omega)
 exact Nat.lt_of_lt_of_le h1 (Nat.le_trans h3 h2)
theorem Lk {a b i j t:Nat} {E:Int} (ha:2 ^ (i - 1)≤a) (hi:0<i) (hb:b<2 ^ j) (h:(t:Int)≤(i:Int) - 1 - j - E):2 ^ t * iU b E≤jb a E:=by
 unfold jb iU
 have h1:2 ^ (i - 1+(-E).toNat)≤a * 2 ^ (-E).toNat:=by rw [Nat.pow_add];exact ak _ ha
 have h2:2 ^ t * (b * 2 ^ E.toNat)≤2 ^ (t+j+E.toNat):=by
  rw [Nat.pow_add,Nat.pow_add,Nat.mul_assoc];exact Nat.mul_le_mul_left _ (ak _ (Nat.le_of_lt hb))
 have h3:2 ^ (t+j+E.toNat)≤2 ^ (i - 1+(-E).toNat):=Nat.pow_le_pow_right (by omega) (by omega)
 exact Nat.le_trans h2 (Nat.le_trans h3 h1)
theorem F0 (a b:Nat) (E:Int):(jb a (E+1)=jb a E∧iU b (E+1)=2 * iU b E)∨(jb a E=2 * jb a (E+1)∧iU b (E+1)=iU b E):=by
 unfold jb iU
 by_cases c:0≤E
 ·left
  rw [show (-(E+1)).toNat=0 by omega,show (-E).toNat=0 by omega,show (E+1).toNat=E.toNat+1 by omega,Nat.pow_succ,←Nat.mul_assoc,Nat.mul_comm _ 2]
  exact ⟨rfl,rfl⟩
 ·right
  rw [show (-E).toNat=(-(E+1)).toNat+1 by omega,show (E+1).toNat=0 by omega,show E.toNat=0 by omega,Nat.pow_succ,←Nat.mul_assoc,Nat.mul_comm _ 2]
  exact ⟨rfl,rfl⟩
end Nr
theorem jq {a i k:Nat} (h:a<2 ^ i) (hk:i≤k):a<2 ^ k:=Nat.lt_of_lt_of_le h (Nat.pow_le_pow_right (by omega) hk)
theorem sq {a i j k:Nat} (h:a<2 ^ i) (hk:i+j≤k):a * 2 ^ j<2 ^ k:=by
 refine jq (i:=i+j) ?_ hk
 rw [Nat.pow_add];exact Nat.mul_lt_mul_of_pos_right h (Nat.two_pow_pos _)
theorem de.gM (E : Int) (M : Nat) (hM : M < 2 ^ 64) (hE : -1074 ≤ E ∧ E ≤ 2000) (a b : Nat) (h : Nr.gZ a b = Nr.join false M E) : de.j1 E (UInt64.ofNat M) = some [.u64 (Nr.pat (Nr.gZ a b)), .b (Nr.gZ a b).isSome] := by
  refine de.iI _ _ ?_
  intro v1 h1 v2 h2
  have e : (UInt64.ofNat M).toNat = M := by rw [fc]; have : (2 : Nat) ^ 64 = 18446744073709551616 := by decide
                                            omega
  rw [e, ← h] at h1 h2
  rw [bw (aa (by omega)), h1, h2]
theorem de.goal (a b:List UInt16) (hp:(Nt.is a&&Nt.is b&&decide (0<Nt.val a∧0<Nt.val b∧Nt.val a<2 ^ 1100∧Nt.val b<2 ^ 2200))=true):de.F a b=some [.u64 (Nr.pat (Nr.gZ (Nt.val a) (Nt.val b))),.b (Nr.gZ (Nt.val a) (Nt.val b)).isSome]:=by
 simp only [ah,aA] at hp
 obtain ⟨⟨ha,hb⟩,p1,p2,p3,p4⟩:=hp
 refine de.bZ _ _ ?_
 intro v1 h1 v2 h2 v3 h3 v4 h4 v5 h5 v6 h6 v7 h7 v8 h8
 obtain ⟨i1,i2,i3⟩:=Nt.iO p1
 obtain ⟨j1,j2,j3⟩:=Nt.iO p2
 have i4:=Nt.jT p3
 have j4:=Nt.jT p4
 generalize Nt.bits (Nt.val a)=i at *
 generalize Nt.bits (Nt.val b)=j at *
 generalize Nt.val a=A at *
 generalize Nt.val b=B at *
 have e1:v1=(i:Int) - j:=by rw [h1,i64_in _ (by omega)]
 have e2:v2=(i:Int) - j - 53:=by rw [h2,e1,i64_in _ (by omega)]
 have em:mL v2 (-1074)=max ((i:Int) - j - 53) (-1074):=by rw [e2];unfold mL;split <;> omega
 rw [em] at h3 h4 h6 ⊢
 generalize hE:max ((i:Int) - j - 53) (-1074)=E at *
 have U4 : -1074≤E∧E≤1046:=by omega
 have e6:v6=E+1:=by rw [h6,i64_in _ (by omega)]
 rw [e6] at h7 h8
 have QQ:∀E:Int,-1074≤E→E≤1047→Nr.jb A E<2 ^ 4090∧Nr.iU B E<2 ^ 4090:=fun E h1 h2=>by
  unfold Nr.jb Nr.iU
  constructor
  ·exact sq (k:=4090) i2 (by omega)
  ·exact sq (k:=4090) j2 (by omega)
 obtain ⟨a1,a2⟩:=QQ E (by omega) (by omega)
 obtain ⟨a3,a4⟩:=QQ (E+1) (by omega) (by omega)
 have t54:Nr.jb A E<2 ^ 54 * Nr.iU B E:=Nr.CZ i2 j1 j3 (by omega)
 have t60:Nr.jb A E<2 ^ 60 * Nr.iU B E:=Nr.CZ i2 j1 j3 (by omega)
 have Oa:Nr.jb A (E+1)<2 ^ 60 * Nr.iU B (E+1):=Nr.CZ i2 j1 j3 (by omega)
 have hB:=Nr.scB_pos p2 E
 have QO:=Nr.scB_pos p2 (E+1)
 have hn:=Nr.F0 A B E
 have Uy:Nr.jb A E / Nr.iU B E<2 ^ 54:=(Nat.div_lt_iff_lt_mul hB).2 t54
 have Pc:(2:Nat) ^ 54=18014398509481984:=by decide
 have S4:(2:Nat) ^ 64=18446744073709551616:=by decide
 rw [ha,hb,bw rfl,bw rfl,e6,aa (show -4096≤E∧E≤4096∧0<B∧Nr.jb A E<2 ^ 4090∧Nr.iU B E<2 ^ 4090∧Nr.jb A E<2 ^ 60 * Nr.iU B E from ⟨by omega,by omega,p2,a1,a2,t60⟩),aa (show -4096≤E+1∧E+1≤4096∧0<B∧Nr.jb A (E+1)<2 ^ 4090∧Nr.iU B (E+1)<2 ^ 4090∧Nr.jb A (E+1)<2 ^ 60 * Nr.iU B (E+1) from ⟨by omega,by omega,p2,a3,a4,Oa⟩)]
 refine (bw (by rfl)).trans ?_
 have nX:∀b:Bool,(!b || b)=true:=by decide
 rw [bw (nX _),bw (nX _)]
 have hr:=Nr.pS (Nr.jb A E) (Nr.iU B E)
 have Sr:Nr.lg (Nr.jb A E) (Nr.iU B E)=decide (Nr.tp (Nr.jb A E) (Nr.iU B E)=Nr.jb A E / Nr.iU B E+1∧Nr.tp (Nr.jb A E) (Nr.iU B E)=9007199254740992):=rfl
 rw [Sr] at h4
 generalize hQ:Nr.jb A E / Nr.iU B E=Q at *
 generalize hM:Nr.tp (Nr.jb A E) (Nr.iU B E)=M at *
 have e3:decide ((9007199254740992:UInt64)≤v3)=decide (9007199254740992≤M):=by
  have ev:v3.toNat=M:=by rw [h3,fc];omega
  by_cases c:9007199254740992≤M
  ·rw [aa c,aa (aI.2 (by rw [ev];exact c))]
  ·rw [ab c,ab (fun h=>c (by have:=aI.1 h;rw [ev] at this;exact this))]
 have e5:v5=decide (9007199254740992≤M∧¬(M=Q+1∧M=9007199254740992)):=by
  rw [h5,e3,h4]
  by_cases c:9007199254740992≤M
  ·rw [aa c,ai]
   by_cases d:M=Q+1∧M=9007199254740992
   ·rw [aa d,ab (fun h=>h.2 d)];rfl
   ·rw [ab d,aa ⟨c,d⟩];rfl
  ·rw [ab c,ae,ab (fun h=>c h.1)]
 by_cases c:9007199254740992≤M∧¬(M=Q+1∧M=9007199254740992)
 ·have Pl:9007199254740992≤Q:=by omega
  rw [e5,aa c,ai]
  refine (bw (by rfl)).trans ?_
  have g1:9007199254740992 * Nr.iU B E≤Nr.jb A E:=(Nat.le_div_iff_mul_le hB).1 (by rw [hQ];exact Pl)
  have g2:4503599627370496≤Nr.jb A (E+1) / Nr.iU B (E+1):=(Nat.le_div_iff_mul_le QO).2 (by rcases hn with ⟨n1,n2⟩ | ⟨n1,n2⟩ <;> rw [n2] <;> omega)
  have g3:Nr.jb A (E+1) / Nr.iU B (E+1)<9007199254740992:=(Nat.div_lt_iff_lt_mul QO).2 (by rw [Pc] at t54;rcases hn with ⟨n1,n2⟩ | ⟨n1,n2⟩ <;> rw [n2] <;> omega)
  have Ck:=Nr.pS (Nr.jb A (E+1)) (Nr.iU B (E+1))
  rw [h7]
  exact de.gM (E+1) _ (by omega) (by omega) A B (Nr.um p2 (by omega) (.inl g2) g3)
 ·rw [e5,ab c,ae,h3]
  have g3:Q<9007199254740992:=by omega
  refine de.gM E M (by omega) (by omega) A B ?_
  rw [←hM]
  refine Nr.um p2 (by omega) ?_ (by rw [hQ];exact g3)
  by_cases d:E=-1074
  ·exact .inr d
  ·left
   refine (Nat.le_div_iff_mul_le hB).2 ?_
   have:=Nr.Lk (t:=52) (E:=E) i1 i3 j2 (by omega)
   rw [show (2:Nat) ^ 52=4503599627370496 by decide] at this
   exact this
end Go.Eng
set_option maxRecDepth 20000
namespace Go.Eng
open Go.IntWalk
namespace Nr
theorem Gb (b:bz):∀n:Nat,b.foldl (fun n c=>10 * n+(c.toNat - 48)) n=n * 10 ^ b.length+num b:=by
 induction b with
 | nil=>intro n;simp [num]
 | cons c r ih =>
  intro n
  unfold num
  rw [List.foldl_cons,List.foldl_cons,ih,ih,ay,Nat.pow_succ,Nat.mul_zero,Nat.zero_add,Nat.add_mul,Nat.mul_comm 10 n,Nat.mul_assoc,Nat.mul_comm 10 (10 ^ _)]
  omega
theorem gC (a b:bz):num (a++b)=num a * 10 ^ b.length+num b:=by
 unfold num
 rw [List.foldl_append,Gb];rfl
theorem wY (c:UInt8) (r:bz):num (c :: r)=(c.toNat - 48) * 10 ^ r.length+num r:=by
 have:=gC [c] r
 rw [List.singleton_append] at this
 rw [this];simp [num]
theorem jt (t:Nat):num (List.replicate t 48)=0:=by
 induction t with
 | zero=>rfl
 | succ t ih=>rw [List.replicate_succ,wY,ih];simp
theorem jj (p:UInt8→Bool):∀d:bz,∃a,d=a++d.dropWhile p∧a.all p=true∧(d.dropWhile p=[]∨p ((d.dropWhile p).getD 0 0)=false)
 | []=>⟨[],rfl,rfl,.inl rfl⟩
 | c :: r=>by
  rw [List.dropWhile_cons]
  cases h:p c
  ·rw [au (by simp)]
   exact ⟨[],rfl,rfl,.inr h⟩
  ·rw [aw rfl]
   obtain ⟨a,h1,h2,h3⟩:=jj p r
   exact ⟨c :: a,by rw [List.cons_append,←h1],by rw [List.all_cons,h,h2];rfl,h3⟩
theorem zU:∀{a:bz},(a.all (· == 48))=true→a=List.replicate a.length 48
 | [],_=>rfl
 | c :: r,h=>by
  rw [List.all_cons,ah] at h
  rw [ay,List.replicate_succ,←zU h.2]
  congr 1
  simpa using h.1
theorem vo (d:bz):∃z,d=List.replicate z 48++sE d∧(sE d=[]∨(sE d).getD 0 0≠48):=by
 obtain ⟨a,h1,h2,h3⟩:=jj (· == 48) d
 refine ⟨a.length,?_,?_⟩
 ·rw [←zU h2];exact h1
 ·rcases h3 with h3 | h3
  ·exact .inl h3
  ·exact .inr (by unfold sE;simpa using h3)
theorem ko (d:bz):∃t,d=gr d++List.replicate t 48∧(gr d=[]∨(gr d).getLast?≠some 48):=by
 obtain ⟨a,h1,h2,h3⟩:=jj (· == 48) d.reverse
 refine ⟨a.length,?_,?_⟩
 ·have e:d=(a++d.reverse.dropWhile (· == 48)).reverse:=by rw [←h1,List.reverse_reverse]
  rw [List.reverse_append,zU h2,List.reverse_replicate] at e
  exact e
 ·rcases h3 with h3 | h3
  ·left;unfold gr;rw [h3];rfl
  ·right
   unfold gr
   rw [List.getLast?_reverse]
   intro h
   cases hd:d.reverse.dropWhile (· == 48) with
   | nil=>rw [hd] at h;cases h
   | cons c r =>
    rw [hd] at h h3
    have:c=48:=by simpa using h
    subst this
    simp at h3
theorem tQ (b:UInt8):([48,49,50,51,52,53,54,55,56,57]:bz).contains b=dV b:=by
 have h:∀n,n<256→([48,49,50,51,52,53,54,55,56,57]:bz).contains (UInt8.ofNat n)=dV (UInt8.ofNat n):=by decide +kernel
 have:=h b.toNat b.toNat_lt
 rwa [UInt8.ofNat_toNat] at this
theorem CE (d:bz):Lib.trimLeftS d [48]=sE d:=by
 rw [Lib.trimLeftS_one];rfl
theorem wy (d:bz):Lib.trimRightS d [48]=gr d:=by
 rw [Lib.trimRightS_one];rfl
theorem dropWhile_nil {p:UInt8→Bool}:∀{l:bz},l.dropWhile p=[] ↔ l.all p=true
 | []=>by simp
 | c :: r=>by
  rw [List.dropWhile_cons,List.all_cons]
  cases h:p c
  ·simp
  ·rw [aw rfl,dropWhile_nil];simp
theorem qL (d:bz):(Lib.trimS d [48,49,50,51,52,53,54,55,56,57]=[]) ↔ d.all dV=true:=by
 have e:(fun b=>([48,49,50,51,52,53,54,55,56,57]:bz).contains b)=dV:=funext tQ
 have h1:∀l:bz,Lib.trimLeftS l [48,49,50,51,52,53,54,55,56,57]=l.dropWhile dV:=fun l=>by unfold Lib.trimLeftS;rw [e]
 have h2:∀l:bz,Lib.trimRightS l [48,49,50,51,52,53,54,55,56,57]=(l.reverse.dropWhile dV).reverse:=fun l=>by unfold Lib.trimRightS;rw [e]
 unfold Lib.trimS
 rw [h1,h2,dropWhile_nil,List.all_reverse]
 constructor
 ·intro h
  obtain ⟨a,q1,q2,q3⟩:=jj dV d.reverse
  have hn:d.reverse.dropWhile dV=[]:=by
   rcases q3 with q3 | q3
   ·exact q3
   ·cases hd:d.reverse.dropWhile dV with
    | nil=>rfl
    | cons c r =>
     rw [hd] at h q3
     rw [List.all_cons,ah] at h
     have:dV c=false:=q3
     rw [this] at h;cases h.1
  rw [dropWhile_nil,List.all_reverse] at hn
  exact hn
 ·intro h
  rw [(dropWhile_nil (l:=d.reverse)).2 (by rw [List.all_reverse];exact h)];rfl
theorem sx {d:bz} (h:d.all dV=true) (h0:d≠[]) (h1:d.getD 0 0≠48):10 ^ (d.length - 1)≤num d:=by
 cases d with
 | nil=>exact (h0 rfl).elim
 | cons c r =>
  rw [List.all_cons,ah] at h
  have hc:=ky.1 h.1
  have h1:c≠48:=h1
  have Fx:c.toNat≠48:=fun e=>h1 (UInt8.toNat_inj.1 e)
  rw [wY,ay,Nat.add_sub_cancel]
  have:1 * 10 ^ r.length≤(c.toNat - 48) * 10 ^ r.length:=ak _ (by omega)
  omega
theorem yO:ig≤10 ^ 324:=by decide +kernel
theorem yP:vc≤10 ^ 309:=by decide +kernel
theorem eM (k:Nat):0<10 ^ k:=Nat.pow_pos (by omega)
theorem kh {a b:Nat} (h:a≤b):10 ^ a≤10 ^ b:=Nat.pow_le_pow_right (by omega) h
theorem FM {a b i j k:Nat} (h1:a≤10 ^ i) (h2:b≤10 ^ j) (h:i+j≤k):a * b≤10 ^ k:=by
 refine Nat.le_trans (Nat.mul_le_mul h1 h2) ?_
 rw [←Nat.pow_add];exact kh h
theorem CK {a b i j k l:Nat} (h1:a≤10 ^ i) (h2:10 ^ k≤b) (h:i+j≤k+l):a * 10 ^ j≤b * 10 ^ l:=by
 refine Nat.le_trans (ak _ h1) (Nat.le_trans ?_ (ak _ h2))
 rw [←Nat.pow_add,←Nat.pow_add];exact kh h
theorem C8 {N L:Nat} {k:Int} (hN:N<10 ^ L) (h:k+L≤-324):rd N k=some 0:=by
 unfold rd
 refine Dn (eM _) ?_
 rw [show k.toNat=0 by omega,Nat.pow_zero,Nat.mul_one]
 exact FM (Nat.le_of_lt hN) yO (by omega)
theorem Al {N L:Nat} {k:Int} (hN:10 ^ (L - 1)≤N) (hL:0<L) (h:310≤k+L):rd N k=none:=by
 unfold rd
 refine Bz (eM _) ?_
 exact CK yP hN (by omega)
theorem F3 (k:Int):rd 0 k=some 0:=by
 unfold rd
 rw [Nat.zero_mul];exact By _ (eM _)
theorem rd_shift (N t:Nat) (k:Int):rd (N * 10 ^ t) k=rd N (k+t):=by
 unfold rd
 refine zl (eM _) (eM _) ?_
 rw [Nat.mul_assoc,Nat.mul_assoc,Nat.mul_assoc,←Nat.pow_add,←Nat.pow_add,←Nat.pow_add]
 congr 2
 omega
theorem ic {p:UInt8→Bool} {d a b:bz} (h:d.all p=true) (e:d=a++b):a.all p=true∧b.all p=true:=by
 rw [e,List.all_append,ah] at h
 exact h
end Nr
theorem iy {n i:Nat} (h:n<2 ^ i) (hi:i≤4096):Nt.is (Nt.of n)=true:=Nt.oe (jq (k:=4096) h hi)
theorem dL.gM (A B:Nat) (hA:0<A) (hB:0<B) (QR:A<2 ^ 1100) (Pq:B<2 ^ 2200):dL.j1 (Nt.of A) (Nt.of B)=some [.u64 (Nr.pat (Nr.gZ A B)),.b (Nr.gZ A B).isSome]:=by
 refine dL.iI _ _ ?_
 intro v1 h1 v2 h2
 rw [Nt.val_of,Nt.val_of] at h1 h2
 rw [Nt.val_of,Nt.val_of,iy QR (by omega),iy Pq (by omega),aa ⟨hA,hB,QR,Pq⟩]
 refine (bw (by rfl)).trans ?_
 rw [h1,h2]
theorem Aa:(10:Nat) ^ 310<2 ^ 1100∧(10:Nat) ^ 631<2 ^ 2200:=by decide +kernel
theorem dL.goal (d:bz) (x:Int):dL.F d x=some [.u64 (Nr.pat (Nr.read d x)),.b (Nr.read d x).isSome]:=by
 refine dL.bZ _ _ ?_
 intro v1 h1 v2 h2 v3 h3 v4 h4 v5 h5 v6 h6 v7 h7 v8 h8 v9 h9 v10 iA v11 ki v12 jE
 have nX:∀b:Bool,(!(!b) || !b)=true∧(b || !b)=true:=by decide
 have e1:v1=!decide (1≤d.length∧d.length≤300):=by
  rw [h1]
  by_cases c:1≤d.length∧d.length≤300
  ·rw [aa c,ab (by omega),ae,ab (by omega)];rfl
  ·rw [ab c]
   by_cases d0:(d.length:Int)<1
   ·rw [aa d0];rfl
   ·rw [ab d0,ae,aa (by omega)];rfl
 have e3:v3=!Nr.valid d:=by
  unfold Nr.valid
  rw [h3,e1,h2]
  have:decide (Lib.trimS d [48,49,50,51,52,53,54,55,56,57]=[])=d.all Nr.dV:=by
   by_cases c:d.all Nr.dV=true
   ·rw [c,aa ((Nr.qL d).2 c)]
   ·rw [ab (fun h=>c ((Nr.qL d).1 h))];exact (Bool.eq_false_iff.2 c).symm
  rw [this]
  cases decide (1≤d.length∧d.length≤300) <;> cases d.all Nr.dV <;> rfl
 rw [bw (nX _).1,bw (nX _).1,bw (nX _).2]
 have c4:(!(!v1) || ((!v1)&&(decide (d.length≤1099511627776∧([48,49,50,51,52,53,54,55,56,57]:bz).length≤100)&&([48,49,50,51,52,53,54,55,56,57]:bz).all (fun b=>decide (b.toNat<128)))))=true:=by
  rw [e1]
  by_cases c:1≤d.length∧d.length≤300
  ·rw [aa c,aa (show d.length≤1099511627776∧([48,49,50,51,52,53,54,55,56,57]:bz).length≤100 from ⟨by omega,by decide⟩)];rfl
  ·rw [ab c];rfl
 rw [bw c4,bw (nX _).1,bw (nX _).2,e3]
 unfold Nr.read
 cases hv:Nr.valid d
 ·rfl
 ·rw [aw rfl]
  refine Eq.trans (b:=_) (ae _ _) ?_
  unfold Nr.valid at hv
  rw [ah] at hv
  obtain ⟨hl,hd⟩:=hv
  obtain ⟨l1,l2⟩:=ar hl
  rw [Nr.CE] at h4
  rw [Nr.wy] at h7
  obtain ⟨z,z1,z2⟩:=Nr.vo d
  rw [←h4] at z1 z2
  obtain ⟨t,t1,t2⟩:=Nr.ko v4
  rw [←h7] at t1 t2
  have hd4:=(Nr.ic hd z1).2
  have Pb:=(Nr.ic hd4 t1).1
  have lz:d.length=z+v4.length:=by
   have:=congrArg List.length z1
   rw [ao,List.length_replicate] at this
   exact this
  have lt:v4.length=v7.length+t:=by
   have:=congrArg List.length t1
   rw [ao,List.length_replicate] at this
   exact this
  have nz:Nr.num d=Nr.num v4:=by
   have:=congrArg Nr.num z1
   rw [Nr.gC,Nr.jt,Nat.zero_mul,Nat.zero_add] at this
   exact this
  have nt:Nr.num v4=Nr.num v7 * 10 ^ t:=by
   have:=congrArg Nr.num t1
   rw [Nr.gC,Nr.jt,List.length_replicate,Nat.add_zero] at this
   exact this
  have My:∀s:bz,s.length≤300→(decide (s.length≤1099511627776∧([48]:bz).length≤100)&&([48]:bz).all (fun b=>decide (b.toNat<128)))=true:=fun s hs=>by
   rw [aa (show s.length≤1099511627776∧([48]:bz).length≤100 from ⟨by omega,by decide⟩)];rfl
  rw [bw (My d l2),bw (nX _).1,bw (nX _).2,nz]
  by_cases c0:v4=[]
  ·have e5:v5=true:=by rw [h5,aa c0];rfl
   rw [e5,ai,c0]
   rw [show Nr.num []=0 from rfl,Nr.F3];rfl
  ·rw [ab c0,ae] at h5
   have z2:v4.getD 0 0≠48:=z2.resolve_left c0
   have p4:0<v4.length:=List.length_pos_iff.2 c0
   have b1:=Nr.sw v4 hd4
   have b2:=Nr.sx hd4 c0 z2
   by_cases c1:x < -1000
   ·rw [h5,aa c1,ai,Nr.C8 b1 (by omega)];rfl
   ·rw [h5,ab c1,ae]
    by_cases c2:1000<x
    ·rw [aa c2,ai,Nr.Al b2 p4 (by omega)];rfl
    ·have e6:v6=z:=by rw [h6,i64_in _ (by omega)];omega
     have ex:IntKind.i64.wrap (x - v6)=x - z:=by rw [e6,i64_in _ (by omega)]
     rw [ab c2,ae,bw (My v4 (by omega)),ex]
     by_cases c3:x - z < -330
     ·rw [aa c3,ai,Nr.C8 b1 (by omega)];rfl
     ·rw [ab c3,ae]
      by_cases c4:310<x - (z:Int)
      ·rw [aa c4,ai,Nr.Al b2 p4 (by omega)];rfl
      ·rw [ab c4,ae]
       have n7:v7≠[]:=by
        intro e
        rw [e] at nt
        have:=Nr.eM (v4.length - 1)
        rw [show Nr.num []=0 from rfl,Nat.zero_mul] at nt
        omega
       have p7:0<v7.length:=List.length_pos_iff.2 n7
       have g7:v7.getD 0 0=v4.getD 0 0:=by
        rw [t1,af,af,List.getElem?_append_left (by omega)]
       have e9:v9=x - z - v7.length:=by rw [h9,ex,i64_in _ (by omega)]
       have w7:=Nr.sw v7 Pb
       have RO:=Nr.sx Pb n7 (by rw [g7];exact z2)
       have PU:0<Nr.num v7:=Nat.lt_of_lt_of_le (Nr.eM _) RO
       have Ji:Nr.rd (Nr.num v4) (x - (d.length:Int))=Nr.rd (Nr.num v7) v9:=by
        rw [nt,Nr.rd_shift];congr 1;omega
       rw [Ji,bw (by rw [aa (show 1≤v7.length∧v7.length≤300∧v7.getD 0 0≠48 from ⟨by omega,by omega,by rw [g7];exact z2⟩),Pb];rfl)]
       have hB:∀k:Nat,k≤631→(10:Nat) ^ k<2 ^ 2200:=fun k hk=>Nat.lt_of_le_of_lt (Nr.kh hk) Aa.2
       have hA:∀k:Nat,k≤310→(10:Nat) ^ k<2 ^ 1100:=fun k hk=>Nat.lt_of_le_of_lt (Nr.kh hk) Aa.1
       by_cases c5:0≤v9
       ·have ep:Nr.num v7 * 10 ^ v9.toNat<10 ^ (v7.length+v9.toNat):=by
         rw [Nat.pow_add];exact Nat.mul_lt_mul_of_pos_right w7 (Nr.eM _)
        have xX:v10=Nt.of (10 ^ v9.toNat):=iA
        have KY:v11=Nt.of (Nr.num v7 * 10 ^ v9.toNat):=by rw [ki,xX,Nt.val_of,Nt.val_of]
        have e8:v8=Nt.of 1:=h8
        rw [aa c5,ai,bw (aa ⟨by omega,by omega,by omega,by omega,jq (k:=4096) (hB v9.toNat (by omega)) (by omega)⟩),xX,iy (hB v9.toNat (by omega)) (by omega),iy (Nat.lt_trans w7 (hB v7.length (by omega))) (by omega)]
        refine (bw (by rfl)).trans ?_
        rw [KY,e8,dL.gM _ 1 (Nat.mul_pos PU (Nr.eM _)) (by omega) (Nat.lt_trans ep (hA _ (by omega))) (hB 0 (by omega))]
        unfold Nr.rd
        rw [show (-v9).toNat=0 by omega,Nat.pow_zero]
       ·have ew:IntKind.i64.wrap (0 - v9)=-v9:=by rw [i64_in _ (by omega)];omega
        rw [ew] at jE
        have GZ:v12=Nt.of (10 ^ (-v9).toNat):=jE
        rw [ab c5,ae,ew,bw (aa ⟨by omega,by omega,by omega,by omega,jq (k:=4096) (hB (-v9).toNat (by omega)) (by omega)⟩),GZ]
        rw [dL.gM _ _ PU (Nr.eM _) (Nat.lt_trans w7 (hA v7.length (by omega))) (hB _ (by omega))]
        unfold Nr.rd
        rw [show v9.toNat=0 by omega,Nat.pow_zero,Nat.mul_one]
end Go.Eng
set_option maxRecDepth 20000
namespace Go.Eng
open Go.IntWalk
namespace Nr
end Nr
namespace Nr
theorem wL (s:bz) (c:UInt8):gr (s++[c])=if c=48 then gr s else s++[c]:=by
 unfold gr
 rw [List.reverse_append,List.reverse_singleton,List.singleton_append,List.dropWhile_cons]
 by_cases h:c=48
 ·rw [aw (by simp [h]),aw h]
 ·rw [au (by simp [h]),au h];simp
theorem yS (s:bz):s=[]∨∃a c,s=a++[c]:=by
 cases h:s.reverse with
 | nil=>left;simpa using h
 | cons c r=>right;exact ⟨r.reverse,c,by have:=congrArg List.reverse h;simpa using this⟩
theorem oZ {c:UInt8} (h:dV c=true):c=UInt8.ofNat (48+(c.toNat - 48)):=by
 have:=ky.1 h
 rw [show 48+(c.toNat - 48)=c.toNat by omega,UInt8.ofNat_toNat]
theorem sX:∀(n:Nat) (s:bz),s.length=n→s.all dV=true→s≠[]→s.getD 0 0≠48→s=dec (num s):=by
 intro n
 induction n with
 | zero=>intro s hs _ h0 _;exact (h0 (List.length_eq_zero_iff.1 hs)).elim
 | succ n ih =>
  intro s hs hd h0 h1
  rcases yS s with h | ⟨a,c,rfl⟩
  ·exact (h0 h).elim
  ·obtain ⟨d1,d2⟩:=ic hd rfl
   rw [List.all_cons,ah] at d2
   have hc:=ky.1 d2.1
   rw [sv]
   by_cases ha:a=[]
   ·subst ha
    rw [show num []=0 from rfl,kB (by omega)]
    rw [Nat.mul_zero,Nat.zero_add,←oZ d2.1];rfl
   ·have Qz:a.getD 0 0≠48:=by
     have hl:=List.length_pos_iff.2 ha
     rw [af,List.getElem?_append_left hl,←af] at h1
     exact h1
    have hg:=sx d1 ha Qz
    have:=eM (a.length - 1)
    rw [pq (by omega),show (10 * num a+(c.toNat - 48)) / 10=num a by omega,show (10 * num a+(c.toNat - 48)) % 10=c.toNat - 48 by omega,←oZ d2.1]
    rw [ao,az] at hs
    rw [←ih a (by omega) d1 ha Qz]
theorem lC (n:Nat):(dec n).all dV=true∧num (dec n)=n∧(dec n≠[])∧(0<n→(dec n).getD 0 0≠48):=by
 induction n using Nat.strongRecOn with
 | _ n ih =>
  have L6:∀k,k<10→dV (UInt8.ofNat (48+k))=true∧(UInt8.ofNat (48+k)).toNat=48+k:=fun k hk=>by
   have:(UInt8.ofNat (48+k)).toNat=48+k:=by simp;omega
   exact ⟨ky.2 (by omega),this⟩
  by_cases c:n<10
  ·rw [kB c]
   obtain ⟨h1,h2⟩:=L6 n c
   refine ⟨by rw [List.all_cons,h1];rfl,by simp only [num,List.foldl_cons,List.foldl_nil,h2];omega,by simp,fun h e=>?_⟩
   have:=congrArg UInt8.toNat e
   have e2:([UInt8.ofNat (48+n)].getD 0 0).toNat=48+n:=h2
   rw [e2] at this
   have e3:(48:UInt8).toNat=48:=rfl
   omega
  ·obtain ⟨i1,i2,i3,i4⟩:=ih (n / 10) (by omega)
   obtain ⟨h1,h2⟩:=L6 (n % 10) (by omega)
   rw [pq c]
   refine ⟨by rw [List.all_append,i1,List.all_cons,h1];rfl,by rw [sv,i2,h2];omega,by simp,fun _=>?_⟩
   rw [af,List.getElem?_append_left (List.length_pos_iff.2 i3),←af]
   exact i4 (by omega)
theorem kT (n:Nat):1≤(dec n).length:=List.length_pos_iff.2 (lC n).2.2.1
end Nr
end Go.Eng
set_option maxRecDepth 20000
namespace Go.Eng
open Go.IntWalk
namespace Nr
theorem GV {m:Nat} (h:0<m) (e:Int):0<KV m e:=Nat.mul_pos (Nat.mul_pos h (Nat.two_pow_pos _)) (Nat.pow_pos (by omega))
end Nr
end Go.Eng
set_option maxRecDepth 20000
namespace Go.Eng
namespace Sh
open Nr (V mG sh top gZ rd mK fZ)
theorem ni {a b p:Nat} (hb:0<b):gZ a b=some p ↔ p≤top∧¬fZ a b p∧(p=0∨fZ a b (p - 1)):=by
 constructor
 ·intro h
  classical
  have s1:p≤top∧¬fZ a b p∧∀r,r<p→fZ a b r:=by
   unfold gZ at h
   split at h
   ·rename_i hx
    cases h
    exact hx.choose_spec
   ·cases h
  refine ⟨s1.1,s1.2.1,?_⟩
  by_cases c:p=0
  ·exact .inl c
  ·exact .inr (s1.2.2 _ (by omega))
 ·rintro ⟨h1,h2,h3⟩
  exact Nr.lW hb h1 h2 h3
theorem zd {p N:Nat} {k:Int} (hp:0<p):rd N k=some p ↔ p≤top ∧
  (2 * (N * 10 ^ k.toNat * 2 ^ 1074)<mK p * 10 ^ (-k).toNat∨(2 * (N * 10 ^ k.toNat * 2 ^ 1074)=mK p * 10 ^ (-k).toNat∧p % 2=0)) ∧
  (mK (p - 1) * 10 ^ (-k).toNat<2 * (N * 10 ^ k.toNat * 2 ^ 1074)∨(mK (p - 1) * 10 ^ (-k).toNat=2 * (N * 10 ^ k.toNat * 2 ^ 1074)∧p % 2=0)):=by
 unfold rd
 rw [ni (Nr.eM _)]
 unfold fZ
 have e:=Nr.mul_two (a:=N * 10 ^ k.toNat) Nr.jJ
 rw [e]
 generalize 2 * (N * 10 ^ k.toNat * 2 ^ 1074)=X
 generalize mK p * 10 ^ (-k).toNat=Y
 generalize mK (p - 1) * 10 ^ (-k).toNat=Z
 constructor
 ·rintro ⟨h1,h2,h3⟩
  refine ⟨h1,?_,?_⟩ <;> omega
 ·rintro ⟨h1,h2,h3⟩
  refine ⟨h1,?_,.inr ?_⟩ <;> omega
theorem rp {p:Nat} (hp:0<p):0<mG p:=by unfold mG;split <;> omega
theorem CY {m s:Nat} (K:Nat):m * 2 ^ ((s:Int) - K).toNat * 2 ^ K=m * 2 ^ s * 2 ^ (-((s:Int) - K)).toNat:=by
 rw [Nat.mul_assoc,Nat.mul_assoc,←Nat.pow_add,←Nat.pow_add]
 congr 2
 omega
theorem Ff (p:Nat):iP p * 2 ^ 1074=V p * fY p:=CY 1074
theorem jC (p:Nat):0<fY p:=Nat.two_pow_pos _
theorem AS {p:Nat} (hp:0<p):10 ^ (dx p - 1).toNat * fY p≤iP p * 10 ^ (-(dx p - 1)).toNat∧iP p * 10 ^ (-(dx p)).toNat<10 ^ (dx p).toNat * fY p:=by
 have hm:=rp hp
 generalize he:(sh p:Int) - 1074=e
 obtain ⟨d1,d2,d3,d4⟩:=Nr.lC (Nr.KV (mG p) e)
 have hN:=Nr.GV hm e
 have g1:=Nr.sx d1 d3 (d4 hN)
 have g2:=Nr.sw _ d1
 rw [d2] at g1 g2
 have hl:=List.length_pos_iff.2 d3
 have hx:dx p=(Nr.dec (Nr.KV (mG p) e)).length+min e 0:=by unfold dx;rw [he];rfl
 have ea:iP p=mG p * 2 ^ e.toNat:=by unfold iP;rw [he]
 have eb:fY p=2 ^ (-e).toNat:=by unfold fY;rw [he]
 have eN:Nr.KV (mG p) e=mG p * 2 ^ e.toNat * 5 ^ (-e).toNat:=rfl
 generalize Nr.KV (mG p) e=N at *
 generalize (Nr.dec N).length=L at *
 rw [ea,eb,hx]
 have t25:∀k:Nat,(10:Nat) ^ k=2 ^ k * 5 ^ k:=fun k=>by rw [←Nat.mul_pow]
 by_cases c:0≤e
 ·have h0:(-e).toNat=0:=by omega
  rw [h0,Nat.pow_zero,Nat.mul_one] at eN ⊢
  rw [Nat.mul_one]
  rw [←eN,show ((L:Int)+min e 0 - 1).toNat=L - 1 by omega,show (-((L:Int)+min e 0 - 1)).toNat=0 by omega,show (-((L:Int)+min e 0)).toNat=0 by omega,show ((L:Int)+min e 0).toNat=L by omega,Nat.pow_zero,Nat.mul_one]
  exact ⟨g1,g2⟩
 ·have h0:e.toNat=0:=by omega
  rw [h0,Nat.pow_zero,Nat.mul_one] at eN ⊢
  have OX:min e 0=e:=by omega
  rw [OX]
  generalize hj:(-e).toNat=j at *
  have SE:0<(5:Nat) ^ j:=Nat.pow_pos (by omega)
  have key:∀a b:Nat,a+j=L - 1+b→10 ^ a * 2 ^ j≤mG p * 10 ^ b:=fun a b Cq=>by
   refine Nat.le_of_mul_le_mul_right (c:=5 ^ j) ?_ SE
   rw [Nat.mul_assoc,←t25,←Nat.pow_add,Cq,Nat.pow_add,Nat.mul_right_comm,←eN]
   exact ak _ g1
  have On:∀a b:Nat,a+j=L+b→mG p * 10 ^ b<10 ^ a * 2 ^ j:=fun a b Cq=>by
   refine Nat.lt_of_mul_lt_mul_right (a:=5 ^ j) ?_
   rw [Nat.mul_assoc (10 ^ a),←t25,←Nat.pow_add,Cq,Nat.pow_add,Nat.mul_right_comm,←eN]
   exact Nat.mul_lt_mul_of_pos_right g2 (Nr.eM _)
  exact ⟨key _ _ (by omega),On _ _ (by omega)⟩
theorem mj {p N:Nat} {k:Int} (h:rd N k=some p):reads p N k=some (Nr.gr (Nr.dec N),(Nr.dec N).length+k):=aw h
theorem oj {p N:Nat} {k:Int} (h:¬rd N k=some p):reads p N k=none:=au h
theorem D8 {p:Nat} (hp:0<p):V p≤9007199254740992 * 2 ^ sh (p - 1)∧V p=V (p - 1)+2 ^ sh (p - 1):=by
 have h1:=Nr.vX (p - 1)
 have h2:=Nr.tm (p - 1)
 rw [show p - 1+1=p by omega] at h1 h2
 refine ⟨?_,h2⟩
 rw [h1]
 exact ak _ (by have:=Nr.sD (p - 1);omega)
theorem JO (p:Nat):V p<9007199254740992 * 2 ^ sh p∧V (p+1)=V p+2 ^ sh p :=
 ⟨Nat.mul_lt_mul_of_pos_right (Nr.sD p) (Nat.two_pow_pos _),Nr.tm p⟩
theorem unit_eq {a b V' K P Q:Nat} {S T:Nat} (h:a * K=V' * b) (hP:P=a * T) (hQ:Q=b * S) (N:Nat):N * S * K * b=N * Q * K∧P * K=V' * T * b:=by
 constructor
 ·rw [hQ];simp only [Nat.mul_assoc,Nat.mul_comm,Nat.mul_left_comm]
 ·rw [hP,Nat.mul_right_comm,h,Nat.mul_right_comm]
end Sh
end Go.Eng
set_option maxRecDepth 20000
namespace Go.Eng
namespace Sh
open Nr (V mG sh top gZ rd mK fZ)
theorem rQ {b:Nat} (h:0<b) (k:Int):0<tB b k:=Nat.mul_pos h (Nr.eM _)
theorem F4 {p:Nat} (hp:0<p) (ht:p≤top) (x n:Int) (K:Nat) (hK:iP p * K=V p * fY p) (Tj:K=2 ^ 1074) (N:Nat):rd N (x - n)=some p ↔
  (2 * (N * tB (fY p) (n - x) * K)<2 * (tA (iP p) (n - x) * K)+2 ^ sh p * 10 ^ (n - x).toNat * fY p∨(2 * (N * tB (fY p) (n - x) * K)=2 * (tA (iP p) (n - x) * K)+2 ^ sh p * 10 ^ (n - x).toNat * fY p∧p % 2=0)) ∧
  (2 * (tA (iP p) (n - x) * K)<2 * (N * tB (fY p) (n - x) * K)+2 ^ sh (p - 1) * 10 ^ (n - x).toNat * fY p∨(2 * (tA (iP p) (n - x) * K)=2 * (N * tB (fY p) (n - x) * K)+2 ^ sh (p - 1) * 10 ^ (n - x).toNat * fY p∧p % 2=0)):=by
 rw [zd hp,←Tj]
 have hb:=jC p
 rw [show (-(x - n))=n - x by omega]
 obtain ⟨u1,u2⟩:=unit_eq (S:=10 ^ (x - n).toNat) (T:=10 ^ (n - x).toNat) (Q:=tB (fY p) (n - x)) (P:=tA (iP p) (n - x)) hK rfl (by unfold tB;rw [show (-(n - x))=x - n by omega]) N
 rw [u2,←u1]
 have m1:mK p=2 * V p+2 ^ sh p:=by rw [Nr.kH,Nr.tm];omega
 have m2:2 * V p=mK (p - 1)+2 ^ sh (p - 1):=by
  have:=(D8 hp).2
  rw [Nr.kH,show p - 1+1=p by omega];omega
 generalize 10 ^ (n - x).toNat=T
 generalize hX:N * 10 ^ (x - n).toNat * K=X
 have c1:mK p * T * fY p=2 * (V p * T * fY p)+2 ^ sh p * T * fY p:=by rw [m1];simp only [Nat.add_mul,Nat.mul_assoc]
 have c2:2 * (V p * T * fY p)=mK (p - 1) * T * fY p+2 ^ sh (p - 1) * T * fY p:=by
  have:2 * (V p * T * fY p)=2 * V p * T * fY p:=by simp only [Nat.mul_assoc]
  rw [this,m2];simp only [Nat.add_mul]
 have c3:2 * (X * fY p)=2 * X * fY p:=by rw [Nat.mul_assoc]
 rw [c3,c2,Nat.add_lt_add_iff_right,Nat.add_right_cancel_iff,←c2,←c1]
 rw [Nat.mul_lt_mul_right hb,Nat.mul_lt_mul_right hb]
 have e1:2 * X * fY p=mK p * T * fY p ↔ 2 * X=mK p * T:=⟨Nat.eq_of_mul_eq_mul_right hb,fun h=>by rw [h]⟩
 have e2:mK (p - 1) * T * fY p=2 * X * fY p ↔ mK (p - 1) * T=2 * X:=⟨Nat.eq_of_mul_eq_mul_right hb,fun h=>by rw [h]⟩
 rw [e1,e2]
 exact ⟨fun h=>h.2,fun h=>⟨ht,h⟩⟩
theorem wz {a b:Nat} {y k m:Int} (hm:0≤m) (h:m=y+k):(10 ^ y.toNat * b≤a * 10 ^ (-y).toNat→10 ^ m.toNat * tB b k≤tA a k)∧(a * 10 ^ (-y).toNat<10 ^ y.toNat * b→tA a k<10 ^ m.toNat * tB b k):=by
 have he:m.toNat+(-k).toNat+(-y).toNat=y.toNat+k.toNat:=by omega
 have l:10 ^ m.toNat * tB b k * 10 ^ (-y).toNat=10 ^ y.toNat * b * 10 ^ k.toNat:=by
  unfold tB
  rw [←Nat.mul_assoc,Nat.mul_right_comm (10 ^ m.toNat),←Nat.pow_add,Nat.mul_right_comm,←Nat.pow_add,he,Nat.pow_add,Nat.mul_right_comm]
 have r:tA a k * 10 ^ (-y).toNat=a * 10 ^ (-y).toNat * 10 ^ k.toNat:=by unfold tA;rw [Nat.mul_right_comm]
 have h1:=Nr.eM (-y).toNat
 have h2:=Nr.eM k.toNat
 constructor
 ·intro h
  refine Nat.le_of_mul_le_mul_right ?_ h1
  rw [l,r];exact ak _ h
 ·intro h
  refine Nat.lt_of_mul_lt_mul_right (a:=10 ^ (-y).toNat) ?_
  rw [l,r];exact Nat.mul_lt_mul_of_pos_right h h2
theorem oF {p:Nat} (hp:0<p) {n:Int} (hn:1≤n):10 ^ (n - 1).toNat * tB (fY p) (n - dx p)≤tA (iP p) (n - dx p)∧tA (iP p) (n - dx p)<10 ^ n.toNat * tB (fY p) (n - dx p):=by
 obtain ⟨h1,h2⟩:=AS hp
 exact ⟨(wz (y:=dx p - 1) (k:=n - dx p) (m:=n - 1) (by omega) (by omega)).1 h1,(wz (y:=dx p) (k:=n - dx p) (m:=n) (by omega) (by omega)).2 h2⟩
theorem qO {p a b:Nat} {x n:Int} (h:rd (tA a (n - x) / tB b (n - x)) (x - n)=some p∨rd (tA a (n - x) / tB b (n - x)+1) (x - n)=some p):(some_ p a b x n).isSome=true:=by
 unfold some_
 simp only
 split
 ·rename_i c;exact c.1
 ·rename_i c
  rcases h with h | h
  ·by_cases h2:rd (tA a (n - x) / tB b (n - x)+1) (x - n)=some p
   ·rw [mj h2];rfl
   ·exact (c ⟨by rw [mj h];rfl,.inl (by rw [oj h2];rfl)⟩).elim
  ·rw [mj h];rfl
theorem IB {p:Nat} (hp:0<p) (ht:p≤top):(some_ p (iP p) (fY p) (dx p) 17).isSome=true:=by
 obtain ⟨r1,r2⟩:=oF hp (n:=17) (by omega)
 have hQ:=rQ (jC p) (17 - dx p)
 obtain ⟨K,hK⟩:∃K,K=2 ^ 1074:=⟨_,rfl⟩
 have QL:0<K:=by rw [hK];exact Nat.two_pow_pos 1074
 have Cq:=Ff p
 rw [←hK] at Cq
 have gd:=(D8 hp).1
 have gu:=(JO p).1
 have ru:=F4 hp ht (dx p) 17 K Cq hK
 have Tg:tA (iP p) (17 - dx p) * K=V p * 10 ^ (17 - dx p).toNat * fY p:=by
  unfold tA;rw [Nat.mul_right_comm,Cq,Nat.mul_right_comm]
 refine qO ?_
 have hT:0<10 ^ (17 - dx p).toNat * fY p:=Nat.mul_pos (Nr.eM _) (jC p)
 have bd:V p * 10 ^ (17 - dx p).toNat * fY p≤9007199254740992 * (2 ^ sh (p - 1) * 10 ^ (17 - dx p).toNat * fY p):=by
  rw [Nat.mul_assoc (V p),Nat.mul_assoc (2 ^ sh (p - 1)),←Nat.mul_assoc 9007199254740992]
  exact ak _ gd
 have bu:V p * 10 ^ (17 - dx p).toNat * fY p<9007199254740992 * (2 ^ sh p * 10 ^ (17 - dx p).toNat * fY p):=by
  rw [Nat.mul_assoc (V p),Nat.mul_assoc (2 ^ sh p),←Nat.mul_assoc 9007199254740992]
  exact Nat.mul_lt_mul_of_pos_right gu hT
 rw [←Tg] at bd bu
 generalize tA (iP p) (17 - dx p)=P at *
 generalize tB (fY p) (17 - dx p)=Q at *
 generalize 2 ^ sh (p - 1) * 10 ^ (17 - dx p).toNat * fY p=D at *
 generalize 2 ^ sh p * 10 ^ (17 - dx p).toNat * fY p=G at *
 have NB:(10:Nat) ^ ((17:Int) - 1).toNat=10000000000000000:=by decide
 rw [NB] at r1
 have hr:=Nat.mod_lt P hQ
 have JC:=Nat.div_add_mod P Q
 have q1:10000000000000000 * (Q * K)≤P * K:=by rw [←Nat.mul_assoc];exact ak K r1
 have U1:0<Q * K:=Nat.mul_pos hQ QL
 have Tf:P * K=P / Q * Q * K+P % Q * K:=by rw [←Nat.add_mul,Nat.mul_comm (P / Q)];rw [JC]
 have UM:P % Q * K<Q * K:=Nat.mul_lt_mul_of_pos_right hr QL
 by_cases c:2 * (P % Q)≤Q
 ·left
  have c':2 * (P % Q * K)≤Q * K:=by rw [←Nat.mul_assoc];exact ak K c
  rw [ru]
  exact ⟨.inl (by omega),.inl (by omega)⟩
 ·right
  have c':Q * K≤2 * (P % Q * K):=by rw [←Nat.mul_assoc];exact ak K (by omega)
  have hN:(P / Q+1) * Q * K=P / Q * Q * K+Q * K:=by rw [Nat.add_mul,Nat.add_mul,Nat.one_mul]
  rw [ru,hN]
  exact ⟨.inl (by omega),.inl (by omega)⟩
end Sh
end Go.Eng
set_option maxRecDepth 20000
namespace Go.Eng
namespace Sh
open Nr (V mG sh top gZ rd mK fZ)
theorem go_hit {p f i:Nat} {r:bz × Int} (h:some_ p (iP p) (fY p) (dx p) i=some r):go p (f+1) i=r:=by rw [go_succ,h];rfl
theorem go_miss {p f i:Nat} (h:some_ p (iP p) (fY p) (dx p) i=none):go p (f+1) i=go p f (i+1):=by rw [go_succ,h];rfl
theorem go_some {p:Nat} {r:bz × Int} {n:Nat} (h4:some_ p (iP p) (fY p) (dx p) n=some r):∀(m i f:Nat),i+m=n→m<f→(∀j:Nat,i≤j→j<n→some_ p (iP p) (fY p) (dx p) j=none)→go p f i=r:=by
 intro m
 induction m with
 | zero =>
  intro i f h1 h2 h3
  have h1:i=n:=h1
  obtain ⟨f,rfl⟩:∃g,f=g+1:=⟨f - 1,by omega⟩
  rw [h1];exact go_hit h4
 | succ m ih =>
  intro i f h1 h2 h3
  obtain ⟨f,rfl⟩:∃g,f=g+1:=⟨f - 1,by omega⟩
  rw [go_miss (h3 i (Nat.le_refl _) (by omega))]
  exact ih (i+1) f (by omega) (by omega) (fun j a b=>h3 j (by omega) b)
theorem first {p:Nat} (hp:0<p) (ht:p≤top):∃n:Nat,1≤n∧n≤17∧(∀j:Nat,1≤j→j<n→some_ p (iP p) (fY p) (dx p) j=none)∧some_ p (iP p) (fY p) (dx p) n=some (digits p):=by
 have xI:=IB hp ht
 have key:∀m i:Nat,i+m=17→1≤i→(∀j:Nat,1≤j→j<i→some_ p (iP p) (fY p) (dx p) j=none)→∃n:Nat,1≤n∧n≤17∧(∀j:Nat,1≤j→j<n→some_ p (iP p) (fY p) (dx p) j=none)∧(some_ p (iP p) (fY p) (dx p) n).isSome=true:=by
  intro m
  induction m with
  | zero =>
   intro i hi h1 hn
   have hi:i=17:=hi
   exact ⟨17,by omega,by omega,by rw [←hi];exact hn,xI⟩
  | succ m ih =>
   intro i hi h1 hn
   cases hs:some_ p (iP p) (fY p) (dx p) i with
   | some r=>exact ⟨i,h1,by omega,hn,by rw [hs];rfl⟩
   | none =>
    refine ih (i+1) (by omega) (by omega) fun j a b=>?_
    by_cases c:j=i
    ·rw [c];exact hs
    ·exact hn j a (by omega)
 obtain ⟨n,n1,n2,n3,n4⟩:=key 16 1 rfl (by omega) (fun j a b=>by omega)
 obtain ⟨r,hr⟩:=Option.isSome_iff_exists.1 n4
 refine ⟨n,n1,n2,n3,?_⟩
 have hg:digits p=r:=go_some hr (n - 1) 1 17 (by omega) (by omega) n3
 rw [hr,hg]
theorem qi {a b:Nat} (h:10 ^ a<10 ^ b):a<b:=by
 rcases Nat.lt_or_ge a b with c | c
 ·exact c
 ·have:=Nr.kh c;omega
theorem rstrip_ten {M:Nat} (h:0<M):Nr.gr (Nr.dec (10 * M))=Nr.gr (Nr.dec M):=by
 rw [Nr.pq (show ¬10 * M<10 by omega),Nr.wL,show 10 * M % 10=0 by omega,aw (by rfl),show 10 * M / 10=M by omega]
theorem r8:∀n:Nat,Nr.gr (Nr.dec (10 ^ n))=[49]
 | 0=>by decide +kernel
 | n+1=>by rw [Nat.pow_succ,Nat.mul_comm,rstrip_ten (Nr.eM n),r8 n]
theorem Bk (d:bz):(Nr.gr d).length≤d.length:=by
 obtain ⟨t,h,_⟩:=Nr.ko d
 have:=congrArg List.length h
 rw [ao] at this;omega
theorem yj {N n:Nat} (hn:1≤n) (h:N≤10 ^ n):(Nr.gr (Nr.dec N)).length≤n:=by
 rcases Nat.lt_or_eq_of_le h with c | c
 ·exact Nat.le_trans (Bk _) (Nr.ik n N c hn)
 ·rw [c,r8];exact hn
theorem ud {N:Nat} {k:Int} (h:0<N) (hl:(Nr.dec N).length≤300):Nr.read (Nr.gr (Nr.dec N)) ((Nr.dec N).length+k)=rd N k:=by
 obtain ⟨d1,d2,d3,d4⟩:=Nr.lC N
 obtain ⟨t,t1,t2⟩:=Nr.ko (Nr.dec N)
 have hn:=congrArg Nr.num t1
 rw [Nr.gC,Nr.jt,List.length_replicate,Nat.add_zero,d2] at hn
 have hL:=congrArg List.length t1
 rw [ao,List.length_replicate] at hL
 have ne:Nr.gr (Nr.dec N)≠[]:=by
  intro e0;rw [e0,show Nr.num []=0 from rfl,Nat.zero_mul] at hn;omega
 have:=List.length_pos_iff.2 ne
 unfold Nr.read Nr.valid
 rw [(Nr.ic d1 t1).1,aa (show 1≤(Nr.gr (Nr.dec N)).length∧(Nr.gr (Nr.dec N)).length≤300 by omega),aw (by rfl)]
 have e:rd N k=rd (Nr.num (Nr.gr (Nr.dec N)) * 10 ^ t) k:=by rw [←hn]
 rw [e,Nr.rd_shift,show ((Nr.dec N).length:Int)+k - (Nr.gr (Nr.dec N)).length=k+t by omega]
theorem Bb {p a b:Nat} {x n:Int} {r:bz × Int} (h:some_ p a b x n=some r):∃N,(N=tA a (n - x) / tB b (n - x)∨N=tA a (n - x) / tB b (n - x)+1)∧rd N (x - n)=some p∧r=(Nr.gr (Nr.dec N),(Nr.dec N).length+(x - n)):=by
 unfold some_ at h
 simp only at h
 have key:∀N,reads p N (x - n)=some r→rd N (x - n)=some p∧r=(Nr.gr (Nr.dec N),(Nr.dec N).length+(x - n)):=fun N hN=>by
  unfold reads at hN
  split at hN
  ·rename_i c;cases hN;exact ⟨c,rfl⟩
  ·cases hN
 split at h
 ·exact ⟨_,.inl rfl,key _ h⟩
 ·exact ⟨_,.inr rfl,key _ h⟩
theorem qw {p:Nat} (hp:0<p) (ht:p≤top):∃n N:Nat,1≤n∧n≤17∧0<N∧N≤10 ^ n∧rd N (dx p - n)=some p∧digits p=(Nr.gr (Nr.dec N),(Nr.dec N).length+(dx p - n)) ∧
  (∀j:Nat,1≤j→j<n→some_ p (iP p) (fY p) (dx p) j=none):=by
 obtain ⟨n,n1,n2,n3,n4⟩:=first hp ht
 obtain ⟨N,N1,N2,N3⟩:=Bb n4
 obtain ⟨r1,r2⟩:=oF hp (n:=n) (by omega)
 have hQ:=rQ (jC p) (n - dx p)
 rw [aj] at r2
 have lo:=(Nat.le_div_iff_mul_le hQ).2 r1
 have hi:=(Nat.div_lt_iff_lt_mul hQ).2 r2
 have:=Nr.eM ((n:Int) - 1).toNat
 refine ⟨n,N,n1,n2,?_,?_,N2,N3,n3⟩ <;> rcases N1 with h | h <;> omega
theorem yc {p:Nat} (hp:0<p) (ht:p≤top):Nr.read (digits p).1 (digits p).2=some p:=by
 obtain ⟨n,N,n1,n2,n3,n4,n5,n6,n7⟩:=qw hp ht
 rw [n6,ud n3 ?_,n5]
 refine Nat.le_trans (Nr.ik (n+1) N ?_ (by omega)) (by omega)
 exact Nat.lt_of_le_of_lt n4 (Nat.pow_lt_pow_right (by omega) (by omega))
end Sh
end Go.Eng
set_option maxRecDepth 20000
namespace Go.Eng
namespace Sh
open Nr (V mG sh top gZ rd mK fZ)
structure zW (d:bz):Prop where
 dg:d.all Nr.dV=true
 n:d≠[]
 h:d.getD 0 0≠48
theorem zW.dU {c:bz} (h:zW c) (j:Nat):zW (c++List.replicate j 48):=by
 refine ⟨?_,by simp [h.n],?_⟩
 ·rw [List.all_append,h.dg,Bool.true_and]
  rw [aC];intro x hx;rw [List.eq_of_mem_replicate hx];rfl
 ·rw [af,List.getElem?_append_left (List.length_pos_iff.2 h.n),←af]
  exact h.h
theorem zj (c:bz) (j:Nat):Nr.num (c++List.replicate j 48)=Nr.num c * 10 ^ j:=by
 rw [Nr.gC,Nr.jt,List.length_replicate,Nat.add_zero]
theorem uu {d:bz} (h:zW d) {n:Nat} (h1:1≤n) (h2:n≤d.length):zW (d.take n):=by
 refine ⟨(Nr.ic h.dg (List.take_append_drop n d).symm).1,?_,?_⟩
 ·intro e
  have:=congrArg List.length e
  rw [aF,aB] at this;omega
 ·rw [af,List.getElem?_take_of_lt (by omega),←af];exact h.h
end Sh
end Go.Eng
set_option maxRecDepth 20000
namespace Go.Eng
open Go.IntWalk
namespace Nr
theorem WA (t:bz):t=t.take (run t)++t.drop (run t)∧(t.take (run t)).all dV=true∧(t.take (run t)).length=run t:=by
 have e:t.takeWhile dV=t.take (run t):=by
  unfold run
  exact List.prefix_iff_eq_take.1 (List.takeWhile_prefix dV)
 refine ⟨(List.take_append_drop _ _).symm,?_,?_⟩
 ·rw [←e];exact List.all_takeWhile
 ·rw [aF,Nat.min_eq_left (run_le t)]
structure Shape (t a b fr ex e:bz):Prop where
 eq:t=a++fr++ex
 a0:a≠[]
 ad:a.all dV=true
 fr:(fr=[]∧b=[])∨(fr=46 :: b∧b≠[])
 bd:b.all dV=true
 ex:(ex=[]∧e=[])∨(∃c,HC c=true∧ex=c :: e∧signed e≠[])
 ed:(signed e).all dV=true
theorem Ww {x:bz} {k:Int} (h:ot x k≠0):∃e,((x=[]∧e=[])∨(∃c,HC c=true∧x=c :: e∧signed e≠[]))∧(signed e).all dV=true:=by
 cases x with
 | nil=>exact ⟨[],.inl ⟨rfl,rfl⟩,rfl⟩
 | cons c r =>
  rw [xh] at h
  by_cases hc:c=101∨c=69
  ·rw [aw hc] at h
   by_cases hr:run (signed r)=0∨run (signed r)<(signed r).length
   ·rw [aw hr] at h;exact (h rfl).elim
   ·obtain ⟨h1,h2,h3⟩:=WA (signed r)
    have hl:=run_le (signed r)
    refine ⟨r,.inr ⟨c,aa hc,rfl,?_⟩,?_⟩
    ·intro e;rw [e] at hr;exact hr (.inl rfl)
    ·rw [List.take_of_length_le (by omega)] at h2;exact h2
  ·rw [au hc] at h;exact (h rfl).elim
theorem Yo {s:bz} (h:iX s≠0):∃a b fr ex e,Shape (body s) a b fr ex e:=by
 have h2:¬(run (body s)=0∨((body s).getD 0 0=48∧1<run (body s)))∧ll ((body s).drop (run (body s)))≠0:=by
  have e:iX s=if run (body s)=0∨((body s).getD 0 0=48∧1<run (body s)) then 0 else ll ((body s).drop (run (body s))):=rfl
  rw [e] at h
  by_cases c:run (body s)=0∨((body s).getD 0 0=48∧1<run (body s))
  ·rw [aw c] at h;exact (h rfl).elim
  ·rw [au c] at h;exact ⟨c,h⟩
 obtain ⟨h2,h3⟩:=h2
 generalize body s=t at *
 obtain ⟨r1,r2,r3⟩:=WA t
 have ha:t.take (run t)≠[]:=fun e=>by
  rw [e] at r3;exact h2 (.inl r3.symm)
 by_cases YT:0<(t.drop (run t)).length∧(t.drop (run t)).getD 0 0=46
 ·cases hx:t.drop (run t) with
  | nil=>rw [hx] at YT;simp at YT
  | cons c r =>
   rw [hx] at YT h3 r1
   have:c=46:=YT.2
   subst this
   rw [xg] at h3
   by_cases hr:run r=0
   ·rw [aw hr] at h3;exact (h3 rfl).elim
   ·rw [au hr] at h3
    obtain ⟨s1,s2,s3⟩:=WA r
    obtain ⟨e,e1,e2⟩:=Ww h3
    refine ⟨t.take (run t),r.take (run r),46 :: r.take (run r),r.drop (run r),e,?_,ha,r2,.inr ⟨rfl,?_⟩,s2,e1,e2⟩
    ·rw [aG,List.cons_append,←s1];exact r1
    ·intro e;rw [e] at s3;exact hr s3.symm
 ·rw [tI YT] at h3
  obtain ⟨e,e1,e2⟩:=Ww h3
  refine ⟨t.take (run t),[],[],t.drop (run t),e,?_,ha,r2,.inl ⟨rfl,rfl⟩,rfl,e1,e2⟩
  rw [bj];exact r1
theorem vQ {c:UInt8} (h:dV c=true):HC c=false∧c≠46∧c.toNat<128∧([101,69]:bz).contains c=false:=by
 have h1:=ky.1 h
 have lB:∀d:UInt8,d.toNat<48∨57<d.toNat→c≠d:=fun d hd e=>by subst e;omega
 have n1:=lB 101 (by decide)
 have n2:=lB 69 (by decide)
 have n3:=lB 46 (by decide)
 refine ⟨ab (by simp [n1,n2]),n3,by omega,by simp [n1,n2]⟩
theorem oa {p:UInt8→Bool} {a b:bz} (ha:a.all p=true) (hb:b=[]∨p (b.getD 0 0)=false):(a++b).takeWhile p=a∧(a++b).dropWhile p=b:=by
 induction a with
 | nil =>
  cases b with
  | nil=>exact ⟨rfl,rfl⟩
  | cons c r =>
   have hc:p c=false:=hb.resolve_left (by simp)
   rw [bq,List.takeWhile_cons,List.dropWhile_cons,au (by rw [hc];simp),au (by rw [hc];simp)]
   exact ⟨rfl,rfl⟩
 | cons c r ih =>
  rw [List.all_cons,ah] at ha
  obtain ⟨i1,i2⟩:=ih ha.2
  rw [List.cons_append,List.takeWhile_cons,List.dropWhile_cons,aw ha.1,aw ha.1,i1,i2]
  exact ⟨rfl,rfl⟩
section
variable {s a b fr ex e:bz} (h:Shape (body s) a b fr ex e)
include h
theorem Shape.ZU:(body s).all (fun c=>decide (c.toNat<128))=true:=by
 have hd:∀l:bz,l.all dV=true→l.all (fun c=>decide (c.toNat<128))=true:=fun l hl=>aC.2 fun x hx=>aa (vQ (aC.1 hl x hx)).2.2.1
 rw [h.eq,List.all_append,List.all_append,ah,ah]
 refine ⟨⟨hd a h.ad,?_⟩,?_⟩
 ·rcases h.fr with ⟨h1,_⟩ | ⟨h1,_⟩
  ·rw [h1];rfl
  ·rw [h1,List.all_cons,hd b h.bd];rfl
 ·rcases h.ex with ⟨h1,_⟩ | ⟨c,h1,h2,_⟩
  ·rw [h1];rfl
  ·rw [h2,List.all_cons,ah]
   have hc:c=101∨c=69:=ar h1
   refine ⟨by rcases hc with rfl | rfl <;> decide,?_⟩
   have he:=h.ed
   cases e with
   | nil=>rfl
   | cons d r =>
    rw [mU] at he
    rw [List.all_cons]
    by_cases k:d=43∨d=45
    ·rw [aw k] at he
     rw [hd r he];rcases k with rfl | rfl <;> rfl
    ·rw [au k] at he
     have:=hd _ he
     rw [List.all_cons] at this;exact this
end
end Nr
end Go.Eng
set_option maxRecDepth 20000
namespace Go.Eng
namespace Sh
open Nr (V mG sh top gZ rd mK fZ dV HC signed run ll ot body iX)
theorem WB {a b:bz} (ha:a.all dV=true) (hb:b=[]∨dV (b.getD 0 0)=false):run (a++b)=a.length:=by
 unfold run
 rw [(Nr.oa ha hb).1]
theorem Xb {ex e:bz} {k:Int} (hk:k≠0) (hx:(ex=[]∧e=[])∨(∃c,HC c=true∧ex=c :: e∧signed e≠[])) (he:(signed e).all dV=true):ot ex k≠0:=by
 rcases hx with ⟨h,_⟩ | ⟨c,h1,h2,h3⟩
 ·rw [h];exact hk
 ·have hc:c=101∨c=69:=ar h1
  have hr:=WB he (b:=[]) (.inl rfl)
  rw [bj] at hr
  have hl:=List.length_pos_iff.2 h3
  rw [h2,Nr.xh,aw hc,au (by omega)];decide
theorem Yb {c:UInt8} (h:HC c=true):dV c=false∧c≠46:=by
 have:c=101∨c=69:=ar h
 rcases this with rfl | rfl <;> exact ⟨rfl,by decide⟩
theorem Y3 (s:bz):iX s=if run (body s)=0∨((body s).getD 0 0=48∧1<run (body s)) then 0 else ll ((body s).drop (run (body s))):=rfl
theorem Yh {s a b fr ex e:bz} (h:Nr.Shape (body s) a b fr ex e) (h0:a=[48]∨a.getD 0 0≠48):iX s≠0:=by
 have hxd:ex=[]∨dV (ex.getD 0 0)=false:=by
  rcases h.ex with ⟨x,_⟩ | ⟨c,x1,x2,_⟩
  ·exact .inl x
  ·right;rw [x2];exact (Yb x1).1
 have hfd:fr++ex=[]∨dV ((fr++ex).getD 0 0)=false:=by
  rcases h.fr with ⟨f1,_⟩ | ⟨f1,_⟩
  ·rw [f1];exact hxd
  ·right;rw [f1];rfl
 have hr:run (body s)=a.length:=by rw [h.eq,aG];exact WB h.ad hfd
 have Pf:=List.length_pos_iff.2 h.a0
 have hg:(body s).getD 0 0=a.getD 0 0:=by
  rw [h.eq,aG,af,List.getElem?_append_left Pf,←af]
 have Ns:(body s).drop a.length=fr++ex:=by rw [h.eq,aG,List.drop_left]
 rw [Y3,hr,hg,Ns,au]
 ·rcases h.fr with ⟨f1,f2⟩ | ⟨f1,f2⟩
  ·rw [f1,bq]
   have GF:¬(0<ex.length∧ex.getD 0 0=46):=by
    rintro ⟨k1,k2⟩
    rcases h.ex with ⟨x,_⟩ | ⟨c,x1,x2,_⟩
    ·rw [x] at k1;simp at k1
    ·rw [x2] at k2;exact (Yb x1).2 k2
   rw [Nr.tI GF]
   exact Xb (by decide) h.ex h.ed
  ·have hb:=WB h.bd hxd
   have Fy:=List.length_pos_iff.2 f2
   rw [f1,List.cons_append,Nr.xg,hb,au (by omega),List.drop_left]
   exact Xb (by decide) h.ex h.ed
 ·rintro (k | ⟨k1,k2⟩)
  ·omega
  ·rcases h0 with h0 | h0
   ·rw [h0] at k2;simp at k2
   ·exact h0 k1
theorem pD (n:Int):(dU n).all dV=true:=by
 unfold dU
 rw [aC];intro x hx;rw [List.eq_of_mem_replicate hx];rfl
theorem te {d:bz} (h:d.all dV=true) (n:Nat):(d.drop n).all dV=true∧(d.take n).all dV=true:=by
 have:=Nr.ic h (List.take_append_drop n d).symm
 exact ⟨this.2,this.1⟩
theorem nM {v:Int} (h:0≤v):Nr.itoa v=Nr.dec v.toNat∧(Nr.itoa v).all dV=true∧Nr.num (Nr.itoa v)=v.toNat∧Nr.itoa v≠[]:=by
 have e:Nr.itoa v=Nr.dec v.toNat:=by rw [Nr.nN,au (by omega),show v.natAbs=v.toNat by omega]
 obtain ⟨d1,d2,d3,d4⟩:=Nr.lC v.toNat
 rw [e];exact ⟨rfl,d1,d2,d3⟩
theorem Ei {v:Int} (h:0≤v):Nr.xU (45 :: Nr.itoa v)=-v∧signed (45 :: Nr.itoa v)=Nr.itoa v:=by
 obtain ⟨_,d1,d2,d3⟩:=nM h
 have e:signed (45 :: Nr.itoa v)=Nr.itoa v:=by rw [Nr.mU,aw (.inr rfl)]
 refine ⟨?_,e⟩
 unfold Nr.xU
 simp only
 rw [e,d2,aw (by rfl)];omega
theorem Eh {v:Int} (h:0≤v):Nr.xU (43 :: Nr.itoa v)=v∧signed (43 :: Nr.itoa v)=Nr.itoa v:=by
 obtain ⟨_,d1,d2,d3⟩:=nM h
 have e:signed (43 :: Nr.itoa v)=Nr.itoa v:=by rw [Nr.mU,aw (.inl rfl)]
 refine ⟨?_,e⟩
 unfold Nr.xU
 simp only
 rw [e,d2,au (by show ¬((43:UInt8)=45);decide)];omega
theorem Ak {D E:bz} {x y:Int} {j:Nat} (h1:Nr.valid D=true) (h2:Nr.valid E=true) (hn:Nr.num D=Nr.num E * 10 ^ j) (hx:x - D.length+j=y - E.length):Nr.read D x=Nr.read E y:=by
 unfold Nr.read
 rw [aw h1,aw h2,hn,Nr.rd_shift,hx]
theorem rN {D:bz} (h:D.all dV=true) (h1:1≤D.length) (h2:D.length≤300):Nr.valid D=true:=by
 unfold Nr.valid
 rw [h,aa ⟨h1,h2⟩];rfl
theorem Yi {t a b fr ex e:bz} (h:Nr.Shape t a b fr ex e):dV (t.getD 0 0)=true:=by
 have Pf:=List.length_pos_iff.2 h.a0
 rw [h.eq,aG,af,List.getElem?_append_left Pf,aq Pf]
 exact aC.1 h.ad _ (List.getElem_mem Pf)
theorem rC {v:Int} (h:0≤v) (h2:v<1000):(Nr.itoa v).length≤3:=by
 rw [(nM h).1]
 exact Nr.ik 3 v.toNat (by show v.toNat<1000;omega) (by omega)
theorem zw {d:bz} (hd:zW d) (hl:d.length≤17) {x:Int} (hx : -900≤x∧x≤900):∃a b fr ex e,Nr.Shape (laid d x) a b fr ex e∧(a=[48]∨a.getD 0 0≠48)∧(laid d x).length≤24∧Nr.read (a++b) ((a.length:Int)+Nr.xU e)=Nr.read d x:=by
 have hn:=List.length_pos_iff.2 hd.n
 have hv:=rN hd.dg hn (by omega)
 unfold laid
 by_cases c1:1≤x∧x≤21∧(d.length:Int)≤x
 ·rw [aw c1]
  have hz:=hd.dU (x - d.length).toNat
  have BN:(d++dU (x - d.length)).length=x.toNat:=by
   unfold dU;rw [ao,List.length_replicate];omega
  refine ⟨d++dU (x - d.length),[],[],[],[],⟨by simp,hz.n,hz.dg,.inl ⟨rfl,rfl⟩,rfl,.inl ⟨rfl,rfl⟩,rfl⟩,.inr hz.h,by omega,?_⟩
  rw [bj]
  refine Ak (j:=(x - d.length).toNat) (rN hz.dg (by omega) (by omega)) hv (zj d _) ?_
  rw [BN,show Nr.xU []=0 from rfl];omega
 ·rw [au c1]
  by_cases c2:1≤x∧x≤21
  ·rw [aw c2]
   have ht:=uu hd (n:=x.toNat) (by omega) (by omega)
   have Jf:(d.take x.toNat).length=x.toNat:=by rw [aF];omega
   have L5:(d.drop x.toNat).length=d.length - x.toNat:=aU ..
   refine ⟨d.take x.toNat,d.drop x.toNat,46 :: d.drop x.toNat,[],[],⟨by simp,ht.n,ht.dg,.inr ⟨rfl,?_⟩,(te hd.dg _).1,.inl ⟨rfl,rfl⟩,rfl⟩,.inr ht.h,?_,?_⟩
   ·intro e;rw [e,aB] at L5;omega
   ·rw [ao,ao,az,Jf,L5];omega
   ·rw [List.take_append_drop,Jf,show Nr.xU []=0 from rfl,show ((x.toNat:Nat):Int)+0=x by omega]
  ·rw [au c2]
   by_cases c3 : -5≤x∧x≤0
   ·rw [aw c3]
    have BN:(dU (-x)++d).length=(-x).toNat+d.length:=by
     unfold dU;rw [ao,List.length_replicate]
    have Ow:(dU (-x)++d).all dV=true:=by rw [List.all_append,pD,hd.dg];rfl
    refine ⟨[48],dU (-x)++d,46 :: (dU (-x)++d),[],[],⟨by simp,by simp,by rfl,.inr ⟨rfl,?_⟩,Ow,.inl ⟨rfl,rfl⟩,rfl⟩,.inl rfl,?_,?_⟩
    ·intro e;rw [e,aB] at BN;omega
    ·rw [ao,BN];show 2+_≤24;omega
    ·have hd1:([48]++(dU (-x)++d)).all dV=true:=by rw [List.all_append,Ow];rfl
     have LR:([48]++(dU (-x)++d)).length=1+((-x).toNat+d.length):=by rw [ao,BN];rfl
     refine Ak (j:=0) (rN hd1 (by omega) (by omega)) hv ?_ ?_
     ·rw [Nr.gC,Nr.gC]
      have:Nr.num (dU (-x))=0:=Nr.jt _
      rw [this,show Nr.num [48]=0 by decide];omega
     ·rw [LR,show Nr.xU []=0 from rfl,az];omega
   ·rw [au c3]
    have ht:=uu hd (n:=1) (by omega) hn
    have Jf:(d.take 1).length=1:=by rw [aF];omega
    have L5:(d.drop 1).length=d.length - 1:=aU ..
    have Qu:((if 1<d.length then 46 :: d.drop 1 else []:bz)=[]∧d.drop 1=[])∨((if 1<d.length then 46 :: d.drop 1 else []:bz)=46 :: d.drop 1∧d.drop 1≠[]):=by
     by_cases k:1<d.length
     ·right;rw [aw k];refine ⟨rfl,fun e=>?_⟩;rw [e,aB] at L5;omega
     ·left;rw [au k];exact ⟨rfl,List.length_eq_zero_iff.1 (by omega)⟩
    have JA:(if 1<d.length then 46 :: d.drop 1 else []:bz).length≤17:=by
     split
     ·rw [ay,L5];omega
     ·simp
    generalize hF:(if 1<d.length then 46 :: d.drop 1 else []:bz)=F at *
    by_cases c4:x<1
    ·rw [aw c4]
     obtain ⟨i1,i2,i3,i4⟩:=nM (v:=1 - x) (by omega)
     obtain ⟨e1,e2⟩:=Ei (v:=1 - x) (by omega)
     have il:=rC (v:=1 - x) (by omega) (by omega)
     refine ⟨d.take 1,d.drop 1,F,101 :: 45 :: Nr.itoa (1 - x),45 :: Nr.itoa (1 - x),⟨by simp,ht.n,ht.dg,Qu,(te hd.dg _).1,.inr ⟨101,by decide,rfl,by rw [e2];exact i4⟩,by rw [e2];exact i2⟩,.inr ht.h,?_,?_⟩
     ·rw [ao,ao,Jf,ao];show 1+F.length+(2+_)≤24;omega
     ·rw [List.take_append_drop,Jf,e1,show ((1:Nat):Int) + -(1 - x)=x by omega]
    ·rw [au c4]
     obtain ⟨i1,i2,i3,i4⟩:=nM (v:=x - 1) (by omega)
     obtain ⟨e1,e2⟩:=Eh (v:=x - 1) (by omega)
     have il:=rC (v:=x - 1) (by omega) (by omega)
     refine ⟨d.take 1,d.drop 1,F,101 :: 43 :: Nr.itoa (x - 1),43 :: Nr.itoa (x - 1),⟨by simp,ht.n,ht.dg,Qu,(te hd.dg _).1,.inr ⟨101,by decide,rfl,by rw [e2];exact i4⟩,by rw [e2];exact i2⟩,.inr ht.h,?_,?_⟩
     ·rw [ao,ao,Jf,ao];show 1+F.length+(2+_)≤24;omega
     ·rw [List.take_append_drop,Jf,e1,show ((1:Nat):Int)+(x - 1)=x by omega]
end Sh
end Go.Eng
set_option maxRecDepth 20000
namespace Go.Eng
open Go.IntWalk
theorem Lr (x:UInt64) (h:x.toNat<4503599627370496):((4503599627370496:UInt64) ||| x)=UInt64.ofNat (4503599627370496+x.toNat):=by
 apply fI
 rw [UInt64.toNat_or,fc]
 have:=mr (a:=1) (k:=52) (b:=x.toNat) h
 show 4503599627370496 ||| x.toNat=_
 rw [show (4503599627370496:Nat)=1 * 2 ^ 52 by decide,this]
 have:(1:Nat) * 2 ^ 52=4503599627370496:=by decide
 omega
theorem eH.goal (b:UInt64):eH.F b=some [.i .i64 (Nr.split b).1,.b (Nr.split b).2.1,.u64 (Nr.split b).2.2.1,.i .i64 (Nr.split b).2.2.2]:=by
 refine eH.bZ _ ?_
 intro v1 h1 v2 h2 v3 h3 v4 h4 v5 h5 v6 h6 v7 h7 v8 h8
 have hb:=b.toNat_lt
 have hv4:v4.toNat=b.toNat / 9223372036854775808:=by rw [h4,gQ];rfl
 have hv1:v1.toNat=b.toNat / 4503599627370496:=by rw [h1,gQ];rfl
 have e2:v2=((b.toNat / 4503599627370496 % 2048:Nat):Int):=by rw [h2,IU,hv1,i64_in _ (by omega)]
 have e3:v3.toNat=b.toNat % 4503599627370496:=by rw [h3,Dt]
 have en:decide (v4=1)=decide (9223372036854775808≤b.toNat):=by
  by_cases c:9223372036854775808≤b.toNat
  ·rw [aa c,aa (fI (by rw [hv4];show _=1;omega))]
  ·rw [ab c,ab (fun h=>by have:=congrArg UInt64.toNat h;rw [hv4] at this;have e1:(1:UInt64).toNat=1:=rfl;omega)]
 have ef:decide (v3=0)=decide (b.toNat % 4503599627370496=0):=by
  by_cases c:b.toNat % 4503599627370496=0
  ·rw [aa c,aa (fI (by rw [e3];exact c))]
  ·rw [ab c,ab (fun h=>by have:=congrArg UInt64.toNat h;rw [e3] at this;exact c this)]
 have NA:v3=UInt64.ofNat (b.toNat % 4503599627370496):=fI (by rw [e3,fc];omega)
 have e7:v7=UInt64.ofNat (4503599627370496+b.toNat % 4503599627370496):=by rw [h7,Lr _ (by omega),e3]
 have e8:v8=((b.toNat / 4503599627370496 % 2048:Nat):Int) - 1075:=by rw [h8,e2,i64_in _ (by omega)]
 have nX:∀b:Bool,(!b || b)=true:=by decide
 rw [bw (nX _),bw (nX _),bw (nX _),bw (nX _),en]
 unfold Nr.split
 simp only
 rw [ef] at h5 h6
 generalize b.toNat / 4503599627370496 % 2048=x at *
 by_cases c1:x=2047
 ·rw [aw c1]
  have Mr:decide (v2=2047)=true:=aa (by omega)
  rw [Mr,ai] at h5
  rw [h5,Mr]
  by_cases c2:b.toNat % 4503599627370496=0
  ·rw [aa c2,aw c2];rfl
  ·rw [ab c2,au c2];rfl
 ·rw [au c1]
  have Mr:decide (v2=2047)=false:=ab (by omega)
  rw [Mr,ae] at h5
  rw [h5,Mr,ae,ae]
  by_cases c2:x=0
  ·have Ms:decide (v2=0)=true:=aa (by omega)
   rw [Ms,ai] at h6
   rw [h6,Ms,aw c2]
   by_cases c3:b.toNat % 4503599627370496=0
   ·rw [aa c3,aw c3];rfl
   ·rw [ab c3,au c3,NA];rfl
  ·have Ms:decide (v2=0)=false:=ab (by omega)
   rw [Ms,ae] at h6
   rw [h6,Ms,au c2,ae,ae,e7,e8]
theorem eY.goal (v:Int) (hp:Nr.i64 v=true):eY.F v=some [.s (Nr.itoa v)]:=by
 rw [eY.eJ,hp];rfl
theorem vf (k:Nat) (h:k≤400):10 ^ k<2 ^ 1400:=by
 have hk:∀n:Nat,n=400→10 ^ k≤10 ^ n:=fun n hn=>Nat.pow_le_pow_right (by omega) (by omega)
 exact Nat.lt_of_le_of_lt (hk 400 rfl) (by decide +kernel)
theorem mu {a b i j k:Nat} (h1:a<2 ^ i) (h2:b<2 ^ j) (h:i+j≤k):a * b<2 ^ k:=by
 refine jq (i:=i+j) ?_ h
 rw [Nat.pow_add]
 exact Nat.mul_lt_mul'' h1 h2
theorem Ho {a:Nat} {k:Int} (ha:a<2 ^ 1100) (hk : -400≤k∧k≤400):Sh.tA a k<2 ^ 2500:=mu (i:=1100) (j:=1400) (k:=2500) ha (vf _ (by omega)) (by omega)
theorem Hn {a:Nat} {k:Int} (ha:a<2 ^ 1100) (hk : -400≤k∧k≤400):Sh.tB a k<2 ^ 2500:=mu (i:=1100) (j:=1400) (k:=2500) ha (vf _ (by omega)) (by omega)
theorem fD.goal (a b:List UInt16) (k:Int) (hp:(Nt.is a&&Nt.is b&&decide (-400≤k∧k≤400∧Nt.val a<2 ^ 1100∧Nt.val b<2 ^ 1100))=true):fD.F a b k=some [.sl .ws (Nt.of (Sh.tA (Nt.val a) k)),.sl .ws (Nt.of (Sh.tB (Nt.val b) k))]:=by
 rw [ah,ah] at hp
 obtain ⟨⟨ha,hb⟩,hp⟩:=hp
 obtain ⟨k1,k2,k3,k4⟩:=ar hp
 refine fD.bZ _ _ _ ?_
 intro v1 h1 v2 h2 v3 h3 v4 h4
 by_cases c:0≤k
 ·have h1:v1=Nt.of (10 ^ k.toNat):=h1
  have e:=vf k.toNat (by omega)
  have Sc:Nt.is v1=true:=by rw [h1];exact iy (i:=1400) e (by omega)
  rw [aa c,ai,bw (aa ⟨by omega,by omega,c,by omega,jq (i:=1400) (k:=4096) e (by omega)⟩),ha,Sc]
  refine (bw (by rfl)).trans ?_
  rw [h2,h1,Nt.val_of]
  unfold Sh.tA Sh.tB
  rw [show (-k).toNat=0 by omega,Nat.pow_zero,Nat.mul_one,Nt.of_val (Nt.iS hb)]
 ·have ew:IntKind.i64.wrap (0 - k)=-k:=by rw [i64_in _ (by omega)];omega
  rw [ew] at h3
  have h3:v3=Nt.of (10 ^ (-k).toNat):=h3
  have e:=vf (-k).toNat (by omega)
  have Sb:Nt.is v3=true:=by rw [h3];exact iy (i:=1400) e (by omega)
  rw [ab c,ae,ew,bw (aa ⟨by omega,by omega,by omega,by omega,jq (i:=1400) (k:=4096) e (by omega)⟩),hb,Sb]
  refine (bw (by rfl)).trans ?_
  rw [h4,h3,Nt.val_of]
  unfold Sh.tA Sh.tB
  rw [show k.toNat=0 by omega,Nat.pow_zero,Nat.mul_one,Nt.of_val (Nt.iS ha)]
theorem fk.goal (a b:List UInt16) (x:Int) (hp:(Nt.is a&&Nt.is b&&decide (-400≤x∧x≤400∧Nt.val a<2 ^ 1100∧Nt.val b<2 ^ 1100))=true):fk.F a b x=some [.b (decide (Sh.tB (Nt.val b) (-x)≤Sh.tA (Nt.val a) (-x)))]:=by
 have Jn:=hp
 rw [ah,ah] at hp
 obtain ⟨⟨ha,hb⟩,hp⟩:=hp
 obtain ⟨k1,k2,k3,k4⟩:=ar hp
 refine fk.bZ _ _ _ ?_
 intro v1 h1 v2 h2 v3 h3
 have ew:IntKind.i64.wrap (0 - x)=-x:=by rw [i64_in _ (by omega)];omega
 rw [ew] at h1 h2 ⊢
 have i1:Nt.is v1=true:=by rw [h1];exact iy (i:=2500) (Ho k3 (by omega)) (by omega)
 have i2:Nt.is v2=true:=by rw [h2];exact iy (i:=2500) (Hn k4 (by omega)) (by omega)
 rw [ha,hb,aa (⟨by omega,by omega,k3,k4⟩ : -400≤-x∧-x≤400∧Nt.val a<2 ^ 1100∧Nt.val b<2 ^ 1100),i1,i2]
 refine (bw (by rfl)).trans ((bw (by rfl)).trans ?_)
 rw [h3,h1,h2,Nt.val_of,Nt.val_of]
 rcases nP (Sh.tA (Nt.val a) (-x)) (Sh.tB (Nt.val b) (-x)) with ⟨k,l⟩ | ⟨k,l⟩ | ⟨k,l⟩
 ·rw [k,ab (by omega),ab (by omega)]
 ·rw [k,aa (by omega),aa (by omega)]
 ·rw [k,aa (by omega),aa (by omega)]
theorem Iw:(10:Nat) ^ 200<2 ^ 665:=by decide +kernel
theorem fj.goal (b:UInt64) (a:List UInt16) (p:Int) (hp:(Nt.is a&&decide (-1000≤p∧p≤1000∧0<Nt.val a∧Nt.val a<10 ^ 200))=true):fj.F b a p=some [.s ((Sh.jM b.toNat (Nt.val a) p).getD ([],0)).1,.i .i64 ((Sh.jM b.toNat (Nt.val a) p).getD ([],0)).2,.b (Sh.jM b.toNat (Nt.val a) p).isSome]:=by
 rw [ah] at hp
 obtain ⟨ha,hp⟩:=hp
 obtain ⟨k1,k2,k3,k4⟩:=ar hp
 refine fj.bZ _ _ _ ?_
 intro v1 h1 v2 h2 v3 h3 v4 h4 v5 h5
 rw [Sh.tW] at h1 h2 ⊢
 rw [Sh.uc]
 have hl:=Nr.ik 200 (Nt.val a) k4 (by omega)
 rw [Nr.wy] at h2
 have e1:IntKind.i64.wrap (v1+p)=(Nr.dec (Nt.val a)).length+p:=by rw [h1,i64_in _ (by omega)]
 rw [e1,h2,Sh.ud k3 (by omega)] at h3 h4
 have nX:∀b:Bool,(!(!b) || ((!b)&&(!b)))=true∧(b || !b)=true:=by decide
 have L8:∀b:Bool,(!(!(!b)) || ((!(!b))&&(!(!b))))=true∧((!b) || (!(!b)))=true:=by decide
 rw [ha,bQ,aa (show (Nr.dec (Nt.val a)).length≤1099511627776∧([48]:bz).length≤100 from ⟨by omega,by decide⟩)]
 refine (bw (by rfl)).trans ?_
 rw [bw (L8 _).1,bw (L8 _).2,e1]
 cases hq:Nr.rd (Nt.val a) p with
 | none =>
  rw [hq] at h4
  have e4:v4=false:=h4
  rw [e4] at h5
  have e5:v5=true:=h5
  rw [e5,Sh.oj (by rw [hq];simp)];rfl
 | some q =>
  have hle:q≤9218868437227405311:=by
   unfold Nr.rd at hq
   exact Nr.Gi hq
  rw [hq] at h3 h4
  have e4:v4=true:=h4
  have e3:v3=UInt64.ofNat q:=h3
  have NA:v3.toNat=q:=by rw [e3,fc];omega
  rw [e4,aH,ae] at h5
  by_cases c:q=b.toNat
  ·have e5:v5=false:=by rw [h5,aa (fI (by rw [NA,c]))];rfl
   rw [e5,Sh.mj (by rw [hq,c]),h2];rfl
  ·have e5:v5=true:=by rw [h5,ab (fun e=>c (by rw [←NA,e]))];rfl
   rw [e5,Sh.oj (by rw [hq];simp [c])];rfl
end Go.Eng
set_option maxRecDepth 20000
namespace Go.Eng
open Go.IntWalk
theorem Ar {d:List UInt16} {n:Nat} (hv:Nt.val d=n) (hl:d=[]∨65536 ^ (d.length - 1)≤n):d=Nt.of n:=by
 rw [←hv,Nt.of_val]
 rcases hl with h | h
 ·rw [h];rfl
 ·by_cases h0:d=[]
  ·rw [h0];rfl
  ·have Nn:=List.length_pos_iff.2 h0
   rw [lV h0]
   simp only [Bool.not_eq_true',decide_eq_false_iff_not]
   intro e0
   have Ft:=dn d (d.length - 1) (by omega)
   rw [show d.length - 1+1=d.length by omega,List.take_length,e0] at Ft
   have fO:=Nt.gW (d.take (d.length - 1))
   rw [aF,Nat.min_eq_left (by omega)] at fO
   have Mv:(0:UInt16).toNat=0:=rfl
   rw [Mv,Nat.mul_zero] at Ft
   omega
theorem Il {a:List UInt16} (hn:Nt.norm a=true) (h0:a≠[]):65536 ^ (a.length - 1)≤Nt.val a:=by
 obtain ⟨h1,h2⟩:=lU hn h0
 have:65536 ^ (a.length - 1) * 1≤65536 ^ (a.length - 1) * (a.getD (a.length - 1) 0).toNat:=Nat.mul_le_mul_left _ h1
 omega
theorem bg_Add.ju (a b:List UInt16) (ha:a.length≤1000000) (Cq:b.length≤a.length) (hn:Nt.norm a=true):∀(m i:Nat) (d:List UInt16) (k:Nat),i+m=a.length→d.length=i→k≤1→Nt.val d+65536 ^ i * k=Nt.val (a.take i)+Nt.val (b.take i) →
  bg_Add.l2 b k a.length i (d++a.drop i)=some [.sl .ws (Nt.of (Nt.val a+Nt.val b))]:=by
 intro m
 induction m with
 | zero =>
  intro i d k hi hl hk hv
  have hi:i=a.length:=hi
  subst hi
  refine bg_Add.iw _ _ _ _ _ ?_
  intro v1 h1 v2 h2 v3 h3 v4 h4 v5 h5 v6 h6
  rw [List.take_of_length_le (Nat.le_refl _),List.take_of_length_le Cq] at hv
  rw [ab (by omega),ae,List.drop_length,bj]
  by_cases c0:k=0
  ·subst c0
   rw [Nat.mul_zero,Nat.add_zero] at hv
   have:d=Nt.of (Nt.val a+Nt.val b):=Ar hv (by
    by_cases h0:a=[]
    ·left;rw [h0] at hl;exact List.length_eq_zero_iff.1 hl
    ·right;rw [hl];have:=Il hn h0;omega)
   rw [ab (by omega),ae,bg_Add.uy,←this]
  ·have O3:k=1:=by omega
   subst O3
   have e6:v6=[(1:UInt16)]:=h6
   rw [aa (by omega),ai,e6,bw (dW (by rw [az];omega) (by rw [az];omega)),bg_Add.uy]
   have hv2:Nt.val (d++[1])=Nt.val a+Nt.val b:=by
    rw [Nt.fJ,hl,←hv];rfl
   have:d++[1]=Nt.of (Nt.val a+Nt.val b):=Ar hv2 (.inr (by
    rw [ao,az,Nat.add_sub_cancel,hl];omega))
   rw [this]
 | succ m ih =>
  intro i d k hi hl hk hv
  refine bg_Add.iw _ _ _ _ _ ?_
  intro v1 h1 v2 h2 v3 h3 v4 h4 v5 h5 v6 h6
  rw [aj] at h1 h3
  have Ns:a.drop i=a.getD i 0 :: a.drop (i+1):=drop_cons (by omega) 0
  have hL:(d++a.drop i).length=a.length:=by rw [ao,aU];omega
  have e1:v1=a.getD i 0:=by
   rw [h1,af,aS (by omega),hl,Nat.sub_self,Ns];rfl
  have hd:=v1.toNat_lt
  have hd3:=v3.toNat_lt
  rw [i64_in _ (by omega)] at h2 h4
  have hx:bB (i:Int) (d++a.drop i).length=true:=bK (by omega) (by omega)
  have KE:decide ((i:Int).toNat<(d++a.drop i).length)=true:=aa (by omega)
  have GC:∀y:UInt16,(d++a.drop i).set i y=(d++[y])++a.drop (i+1):=fun y=>by
   rw [List.set_append_right _ _ (by omega),hl,Nat.sub_self,Ns,aG];rfl
  have next:∀q:Nat,q≤131071→q=k+v1.toNat+(if i<b.length then (b.getD i 0).toNat else 0)→bg_Add.j3 b q i a.length i (d++a.drop i)=some [.sl .ws (Nt.of (Nt.val a+Nt.val b))]:=by
   intro q AI hq
   refine bg_Add.oY _ _ _ _ _ _ ?_
   intro w1 g1 w2 g2 w3 g3
   rw [aj,mT,GC] at g1
   have e2:w2=((q / 65536:Nat):Int):=by rw [g2];exact vJ q
   have e3:w3=((i+1:Nat):Int):=by rw [g3,i64_in _ (by omega)];omega
   rw [hx,KE,bQ,bQ,g1,e2,e3]
   refine ih (i+1) _ _ (by omega) (by rw [ao,hl];rfl) (by omega) ?_
   have hb:Nt.val (b.take (i+1))=Nt.val (b.take i)+65536 ^ i * (if i<b.length then (b.getD i 0).toNat else 0):=by
    by_cases c:i<b.length
    ·rw [aw c,dn b i c]
    ·rw [au c,List.take_of_length_le (by omega),List.take_of_length_le (by omega)];omega
   rw [hb,dn a i (by omega),←e1,Nt.fJ,hl]
   simp only [Nt.val,Nat.mul_zero,Nat.add_zero,Nt.dz]
   rw [Nat.pow_succ,Nat.mul_assoc,Nat.add_assoc,←Nat.mul_add]
   have:q % 65536+65536 * (q / 65536)=q:=Nat.mod_add_div q 65536
   rw [this,hq,Nat.mul_add,Nat.mul_add]
   omega
  rw [aa (by omega),ai,hx,KE,bQ,bQ]
  by_cases c:i<b.length
  ·have e5:v5=((k+v1.toNat+v3.toNat:Nat):Int):=by
    rw [h5,h2,h4,i64_in ((k:Int)+v1.toNat) (by omega),i64_in _ (by omega)];omega
   rw [aa (by omega),ai,bw (bK (by omega) (by omega)),e5]
   exact next _ (by omega) (by rw [aw c,h3])
  ·have e5:IntKind.i64.wrap ((k:Int)+v2)=((k+v1.toNat:Nat):Int):=by rw [h2,i64_in _ (by omega)];omega
   rw [ab (by omega),ae,e5]
   exact next _ (by omega) (by rw [au c,Nat.add_zero])
theorem bg_Add.goal (a b:List UInt16) (hp:(Nt.is a&&Nt.is b)=true):bg_Add.F a b=some [.sl .ws (Nt.of (Nt.val a+Nt.val b))]:=by
 rw [ah] at hp
 obtain ⟨ha,hb⟩:=hp
 have la:=Nt.iY ha
 have lb:=Nt.iY hb
 refine bg_Add.bZ _ _ ?_
 intro v1 h1
 have e1:v1=false:=by rw [h1,ha,hb];rfl
 have key:∀a b:List UInt16,Nt.is a=true→Nt.is b=true→b.length≤a.length→bg_Add.j1 a b=some [.sl .ws (Nt.of (Nt.val a+Nt.val b))]∧True:=fun a b ha hb h=>⟨by
  have la:=Nt.iY ha
  have:=bg_Add.ju a b (by omega) h (Nt.iS ha) a.length 0 [] 0 (by omega) rfl (by omega) (by simp [Nt.val])
  rw [bh,bq] at this
  rw [bg_Add.lp]
  first
  | (rw [bw (dW (by omega) (by omega))];exact this)
  ,trivial⟩
 rw [bw (aa (by omega)),ha,bw (by rw [aa (show b.length≤1099511627776 by omega)];rfl),bw (by rfl),bw (by rfl),e1,ae]
 by_cases c:(a.length:Int)<b.length
 ·rw [aa c,ai]
  first
  | exact ((key b a hb ha (by omega)).1).trans (by rw [Nat.add_comm])
  | exact (key a b ha hb (by omega)).1
 ·rw [ab c,ae]
  first
  | exact (key a b ha hb (by omega)).1
  | exact ((key b a hb ha (by omega)).1).trans (by rw [Nat.add_comm])
theorem EC {n:Nat} (h:10000≤n):Nr.dec n=Nr.dec (n / 10000)++(Sh.dU (4 - ((Nr.dec (n % 10000)).length:Int))++Nr.dec (n % 10000)):=by
 obtain ⟨q1,q2,q3,q4⟩:=Nr.lC (n / 10000)
 obtain ⟨r1,r2,r3,r4⟩:=Nr.lC (n % 10000)
 have rl:=Nr.ik 4 (n % 10000) (by show n % 10000<10000;omega) (by omega)
 have hz:=Sh.pD (4 - ((Nr.dec (n % 10000)).length:Int))
 have BN:(Sh.dU (4 - ((Nr.dec (n % 10000)).length:Int))++Nr.dec (n % 10000)).length=4:=by
  unfold Sh.dU;rw [ao,List.length_replicate];omega
 have Ov:Nr.num (Sh.dU (4 - ((Nr.dec (n % 10000)).length:Int)))=0:=Nr.jt _
 have hnum:Nr.num (Nr.dec (n / 10000)++(Sh.dU (4 - ((Nr.dec (n % 10000)).length:Int))++Nr.dec (n % 10000)))=n:=by
  rw [Nr.gC,BN,Nr.gC,Ov,q2,r2,Nat.zero_mul,Nat.zero_add]
  show n / 10000 * 10000+_=n
  omega
 have hu:=Nr.sX _ (Nr.dec (n / 10000)++(Sh.dU (4 - ((Nr.dec (n % 10000)).length:Int))++Nr.dec (n % 10000))) rfl (by rw [List.all_append,List.all_append,q1,hz,r1];rfl) (by simp [q3]) (by
  rw [af,List.getElem?_append_left (List.length_pos_iff.2 q3),←af];exact q4 (by omega))
 rw [hnum] at hu
 exact hu.symm
theorem Dh {n K:Nat} (h:n<10000 ^ K):(Nt.of n).length≤K:=(Nt.js n K).2 (Nat.lt_of_lt_of_le h (Nat.pow_le_pow_left (by omega) K))
theorem cS.cW:∀(K n:Nat) (ps:List bz),n<10000 ^ K→(n=0→ps≠[])→ps.length+K≤5000→(ps.map List.length).sum≤4 * ps.length →
  cS.l1 (Nt.of n) ps=some [.s ((if n=0 then [] else Nr.dec n)++ps.reverse.flatten)]:=by
 intro K
 induction K with
 | zero =>
  intro n ps hn h0 hl hs
  have Qh:n=0:=by rw [Nat.pow_zero] at hn;omega
  exact fin n ps Qh (h0 Qh) (by omega) hs
 | succ K ih =>
  intro n ps hn h0 hl hs
  by_cases c:n=0
  ·exact fin n ps c (h0 c) (by omega) hs
  ·refine cS.bV _ _ ?_
   intro v1 h1 v2 h2 v3 h3 v4 h4 v5 h5 v6 h6
   rw [Nt.val_of] at h1 h2
   have h1:v1=Nt.of (n / 10000):=h1
   have e2:v2.toNat=n % 10000:=by
    rw [h2,Nt.dz];show n % 10000 % 65536=_;omega
   have e3:v3=((n % 10000:Nat):Int):=by rw [h3,e2,i64_in _ (by omega)]
   have ei:Nr.itoa v3=Nr.dec (n % 10000):=by rw [(Sh.nM (by omega)).1,e3,aj]
   have i3:Nr.i64 v3=true:=aa (by omega)
   have rl:=Nr.ik 4 (n % 10000) (by show n % 10000<10000;omega) (by omega)
   have e5:v5=4 - ((Nr.dec (n % 10000)).length:Int):=by rw [h5,h4,ei,i64_in _ (by omega)]
   have hL:=Dh hn
   have oy:0<(Nt.of n).length:=by rw [Nt.kG (by omega)];simp
   have hq:n / 10000<10000 ^ K:=by
    rw [Nat.div_lt_iff_lt_mul (by omega),←Nat.pow_succ];exact hn
   have iA:((10000:UInt16)≠0):=by decide
   rw [aa (show (0:Int)<((Nt.of n).length:Int) by omega),ai,bw (aa ⟨by omega,iA⟩),i3,bQ,h1]
   by_cases c1:n / 10000=0
   ·rw [c1,Nt.ij]
    rw [ab (by simp),ae,cS.jZ,bw (dW (by rw [az];omega) (by rw [az];omega)),ei]
    have:=ih 0 (ps++[Nr.dec (n % 10000)]) (by exact Nat.pow_pos (by omega)) (fun _=>by simp) (by rw [ao,az];omega) (by
     rw [List.map_append,List.sum_append,ao,az]
     simp only [aX,List.map_nil,List.sum_cons,List.sum_nil];omega)
    rw [Nt.ij] at this
    rw [this,aw rfl,au c,List.reverse_append,List.reverse_singleton,List.singleton_append,List.flatten_cons,show n % 10000=n by omega];rfl
   ·have OO:0<(Nt.of (n / 10000)).length:=by rw [Nt.kG (by omega)];simp
    have BN:(Sh.dU v5).length≤4:=by unfold Sh.dU;rw [List.length_replicate];omega
    have e6:v6.length=4:=by
     rw [h6,ei,e5];unfold Sh.dU;rw [ao,List.length_replicate];omega
    rw [aa (by omega),ai,bw (aa ⟨rfl,by omega,by omega⟩),bw (aa (by rw [ei];omega)),cS.jZ,bw (dW (by rw [az];omega) (by rw [az];omega))]
    rw [ih (n / 10000) (ps++[v6]) hq (fun h=>(c1 h).elim) (by rw [ao,az];omega) (by
     rw [List.map_append,List.sum_append,ao,az]
     simp only [aX,List.map_nil,List.sum_cons,List.sum_nil];omega)]
    rw [au c1,au c,List.reverse_append,List.reverse_singleton,List.singleton_append,List.flatten_cons,EC (show 10000≤n by omega),h6,ei,e5]
    simp only [aG]
where
 fin (n:Nat) (ps:List bz) (h:n=0) (h0:ps≠[]) (hl:ps.length≤5000) (hs:(ps.map List.length).sum≤4 * ps.length):cS.l1 (Nt.of n) ps=some [.s ((if n=0 then [] else Nr.dec n)++ps.reverse.flatten)]:=by
  subst h
  rw [Nt.ij]
  refine cS.bV _ _ ?_
  intro v1 h1 v2 h2 v3 h3 v4 h4 v5 h5 v6 h6
  have he:ps.isEmpty=false:=by cases ps <;> simp at h0 ⊢
  have hf:ps.reverse.flatten.length≤20000:=by
   rw [List.length_flatten,List.map_reverse,List.sum_reverse];omega
  rw [ab (by simp),ae,bw (aa (show ps.length≤100000 by omega))]
  rw [bw (aa ⟨rfl,by rw [List.length_reverse];omega,by omega⟩),aw rfl];rfl
theorem FJ:(2:Nat) ^ 4096≤10000 ^ 2000:=by decide +kernel
theorem cS.goal (a:List UInt16) (hp:Nt.is a=true):cS.F a=some [.s (Sh.pM (Nt.val a))]:=by
 have hl:=Nt.iY hp
 rw [cS.eJ,bw (aa (by omega)),hp,Sh.tW]
 refine Eq.trans (b:=_) (ae _ _) ?_
 by_cases c:a=[]
 ·subst c
  show _=some [TV.s (Nr.dec 0)]
  rw [Nr.kB (by omega)];rfl
 ·have h0:=List.length_pos_iff.2 c
  have oy:=Nt.oR (Nt.iS hp) c
  rw [ab (by omega),ae]
  have:=cS.cW 2000 (Nt.val a) [] (Nat.lt_of_lt_of_le (Nt.is_lt hp) FJ) (fun h=>by omega) (by simp) (by simp)
  rw [Nt.of_val (Nt.iS hp),au (by omega)] at this
  rw [this];simp
end Go.Eng
set_option maxRecDepth 20000
namespace Go.Eng
open Go.IntWalk
theorem G0 {n k p:Nat} (hp:p=10 ^ k) (hk:1≤k) (h:p≤n):Nr.dec n=Nr.dec (n / p)++(Sh.dU ((k:Int) - ((Nr.dec (n % p)).length:Int))++Nr.dec (n % p)):=by
 have Jn:0<p:=by rw [hp];exact Nat.pow_pos (by omega)
 obtain ⟨q1,q2,q3,q4⟩:=Nr.lC (n / p)
 obtain ⟨r1,r2,r3,r4⟩:=Nr.lC (n % p)
 have rl:=Nr.ik k (n % p) (by rw [←hp];exact Nat.mod_lt _ Jn) hk
 have hz:=Sh.pD ((k:Int) - ((Nr.dec (n % p)).length:Int))
 have BN:(Sh.dU ((k:Int) - ((Nr.dec (n % p)).length:Int))++Nr.dec (n % p)).length=k:=by
  unfold Sh.dU;rw [ao,List.length_replicate];omega
 have Ov:Nr.num (Sh.dU ((k:Int) - ((Nr.dec (n % p)).length:Int)))=0:=Nr.jt _
 have hnum:Nr.num (Nr.dec (n / p)++(Sh.dU ((k:Int) - ((Nr.dec (n % p)).length:Int))++Nr.dec (n % p)))=n:=by
  rw [Nr.gC,BN,Nr.gC,Ov,q2,r2,Nat.zero_mul,Nat.zero_add,←hp]
  exact Nat.div_add_mod' n p
 have hu:=Nr.sX _ (Nr.dec (n / p)++(Sh.dU ((k:Int) - ((Nr.dec (n % p)).length:Int))++Nr.dec (n % p))) rfl (by rw [List.all_append,List.all_append,q1,hz,r1];rfl) (by simp [q3]) (by
  rw [af,List.getElem?_append_left (List.length_pos_iff.2 q3),←af];exact q4 (Nat.div_pos h Jn))
 rw [hnum] at hu
 exact hu.symm
theorem Ij {N:Nat} (hl:(Nr.dec N).length≤1000):cO.j2 (Nr.dec N)=some [.s (Nr.dec N)]:=by
 obtain ⟨q1,q2,q3,q4⟩:=Nr.lC N
 have LR:=Nr.kT N
 refine cO.jg _ ?_
 intro v1 h1 v2 h2 v3 h3
 have e1:v1=((Nr.dec N).length - 1:Nat):=by rw [h1,i64_in _ (by omega)];omega
 have e2:v2=(Nr.dec N).take ((Nr.dec N).length - 1):=by
  rw [h2,e1,aj]
  unfold Lib.trimLeftS
  by_cases c:N<10
  ·rw [Nr.kB c];rfl
  ·have Pt:=q4 (by omega)
   have hlen:2≤(Nr.dec N).length:=by
    rw [Nr.pq c,ao]
    have:=Nr.kT (N / 10)
    simp;omega
   generalize Nr.dec N=s at *
   match s,hlen,Pt with
   | x :: y :: r,_,Pt =>
    have hx:x≠48:=Pt
    simp [hx]
 have e3:v3=Nr.dec N:=by rw [h3,e2,e1,aj,List.take_append_drop]
 rw [bw (jm (by omega) (by omega) (by omega)),bw ?_,bw (jm (by omega) (by omega) (by omega)),bw (aa ?_),e3]
 ·rw [e2,e1,aj];simp only [aF,aU];omega
 ·rw [ah]
  refine ⟨aa ⟨?_,by decide⟩,by decide⟩
  simp only [aF];omega
theorem t19:(10:Nat) ^ 19=10000000000000000000:=by decide
theorem t20:(10:Nat) ^ 20=100000000000000000000:=by decide
theorem t38:(10000000000000000000:Nat) ^ 2=100000000000000000000000000000000000000:=by decide
theorem t40:(10:Nat) ^ 40=10000000000000000000000000000000000000000:=by decide
theorem R3:(10000000000000000000:UInt64).toNat=10000000000000000000:=rfl
theorem cO.cW:∀(k:Nat) (a:dy) (t:bz),a.val<18446744073709551616 * 10000000000000000000 ^ k→(t=[]∨1≤a.val)→t.length+20 * k≤900→cO.l1 t a.high a.low=cO.j2 (Nr.dec a.val++t):=by
 have last:∀(a:dy) (t:bz),a.high=0→(t=[]∨1≤a.val)→t.length≤900→cO.l1 t a.high a.low=cO.j2 (Nr.dec a.val++t):=fun a t h0 ht hl=>by
  refine cO.bV _ _ _ ?_
  intro v1 h1 v2 h2 v3 h3 v4 h4 v5 h5 v6 h6
  have hv:a.val=a.low.toNat:=by rw [dy.jH,h0];show 0 * _+_=_;omega
  have hd:=Nr.ik 20 a.low.toNat (by rw [t20];have:=a.low.toNat_lt;omega) (by omega)
  rw [aa h0,aH,ae,bw (by cases decide (t=([]:bz)) <;> rfl),bw (by cases decide (t=([]:bz)) <;> rfl),bw (H4 _)]
  have e6:v6=true:=by
   rw [h6]
   rcases ht with rfl | ht
   ·rfl
   ·rw [ab (p:=a.low=0) (fun e=>by rw [hv,e] at ht;exact absurd ht (by decide))]
    cases decide (t=([]:bz)) <;> rfl
  rw [e6,ai,bw (by rfl),bw (aa (by omega)),hv]
 intro k
 induction k with
 | zero =>
  intro a t h ht hl
  refine last a t (fI ?_) ht (by omega)
  rw [dy.jH] at h
  show _=0
  omega
 | succ k ih =>
  intro a t h ht hl
  by_cases h0:a.high=0
  ·exact last a t h0 ht (by omega)
  have Ju:18446744073709551616≤a.val:=by
   rw [dy.jH]
   have:0<a.high.toNat:=by
    rcases Nat.eq_zero_or_pos a.high.toNat with e | e
    ·exact (h0 (fI e)).elim
    ·exact e
   omega
  refine cO.bV _ _ _ ?_
  intro v1 h1 v2 h2 v3 h3 v4 h4 v5 h5 v6 h6
  rw [R3] at h1 h2
  have hm:=Nat.mod_lt a.val (show 0<10000000000000000000 by omega)
  have e1:v1=dy.of (a.val / 10000000000000000000):=h1
  have e2:v2.toNat=a.val % 10000000000000000000:=by rw [h2];show (UInt64.ofNat (a.val % 10000000000000000000)).toNat=_;rw [fc];omega
  have LH:a.val<340282366920938463463374607431768211456:=by rw [dy.jH];have:=a.high.toNat_lt;have:=a.low.toNat_lt;omega
  have ev:v1.val=a.val / 10000000000000000000:=by rw [e1,Lb (by omega)]
  have hd:=Nr.ik 19 (a.val % 10000000000000000000) (by rw [t19];exact hm) (by omega)
  have hd1:=Nr.kT (a.val % 10000000000000000000)
  rw [e2] at h3 h5
  have e4:v4=(19:Nat) - ((Nr.dec (a.val % 10000000000000000000)).length:Int):=by rw [h4,h3,i64_in _ (by omega)];rfl
  have hz:(Sh.dU v4).length=v4.toNat:=by unfold Sh.dU;rw [List.length_replicate]
  have U5:v5.length≤20:=by rw [h5,ao,hz];omega
  rw [ab h0,aM,ai,bw (by rfl),bw (by rfl),bw (aa ⟨rfl,by omega,by omega⟩),e2,bw (aa (by rw [hz];omega)),bw (aa (by omega))]
  rw [ih v1 (v5++t) (by rw [ev,Nat.div_lt_iff_lt_mul (by omega),Nat.mul_assoc,←Nat.pow_succ];exact h) (.inr (by rw [ev];omega)) (by rw [ao];omega),ev,
   G0 (n:=a.val) (k:=19) (p:=10000000000000000000) (by decide) (by omega) (by omega),h5,e4,aG,aG,aG]
theorem cO.goal (a:dy):cO.F a=some [.s (Nr.dec a.val)]:=by
 have LH:a.val<340282366920938463463374607431768211456:=by rw [dy.jH];have:=a.high.toNat_lt;have:=a.low.toNat_lt;omega
 rw [cO.eJ,cO.cW 2 a [] (by rw [t38];omega) (.inl rfl) (by simp),bj]
 exact Ij (Nat.le_trans (Nr.ik 40 a.val (by rw [t40];omega) (by omega)) (by omega))
end Go.Eng
set_option maxRecDepth 20000
namespace Go.Eng
open Go.IntWalk
theorem pB (n:Int):Sh.dU n=List.replicate n.toNat 48:=rfl
theorem df.goal (d:bz) (x:Int) (hp:(decide (1≤d.length∧d.length≤40∧-10000≤x∧x≤100000))=true):df.F d x=some [.s (Cn.laid d x)]:=by
 obtain ⟨l1,l2,x1,x2⟩:=ar hp
 refine df.bZ _ _ ?_
 intro v1 h1 v2 h2 v3 h3 v4 h4 v5 h5 v6 h6 v7 h7 v8 h8
 unfold Cn.laid
 simp only
 by_cases c0:x=0
 ·rw [aa c0,ai,aw c0]
 rw [ab c0,ae,au c0,bw (iJ _),bw (iJ _)]
 have e1:v1=x+d.length:=by rw [h1,i64_in _ (by omega)]
 have e2:v2=x+d.length - 1:=by rw [h2,e1,i64_in _ (by omega)]
 have e3:v3=decide (x<0∧-6≤x+d.length - 1):=by rw [h3,e2,Bool.decide_and,uV]
 have e5:v5=1 - x - d.length:=by rw [h5,h4,i64_in (1 - x) (by omega),i64_in _ (by omega)]
 have en:IntKind.i64.wrap (0 - x)=-x:=by rw [i64_in _ (by omega)];omega
 rw [e3,en]
 by_cases c1:x<0∧-6≤x+d.length - 1
 ·rw [aa c1,ai,aw c1]
  have key:∀s:bz,s.length≤200→-x≤s.length→df.j1 s x (s.length:Int)=some [.s (s.take (s.length+x).toNat++46 :: s.drop (s.length+x).toNat)]:=fun s hs hx=>by
   refine df.iI _ _ _ ?_
   intro w1 g1 w2 g2
   have e:IntKind.i64.wrap ((s.length:Int)+x)=s.length+x:=i64_in _ (by omega)
   rw [e] at g1 g2 ⊢
   rw [bw (jm (by omega) (by omega) (by omega)),bw (aa ?_),bw (jm (by omega) (by omega) (by omega)),bw (aa ?_),g1,g2]
   ·simp
   ·rw [g1,g2];simp;omega
   ·rw [g1];simp;omega
  by_cases c2:(d.length:Int)≤-x
  ·rw [aa c2,ai,aw c2,bw (aa ⟨by trivial,by omega,by omega⟩),bw (aa (by rw [pB,List.length_replicate];omega)),h6,e5]
   exact key _ (by rw [ao,pB,List.length_replicate];omega) (by rw [ao,pB,List.length_replicate];omega)
  ·rw [ab c2,ae,au c2]
   exact key _ (by omega) (by omega)
 ·rw [ab c1,ae,au c1,bw (jm (by omega) (by omega) (by omega))]
  have e7:v7=d.take 1:=h7
  have e8:v8=d.drop 1:=h8
  have key:∀s:bz,s.length≤200→df.j2 v2 s=some [.s (if x+d.length - 1<0 then s++[69,45]++Nr.itoa (-(x+d.length - 1)) else s++[69,43]++Nr.itoa (x+d.length - 1))]:=fun s hs=>by
   refine df.jg _ _ ?_
   intro w1 g1 w2 g2 w3 g3
   have hi:∀v:Int,-1000000≤v→v≤1000000→Nr.i64 v=true∧(Nr.itoa v).length≤30:=fun v a b=>by
    refine ⟨aa (by omega),?_⟩
    rw [Nr.nN]
    have:=Nr.ik 20 v.natAbs (by rw [t20];omega) (by omega)
    split
    ·simp only [ay];omega
    ·omega
   have ew:IntKind.i64.wrap (0 - v2)=-(x+d.length - 1):=by rw [e2,i64_in _ (by omega)];omega
   rw [ew] at g1 ⊢
   rw [g2,g3,g1,e2]
   by_cases c:x+(d.length:Int) - 1<0
   ·rw [aa c,ai,aw c,bw (aa (by simp;omega)),bw (hi _ (by omega) (by omega)).1,bw (aa ?_)]
    have:=(hi (-(x+d.length - 1)) (by omega) (by omega)).2
    simp;omega
   ·rw [ab c,ae,au c,bw (aa (by simp;omega)),bw (hi _ (by omega) (by omega)).1,bw (aa ?_)]
    have:=(hi (x+d.length - 1) (by omega) (by omega)).2
    simp;omega
  by_cases c2:(1:Int)<d.length
  ·rw [aa c2,ai,aw c2,bw (jm (by omega) (by omega) (by omega)),bw (aa (by rw [e8];simp;omega)),bw (aa (by rw [e8,e7];simp;omega)),e7,e8]
   exact key _ (by simp;omega)
  ·rw [ab c2,ae,au c2,e7]
   exact key _ (by simp;omega)
theorem rU (h l:UInt64):(Cn.split h l).2.2.1.val<10000000000000000000000000000000000:=by
 have z:dy.val ⟨0,0⟩=0:=by rw [dy.jH];rfl
 rw [Cn.split_eq]
 unfold Cn.pO
 simp only
 split
 ·rw [z];omega
 split
 ·rw [z];omega
 split
 ·rw [z];omega
 ·dsimp only
  split
  ·assumption
  ·rw [z];omega
theorem t34:(10:Nat) ^ 34=10000000000000000000000000000000000:=by decide
theorem uM {d:bz} {x:Int} (h1:d.length≤40) (h2 : -10000≤x) (h3:x≤100000):(Cn.laid d x).length≤20000:=by
 unfold Cn.laid
 simp only
 have hi:∀v:Int,-1000000≤v→v≤1000000→(Nr.itoa v).length≤30:=fun v a b=>by
  rw [Nr.nN]
  have:=Nr.ik 20 v.natAbs (by rw [t20];omega) (by omega)
  split
  ·simp only [ay];omega
  ·omega
 have i1:=hi (-(x+d.length - 1)) (by omega) (by omega)
 have i2:=hi (x+d.length - 1) (by omega) (by omega)
 have tl:(if (1:Int)<(d.length:Int) then d.take 1++46 :: d.drop 1 else d.take 1).length≤60:=by
  split <;> simp <;> omega
 split
 ·omega
 split
 ·split <;> simp <;> omega
 ·split <;> rw [ao,ao] <;> simp only [ay,aB] <;> omega
theorem dR.goal (h l:UInt64):dR.F h l=some [.s (Cn.sW h l)]:=by
 refine dR.bZ _ _ ?_
 intro v1 h1 v2 h2
 have hx:=pN h l
 have hc:=rU h l
 have hd:=Nr.ik 34 _ (by rw [t34];exact hc) (by omega)
 have hd1:=Nr.kT (Cn.split h l).2.2.1.val
 unfold Cn.sW
 simp only
 by_cases c1:(Cn.split h l).1=3
 ·rw [aa c1,ai,aw c1]
 rw [ab c1,ae,au c1]
 have key:∀t:bz,t.length≤20000→dR.j1 (Cn.split h l).2.1 t=some [.s (cond (Cn.split h l).2.1 (45 :: t) t)]:=fun t ht=>by
  rw [dR.lp]
  cases (Cn.split h l).2.1 with
  | true=>rw [ai,bw (aa (by simp;omega))];rfl
  | false=>rfl
 by_cases c2:(Cn.split h l).1=2
 ·rw [aa c2,ai,aw c2];exact key _ (by decide)
 rw [ab c2,ae,au c2,bw (aa (by rw [h1];omega)),h2,h1]
 exact key _ (uM (by omega) (by omega) (by omega))
end Go.Eng
set_option maxRecDepth 20000
namespace Go.Eng
open Go.IntWalk
theorem IF:Cn.CP.length=64:=rfl
theorem tZ (n:UInt8) (h:n.toNat<64):bB (n.toNat:Int) Cn.CP.length=true:=bK (by omega) (by rw [IF];omega)
theorem Lj (x:UInt8) (k:Nat):(kX x k).toNat=x.toNat / 2 ^ k:=by
 unfold kX
 rw [UInt8.toNat_ofNat']
 exact Nat.mod_eq_of_lt (Nat.lt_of_le_of_lt (Nat.div_le_self ..) x.toNat_lt)
theorem Ki (x:UInt8):(kX x 2).toNat<64:=by rw [Lj];have:=x.toNat_lt;omega
theorem Hc (x:UInt8):(x &&& (63:UInt8)).toNat<64:=by
 rw [UInt8.toNat_and,show (63:UInt8).toNat=2 ^ 6 - 1 from rfl,Nat.and_two_pow_sub_one_eq_mod];omega
theorem H6 (x:UInt8):(mJ (x &&& 3) 4).toNat<64∧16 ∣ (mJ (x &&& 3) 4).toNat:=by
 have h:(x &&& (3:UInt8)).toNat=x.toNat % 4:=by rw [UInt8.toNat_and,show (3:UInt8).toNat=2 ^ 2 - 1 from rfl,Nat.and_two_pow_sub_one_eq_mod]
 unfold mJ
 rw [h,UInt8.toNat_ofNat']
 omega
theorem H7 (x:UInt8):(mJ (x &&& 15) 2).toNat<64∧4 ∣ (mJ (x &&& 15) 2).toNat:=by
 have h:(x &&& (15:UInt8)).toNat=x.toNat % 16:=by rw [UInt8.toNat_and,show (15:UInt8).toNat=2 ^ 4 - 1 from rfl,Nat.and_two_pow_sub_one_eq_mod]
 unfold mJ
 rw [h,UInt8.toNat_ofNat']
 omega
theorem MB {a b:UInt8} (h:a.toNat<64) (k:b.toNat<64):(a ||| b).toNat<64:=by
 rw [UInt8.toNat_or];exact Nat.or_lt_two_pow (n:=6) h k
theorem H5 (x:UInt8) (k:Nat) (h:2≤k):(kX x k).toNat<64:=by
 rw [Lj]
 have h1:x.toNat / 2 ^ k≤x.toNat / 2 ^ 2:=Nat.div_le_div_left (Nat.pow_le_pow_right (by omega) h) (by decide)
 have:=x.toNat_lt
 omega
theorem yp:∀l:bz,(Cn.base l).length≤2 * l.length+4
 | []=>by simp [Cn.base]
 | [_]=>by simp [Cn.base]
 | [_,_]=>by simp [Cn.base]
 | _ :: _ :: _ :: r=>by have:=yp r;simp [Cn.base];omega
theorem cQ.cW:∀(n:Nat) (l t:bz),l.length≤n→l.length≤1099511627776→t.length+2 * l.length≤5000000000000→cQ.l1 l t=some [.s (t++Cn.base l)]:=by
 intro n
 induction n with
 | zero =>
  intro l t h _ _
  have:l=[]:=bc (by omega)
  subst this
  refine cQ.bV _ _ ?_
  intros
  rw [ab (by simp),ae,ab (by simp),ae,ab (by simp),ae,cQ.jZ]
  simp [Cn.base]
 | succ n ih =>
  intro l t h hl ht
  refine cQ.bV _ _ ?_
  intro v1 h1 v2 h2 v3 h3 v4 h4 v5 h5 v6 h6 v7 h7 v8 h8 v9 h9 v10 iA v11 ki v12 jE kW nY jP pA iD o8 mS tO nT xI lO wi
  have e2:v2=kX v1 2:=h2
  have e4:v4=mJ (v1 &&& 3) 4:=h4
  have e6:v6=kX v5 4:=h6
  have e8:v8=mJ (v5 &&& 15) 2:=h8
  have xX:v10=kX v9 6:=iA
  have i1:=tZ v2 (by rw [e2];exact Ki _)
  have i2:=tZ (v4 ||| v6) (MB (by rw [e4];exact (H6 _).1) (by rw [e6];exact H5 _ _ (by omega)))
  have i3:=tZ (v8 ||| v10) (MB (by rw [e8];exact (H7 _).1) (by rw [xX];exact H5 _ _ (by omega)))
  have i4:=tZ (v9 &&& 63) (Hc _)
  have i5:=tZ v4 (by rw [e4];exact (H6 _).1)
  have i6:=tZ v8 (by rw [e8];exact (H7 _).1)
  have s3:v3=Cn.sign v2:=h3
  have s7:v7=Cn.sign (v4 ||| v6):=h7
  have RX:v11=Cn.sign (v8 ||| v10):=ki
  have RW:v12=Cn.sign (v9 &&& 63):=jE
  have RV:iD=Cn.sign v4:=o8
  have RU:nT=Cn.sign v8:=xI
  change bB _ (([65,66,67,68,69,70,71,72,73,74,75,76,77,78,79,80,81,82,83,84,85,86,87,88,89,90,97,98,99,100,101,102,103,104,105,106,107,108,109,110,111,112,113,114,115,116,117,118,119,120,121,122,48,49,50,51,52,53,54,55,56,57,43,47]:bz)).length=true at i1 i2 i3 i4 i5 i6
  rw [i1,i2,i3,i4,i5,i6]
  match l,h,hl,ht with
  | [],_,_,_ =>
   rw [ab (by simp),ae,ab (by simp),ae,ab (by simp),ae,cQ.jZ]
   simp [Cn.base]
  | [a],_,_,ht =>
   have ea:v1=a:=h1
   simp only [ay,aB] at ht
   rw [ab (by simp),ae,aa (by simp),ai,bw (by rfl),bQ,bw (by rfl),bQ,bw (dW (by rw [tO];simp;omega) (by rw [tO];simp;omega)),cQ.jZ]
   rw [tO,s3,RV,e4,e2,ea];rfl
  | [a,b],_,_,ht =>
   have ea:v1=a:=h1
   have eb:v5=b:=h5
   simp only [ay,aB] at ht
   rw [ab (by simp),ae,ab (by simp),ae,aa (by simp),ai,bw (by rfl),bQ,bw (by rfl),bw (by rfl),bQ,bw (by rfl),bQ,bw (dW (by rw [wi];simp;omega) (by rw [wi];simp;omega)),cQ.jZ]
   rw [wi,s3,s7,RU,e8,e6,e4,e2,ea,eb];rfl
  | a :: b :: c :: r,h,hl,ht =>
   have ea:v1=a:=h1
   have eb:v5=b:=h5
   have ec:v9=c:=h9
   have er:jP=r:=pA
   simp only [ay] at h hl ht
   have x:∀k:Int,0≤k→k<3→bB k (a :: b :: c :: r).length=true:=fun k h1 h2=>bK h1 (by simp;omega)
   rw [aa (by simp;omega),ai,bw (x _ (by omega) (by omega)),bQ,bw (x _ (by omega) (by omega)),bw (x _ (by omega) (by omega)),bQ,bw (x _ (by omega) (by omega)),bw (x _ (by omega) (by omega)),bQ,bw (x _ (by omega) (by omega)),bQ,
    bw (dW (by rw [nY];simp;omega) (by rw [nY];simp;omega)),bw (jm (by omega) (by simp;omega) (by simp)),er,
    ih r _ (by omega) (by omega) (by rw [nY];simp;omega)]
   rw [nY,s3,s7,RX,RW,xX,e8,e6,e4,e2,ea,eb,ec,aG];rfl
theorem cQ.goal (b:bz) (hp:(decide (b.length≤1099511627776))=true):cQ.F b=some [.s (Cn.base b)]:=by
 have hp:=ar hp
 rw [cQ.eJ,cQ.cW b.length b [] (Nat.le_refl _) hp (by simp;omega)];rfl
end Go.Eng
set_option maxRecDepth 20000
namespace Go.Eng
open Go.IntWalk
theorem fU.goal (s:bz):fU.F s=some [.ag (bM.cells (Cn.str s))]:=fU.eJ s
theorem gJ.goal (v:Int) (hp:(Nr.i64 v)=true):gJ.F v=some [.ag (bM.cells (Cn.num v))]:=by rw [gJ.eJ,bw hp];rfl
theorem fV.goal (s:bz) (j:bM):fV.F s j=some [.ag (bM.cells (Cn.one s j))]:=by
 refine fV.bZ _ _ ?_
 intro v1 h1
 rw [h1];rfl
theorem fT.goal (s:bz) (j:bM) (t:bz) (k:bM):fT.F s j t k=some [.ag (bM.cells (Cn.two s j t k))]:=by
 refine fT.bZ _ _ _ _ ?_
 intro v1 h1
 rw [h1];rfl
theorem dE.cW (v:UInt64):∀(m:Nat) (b:bz),b.length+m≤100→dE.l1 v (8 * (m:Int) - 8) b=some [.s (lE.text (b++((List.range m).reverse.map fun k=>UInt8.ofInt ((dD v (8 * k)).toNat:Int))))]
 | 0,b,hb=>by
  refine dE.bV _ _ _ ?_
  intro v1 h1 v2 h2
  rw [ab (by omega),ae,bw (aa (by omega))]
  simp
 | m+1,b,hb=>by
  refine dE.bV _ _ _ ?_
  intro v1 h1 v2 h2
  have e2:v2=8 * (m:Int) - 8:=by rw [h2,i64_in _ (by omega)];omega
  have ek:(8 * ((m+1:Nat):Int) - 8).toNat=8 * m:=by omega
  rw [ek] at h1
  rw [aa (by omega),ai,bQ,bw (dW (by simp;omega) (by simp;omega)),e2,dE.cW v m (b++[v1]) (by simp;omega),h1]
  rw [List.range_succ,List.reverse_append]
  simp
theorem dE.goal (v:UInt64):dE.F v=some [.s (Cn.high v)]:=by
 rw [dE.eJ,show (56:Int)=8 * ((8:Nat):Int) - 8 by omega,dE.cW v 8 [] (by simp)]
 rfl
theorem jA:∀l:bz,(lE.text l).length=2 * l.length
 | []=>rfl
 | x :: r=>by
  have:=jA r
  simp only [lE.text,lE.two,ao,ay,aB,this];omega
theorem ny (v:UInt64):(Cn.high v).length≤100:=by
 unfold Cn.high Cn.b8
 rw [jA];simp
theorem eh.goal (v:Val):eh.F v=some [.ag (bM.cells (Cn.nW v).1),.b (Cn.nW v).2]:=by
 refine eh.bZ _ ?_
 intro v1 h1 v2 h2 v3 h3 v4 h4 v5 h5 v6 h6 v7 h7 v8 h8 v9 h9 v10 iA v11 ki v12 jE kW nY jP pA iD o8 mS tO nT xI lO wi qJ BU v20 zF v21 KS v22 KR
 unfold Cn.nW
 have i6:Nr.i64 v6=true:=by rw [h6];exact sR _
 by_cases k1:v.kind=1
 ·rw [aa k1,ai,aw k1,bw (iJ _),bw (iJ _),bw (iJ _),h1,uV]
  cases (decide (Sh.text v.bits=([78,97,78]:bz))&&!decide (v.bits=9221120237041090560)) with
  | true=>rw [ai,aw rfl,h3,h2]
  | false=>rw [ae,au (by simp),h5,h4]
 rw [ab k1,ae,au k1]
 by_cases k2:v.kind=9
 ·rw [aa k2,ai,aw k2,bw i6,h8,h7,h6];rfl
 rw [ab k2,ae,au k2]
 by_cases k3:v.kind=16
 ·rw [aa k3,ai,aw k3,bw (sR _),ki,iA,h9];rfl
 rw [ab k3,ae,au k3]
 by_cases k4:v.kind=18
 ·rw [aa k4,ai,aw k4,bw i6,h7,h6];rfl
 rw [ab k4,ae,au k4]
 by_cases k5:v.kind=17
 ·rw [aa k5,ai,aw k5,bw (by rw [nY];exact sR _),bw (by rw [o8];exact sR _),xI,tO,o8,pA,nY,jE];rfl
 rw [ab k5,ae,au k5]
 by_cases k6:v.kind=19
 ·rw [aa k6,ai,aw k6,wi]
  cases Cn.pX v.high v.low with
  | true=>rw [ai,aw rfl,zF,BU]
  | false =>
   have:=ny v.high
   have:=ny v.low
   rw [ae,au (by simp),bw (aa (by omega)),KR,KS]
 ·rw [ab k6,ae,au k6];rfl
theorem gm.goal (v:Val) (hp:(decide (bJ.bO (bJ.of [] v)≤1099511627776))=true):gm.F v=some [.ag (bM.cells (Cn.qM v))]:=by
 have hp:=ar hp
 have hb:v.bytes.length≤1099511627776:=by
  simp only [bJ.of,bJ.bO] at hp;omega
 refine gm.bZ _ ?_
 intro v1 h1 v2 h2 v3 h3 v4 h4 v5 h5 v6 h6 v7 h7 v8 h8 v9 h9 v10 iA v11 ki v12 jE
 unfold Cn.qM
 by_cases k1:v.kind=5
 ·rw [aa k1,ai,aw k1,bw (aa hb),bw (aa (by rw [h2];simp)),h4,h3,h2,h1]
 rw [ab k1,ae,au k1]
 by_cases k2:v.kind=7
 ·rw [aa k2,ai,aw k2,bw (aa hb),h6,h5]
 rw [ab k2,ae,au k2]
 by_cases k3:v.kind=11
 ·rw [aa k3,ai,aw k3,h8,h7]
 rw [ab k3,ae,au k3]
 by_cases k4:v.kind=12
 ·rw [aa k4,ai,aw k4,bw (aa hb),iA,h9,h6,h5]
 rw [ab k4,ae,au k4]
 by_cases k5:v.kind=13
 ·rw [aa k5,ai,aw k5,ki]
 rw [ab k5,ae,au k5]
 by_cases k6:v.kind=14
 ·rw [aa k6,ai,aw k6,jE]
 rw [ab k6,ae,au k6]
end Go.Eng
set_option maxRecDepth 20000
namespace Go.Eng
open Go.IntWalk
theorem GR:∀f:bJ,1≤bJ.bO f
 | .mk _ _ _ _ _ _ _ _ _ _=>by simp only [bJ.bO];omega
theorem pg:∀l:List bJ,l.length≤bJ.cM l
 | []=>by simp [bJ.cM]
 | f :: r=>by have:=pg r;have:=GR f;simp only [bJ.cM,ay];omega
theorem GQ (f:bJ):bJ.bO (bJ.of [] f.val)≤bJ.bO f:=by
 cases f;simp only [bJ.of,bJ.val,bJ.kind,bJ.bits,bJ.high,bJ.low,bJ.text,bJ.more,bJ.sub,bJ.bytes,bJ.kids,bJ.bO,aB];omega
theorem JR {l:List bJ} {i:Nat} (h:i<l.length) (d:bJ):bJ.bO (l.getD i d)≤bJ.cM l:=by
 induction l generalizing i with
 | nil=>simp at h
 | cons f r ih =>
  cases i with
  | zero=>simp [bJ.cM]
  | succ i=>have:=ih (i:=i) (by simpa using h);simp only [List.getD_cons_succ,bJ.cM];omega
theorem Ed (f:bJ):Cn.nZ f=Cn.wv f.val:=by
 cases f;simp only [Cn.wv,bJ.of,bJ.val,bJ.kind,bJ.bits,bJ.high,bJ.low,bJ.text,bJ.more,bJ.sub,bJ.bytes,bJ.kids,Cn.nZ]
theorem memsJ_len:∀l:List bJ,(Cn.fM l).length=l.length
 | []=>by simp [Cn.fM]
 | f :: r=>by simp [Cn.fM,memsJ_len r]
theorem cD.cW (n:Nat) (l:List bJ) (hb:bJ.cM l≤1099511627776) (hn:2 * bJ.cM l<n) (x3:Int) (x4:bz) (x7:List Mem):∀(m i:Nat) (acc:List Mem),i+m=l.length→acc.length=i →
  cD.l1 n l (l.length:Int) (i:Int) x3 x4 7 [] x7 acc=some [.ag [.i .i64 7,.s [],.sl .ml (acc++Cn.fM (l.drop i))]]
 | 0,i,acc,hi,ha=>by
  refine cD.bV _ _ _ _ _ _ _ _ _ _ ?_
  intro v1 h1 v2 h2 v3 h3 v4 h4 v5 h5 v6 h6
  rw [ab (by omega),ae,aE (by omega)]
  simp [Cn.fM]
 | m+1,i,acc,hi,ha=>by
  have hlen:=pg l
  refine cD.bV _ _ _ _ _ _ _ _ _ _ ?_
  intro v1 h1 v2 h2 v3 h3 v4 h4 v5 h5 v6 h6
  rw [aj] at h1
  have hf:=JR (l:=l) (i:=i) (by omega) (fe.gk .fl)
  rw [←h1] at hf
  have hv:=GQ v1
  have e6:v6=((i+1:Nat):Int):=by rw [h6,i64_in _ (by omega)];omega
  have cB:((decide (bJ.bO (bJ.of [] (bJ.val v1))≤1099511627776))&&decide ((2 * bJ.bO (bJ.of [] (bJ.val v1)))<n))=true:=by
   rw [ah];exact ⟨aa (by omega),aa (by omega)⟩
  rw [aa (by omega),ai,bw (bK (by omega) (by omega)),bw cB,bw (dW (by rw [h5];simp;omega) (by rw [h5];simp;omega)),e6,
   cD.cW n l hb hn x3 x4 x7 m (i+1) (acc++v5) (by omega) (by rw [h5];simp;omega),drop_cons (l:=l) (i:=i) (by omega) (fe.gk .fl),←h1]
  have e5:v5=[Mem.of v1.name (Cn.nZ v1)]:=by rw [h5,h2,h3,h4,Ed];rfl
  rw [e5,aG]
  simp [Cn.fM]
theorem cD.goal (n:Nat) (l:List bJ) (hp:((decide (bJ.cM l≤1099511627776))&&decide ((2 * bJ.cM l+1)<n+1))=true):cD.F n l=some [.ag (bM.cells (Cn.oA l))]:=by
 rw [ah] at hp
 have h1:=ar hp.1
 have h2:=ar hp.2
 rw [cD.eJ]
 exact cD.cW n l h1 (by omega) 0 [] [] l.length 0 [] (by omega) rfl
theorem di.cW (n:Nat) (x2:Int) (x3:bz) (x5:bz) (x6:List Mem) (l:List Mem) (hl:l.length≤1099511627776):∀(m i:Nat) (acc:List Mem),i+m=l.length→acc=(l.take i).map Cn.sz++l.drop i →
  di.l1 n (l.length:Int) (i:Int) x2 x3 6 x5 x6 acc=some [.ag [.i .i64 6,.s x5,.sl .ml (l.map Cn.sz)]]
 | 0,i,acc,hi,ha=>by
  refine di.bV _ _ _ _ _ _ _ _ _ ?_
  intro v1 h1 v2 h2
  rw [ab (by omega),ae,ha,aE (by omega),List.take_of_length_le (by omega),bj]
 | m+1,i,acc,hi,ha=>by
  have Pf:acc.length=l.length:=by rw [ha];simp;omega
  have hi':i<l.length:=by omega
  refine di.bV _ _ _ _ _ _ _ _ _ ?_
  intro v1 h1 v2 h2
  rw [aj] at h1 ⊢
  have e2:v2=((i+1:Nat):Int):=by rw [h2,i64_in _ (by omega)];omega
  rw [aa (by omega),ai,bw (bK (by omega) (by omega)),bw (aa (by omega)),e2]
  refine di.cW n x2 x3 x5 x6 l hl m (i+1) v1 (by omega) ?_
  have eg:acc.getD i (fe.gk .ml)=l[i]:=by
   rw [ha,af,aS (by simp;omega)]
   simp only [bf,aF,Nat.min_eq_left (Nat.le_of_lt hi'),Nat.sub_self,List.getElem?_drop,Nat.add_zero]
   rw [aq hi'];rfl
  rw [h1,eg,ha,List.set_append_right _ _ (by simp;omega)]
  simp only [bf,aF,Nat.min_eq_left (Nat.le_of_lt hi'),Nat.sub_self]
  rw [List.drop_eq_getElem_cons hi',List.set_cons_zero,List.take_succ_eq_append_getElem hi',List.map_append,aG]
  rfl
theorem di.goal (n:Nat) (v:Val) (hp:((decide (bJ.bO (bJ.of [] v)≤1099511627776))&&decide ((2 * bJ.bO (bJ.of [] v))<n+1))=true):di.F n v=some [.ag (bM.cells (Cn.wv v))]:=by
 rw [ah] at hp
 have hb:=ar hp.1
 have hn:=ar hp.2
 have hk:bJ.cM v.kids+1≤bJ.bO (bJ.of [] v):=by simp only [bJ.of,bJ.bO];omega
 have hlen:=pg v.kids
 refine di.bZ _ _ ?_
 intro v1 h1 v2 h2 v3 h3 v4 h4 v5 h5 v6 h6 v7 h7 v8 h8 v9 h9 v10 iA v11 ki v12 jE kW nY jP pA iD o8 mS tO
 have cA:((decide (bJ.cM v.kids≤1099511627776))&&decide ((2 * bJ.cM v.kids+1)<n))=true:=by
  rw [ah];exact ⟨aa (by omega),aa (by omega)⟩
 have hd:(⟨v6,v7,v5⟩:bM)=Cn.oA v.kids:=by rw [h5,h6,h7]
 have e5:v5=Cn.fM v.kids:=h5
 have e6:v6=7:=h6
 have e7:v7=[]:=h7
 unfold Cn.wv
 simp only [bJ.of,Cn.nZ]
 by_cases k1:v.kind=3
 ·have e4:v4=Cn.mD v.kids:=by
   rw [h4,h3,h2,h1]
   unfold Cn.mD
   cases v.kids with
   | nil=>rfl
   | cons f r =>
    rw [aa (by simp),ai]
    show List.isPrefixOf [36] f.name=decide (f.name.take 1=[36])
    generalize f.name=s
    cases s with
    | nil=>rfl
    | cons c t =>
     by_cases e:c=36
     ·subst e;simp [List.isPrefixOf]
     ·have e':¬(36:UInt8)=c:=fun h=>e h.symm
      simp [List.isPrefixOf,e,e']
  have ci:(!(decide ((0:Int)<v1)) || ((decide ((0:Int)<v1))&&(bB (0:Int) v.kids.length)))=true:=by
   by_cases c:(0:Int)<v1
   ·rw [bK (by omega) (by omega)];cases decide ((0:Int)<v1) <;> rfl
   ·rw [ab c];rfl
  rw [aa k1,ai,aw k1,bw (iJ _),bw ci,bw (iJ _),bw (iJ _),bw (iJ _),bw (iJ _),bw cA,bw cA,e4,h8,hd,e5,e6,e7]
  cases Cn.mD v.kids <;> rfl
 rw [ab k1,ae,au k1]
 by_cases k2:v.kind=4
 ·rw [aa k2,ai,aw k2,bw cA,bw (aa (by omega)),h9,iA,hd,e5,e7]
  cases Tree.regular v.kids with
  | false=>rfl
  | true =>
   rw [aH,ae,ai]
   have:=di.cW n 0 [] [] [] (Cn.fM v.kids) (by rw [memsJ_len];omega) (Cn.fM v.kids).length 0 (Cn.fM v.kids) (by omega) (by simp)
   exact this
 rw [ab k2,ae,au k2]
 by_cases k3:v.kind=15
 ·rw [aa k3,ai,aw k3,bw cA,ki,hd];rfl
 rw [ab k3,ae,au k3]
 have i1:Nr.i64 1=true:=aa (by decide)
 unfold Cn.xl
 by_cases k4:v.kind=6
 ·rw [aa k4,ai,aw k4,jE]
 rw [ab k4,ae,au k4]
 by_cases k5:v.kind=8
 ·rw [aa k5,ai,aw k5,pA,nY];rfl
 rw [ab k5,ae,au k5]
 by_cases k6:v.kind=10
 ·rw [aa k6,ai,aw k6];rfl
 rw [ab k6,ae,au k6]
 by_cases k7:v.kind=255
 ·rw [aa k7,ai,aw k7,bw i1,o8]
 rw [ab k7,ae,au k7]
 by_cases k8:v.kind=127
 ·rw [aa k8,ai,aw k8,bw i1,tO]
 rw [ab k8,ae,au k8]
 show cond (Cn.nW v).2 _ _=some [TV.ag (bM.cells (if (Cn.nW v).2=true then (Cn.nW v).1 else Cn.qM v))]
 cases (Cn.nW v).2 with
 | true=>rw [ai,aw rfl]
 | false=>rw [ae,au (by simp)];exact bw hp.1
theorem fF.goal (v:Val) (hp:(decide (bJ.bO (bJ.of [] v)≤1099511627776))=true):fF.F v=some [.ag (bM.cells (Cn.jf v)),.ag [.i .i64 (Cn.jv v).2,.i .i64 0,.sl .is (Cn.jv v).1]]:=by
 have hb:=ar hp
 have hk:bJ.cM v.kids+1≤bJ.bO (bJ.of [] v):=by simp only [bJ.of,bJ.bO];omega
 refine fF.bZ _ ?_
 intro v1 h1 v2 h2 v3 h3 v4 h4 v5 h5
 rw [bw hp]
 unfold Cn.jf
 by_cases c:(Tree.iT (bJ.of [] v) []).2=0
 ·rw [h2,aa c,aH,ae]
  by_cases k:v.kind=3
  ·have e:Cn.jv v=([],0):=by unfold Cn.jv;rw [au (by simp [c]),aw k]
   rw [aa k,aH,ae,bw (aa (by omega)),e,aw rfl,h3,h4,h5];rfl
  ·have e:Cn.jv v=([],5):=by unfold Cn.jv;rw [au (by simp [c]),au k]
   rw [ab k,aM,ai,e,au (by decide)];rfl
 ·have e:Cn.jv v=Tree.iT (bJ.of [] v) []:=by unfold Cn.jv;rw [aw c]
  rw [h2,ab c,aM,ai,e,au c,h1];rfl
end Go.Eng
set_option maxRecDepth 20000
namespace Go.Eng
open Go.IntWalk
theorem gX.goal (r:Int):gX.F r=some [.b (fy.mA r)]:=by
 refine gX.bZ r ?_
 intro v1 h1 v2 h2 v3 h3
 subst h1 h2 h3
 by_cases a:0≤r <;> by_cases b:r≤1114111 <;> by_cases c:r<55296 <;> simp [ck,a,b,c,fy.mA]
theorem Ko:∀n,n<256→((n &&& 192=128) ↔ (128≤n∧n<192)):=by decide +kernel
theorem MC:∀n,n<256→(128≤n∧n<192)→n &&& 63=n - 128:=by decide +kernel
theorem MD:∀n,n<256→(192≤n∧n<224)→n &&& 31=n - 192:=by decide +kernel
theorem MF:∀n,n<256→(224≤n∧n<240)→n &&& 15=n - 224:=by decide +kernel
theorem PK:∀n,n<256→(240≤n∧n<248)→n &&& 7=n - 240:=by decide +kernel
theorem Ip (c:UInt8):c.toNat<256:=by have:=c.toNat_lt;simpa using this
theorem Cb (c:UInt8):decide ((c &&& (192:UInt8))=(128:UInt8))=decide (128≤c.toNat∧c.toNat<192):=by
 have h:=Ko c.toNat (Ip c)
 rw [aQ]
 simp only [aA]
 rw [←h,←UInt8.toNat_inj,UInt8.toNat_and]
 exact Iff.rfl
theorem Ok (c:UInt8) (h:128≤c.toNat∧c.toNat<192):((c &&& (63:UInt8)).toNat:Int)=((c.toNat - 128:Nat):Int):=by
 rw [UInt8.toNat_and]
 exact congrArg _ (MC c.toNat (Ip c) h)
def BD (r:Option Nat) (more least:Nat):OT:=match r with
 | some r=>if r<least∨fy.mA r=false then some [.i .i64 0,.i .i64 0] else some [.i .i64 r,.i .i64 (more+1:Int)]
 | none=>some [.i .i64 0,.i .i64 0]
theorem Gj (c:Nat) (more least:Nat) (l:bz):BD (fy.cont c more l) more least=some [.i .i64 (fy.nj c more least l).1,.i .i64 (fy.nj c more least l).2]:=by
 unfold BD fy.nj
 cases fy.cont c more l with
 | none=>rfl
 | some r=>simp only;split <;> rfl
theorem bH.end_ (r:Nat) (more least:Nat) (hm:more<8) :
  (ck (!(!(decide ((r:Int)<(least:Int)))) || (!(decide ((r:Int)<(least:Int))))) (ck (!(!(decide ((r:Int)<(least:Int)))) || (!(decide ((r:Int)<(least:Int))))) (ck ((decide ((r:Int)<(least:Int))) || (!(decide ((r:Int)<(least:Int))))) (cond (cond (decide ((r:Int)<(least:Int))) true (!(fy.mA r)))
  (bH.g1)
  (some [(.i .i64 (r:Int)),(.i .i64 (IntKind.i64.wrap ((more:Int)+(1:Int))))])))))=BD (some r) more least:=by
 simp only [aR,bm,bQ]
 rw [i64_in _ (by omega),bH.uF]
 unfold BD
 by_cases h:r<least
 ·simp [h]
 ·simp only [show ¬((r:Int)<(least:Int)) by omega,decide_false,ae,h,false_or]
  cases fy.mA r <;> simp
theorem bH.Mn (b:bz) (at_:Nat) (more least:Nat) (hm:more<8) (hb:b.length≤1099511627776) (fO:at_+more<b.length):∀(k i r:Nat),i+k=more+1→r<2 ^ (10+6 * i) →
  bH.g3 b at_ r more least i=BD (fy.cont r k (b.drop (at_+i))) more least:=by
 intro k
 induction k with
 | zero =>
  intro i r hi hr
  refine bH.D9 _ _ _ _ _ _ ?_
  intro v1 h1 v2 h2 v3 h3 v4 h4 v5 h5 v6 h6 v7 h7
  rw [show decide ((i:Int)≤(more:Int))=false by simp;omega,ae]
  subst h6 h7
  rw [fy.cont]
  exact bH.end_ r more least hm
 | succ k ih =>
  intro i r hi hr
  refine bH.D9 _ _ _ _ _ _ ?_
  intro v1 h1 v2 h2 v3 h3 v4 h4 v5 h5 v6 h6 v7 h7
  have hw:IntKind.i64.wrap ((at_:Int)+(i:Int))=((at_+i:Nat):Int):=by rw [i64_in _ (by omega)];omega
  have Ns:=drop_cons (l:=b) (i:=at_+i) (by omega) 0
  rw [show decide ((i:Int)≤(more:Int))=true by simp;omega,ai,hw]
  rw [hw,aj] at h1
  rw [bw (bK (by omega) (by omega)),Ns,←h1,fy.cont,h2,Cb]
  by_cases hc:128≤v1.toNat∧v1.toNat<192
  ·rw [aw hc,aa hc]
   simp only [aH,ae]
   rw [bw (bK (by omega) (by omega))]
   have hp:2 ^ (10+6 * i) * 64=2 ^ (10+6 * (i+1)):=by rw [show 10+6 * (i+1)=(10+6 * i)+6 by omega,Nat.pow_add 2 (10+6 * i) 6]
   have Fu:2 ^ (10+6 * (i+1))≤2 ^ 58:=Nat.pow_le_pow_right (by omega) (by omega)
   have Sx:r * 64+64≤2 ^ (10+6 * (i+1)):=by
    rw [←hp];have:=ak 64 (Nat.succ_le_of_lt hr);omega
   have e3:v3=((r * 64:Nat):Int):=by
    rw [h3]
    have:(min (((6:UInt64)).toNat) (IntKind.i64.bits))=6:=by decide
    rw [this,i64_in _ (by simp at Fu;omega)];simp
   have e4:v4=((v1.toNat - 128:Nat):Int):=by
    rw [h4,Ok v1 hc];exact i64_in _ (by omega)
   have e5:v5=((i+1:Nat):Int):=by rw [h5,i64_in _ (by omega)];omega
   have e6:cI .or .i64 v3 v4=((r * 64+(v1.toNat - 128):Nat):Int):=by
    rw [e3,e4,IL _ _ (by simp at Fu;omega) (by omega)]
    have:=mr (a:=r) (b:=v1.toNat - 128) (k:=6) (by simp;omega)
    simp at this
    rw [this]
   rw [e6,e5,ih (i+1) _ (by omega) (by omega),Nat.add_assoc]
  ·rw [au hc,ab hc]
   simp only [aM,ai]
   rw [bH.uF];rfl
theorem bH.sL (b : bz) (at_ : Nat) (r more least : Nat) (hm : 1 ≤ more ∧ more < 8) (hb : b.length ≤ 1099511627776) (fO : at_ < b.length) (hr : r < 1024) :
    bH.j2 b at_ r more least = BD (fy.cont r more (b.drop (at_ + 1))) more least := by
  have KL : ∀ (k r : Nat) (l : bz), l.length < k → fy.cont r k l = none := by
    intro k
    induction k with
    | zero => intro r l h; omega
    | succ k ih =>
      intro r l h
      cases l with
      | nil => rfl
      | cons c l => rw [fy.cont]; split
                    · exact ih _ _ (by simp at h; omega)
                    · rfl
  have key := fun (h : at_ + more < b.length) => bH.Mn b at_ more least hm.2 hb h more 1 r (by omega) (by simp; omega)
  by_cases hx : at_ + more < b.length
  · rw [← key hx]
    refine bH.jg _ _ _ _ _ ?_
    intro v1 h1 v2 h2 v3 h3 v4 h4 v5 h5 v6 h6 v7 h7 v8 h8 v9 h9 v10 iA
    symm
    refine bH.D9 _ _ _ _ _ _ ?_
    intro w1 k1 w2 k2 w3 k3 w4 k4 w5 k5 w6 k6 w7 k7
    have e1 : v1 = (b.length : Int) - at_ := by rw [h1]; exact i64_in _ (by omega)
    have e2 : v2 = (b.length : Int) - at_ - 1 := by rw [h2, e1]; exact i64_in _ (by omega)
    rw [show decide (v2 < (more : Int)) = false by simp; omega, ae]
    have a1 : ((1 : Nat) : Int) = 1 := rfl
    simp only [a1] at k1 k2 k3 k4 k5 k6 k7 ⊢
    subst h3; subst h4; subst h5; subst h6; subst h7; subst h8; subst h9; subst iA; subst k1; subst k2; subst k3; subst k4; subst k5; subst k6; subst k7
    rfl
  · refine bH.jg _ _ _ _ _ ?_
    intro v1 h1 v2 h2 v3 h3 v4 h4 v5 h5 v6 h6 v7 h7 v8 h8 v9 h9 v10 iA
    have e1 : v1 = (b.length : Int) - at_ := by rw [h1]; exact i64_in _ (by omega)
    have e2 : v2 = (b.length : Int) - at_ - 1 := by rw [h2, e1]; exact i64_in _ (by omega)
    rw [show decide (v2 < (more : Int)) = true by simp; omega, ai, bH.uF, KL _ _ _ (by simp; omega)]
    rfl
theorem Of (lo hi n:Nat):(cond (decide ((lo:Int)≤(n:Int))) (decide ((n:Int)<(hi:Int))) false)=decide (lo≤n∧n<hi):=by
 by_cases a:lo≤n
 ·rw [show decide ((lo:Int)≤(n:Int))=true by simp;omega,ai,aQ];simp;omega
 ·rw [show decide ((lo:Int)≤(n:Int))=false by simp;omega,ae,ab (by omega)]
theorem bH.goal (b:bz) (at_:Int) (hp:decide (b.length≤1099511627776)=true):bH.F b at_=some [.i .i64 (fy.mi b at_).1,.i .i64 (fy.mi b at_).2]:=by
 have hb:b.length≤1099511627776:=ar hp
 refine bH.bZ b at_ ?_
 intro v1 h1 v2 h2 v3 h3 v4 h4 v5 h5 v6 h6 v7 h7 v8 h8 v9 h9
 unfold fy.mi
 by_cases h0:at_<0
 ·subst h1
  simp [h0,ck,bH.uF]
 ·have hd0:decide (at_<0)=false:=ab h0
  obtain ⟨i,rfl⟩:=Int.eq_ofNat_of_zero_le (show 0≤at_ by omega)
  rw [hd0] at h1 ⊢
  subst h1
  simp only [aM,aH,Bool.false_or,Bool.or_true,bQ,ae,aj] at h2 ⊢
  by_cases hl:b.length≤i
  ·rw [show decide ((b.length:Int)≤(i:Int))=true by simp;omega,aw (.inr (by omega)),ai,bH.uF];rfl
  ·rw [show decide ((b.length:Int)≤(i:Int))=false by simp;omega,au (by omega),ae,bw (bK (by omega) (by omega)),drop_cons (l:=b) (i:=i) (by omega) 0,←h2,fy.rune]
   have hc:=Ip v2
   have e3:v3=(v2.toNat:Int):=by rw [h3];exact i64_in _ (by omega)
   have an:∀(m:Nat),m<256→cI .and .i64 v3 m=((v2.toNat &&& m:Nat):Int):=fun m h=>by rw [e3,Hh _ _ (by omega) (by omega)]
   have TE:v5=((v2.toNat &&& 31:Nat):Int):=h5.trans (an 31 (by omega))
   have TD:v7=((v2.toNat &&& 15:Nat):Int):=h7.trans (an 15 (by omega))
   have TC:v9=((v2.toNat &&& 7:Nat):Int):=h9.trans (an 7 (by omega))
   have e4:v4=decide (192≤v2.toNat∧v2.toNat<224):=by rw [h4,e3];exact Of 192 224 _
   have e6:v6=decide (224≤v2.toNat∧v2.toNat<240):=by rw [h6,e3];exact Of 224 240 _
   have e8:v8=decide (240≤v2.toNat∧v2.toNat<248):=by rw [h8,e3];exact Of 240 248 _
   have J:∀(r more least:Nat),1≤more∧more<8→r<1024→bH.j2 b i r more least=some [.i .i64 (fy.nj r more least (b.drop (i+1))).1,.i .i64 (fy.nj r more least (b.drop (i+1))).2]:=fun r more least h1 h2 =>
    (bH.sL b i r more least h1 hb (by omega) h2).trans (Gj _ _ _ _)
   simp only [aR,bQ]
   by_cases c1:v2.toNat<128
   ·rw [aw c1,e3,show decide ((v2.toNat:Int)<128)=true by simp;omega,ai];rfl
   ·rw [au c1,show decide (v3<(128:Int))=false by rw [e3];simp;omega,ae,e4]
    by_cases c2:192≤v2.toNat∧v2.toNat<224
    ·rw [aw c2,aa c2,ai,TE,MD _ hc c2];exact J _ 1 128 (by omega) (by omega)
    ·rw [au c2,ab c2,ae,e6]
     by_cases c3:224≤v2.toNat∧v2.toNat<240
     ·rw [aw c3,aa c3,ai,TD,MF _ hc c3];exact J _ 2 2048 (by omega) (by omega)
     ·rw [au c3,ab c3,ae,e8]
      by_cases c4:240≤v2.toNat∧v2.toNat<248
      ·rw [aw c4,aa c4,ai,TC,PK _ hc c4];exact J _ 3 65536 (by omega) (by omega)
      ·rw [au c4,ab c4,ae,bH.uF];rfl
theorem fy.pP (l:bz):0≤(fy.rune l).2∧(fy.rune l).2≤l.length:=by
 have Cp:∀(k r q:Nat) (l:bz),fy.cont r k l=some q→k≤l.length:=by
  intro k
  induction k with
  | zero=>intro r q l _;omega
  | succ k ih =>
   intro r q l h
   cases l with
   | nil=>cases h
   | cons c l =>
    rw [fy.cont] at h
    split at h
    ·have:=ih _ _ _ h;simp;omega
    ·cases h
 have OV:∀(r more least:Nat) (l:bz),0≤(fy.nj r more least l).2∧(fy.nj r more least l).2≤l.length+1:=by
  intro r more least l
  unfold fy.nj
  cases h:fy.cont r more l with
  | none=>simp;omega
  | some q =>
   have:=Cp _ _ _ _ h
   simp only
   split <;> simp <;> omega
 cases l with
 | nil=>exact ⟨by decide,by decide⟩
 | cons c l =>
  unfold fy.rune
  simp only [ay]
  split
  ·simp;omega
  ·split
   ·have:=OV (c.toNat - 192) 1 128 l;omega
   ·split
    ·have:=OV (c.toNat - 224) 2 2048 l;omega
    ·split
     ·have:=OV (c.toNat - 240) 3 65536 l;omega
     ·simp;omega
theorem fy.Dv (l:bz):∀n,l.length≤n→fy.oX n l=fy.oX l.length l:=by
 have key:∀(m:Nat) (l:bz),l.length≤m→∀n,l.length≤n→fy.oX n l=fy.oX l.length l:=by
  intro m
  induction m with
  | zero =>
   intro l hl n hn
   have:l=[]:=List.length_eq_zero_iff.1 (by omega)
   subst this
   cases n with
   | zero=>rfl
   | succ n=>rfl
  | succ m ih =>
   intro l hl n hn
   cases h:l.length with
   | zero =>
    have:l=[]:=List.length_eq_zero_iff.1 h
    subst this
    cases n <;> rfl
   | succ k =>
    cases n with
    | zero=>omega
    | succ n =>
     unfold fy.oX
     have hs:=fy.pP l
     by_cases h0:(fy.rune l).2=0
     ·rw [aw h0,aw h0]
     ·rw [au h0,au h0]
      have hd:(l.drop (fy.rune l).2.toNat).length≤k:=by simp;omega
      rw [ih _ (by simp;omega) n (by simp;omega),ih _ (by simp;omega) k hd]
 exact fun n hn=>key _ l (Nat.le_refl _) n hn
theorem fy.BG (l:bz) (h:(fy.rune l).2≠0):fy.look l=((fy.look (l.drop (fy.rune l).2.toNat)).1+(fy.rune l).2.toNat,(fy.look (l.drop (fy.rune l).2.toNat)).2+1):=by
 have hs:=fy.pP l
 unfold fy.look
 cases hl:l.length with
 | zero=>omega
 | succ k =>
  rw [fy.oX,au h]
  simp only
  rw [fy.Dv _ k (by simp;omega)]
theorem fy.BH (l:bz) (h:(fy.rune l).2=0):fy.look l=(0,0):=by
 unfold fy.look
 cases l.length with
 | zero=>rfl
 | succ k=>rw [fy.oX,aw h]
theorem fy.runeAt_nat (b:bz) (i:Nat) (h:i<b.length):fy.mi b i=fy.rune (b.drop i):=by
 unfold fy.mi;rw [au (by omega),aj]
theorem cj.cW (b:bz) (hb:b.length≤1099511627776):∀(m i k:Nat),b.length - i≤m→i≤b.length→k≤i →
  cj.l1 b i k=some [.i .i64 ((i+(fy.look (b.drop i)).1:Nat):Int),.i .i64 ((k+(fy.look (b.drop i)).2:Nat):Int)]:=by
 intro m
 induction m with
 | zero =>
  intro i k hm hi hk
  refine cj.bV _ _ _ ?_
  intro v1 h1 v2 h2
  rw [show decide ((i:Int)<(b.length:Int))=false by simp;omega,ae,cj.jZ,aE (by omega)]
  rfl
 | succ m ih =>
  intro i k hm hi hk
  by_cases fO:i<b.length
  ·refine cj.bV _ _ _ ?_
   intro v1 h1 v2 h2
   rw [fy.runeAt_nat b i fO] at h1 ⊢
   have hs:=fy.pP (b.drop i)
   rw [aU] at hs
   rw [show decide ((i:Int)<(b.length:Int))=true by simp;omega,ai,bw (aa hb)]
   by_cases h0:(fy.rune (b.drop i)).2=0
   ·rw [aa h0,ai,cj.jZ,fy.BH _ h0];rfl
   ·rw [ab h0,ae,fy.BG _ h0]
    have e1:v1=((i+(fy.rune (b.drop i)).2.toNat:Nat):Int):=by rw [h1,i64_in _ (by omega)];omega
    have e2:v2=((k+1:Nat):Int):=by rw [h2,i64_in _ (by omega)];omega
    rw [e1,e2,ih _ _ (by omega) (by omega) (by omega),List.drop_drop]
    simp only [aJ,bt,TV.i.injEq,true_and,and_true]
    exact ⟨by omega,by omega⟩
  ·refine cj.bV _ _ _ ?_
   intro v1 h1 v2 h2
   rw [show decide ((i:Int)<(b.length:Int))=false by simp;omega,ae,cj.jZ,aE (by omega)]
   rfl
theorem cj.goal (b:bz) (hp:decide (b.length≤1099511627776)=true):cj.F b=some [.i .i64 ((fy.look b).1:Int),.i .i64 ((fy.look b).2:Int)]:=by
 rw [cj.eJ]
 have:=cj.cW b (ar hp) b.length 0 0 (by omega) (by omega) (by omega)
 simpa using this
theorem dJ.goal (b:bz) (hp:decide (b.length≤1099511627776)=true):dJ.F b=some [.i .i64 ((fy.look b).1:Int),.b (fy.whole b)]:=by
 have e:decide (((fy.look b).1:Int)=(b.length:Int))=fy.whole b:=by unfold fy.whole;rw [aQ];simp;omega
 rw [dJ.eJ,bw hp,e]
theorem Vg.end_ (r:Nat) (more least:Nat) {v7 v9:Bool} (h7:v7=(cond (decide ((r:Int)<(least:Int))) true (decide ((1114111:Int)<(r:Int))))) (h9:v9=(cond (decide ((55296:Int)≤(r:Int))) (decide ((r:Int)≤(57343:Int))) false)) :
  cond (cond v7 true v9)
  (some [(.i .i64 (0:Int)),(.i .i64 (0:Int))])
  (some [(.i .i64 (r:Int)),(.i .i64 ((more+1:Nat):Int))])=BD (some r) more least:=by
 have e:cond v7 true v9=decide (r<least∨fy.mA r=false):=by
  subst h7 h9
  unfold fy.mA
  rw [aQ]
  by_cases a:r<least
  ·simp [a]
  ·by_cases b:1114111<r
   ·simp [a,show (1114111:Int)<(r:Int) by omega] <;> omega
   ·by_cases c:55296≤r
    ·simp [a,show ¬(1114111:Int)<(r:Int) by omega,show (55296:Int)≤(r:Int) by omega] <;> omega
    ·simp [a,show ¬(1114111:Int)<(r:Int) by omega,show ¬(55296:Int)≤(r:Int) by omega] <;> omega
 rw [e]
 unfold BD
 by_cases h:r<least∨fy.mA r=false
 ·rw [aa h];simp only [h,if_true,ai]
 ·rw [ab h];simp only [h,if_false,ae];rfl
theorem ck6 (a b c:Bool) (hc:c=(!a&&b)):(!(!a) || ((!a)&&(!b || c)))=true:=by subst hc;cases a <;> cases b <;> rfl
theorem Vg.ju (b:bz) (at_:Nat) (more least:Nat) (hm:more<8) (hb:b.length≤1099511627776) (fO:at_+more<b.length):∀(k i r:Nat),i+k=more+1→r<2 ^ (10+6 * i) →
  Vg.l2 b at_ ((more+1:Nat):Int) r least i=BD (fy.cont r k (b.drop (at_+i))) more least:=by
 intro k
 induction k with
 | zero =>
  intro i r hi hr
  refine Vg.iw _ _ _ _ _ _ ?_
  intro v1 h1 v2 h2 v3 h3 v4 h4 v5 h5 v6 h6 v7 h7 v8 h8 v9 h9
  rw [show decide ((i:Int)<((more+1:Nat):Int))=false by simp;omega,ae]
  simp only [aR,bm,bQ]
  rw [bw (ck6 _ _ _ h8),fy.cont]
  exact Vg.end_ r more least h7 h9
 | succ k ih =>
  intro i r hi hr
  refine Vg.iw _ _ _ _ _ _ ?_
  intro v1 h1 v2 h2 v3 h3 v4 h4 v5 h5 v6 h6 v7 h7 v8 h8 v9 h9
  have hw:IntKind.i64.wrap ((at_:Int)+(i:Int))=((at_+i:Nat):Int):=by rw [i64_in _ (by omega)];omega
  have Ns:=drop_cons (l:=b) (i:=at_+i) (by omega) 0
  have hu:=Ip v1
  rw [show decide ((i:Int)<((more+1:Nat):Int))=true by simp;omega,ai,hw]
  rw [hw,aj] at h1
  have e2:v2=(v1.toNat:Int):=by rw [h2];exact i64_in _ (by omega)
  have e3:v3=!decide (128≤v1.toNat∧v1.toNat<192):=by
   rw [h3,e2,aQ]
   by_cases a:v1.toNat<128
   ·simp [a];omega
   ·simp [show ¬(v1.toNat:Int)<128 by omega];omega
  simp only [aR,bm,bQ]
  rw [bw (bK (by omega) (by omega)),Ns,←h1,fy.cont,e3]
  by_cases hc:128≤v1.toNat∧v1.toNat<192
  ·rw [aw hc,aa hc]
   simp only [aH,ae]
   have hp:2 ^ (10+6 * i) * 64=2 ^ (10+6 * (i+1)):=by rw [show 10+6 * (i+1)=(10+6 * i)+6 by omega,Nat.pow_add 2 (10+6 * i) 6]
   have Fu:2 ^ (10+6 * (i+1))≤2 ^ 58:=Nat.pow_le_pow_right (by omega) (by omega)
   have Sx:r * 64+64≤2 ^ (10+6 * (i+1)):=by
    rw [←hp];have:=ak 64 (Nat.succ_le_of_lt hr);omega
   simp at Fu
   have e4:v4=((r * 64:Nat):Int):=by rw [h4,i64_in _ (by omega)];simp
   have e5:v5=((r * 64+(v1.toNat - 128):Nat):Int):=by
    rw [h5,e4,e2,i64_in (((r * 64:Nat):Int)+(v1.toNat:Int)) (by omega),i64_in _ (by omega)];omega
   have e6:v6=((i+1:Nat):Int):=by rw [h6,i64_in _ (by omega)];omega
   rw [e5,e6,ih (i+1) _ (by omega) (by omega),Nat.add_assoc]
  ·rw [au hc,ab hc]
   simp only [aM,ai]
   rfl
theorem fy.X1:∀(k r:Nat) (l:bz),l.length<k→fy.cont r k l=none:=by
 intro k
 induction k with
 | zero=>intro r l h;omega
 | succ k ih =>
  intro r l h
  cases l with
  | nil=>rfl
  | cons c l =>
   rw [fy.cont]
   split
   ·exact ih _ _ (by simp at h;omega)
   ·rfl
theorem Vg.gM (b:bz) (at_:Nat) (r more least:Nat) (hm:1≤more∧more<8) (hb:b.length≤1099511627776) (fO:at_<b.length) (hr:r<1024) :
  Vg.j1 b at_ ((more+1:Nat):Int) r least=BD (fy.cont r more (b.drop (at_+1))) more least:=by
 refine Vg.iI _ _ _ _ _ ?_
 intro v1 h1
 have e1:v1=(b.length:Int) - at_:=by rw [h1];exact i64_in _ (by omega)
 by_cases hx:at_+more<b.length
 ·rw [show decide (v1<((more+1:Nat):Int))=false by rw [e1];simp;omega,ae]
  exact Vg.ju b at_ more least hm.2 hb hx more 1 r (by omega) (by simp;omega)
 ·rw [show decide (v1<((more+1:Nat):Int))=true by rw [e1];simp;omega,ai,fy.X1 _ _ _ (by simp;omega)]
  rfl
theorem Vg.goal (b:bz) (at_:Int) (hp:decide (b.length≤1099511627776)=true):Vg.F b at_=some [.i .i64 (fy.mi b at_).1,.i .i64 (fy.mi b at_).2]:=by
 have hb:b.length≤1099511627776:=ar hp
 refine Vg.bZ b at_ ?_
 intro v1 h1 v2 h2 v3 h3 v4 h4 v5 h5 v6 h6 v7 h7 v8 h8 v9 h9
 unfold fy.mi
 simp only [aR,bm,aY,bQ]
 by_cases h0:at_<0
 ·rw [h1,aa h0,ai,ai,aw (.inl h0)]
 ·rw [h1,ab h0,ae]
  obtain ⟨i,rfl⟩:=Int.eq_ofNat_of_zero_le (show 0≤at_ by omega)
  rw [aj] at h2
  by_cases hl:b.length≤i
  ·rw [show decide ((b.length:Int)≤(i:Int))=true by simp;omega,aw (.inr (by omega)),ai]
  ·rw [show decide ((b.length:Int)≤(i:Int))=false by simp;omega,au (by omega),ae,bw (bK (by omega) (by omega)),aj,drop_cons (l:=b) (i:=i) (by omega) 0,←h2,fy.rune]
   have hc:=Ip v2
   have e3:v3=(v2.toNat:Int):=by rw [h3];exact i64_in _ (by omega)
   have e4:v4=decide (192≤v2.toNat∧v2.toNat<224):=by rw [h4,e3];exact Of 192 224 _
   have e6:v6=decide (224≤v2.toNat∧v2.toNat<240):=by rw [h6,e3];exact Of 224 240 _
   have e8:v8=decide (240≤v2.toNat∧v2.toNat<248):=by rw [h8,e3];exact Of 240 248 _
   have J:∀(r more least:Nat),1≤more∧more<8→r<1024→Vg.j1 b i ((more+1:Nat):Int) r least=some [.i .i64 (fy.nj r more least (b.drop (i+1))).1,.i .i64 (fy.nj r more least (b.drop (i+1))).2]:=fun r more least h1 h2 =>
    (Vg.gM b i r more least h1 hb (by omega) h2).trans (Gj _ _ _ _)
   by_cases c1:v2.toNat<128
   ·rw [aw c1,e3,show decide ((v2.toNat:Int)<128)=true by simp;omega,ai]
   ·rw [au c1,show decide (v3<(128:Int))=false by rw [e3];simp;omega,ae,e4]
    by_cases c2:192≤v2.toNat∧v2.toNat<224
    ·rw [aw c2,aa c2,ai,show v5=((v2.toNat - 192:Nat):Int) by rw [h5,e3,i64_in _ (by omega)];omega];exact J _ 1 128 (by omega) (by omega)
    ·rw [au c2,ab c2,ae,e6]
     by_cases c3:224≤v2.toNat∧v2.toNat<240
     ·rw [aw c3,aa c3,ai,show v7=((v2.toNat - 224:Nat):Int) by rw [h7,e3,i64_in _ (by omega)];omega];exact J _ 2 2048 (by omega) (by omega)
     ·rw [au c3,ab c3,ae,e8]
      by_cases c4:240≤v2.toNat∧v2.toNat<248
      ·rw [aw c4,aa c4,ai,show v9=((v2.toNat - 240:Nat):Int) by rw [h9,e3,i64_in _ (by omega)];omega];exact J _ 3 65536 (by omega) (by omega)
      ·rw [au c4,ab c4,ae]
theorem Vn.cW (b:bz) (hb:b.length≤1099511627776):∀(m i:Nat),b.length - i≤m→i≤b.length →
  Vn.l1 b i=some [.i .i64 ((i+(fy.look (b.drop i)).1:Nat):Int),.b (decide (i+(fy.look (b.drop i)).1=b.length))]:=by
 intro m
 induction m with
 | zero =>
  intro i hm hi
  refine Vn.bV _ _ ?_
  intro v1 h1
  rw [show decide ((i:Int)<(b.length:Int))=false by simp;omega,ae,aE (by omega)]
  have:(fy.look []).1=0:=by decide
  rw [this,aa (show i+0=b.length by omega),show i+0=b.length by omega]
 | succ m ih =>
  intro i hm hi
  refine Vn.bV _ _ ?_
  intro v1 h1
  by_cases fO:i<b.length
  ·rw [fy.runeAt_nat b i fO] at h1 ⊢
   have hs:=fy.pP (b.drop i)
   rw [aU] at hs
   rw [show decide ((i:Int)<(b.length:Int))=true by simp;omega,ai,bw (aa hb)]
   by_cases h0:(fy.rune (b.drop i)).2=0
   ·rw [aa h0,ai,fy.BH _ h0,ab (show ¬i+(0,0).1=b.length by simp;omega)];rfl
   ·rw [ab h0,ae,fy.BG _ h0]
    have e1:v1=((i+(fy.rune (b.drop i)).2.toNat:Nat):Int):=by rw [h1,i64_in _ (by omega)];omega
    rw [e1,ih _ (by omega) (by omega),List.drop_drop]
    simp only [aJ,bt,TV.i.injEq,TV.b.injEq,true_and,and_true]
    refine ⟨by omega,?_⟩
    rw [aQ];simp;omega
  ·rw [show decide ((i:Int)<(b.length:Int))=false by simp;omega,ae,aE (by omega)]
   have:(fy.look []).1=0:=by decide
   rw [this,aa (show i+0=b.length by omega),show i+0=b.length by omega]
theorem Vn.goal (b:bz) (hp:decide (b.length≤1099511627776)=true):Vn.F b=some [.i .i64 ((fy.look b).1:Int),.b (fy.whole b)]:=by
 rw [Vn.eJ]
 have:=Vn.cW b (ar hp) b.length 0 (by omega) (by omega)
 simpa [fy.whole] using this
theorem Vv.goal (s:bz) (hp:decide (s.length≤1099511627776)=true):Vv.F s=some [.b (fy.whole s)]:=by
 rw [Vv.eJ,bw (AY (ar hp)),bw hp]
theorem Vp.cW (s:bz) (hb:s.length≤1099511627776):∀(m i:Nat),s.length - i≤m→i≤s.length→Vp.l1 s i=some [.b ((s.drop i).contains 0)]:=by
 intro m
 induction m with
 | zero =>
  intro i hm hi
  refine Vp.bV _ _ ?_
  intro v1 h1 v2 h2
  rw [show decide ((i:Int)<(s.length:Int))=false by simp;omega,ae,aE (by omega)];rfl
 | succ m ih =>
  intro i hm hi
  refine Vp.bV _ _ ?_
  intro v1 h1 v2 h2
  rw [aj] at h1
  by_cases fO:i<s.length
  ·rw [show decide ((i:Int)<(s.length:Int))=true by simp;omega,ai,bw (bK (by omega) (by omega)),drop_cons (l:=s) fO 0,←h1]
   have e2:v2=((i+1:Nat):Int):=by rw [h2,i64_in _ (by omega)];omega
   by_cases h0:v1=0
   ·rw [h0];rfl
   ·rw [ab h0,ae,e2,ih _ (by omega) (by omega),List.contains_cons]
    have:((0:UInt8) == v1)=false:=by rw [beq_eq_false_iff_ne];exact fun e=>h0 e.symm
    rw [this,Bool.false_or]
  ·rw [show decide ((i:Int)<(s.length:Int))=false by simp;omega,ae,aE (by omega)];rfl
theorem Vp.goal (s:bz) (hp:decide (s.length≤1099511627776)=true):Vp.F s=some [.b (fy.zero s)]:=by
 rw [Vp.eJ]
 have:=Vp.cW s (ar hp) s.length 0 (by omega) (by omega)
 simpa [fy.zero] using this
end Go.Eng
set_option maxRecDepth 20000
namespace Go.Eng
open Go.IntWalk
theorem iH.goal (s:bz) (hp:(decide (s.length≤1099511627776))=true):iH.F s=some [.b (fy.whole s)]:=by
 rw [iH.eJ,bw (AY (ar hp)),bw hp]
theorem Hz:∀(l:bz) (c:UInt8),(l=[]∨Lib.indexByte l c<(l.length:Int))∧-1≤Lib.indexByte l c
 | [],c=>⟨.inl rfl,by show (-1:Int)≤-1;omega⟩
 | d :: r,c=>by
  obtain ⟨h1,h2⟩:=Hz r c
  rw [sO]
  refine ⟨.inr ?_,?_⟩
  ·split
   ·simp only [ay];omega
   ·split
    ·simp only [ay];omega
    ·rename_i h
     rcases h1 with rfl | h1
     ·exact (h (by rfl)).elim
     ·simp only [ay];omega
  ·split
   ·omega
   ·split <;> omega
theorem AQ (c:UInt8):(Cn.FA c).length≤6:=by
 unfold Cn.FA
 split
 ·simp
 split
 ·rw [ao,jA];simp
 ·simp
theorem xW:∀s:bz,(s.flatMap Cn.FA).length≤6 * s.length
 | []=>by simp
 | c :: r=>by have:=xW r;have:=AQ c;simp only [List.flatMap_cons,ao,ay];omega
theorem mo (s:bz):(Cn.jx s).length≤6 * s.length+2:=by
 unfold Cn.jx
 cases fy.whole s with
 | false=>simp
 | true=>have:=xW s;simp only [ai,Cn.quote,ay,ao,aB];omega
theorem cm.cW (s:bz) (hs:s.length≤1000000000000):∀(m i:Nat) (b:bz),i+m=s.length→b.length+6 * m≤7000000000000 →
  cm.l1 s (s.length:Int) (i:Int) b=some [.s (b++((s.drop i).flatMap Cn.FA++[34])),.b true]
 | 0,i,b,hi,hb=>by
  refine cm.bV _ _ _ _ ?_
  intro v1 h1 v2 h2 v3 h3 v4 h4 v5 h5 v6 h6 v7 h7
  rw [ab (by omega),ae,bw (dW (by rw [h7];simp;omega) (by rw [h7];simp;omega)),h7,aE (by omega)]
  rfl
 | m+1,i,b,hi,hb=>by
  refine cm.bV _ _ _ _ ?_
  intro v1 h1 v2 h2 v3 h3 v4 h4 v5 h5 v6 h6 v7 h7
  rw [aj] at h1
  have KI:=Hz [34,92,8,12,10,13,9] v1
  rw [←h2] at KI
  have KI:=KI.1.resolve_left (by simp)
  have next:∀e:bz,e=Cn.FA v1→cm.j2 s (s.length:Int) (i:Int) (b++e)=some [.s (b++((s.drop i).flatMap Cn.FA++[34])),.b true]:=fun e he=>by
   refine cm.jg _ _ _ _ ?_
   intro w1 g1
   have e1:w1=((i+1:Nat):Int):=by rw [g1,i64_in _ (by omega)];omega
   have hl:=AQ v1
   rw [e1,cm.cW s hs m (i+1) (b++e) (by omega) (by rw [he,ao];omega),drop_cons (l:=s) (i:=i) (by omega) (0:UInt8),←h1,he,List.flatMap_cons]
   simp only [aG]
  rw [aa (by omega),ai,bw (bK (by omega) (by omega))]
  by_cases c:(0:Int)≤v2
  ·rw [aa c,ai,bw (bK c (by simp at KI ⊢;omega)),bw (dW (by rw [h4];simp;omega) (by rw [h4];simp;omega))]
   refine next _ ?_
   unfold Cn.FA
   rw [←h2,aw c,h4,h3];rfl
  ·rw [ab c,ae]
   by_cases c2:v1<32
   ·rw [aa c2,ai,bw (dW (by simp;omega) (by simp;omega)),bw (aa (by simp)),bw (dW (by rw [h5,h6,jA];simp;omega) (by rw [h5,h6,jA];simp;omega)),h5,aG]
    refine next _ ?_
    unfold Cn.FA
    rw [←h2,au c,aw c2,h6]
   ·rw [ab c2,ae,bw (dW (by simp;omega) (by simp;omega))]
    refine next _ ?_
    unfold Cn.FA
    rw [←h2,au c,au c2]
theorem cm.goal (s:bz) (hp:(decide (s.length≤1000000000000))=true):cm.F s=some [.s (Cn.jx s),.b (fy.whole s)]:=by
 have hs:=ar hp
 refine cm.bZ _ ?_
 intro v1 h1
 rw [bw (aa (by omega))]
 unfold Cn.jx
 cases fy.whole s with
 | false=>rfl
 | true =>
  rw [aH,ae,ai,h1]
  exact cm.cW s hs s.length 0 [34] (by omega) (by simp;omega)
theorem jo_quoted.goal (b s:bz) (hp:(decide (b.length+6 * s.length≤5000000000000))=true):jo_quoted.F b s=some [.sl .bs (b++Cn.jx s)]:=by
 have h:=ar hp
 have:=mo s
 rw [jo_quoted.eJ,bw (aa (by omega)),bw (dW (by omega) (by omega))]
theorem ft.goal (j:bM) (hp:(decide (12 * bM.bO j≤1000000000000))=true):ft.F j=some [.s (Cn.pW j),.i .i64 (Cn.mE j)]:=by
 have h:=ar hp
 refine ft.bZ _ ?_
 intro v1 h1
 rw [bw (aa (by omega)),bw (aa (by simp;omega)),h1,bq]
 unfold Cn.pW
 by_cases c:Cn.mE j=0
 ·rw [aa c,aH,ae,ai,c]
 ·rw [ab c,aM,ai,ae]
end Go.Eng
set_option maxRecDepth 20000
namespace Go.Eng
open Go.IntWalk
theorem vn (f:Mem):bM.bO f.val≤Mem.bO f:=by
 cases f;simp only [bM.bO,Mem.of,Mem.val,Mem.kind,Mem.text,Mem.kids,Mem.bO,aB];omega
theorem zo {l:List Mem} {i:Nat} (h:i<l.length) (d:Mem):Mem.bO (l.getD i d)≤Mem.cM l:=by
 induction l generalizing i with
 | nil=>simp at h
 | cons f r ih =>
  cases i with
  | zero=>simp [Mem.cM]
  | succ i=>have:=ih (i:=i) (by simpa using h);simp only [List.getD_cons_succ,Mem.cM];omega
theorem Gl:∀f:Mem,1≤Mem.bO f
 | .mk _ _ _ _=>by simp only [Mem.bO];omega
theorem np:∀l:List Mem,l.length≤Mem.cM l
 | []=>by simp [Mem.cM]
 | f :: r=>by have:=np r;have:=Gl f;simp only [Mem.cM,ay];omega
theorem nv (j:bM):bM.bO j=1+j.text.length+Mem.cM j.kids:=by
 simp only [bM.bO,Mem.of,Mem.bO,aB]
theorem xc (f:Mem):f.name.length+bM.bO f.val=Mem.bO f:=by
 cases f;simp only [bM.bO,Mem.of,Mem.val,Mem.name,Mem.kind,Mem.text,Mem.kids,Mem.bO,aB];omega
theorem Be (f g:Mem):Cn.qP f g=Cn.mW f.val g.val:=by
 cases f;cases g;simp only [Cn.mW,Mem.of,Mem.val,Mem.kind,Mem.text,Mem.kids,Cn.qP]
theorem C0 (a b:bM):Cn.mW a b=(decide (a.kind=b.kind)&&decide (a.text=b.text)&&Cn.jw a.kids b.kids):=by
 simp only [Cn.mW,Mem.of,Cn.qP]
theorem rY:∀a b:List Mem,Cn.jw a b=true→a.length=b.length
 | [],[],_=>rfl
 | [],_ :: _,h=>by simp [Cn.jw] at h
 | _ :: _,[],h=>by simp [Cn.jw] at h
 | x :: a,y :: b,h=>by
  simp only [Cn.jw,ah] at h
  simp [rY a b h.2]
theorem r22_Same.cW (n:Nat) (a b:bM) (hb:bM.bO a≤1099511627776) (hn:bM.bO a<n+1) (hl:a.kids.length=b.kids.length):∀(m i:Nat),i+m=a.kids.length→r22_Same.l1 n (i:Int) a b=some [.b (Cn.jw (a.kids.drop i) (b.kids.drop i))]
 | 0,i,hi=>by
  refine r22_Same.bV _ _ _ _ ?_
  intro v1 h1 v2 h2 v3 h3 v4 h4 v5 h5 v6 h6 v7 h7
  rw [ab (by omega),ae,aE (by omega),aE (by omega)]
  rfl
 | m+1,i,hi=>by
  have hk:=nv a
  have hlen:=np a.kids
  refine r22_Same.bV _ _ _ _ ?_
  intro v1 h1 v2 h2 v3 h3 v4 h4 v5 h5 v6 h6 v7 h7
  rw [aj] at h2 h3
  have hf:=zo (l:=a.kids) (i:=i) (by omega) (fe.gk .ml)
  rw [←h2] at hf
  have hv:=vn v2
  have e7:v7=((i+1:Nat):Int):=by rw [h7,i64_in _ (by omega)];omega
  have ca:bB (i:Int) a.kids.length=true:=bK (by omega) (by omega)
  have cb:bB (i:Int) b.kids.length=true:=bK (by omega) (by omega)
  have cc:((decide (bM.bO (Mem.val v2)≤1099511627776))&&decide ((bM.bO (Mem.val v2))<n))=true:=by
   rw [ah];exact ⟨aa (by omega),aa (by omega)⟩
  have c5:(!v4 || ((v4&&v4)&&true))=true:=by cases v4 <;> rfl
  have c6:((!decide (v2.name=v3.name)) || v4)=true:=by rw [h4];cases decide (v2.name=v3.name) <;> rfl
  rw [aa (by omega),ai,ca,cb,cc,bQ,bQ,bw (iJ _),bw c5,bw (iJ _),bw (iJ _),bw (iJ _),bw c5,bw (iJ _),bw (iJ _),bw c5,bw (iJ _),bw c6,e7,r22_Same.cW n a b hb hn hl m (i+1) (by omega),
   drop_cons (l:=a.kids) (i:=i) (by omega) (fe.gk .ml),drop_cons (l:=b.kids) (i:=i) (by omega) (fe.gk .ml),←h2,←h3,h6,h5]
  simp only [Cn.jw]
  rw [Be]
  cases decide (v2.name=v3.name) <;> cases Cn.mW v2.val v3.val <;> rfl
theorem r22_Same.goal (n:Nat) (a b:bM) (hp:((decide (bM.bO a≤1099511627776))&&decide ((bM.bO a)<n+1))=true):r22_Same.F n a b=some [.b (Cn.mW a b)]:=by
 rw [ah] at hp
 have hb:=ar hp.1
 have hn:=ar hp.2
 refine r22_Same.bZ _ _ _ ?_
 intro v1 h1 v2 h2 v3 h3 v4 h4 v5 h5
 have c3:∀x:Bool,(!x || (x&&x))=true:=by decide
 have c4:((!decide (a.kind=b.kind)) || v1)=true:=by rw [h1];cases decide (a.kind=b.kind) <;> rfl
 rw [bw (iJ _),bw (iJ _),bw (c3 _),bw c4,bw (iJ _),bw (iJ _),bw (iJ _),bw (iJ _),bw (c3 _),bw (H4 _),C0,h5,h2,h4,h3]
 by_cases k1:a.kind=b.kind
 ·by_cases k2:a.text=b.text
  ·rw [aa k1,aa k2]
   by_cases k3:a.kids.length=b.kids.length
   ·rw [aa (by omega)]
    show r22_Same.l1 n ((0:Nat):Int) a b=_
    rw [r22_Same.cW n a b hb hn k3 _ 0 (by rw [Nat.zero_add])];rfl
   ·rw [ab (by omega)]
    have:Cn.jw a.kids b.kids=false:=by
     cases h:Cn.jw a.kids b.kids with
     | false=>rfl
     | true=>exact (k3 (rY _ _ h)).elim
    rw [this];rfl
  ·rw [aa k1,ab k2];rfl
 ·rw [ab k1];rfl
end Go.Eng
set_option maxRecDepth 20000
namespace Go.Eng
open Go.IntWalk
theorem EO (f:Mem):Cn.zO f=Cn.mE f.val:=by
 cases f;simp only [Cn.mE,Mem.of,Mem.val,Mem.kind,Mem.text,Mem.kids,Cn.zO]
theorem bP.ju (n:Nat) (l:List Mem) (hb:Mem.cM l≤1099511627776) (hn:Mem.cM l<n):∀(m i:Nat),i+m=l.length→bP.l2 n l (l.length:Int) (i:Int)=some [.i .i64 (Cn.sY (l.drop i))]
 | 0,i,hi=>by
  refine bP.iw _ _ _ _ ?_
  intro v1 h1 v2 h2 v3 h3
  rw [ab (by omega),ae,aE (by omega)]
  simp [Cn.sY]
 | m+1,i,hi=>by
  have hlen:=np l
  refine bP.iw _ _ _ _ ?_
  intro v1 h1 v2 h2 v3 h3
  rw [aj] at h1
  have hf:=zo (l:=l) (i:=i) (by omega) (fe.gk .ml)
  rw [←h1] at hf
  have hv:=vn v1
  have Qe:=xc v1
  have e3:v3=((i+1:Nat):Int):=by rw [h3,i64_in _ (by omega)];omega
  have cc:((decide (bM.bO (Mem.val v1)≤1099511627776))&&decide ((bM.bO (Mem.val v1))<n))=true:=by
   rw [ah];exact ⟨aa (by omega),aa (by omega)⟩
  rw [aa (by omega),ai,bw (bK (by omega) (by omega)),bw (aa (by omega)),bw cc,e3,bP.ju n l hb hn m (i+1) (by omega),drop_cons (l:=l) (i:=i) (by omega) (fe.gk .ml),←h1,h2]
  simp only [Cn.sY]
  rw [EO]
  cases hw:fy.whole v1.name with
  | false=>rw [aw rfl];rfl
  | true =>
   rw [au (by simp),aH,ae]
   by_cases c:Cn.mE v1.val=0
   ·rw [aa c,aH,ae,au (by simp [c])]
   ·rw [ab c,aM,ai,aw c]
theorem bP.cW (n:Nat) (j:bM) (hb:bM.bO j≤1099511627776) (hn:bM.bO j<n+1):∀(m i:Nat),i+m=j.kids.length →
  bP.l1 n j.kids (j.kids.length:Int) (i:Int) j=some [.i .i64 (if j.kind=6∧((j.kids.drop i).any fun m=>!decide (m.name=[]))=true then 1
   else if j.kind=4∧(Nr.iX j.text=0∨300<j.text.length) then 10
   else if j.kind=5∧fy.whole j.text=false then 4
   else Cn.sY j.kids)]
 | 0,i,hi=>by
  have hk:=nv j
  refine bP.bV _ _ _ _ _ ?_
  intro v1 h1 v2 h2 v3 h3 v4 h4 v5 h5 v6 h6 v7 h7 v8 h8 v9 h9 v10 iA
  have ct:decide (j.text.length≤1099511627776)=true:=aa (by omega)
  have ca:∀a:Bool,(!a || (a&&true))=true:=by decide
  have c8:(!(decide (j.kind=4)) || ((decide (j.kind=4))&&((decide (Nr.iX j.text=0)) || v4)))=true:=by
   rw [h4];cases decide (j.kind=4) <;> cases decide (Nr.iX j.text=0) <;> rfl
  have e7:v7=decide (j.kind=4∧(Nr.iX j.text=0∨300<j.text.length)):=by
   have e5:decide ((300:Int)<v5)=decide (300<j.text.length):=aZ.2 (by omega)
   rw [h7,h6,e5,Bool.decide_and,Bool.decide_or]
   cases decide (j.kind=4) <;> cases decide (Nr.iX j.text=0) <;> rfl
  have e9:v9=decide (j.kind=5∧fy.whole j.text=false):=by
   rw [h9,h8,Bool.decide_and];cases decide (j.kind=5) <;> cases fy.whole j.text <;> rfl
  rw [ab (show ¬((i:Int)<j.kids.length) by omega),ae,ct,bw (iJ _),bw (ca _),bw (iJ _),bw (iJ _),bw (iJ _),bw (iJ _),bw (iJ _),bw c8,bw (iJ _),e7,
   au (by rw [aE (by omega)];simp)]
  by_cases k1:j.kind=4∧(Nr.iX j.text=0∨300<j.text.length)
  ·rw [aa k1,ai,aw k1]
  rw [ab k1,ae,au k1,bw (iJ _),bw (ca _),bw (iJ _),bw (iJ _),e9]
  by_cases k2:j.kind=5∧fy.whole j.text=false
  ·rw [aa k2,ai,aw k2]
  rw [ab k2,ae,au k2,iA]
  exact bP.ju n j.kids (by omega) (by omega) j.kids.length 0 (by omega)
 | m+1,i,hi=>by
  have hk:=nv j
  have hlen:=np j.kids
  have ih:=bP.cW n j hb hn m (i+1) (by omega)
  refine bP.bV _ _ _ _ _ ?_
  intro v1 h1 v2 h2 v3 h3 v4 h4 v5 h5 v6 h6 v7 h7 v8 h8 v9 h9 v10 iA
  rw [aj] at h1
  have e3:v3=((i+1:Nat):Int):=by rw [h3,i64_in _ (by omega)];omega
  rw [aa (show (i:Int)<j.kids.length by omega),ai,bw (bK (by omega) (by omega)),bw (iJ _),bw (iJ _),bw (iJ _),e3,ih,drop_cons (l:=j.kids) (i:=i) (by omega) (fe.gk .ml),←h1,List.any_cons,h2]
  by_cases k:j.kind=6
  ·rw [aa k,ai]
   by_cases k2:v1.name=[]
   ·rw [aa k2,aH,ae,Bool.false_or]
   ·rw [ab k2,aM,ai,Bool.true_or,aw ⟨k,rfl⟩]
  ·rw [ab k,ae,ae];simp only [k,false_and,if_false]
theorem bP.goal (n:Nat) (j:bM) (hp:((decide (bM.bO j≤1099511627776))&&decide ((bM.bO j)<n+1))=true):bP.F n j=some [.i .i64 (Cn.mE j)]:=by
 rw [ah] at hp
 have hb:=ar hp.1
 have hn:=ar hp.2
 refine bP.bZ _ _ ?_
 intro v1 h1 v2 h2 v3 h3 v4 h4 v5 h5 v6 h6
 have e1:v1=decide (j.kind<1∨7<j.kind):=by rw [h1,Bool.decide_or];cases decide (j.kind<1) <;> rfl
 have e4:v4=decide (j.kids≠[]∧j.kind≠6∧j.kind≠7):=by
  have:decide ((0:Int)<v2)=decide (j.kids≠[]):=aZ.2 (by rw [h2];exact ⟨fun h e=>by rw [e] at h;exact absurd h (by simp),fun h=>by have:=List.length_pos_iff.2 h;omega⟩)
  rw [h4,h3,this,Bool.decide_and,Bool.decide_and]
  simp only [ne_eq,decide_not]
  cases decide (j.kids=[]) <;> cases decide (j.kind=6) <;> rfl
 have e6:v6=decide (j.text≠[]∧j.kind≠4∧j.kind≠5):=by
  rw [h6,h5,Bool.decide_and,Bool.decide_and]
  simp only [ne_eq,decide_not]
  cases decide (j.text=[]) <;> cases decide (j.kind=4) <;> rfl
 have key:=bP.cW n j hb hn j.kids.length 0 (by omega)
 simp only [Cn.mE,Mem.of,Cn.zO]
 rw [bw (iJ _),bw (iJ _),bw (H4 _),e1]
 by_cases k1:j.kind<1∨7<j.kind
 ·rw [aa k1,ai,aw k1]
 rw [ab k1,ae,au k1,bw (iJ _),bw (iJ _),bw (iJ _),bw (iJ _),bw (iJ _),bw (iJ _),e4]
 by_cases k2:j.kids≠[]∧j.kind≠6∧j.kind≠7
 ·rw [aa k2,ai,aw k2]
 rw [ab k2,ae,au k2,bw (iJ _),bw (iJ _),bw (iJ _),bw (iJ _),bw (iJ _),bw (iJ _),e6]
 by_cases k3:j.text≠[]∧j.kind≠4∧j.kind≠5
 ·rw [aa k3,ai,aw k3]
 rw [ab k3,ae,au k3,h2]
 exact key
end Go.Eng
set_option maxRecDepth 20000
namespace Go.Eng
open Go.IntWalk
mutual
theorem xr:∀m:Mem,(Cn.vw m).length+4+12 * m.name.length≤12 * Mem.bO m
 | .mk n k t ks=>by
  have h:=uv ks (decide (k=7)) true
  have hq:=mo t
  simp only [Cn.vw,Mem.bO,Mem.name]
  split
  ·simp;omega
  split
  ·simp;omega
  split
  ·simp;omega
  split
  ·omega
  split
  ·omega
  ·simp only [ay,ao,aB];omega
theorem uv:∀(l:List Mem) (o f:Bool),(Cn.nu o f l).length≤12 * Mem.cM l
 | [],o,f=>by simp [Cn.nu]
 | m :: r,o,f=>by
  have h1:=xr m
  have h2:=uv r o false
  have hq:=mo m.name
  simp only [Cn.nu,Mem.cM,ao]
  cases f <;> cases o <;> simp <;> omega
end
theorem DC (f:Mem):Cn.vw f=Cn.tJ f.val:=by
 cases f;simp only [Cn.tJ,Mem.of,Mem.val,Mem.kind,Mem.text,Mem.kids,Cn.vw]
theorem bY.ju (n:Nat) (c:UInt8) (j:bM) (hn:bM.bO j<n+1):∀(m i:Nat) (b:bz),i+m=j.kids.length→b.length+12 * Mem.cM (j.kids.drop i)+8≤4000000000000→Mem.cM j.kids≤1000000000000 →
  bY.l2 n c j.kids (j.kids.length:Int) (i:Int) j b=some [.sl .bs (b++(Cn.nu (decide (j.kind=7)) (decide (i=0)) (j.kids.drop i)++[c]))]
 | 0,i,b,hi,hb,hq=>by
  refine bY.iw _ _ _ _ _ _ _ ?_
  intro v1 h1 v2 h2
  rw [ab (show ¬((i:Int)<j.kids.length) by omega),ae,bw (dW (by simp;omega) (by simp;omega)),aE (by omega)]
  simp [Cn.nu]
 | m+1,i,b,hi,hb,hq=>by
  have hk:=nv j
  have hlen:=np j.kids
  refine bY.iw _ _ _ _ _ _ _ ?_
  intro v1 h1 v2 h2
  rw [aj] at h1
  have hf:=zo (l:=j.kids) (i:=i) (by omega) (fe.gk .ml)
  rw [←h1] at hf
  have hd:=drop_cons (l:=j.kids) (i:=i) (by omega) (fe.gk .ml)
  rw [←h1] at hd
  have hv:=xc v1
  have hl:=xr v1
  have UN:=mo v1.name
  rw [hd] at hb ⊢
  simp only [Mem.cM] at hb
  have last:∀x:bz,x.length≤b.length+6 * v1.name.length+4→bY.j4 n c j.kids (j.kids.length:Int) (i:Int) j v1 x=some [.sl .bs (x++(Cn.vw v1++(Cn.nu (decide (j.kind=7)) false (j.kids.drop (i+1))++[c])))]:=fun x hx=>by
   refine bY.DO _ _ _ _ _ _ _ _ ?_
   intro w1 g1 w2 g2
   have e2:w2=((i+1:Nat):Int):=by rw [g2,i64_in _ (by omega)];omega
   have cc:((decide (x.length+12 * bM.bO (Mem.val v1)≤4000000000000))&&decide ((bM.bO (Mem.val v1))<n))=true:=by
    rw [ah];exact ⟨aa (by omega),aa (by omega)⟩
   rw [bw cc,e2,g1,←DC,bY.ju n c j hn m (i+1) _ (by omega) (by rw [ao];omega) hq,show decide (i+1=0)=false from ab (by omega),aG]
  have mK:∀x:bz,x.length≤b.length+1→bY.j3 n c j.kids (j.kids.length:Int) (i:Int) j v1 x=some [.sl .bs (x++(cond (decide (j.kind=7)) (Cn.jx v1.name++[58]) []++(Cn.vw v1++(Cn.nu (decide (j.kind=7)) false (j.kids.drop (i+1))++[c]))))]:=fun x hx=>by
   refine bY.oY _ _ _ _ _ _ _ _ ?_
   intro w1 g1 w2 g2
   by_cases k:j.kind=7
   ·rw [aa k,ai,ai,bw (aa (by omega)),bw (dW (by rw [g1,g2];simp;omega) (by rw [g1,g2];simp;omega)),last _ (by rw [g1,g2];simp;omega),g1,g2,aa k]
    simp only [aG]
   ·rw [ab k,ae,ae,last x (by omega),ab k];rfl
  rw [aa (show (i:Int)<j.kids.length by omega),ai,bw (bK (by omega) (by omega))]
  simp only [Cn.nu]
  by_cases h0:i=0
  ·rw [ab (by omega),ae,mK b (by omega),aa h0,ai,bq]
   simp only [aG]
  ·rw [aa (by omega),ai,bw (dW (by rw [h2];simp;omega) (by rw [h2];simp;omega)),mK _ (by rw [h2];simp),ab h0,ae,h2]
   simp only [aG]
theorem bY.goal (n:Nat) (b:bz) (j:bM) (hp:((decide (b.length+12 * bM.bO j≤4000000000000))&&decide ((bM.bO j)<n+1))=true):bY.F n b j=some [.sl .bs (b++Cn.tJ j)]:=by
 rw [ah] at hp
 have hb:=ar hp.1
 have hn:=ar hp.2
 have hk:=nv j
 refine bY.bZ _ _ _ ?_
 intro v1 h1 v2 h2 v3 h3 v4 h4
 simp only [Cn.tJ,Mem.of,Cn.vw]
 by_cases k1:j.kind=1
 ·rw [aa k1,ai,aw k1,bw (dW (by simp;omega) (by simp;omega)),h1]
 rw [ab k1,ae,au k1]
 by_cases k2:j.kind=2
 ·rw [aa k2,ai,aw k2,bw (dW (by simp;omega) (by simp;omega)),h2]
 rw [ab k2,ae,au k2]
 by_cases k3:j.kind=3
 ·rw [aa k3,ai,aw k3,bw (dW (by simp;omega) (by simp;omega)),h3]
 rw [ab k3,ae,au k3]
 by_cases k4:j.kind=4
 ·rw [aa k4,ai,aw k4,bw (dW (by omega) (by omega))]
 rw [ab k4,ae,au k4]
 by_cases k5:j.kind=5
 ·rw [aa k5,ai,aw k5,bw (aa (by omega)),h4]
 rw [ab k5,ae,au k5]
 have go:∀x y:UInt8,bY.j1 n x y j b=some [.sl .bs (b++x :: (Cn.nu (decide (j.kind=7)) true j.kids++[y]))]:=fun x y=>by
  refine bY.iI _ _ _ _ _ ?_
  intro w1 g1
  rw [bw (dW (by simp;omega) (by simp;omega)),g1]
  have:=bY.ju n y j hn j.kids.length 0 (b++[x]) (by omega) (by rw [bh];simp;omega) (by omega)
  rw [bh,aa (rfl:0=0),aG] at this
  exact this
 by_cases k6:j.kind=7
 ·rw [aa k6,ai,ai,ai,go,aa k6]
 ·rw [ab k6,ae,ae,ae,go,ab k6]
end Go.Eng
set_option maxRecDepth 20000
namespace Go.Eng
open Go.IntWalk
open Nr (V mG sh top gZ rd)
theorem Cz (N:Nat):(UInt16.ofNat N % 2=0) ↔ N % 2=0:=by
 constructor
 ·intro h
  have:=congrArg UInt16.toNat h
  rw [UInt16.toNat_mod,Nt.dz] at this
  have e:N % 65536 % 2=0:=this
  omega
 ·intro h
  apply UInt16.toNat_inj.1
  rw [UInt16.toNat_mod,Nt.dz]
  show N % 65536 % 2=0
  omega
theorem Hm:(10:Nat) ^ 17<10 ^ 200:=by decide +kernel
theorem gi.goal (b:UInt64) (p q:List UInt16) (x n:Int) (hp:(Nt.is p&&Nt.is q&&Sh.nJ (Nt.val p) (Nt.val q) x n)=true):gi.F b p q x n=some [.s ((Sh.ob b.toNat (Nt.val p) (Nt.val q) x n).getD ([],0)).1,.i .i64 ((Sh.ob b.toNat (Nt.val p) (Nt.val q) x n).getD ([],0)).2,.b (Sh.ob b.toNat (Nt.val p) (Nt.val q) x n).isSome]:=by
 rw [ah,ah] at hp
 obtain ⟨⟨ha,hb⟩,hp⟩:=hp
 unfold Sh.nJ at hp
 obtain ⟨n1,n2,x1,x2,a0,a1,b0,b1,r1,r2⟩:=ar hp
 rw [Sh.rV]
 refine gi.bZ _ _ _ _ _ ?_
 intro v1 h1 v2 h2 v3 h3 v4 h4 v5 h5 v6 h6 v7 h7 v8 h8 v9 h9 v10 iA v11 ki v12 jE kW nY jP pA iD o8 mS tO nT xI lO wi qJ BU
 have ew:IntKind.i64.wrap (n - x)=n - x:=i64_in _ (by omega)
 have Tt:IntKind.i64.wrap (x - n)=x - n:=i64_in _ (by omega)
 have hP:=Ho (k:=n - x) a1 (by omega)
 have hQ:=Hn (k:=n - x) b1 (by omega)
 have JG:0<Sh.tB (Nt.val q) (n - x):=Sh.rQ b0 _
 rw [ew] at h1 h2 ⊢
 rw [Tt] at h5 h6 h7 iA ki jE ⊢
 unfold Sh.some_
 simp only
 generalize JH:Sh.tA (Nt.val p) (n - x)=P at *
 generalize U0:Sh.tB (Nt.val q) (n - x)=Q at *
 have w1:Nt.val v1=P:=by rw [h1,Nt.val_of]
 have w2:Nt.val v2=Q:=by rw [h2,Nt.val_of]
 rw [w1,w2] at h3 h4
 have w3:Nt.val v3=P / Q:=by rw [h3,Nt.val_of]
 have w4:Nt.val v4=P % Q:=by rw [h4,Nt.val_of]
 have w8:Nt.val v8=1:=by rw [h8,Nt.val_of];rfl
 rw [w3,w8] at h9
 have w9:Nt.val v9=P / Q+1:=by rw [h9,Nt.val_of]
 rw [w3] at h5 h6 h7 ⊢
 rw [w9] at iA ki jE ⊢
 rw [w4] at nY
 have RR:Nt.val kW=P % Q * 2:=by rw [nY,Nt.val_of];rfl
 rw [RR,w2] at pA
 have N1:1≤P / Q:=(Nat.le_div_iff_mul_le JG).2 (by omega)
 have N2:P / Q<10 ^ 17:=(Nat.div_lt_iff_lt_mul JG).2 r2
 have N3:P / Q<2 ^ 2500:=Nat.lt_of_le_of_lt (Nat.div_le_self _ _) hP
 have N4:P / Q+1<10 ^ 200:=Nat.lt_of_le_of_lt (Nat.succ_le_of_lt N2) Hm
 have R1:P % Q<2 ^ 2500:=Nat.lt_trans (Nat.mod_lt _ JG) hQ
 have i1:Nt.is v1=true:=by rw [h1];exact iy (i:=2500) hP (by omega)
 have i2:Nt.is v2=true:=by rw [h2];exact iy (i:=2500) hQ (by omega)
 have i3:Nt.is v3=true:=by rw [h3];exact iy (i:=2500) N3 (by omega)
 have i4:Nt.is v4=true:=by rw [h4];exact iy (i:=2500) R1 (by omega)
 have i8:Nt.is v8=true:=by rw [h8];exact iy (i:=1) (by decide) (by omega)
 have i9:Nt.is v9=true:=by rw [h9];exact iy (i:=665) (Nat.lt_trans N4 Iw) (by omega)
 have i13:Nt.is kW=true:=by
  rw [nY]
  exact iy (i:=2502) (mu (i:=2500) (j:=2) (k:=2502) R1 (by decide) (by omega)) (by omega)
 have R8:v2≠[]:=by intro e;rw [e] at w2;simp [Nt.val] at w2;omega
 have R7:v3≠[]:=by intro e;rw [e] at w3;simp [Nt.val] at w3;omega
 have l3:=List.length_pos_iff.2 R7
 have Mt:nT=UInt16.ofNat (P / Q):=by rw [xI,h3,Nt.kG (by omega)];rfl
 have c1:(decide (-400≤n - x∧n - x≤400∧Nt.val p<2 ^ 1100∧Nt.val q<2 ^ 1100))=true:=aa ⟨by omega,by omega,a1,b1⟩
 have c3:(decide (-1000≤x - n∧x - n≤1000∧0<P / Q∧P / Q<10 ^ 200))=true:=aa ⟨by omega,by omega,by omega,Nat.lt_trans N2 Hm⟩
 have c9:(decide (-1000≤x - n∧x - n≤1000∧0<P / Q+1∧P / Q+1<10 ^ 200))=true:=aa ⟨by omega,by omega,by omega,N4⟩
 have hx:bB (0:Int) v3.length=true:=bK (by omega) (by omega)
 rw [ha,hb,c1,i1,i2,aa R8,i3,c3,i8,i9,c9,i4,i13,hx]
 refine (bw (by rfl)).trans ((bw (by rfl)).trans ((bw (by rfl)).trans ((bw (by rfl)).trans ((bw (by rfl)).trans ((bw (by rfl)).trans ((bw (by rfl)).trans ?_))))))
 have KX:lO=decide (P % Q * 2=Q∧P / Q % 2=0):=by
  have e0:decide (UInt16.ofNat (P / Q) % 2=0)=decide (P / Q % 2=0):=aZ.2 (Cz _)
  rw [wi,Mt,e0,pA]
  rcases nP (P % Q * 2) Q with ⟨k,l⟩ | ⟨k,l⟩ | ⟨k,l⟩
  ·rw [k,ab (by decide),ae,ab (by omega)]
  ·rw [k,aa (by decide),ai,aZ];omega
  ·rw [k,ab (by decide),ae,ab (by omega)]
 have J4:decide (jP<0)=decide (P % Q * 2<Q):=by
  rw [pA,aZ]
  rcases nP (P % Q * 2) Q with ⟨k,l⟩ | ⟨k,l⟩ | ⟨k,l⟩ <;> rw [k] <;> omega
 rw [J4] at o8
 have hB:∀v7 v12 iD c:Bool,(!v7 || v7)=true∧(!(v7&&(!(!v12))) || (v7&&(!(!v12))))=true∧(!v7 || (v7&&((!v12) || (v7&&(!(!v12))))))=true∧(!(v7&&(!iD)) || (v7&&(!iD)))=true∧(!((v7&&(!iD))&&c) || (((v7&&(!iD))&&c)&&true))=true∧(!((v7&&(!iD))&&c) || ((v7&&(!iD))&&c))=true ∧
   (!(v7&&(!iD)) || ((v7&&(!iD))&&(!c || ((v7&&(!iD))&&c))))=true∧(!v7 || (v7&&(iD || (v7&&(!iD)))))=true:=by decide
 obtain ⟨t1,t2,t3,t4,t5,t6,t7,t8⟩:=hB v7 v12 iD (decide (jP=0))
 rw [←tO] at t5 t6 t7
 have hz:(!decide ((2:UInt16)=0))=true:=rfl
 rw [hz,bw t1,bw t1,bw t2,bw t3,bw t1,bw t4,bw t4,bw t5,bw t6,bw t5,bw t6,bw t7,bw t8,bw t1]
 rw [Sh.uc] at h5 h6 h7 iA ki jE
 generalize Sh.reads b.toNat (P / Q) (x - n)=u at *
 generalize Sh.reads b.toNat (P / Q+1) (x - n)=o at *
 have Cs:qJ=decide (u.isSome=true∧(o.isSome=false∨2 * (P % Q)<Q∨(2 * (P % Q)=Q∧P / Q % 2=0))):=by
  rw [BU,o8,KX,h7,jE]
  have q1:decide (P % Q * 2<Q)=decide (2 * (P % Q)<Q):=aZ.2 (by omega)
  have q2:decide (P % Q * 2=Q∧P / Q % 2=0)=decide (2 * (P % Q)=Q∧P / Q % 2=0):=aZ.2 (by omega)
  rw [q1,q2]
  by_cases k1:2 * (P % Q)<Q <;> by_cases k2:(2 * (P % Q)=Q∧P / Q % 2=0) <;> cases u.isSome <;> cases o.isSome <;> simp [k1,k2]
 by_cases hc:u.isSome=true∧(o.isSome=false∨2 * (P % Q)<Q∨(2 * (P % Q)=Q∧P / Q % 2=0))
 ·rw [Cs,aa hc,ai,aw hc,h5,h6,hc.1]
 ·rw [Cs,ab hc,ae,au hc,iA,ki,jE]
theorem E9 (b:UInt64):(b &&& ~~~(9223372036854775808:UInt64)).toNat=Sh.mM b:=by
 have e:(~~~(9223372036854775808:UInt64))=9223372036854775807:=by decide
 rw [e,UInt64.toNat_and]
 exact Nat.and_two_pow_sub_one_eq_mod b.toNat 63
theorem tY {b:UInt64} (h:(Nr.split b).1=2):0<Sh.mM b∧Sh.mM b≤top∧(Nr.split b).2.2.1.toNat=mG (Sh.mM b)∧(Nr.split b).2.2.2=(sh (Sh.mM b):Int) - 1074:=by
 have hb:=b.toNat_lt
 have hx:b.toNat / 4503599627370496 % 2048=Sh.mM b / 4503599627370496:=by unfold Sh.mM;omega
 have hf:b.toNat % 4503599627370496=Sh.mM b % 4503599627370496:=by unfold Sh.mM;omega
 have hm:Sh.mM b<9223372036854775808:=Nat.mod_lt _ (by omega)
 unfold Nr.split at h ⊢
 simp only [hx,hf] at h ⊢
 generalize Sh.mM b=p at *
 unfold mG sh top
 by_cases c1:p / 4503599627370496=2047
 ·rw [aw c1] at h
  by_cases c2:p % 4503599627370496=0
  ·rw [aw c2] at h;simp at h
  ·rw [au c2] at h;simp at h
 ·rw [au c1] at h ⊢
  by_cases c2:p / 4503599627370496=0
  ·rw [aw c2] at h ⊢
   by_cases c3:p % 4503599627370496=0
   ·rw [aw c3] at h;simp at h
   ·rw [au c3,aw (show p<4503599627370496 by omega)]
    refine ⟨by omega,by omega,?_,?_⟩
    ·show (UInt64.ofNat _).toNat=_;rw [fc];omega
    ·show (-1074:Int)=_;omega
  ·rw [au c2,au (show ¬p<4503599627370496 by omega)]
   refine ⟨by omega,by omega,?_,?_⟩
   ·show (UInt64.ofNat _).toNat=_;rw [fc];omega
   ·show ((p / 4503599627370496:Nat):Int) - 1075=_;omega
def vF (i:Nat):Bool :=
 let k:Int:=(i:Int) - 1100
 let x:=Int.tdiv (k * 30103) 100000 - 2
 decide (10 ^ (x - 1).toNat * 2 ^ (-(k - 1)).toNat≤2 ^ (k - 1).toNat * 10 ^ (-(x - 1)).toNat)&&decide (-390≤x)
theorem BW:∀i,i<2201→vF i=true:=by
 have h:(List.range 2201).all vF=true:=by decide +kernel
 intro i hi
 exact aC.1 h i (List.mem_range.2 hi)
end Go.Eng
set_option maxRecDepth 20000
namespace Go.Eng
open Go.IntWalk
open Nr (V mG sh top gZ rd)
theorem mw (a b:Int):a<b∨b≤a:=by omega
theorem yo (n:Nat) (h:0<n):2 ^ (Nt.bits n - 1)≤n∧n<2 ^ Nt.bits n∧0<Nt.bits n:=Nt.iO h
theorem Ao {a b:Nat} (h:a<b):2 ^ a<2 ^ b:=Nat.pow_lt_pow_right (by omega) h
theorem tj (p:Nat) (ht:p≤top):Sh.iP p<2 ^ 1100∧Sh.fY p<2 ^ 1100∧Nt.bits (Sh.iP p)≤1100∧Nt.bits (Sh.fY p)≤1080:=by
 have h1:=Nr.sD p
 have h2:=Nr.yV ht
 have hm:mG p<2 ^ 53:=h1
 have ha:Sh.iP p<2 ^ 1100:=mu (i:=53) (j:=972) (k:=1100) hm (Ao (b:=972) (by omega)) (by omega)
 have hb:Sh.fY p<2 ^ 1080:=Ao (b:=1080) (by omega)
 refine ⟨ha,jq (i:=1080) (k:=1100) hb (by omega),?_,?_⟩
 ·exact Nt.jT (k:=1100) ha
 ·exact Nt.jT (k:=1080) hb
theorem Iu:(2:Nat) ^ 1024<10 ^ 310:=by decide +kernel
theorem It:(2:Nat) ^ 1074<10 ^ 330:=by decide +kernel
theorem Fh {p:Nat} (h:p≤top):V p<2 ^ 1024 * 2 ^ 1074:=by
 have h1:=Nr.MK h
 have h2:=Nr.kC top
 have h3:V (top+1)=2 ^ 1024 * 2 ^ 1074:=by decide +kernel
 rw [←h3]
 exact Nat.lt_of_le_of_lt h1 h2
theorem Mx {a b A K T V':Nat} (hb:0<b) (h:a * K=V' * b) (hV:V'<T * K) (hA:T<A):a<A * b:=by
 by_cases c:K=0
 ·subst c;rw [Nat.mul_zero] at hV;omega
 ·have hK:0<K:=by omega
  refine Nat.lt_of_mul_lt_mul_right (a:=K) ?_
  rw [h]
  have:V' * b<T * K * b:=Nat.mul_lt_mul_of_pos_right hV hb
  refine Nat.lt_trans this ?_
  rw [Nat.mul_right_comm]
  exact Nat.mul_lt_mul_of_pos_right (Nat.mul_lt_mul_of_pos_right hA hb) hK
theorem Mw {a b A K V':Nat} (ha:0<a) (h:a * K=V' * b) (hV:0<V') (hA:K<A):b<a * A:=by
 have h1:1 * b≤V' * b:=ak _ hV
 have h2:a * K<a * A:=Nat.mul_lt_mul_of_pos_left hA ha
 omega
theorem J5 {a b n d:Nat} (hn:n≤d) (h:10 ^ d * b≤a) (g:a<10 ^ n * b):False:=by
 have:=ak b (Nr.kh hn)
 omega
theorem vM {p:Nat} (hp:0<p) (ht:p≤top) : -330≤Sh.dx p∧Sh.dx p≤311:=by
 obtain ⟨h1,h2⟩:=Sh.AS hp
 have Cq:=Sh.Ff p
 have hb:=Sh.jC p
 have hV:0<V p:=by have:=Nr.yA hp;omega
 have ha:0<Sh.iP p:=Nat.mul_pos (Sh.rp hp) (Nat.two_pow_pos _)
 constructor
 ·rcases mw (Sh.dx p) (-330) with c | c
  ·exfalso
   have g:=Mw ha Cq hV It
   have e0:(Sh.dx p).toNat=0:=by omega
   rw [e0,Nat.pow_zero,Nat.one_mul] at h2
   have e1:Sh.iP p * 10 ^ 330≤Sh.iP p * 10 ^ (-(Sh.dx p)).toNat:=Nat.mul_le_mul_left _ (Nr.kh (a:=330) (by omega))
   exact Nat.lt_irrefl _ (Nat.lt_trans g (Nat.lt_of_le_of_lt e1 h2))
  ·exact c
 ·rcases mw 311 (Sh.dx p) with c | c
  ·exfalso
   have g:=Mx hb Cq (Fh ht) Iu
   have e0:(-(Sh.dx p - 1)).toNat=0:=by omega
   rw [e0,Nat.pow_zero,Nat.mul_one] at h1
   exact J5 (n:=310) (by omega) h1 g
  ·exact c
theorem uW {p:Nat} (hp:0<p) (x:Int):Sh.tB (Sh.fY p) (-x)≤Sh.tA (Sh.iP p) (-x) ↔ x<Sh.dx p:=by
 obtain ⟨h1,h2⟩:=Sh.AS hp
 have hb:=Sh.rQ (Sh.jC p) (-x)
 constructor
 ·intro h
  rcases mw x (Sh.dx p) with c | c
  ·exact c
  ·exfalso
   have key:Sh.tA (Sh.iP p) (-x)<Sh.tB (Sh.fY p) (-x):=by
    unfold Sh.tA Sh.tB
    refine Nat.lt_of_mul_lt_mul_right (a:=10 ^ (-(Sh.dx p)).toNat) ?_
    rw [Nat.mul_right_comm]
    refine Nat.lt_of_lt_of_le (Nat.mul_lt_mul_of_pos_right h2 (Nr.eM _)) ?_
    rw [Nat.mul_comm (10 ^ (Sh.dx p).toNat),Nat.mul_assoc,Nat.mul_assoc,←Nat.pow_add,←Nat.pow_add]
    exact Nat.mul_le_mul_left _ (Nr.kh (by omega))
   omega
 ·intro h
  have h3:10 ^ (Sh.dx p - 1).toNat * Sh.fY p * 10 ^ (-x).toNat≤Sh.iP p * 10 ^ (-(Sh.dx p - 1)).toNat * 10 ^ (-x).toNat:=ak _ h1
  unfold Sh.tA Sh.tB
  refine Nat.le_of_mul_le_mul_right (c:=10 ^ (-(Sh.dx p - 1)).toNat) ?_ (Nr.eM _)
  rw [Nat.mul_right_comm (Sh.iP p)]
  refine Nat.le_trans ?_ h3
  rw [Nat.mul_assoc,←Nat.pow_add,Nat.mul_comm (10 ^ (Sh.dx p - 1).toNat),Nat.mul_assoc,←Nat.pow_add]
  exact Nat.mul_le_mul_left _ (Nr.kh (by omega))
theorem D3 {p:Nat} (hp:0<p) (ht:p≤top):Int.tdiv ((((Nt.bits (Sh.iP p):Nat):Int) - (Nt.bits (Sh.fY p):Nat)) * 30103) 100000 - 2≤Sh.dx p∧-390≤Int.tdiv ((((Nt.bits (Sh.iP p):Nat):Int) - (Nt.bits (Sh.fY p):Nat)) * 30103) 100000 - 2:=by
 have ha:0<Sh.iP p:=Nat.mul_pos (Sh.rp hp) (Nat.two_pow_pos _)
 obtain ⟨a1,a2,a3⟩:=yo _ ha
 obtain ⟨b1,b2,b3⟩:=yo _ (Sh.jC p)
 obtain ⟨_,_,ba,bb⟩:=tj p ht
 obtain ⟨h1,h2⟩:=Sh.AS hp
 generalize hi:(Nt.bits (Sh.iP p)+1100 - Nt.bits (Sh.fY p))=i
 have g:=BW i (by omega)
 unfold vF at g
 have ek:(i:Int) - 1100=((Nt.bits (Sh.iP p):Nat):Int) - (Nt.bits (Sh.fY p):Nat):=by omega
 simp only [ek,ah,aA] at g
 obtain ⟨g1,g2⟩:=g
 refine ⟨?_,g2⟩
 generalize Int.tdiv ((((Nt.bits (Sh.iP p):Nat):Int) - (Nt.bits (Sh.fY p):Nat)) * 30103) 100000 - 2=x at *
 rcases mw (Sh.dx p) x with c | c
 ·exfalso
  generalize Nt.bits (Sh.iP p)=u at *
  generalize Nt.bits (Sh.fY p)=v at *
  generalize Sh.iP p=a at *
  generalize Sh.fY p=b at *
  generalize Sh.dx p=d at *
  -- 2^(u-1) * 10^(-d)<10^d * 2^v
  have s1:2 ^ (u - 1) * 10 ^ (-d).toNat<10 ^ d.toNat * 2 ^ v:=by
   refine Nat.lt_of_le_of_lt (ak _ a1) (Nat.lt_trans h2 ?_)
   exact Nat.mul_lt_mul_of_pos_left b2 (Nr.eM _)
  -- 10^(x-1) * 2^(-(k-1)) <= 2^(k-1) * 10^(-(x-1)),2^(k-1)<10^d * ..,d <= x - 1
  have s5:10 ^ (x - 1).toNat * 2 ^ (-(((u:Nat):Int) - (v:Nat) - 1)).toNat * (2 ^ v * 10 ^ (-d).toNat)≤2 ^ (((u:Nat):Int) - (v:Nat) - 1).toNat * 10 ^ (-(x - 1)).toNat * (2 ^ v * 10 ^ (-d).toNat):=ak _ g1
  have e4:2 ^ (((u:Nat):Int) - (v:Nat) - 1).toNat * 10 ^ (-(x - 1)).toNat * (2 ^ v * 10 ^ (-d).toNat)=(2 ^ (u - 1) * 10 ^ (-d).toNat) * (2 ^ (-(((u:Nat):Int) - (v:Nat) - 1)).toNat * 10 ^ (-(x - 1)).toNat):=by
   have:2 ^ (((u:Nat):Int) - (v:Nat) - 1).toNat * 2 ^ v=2 ^ (u - 1) * 2 ^ (-(((u:Nat):Int) - (v:Nat) - 1)).toNat:=Nr.wQ (by omega)
   rw [show 2 ^ (((u:Nat):Int) - (v:Nat) - 1).toNat * 10 ^ (-(x - 1)).toNat * (2 ^ v * 10 ^ (-d).toNat)=(2 ^ (((u:Nat):Int) - (v:Nat) - 1).toNat * 2 ^ v) * (10 ^ (-(x - 1)).toNat * 10 ^ (-d).toNat) by simp only [Nat.mul_assoc,Nat.mul_comm,Nat.mul_left_comm],this]
   simp only [Nat.mul_assoc,Nat.mul_comm,Nat.mul_left_comm]
  rw [e4] at s5
  have s6:(2 ^ (u - 1) * 10 ^ (-d).toNat) * (2 ^ (-(((u:Nat):Int) - (v:Nat) - 1)).toNat * 10 ^ (-(x - 1)).toNat)<(10 ^ d.toNat * 2 ^ v) * (2 ^ (-(((u:Nat):Int) - (v:Nat) - 1)).toNat * 10 ^ (-(x - 1)).toNat):=Nat.mul_lt_mul_of_pos_right s1 (Nat.mul_pos (Nat.two_pow_pos _) (Nr.eM _))
  have s7:=Nat.lt_of_le_of_lt s5 s6
  have e5:10 ^ (x - 1).toNat * 2 ^ (-(((u:Nat):Int) - (v:Nat) - 1)).toNat * (2 ^ v * 10 ^ (-d).toNat)=10 ^ ((x - 1).toNat+(-d).toNat) * (2 ^ (-(((u:Nat):Int) - (v:Nat) - 1)).toNat * 2 ^ v):=by
   rw [Nat.pow_add 10];simp only [Nat.mul_assoc,Nat.mul_comm,Nat.mul_left_comm]
  have e6:10 ^ d.toNat * 2 ^ v * (2 ^ (-(((u:Nat):Int) - (v:Nat) - 1)).toNat * 10 ^ (-(x - 1)).toNat)=10 ^ (d.toNat+(-(x - 1)).toNat) * (2 ^ (-(((u:Nat):Int) - (v:Nat) - 1)).toNat * 2 ^ v):=by
   rw [Nat.pow_add 10];simp only [Nat.mul_assoc,Nat.mul_comm,Nat.mul_left_comm]
  rw [e5,e6] at s7
  have s8:=Sh.qi (Nat.lt_of_mul_lt_mul_right s7)
  omega
 ·exact c
theorem bI.DG (u:UInt64) (p:Nat) (hu:u.toNat=p) (hp:0<p) (ht:p≤top) (x2 x3:List UInt16) (i2:Nt.is x2=true) (i3:Nt.is x3=true) (w2:Nt.val x2=Sh.iP p) (w3:Nt.val x3=Sh.fY p) (n0:Nat) (hn:n0≤17) (h0:∀j:Nat,1≤j→j<n0→Sh.some_ p (Sh.iP p) (Sh.fY p) (Sh.dx p) j=none) (h1:Sh.some_ p (Sh.iP p) (Sh.fY p) (Sh.dx p) n0=some (Sh.digits p)) :
  ∀m i:Nat,i+m=n0→1≤i→bI.l3 u (Sh.dx p) x2 x3 i=some [.s (Sh.digits p).1,.i .i64 (Sh.digits p).2,.b true]:=by
 obtain ⟨d1,d2⟩:=vM hp ht
 obtain ⟨al,bl,_,_⟩:=tj p ht
 have ha:0<Sh.iP p:=Nat.mul_pos (Sh.rp hp) (Nat.two_pow_pos _)
 have pre:∀i:Nat,1≤i→i≤17→Sh.nJ (Sh.iP p) (Sh.fY p) (Sh.dx p) i=true:=fun i h1 h2=>by
  obtain ⟨r1,r2⟩:=Sh.oF hp (n:=i) (by omega)
  have t1:1 * Sh.tB (Sh.fY p) (i - Sh.dx p)≤10 ^ ((i:Int) - 1).toNat * Sh.tB (Sh.fY p) (i - Sh.dx p):=ak _ (Nr.eM _)
  have t2:10 ^ (i:Int).toNat * Sh.tB (Sh.fY p) (i - Sh.dx p)≤10 ^ 17 * Sh.tB (Sh.fY p) (i - Sh.dx p):=ak _ (Nr.kh (by omega))
  unfold Sh.nJ
  exact aa ⟨by omega,by omega,by omega,by omega,ha,al,Sh.jC p,bl,by omega,Nat.lt_of_lt_of_le r2 t2⟩
 intro m
 induction m with
 | zero =>
  intro i hi Nz
  have hi:i=n0:=hi
  subst hi
  refine bI.sJ _ _ _ _ _ ?_
  intro v1 g1 v2 g2 v3 g3 v4 g4
  rw [w2,w3,hu,Sh.rV,h1] at g1 g2 g3
  have e3:v3=true:=g3
  rw [i2,i3,w2,w3,pre i Nz hn,e3]
  refine (bw (by rfl)).trans ?_
  rw [Option.getD_some] at g1 g2
  rw [ai,g1,g2]
 | succ m ih =>
  intro i hi Nz
  refine bI.sJ _ _ _ _ _ ?_
  intro v1 g1 v2 g2 v3 g3 v4 g4
  rw [w2,w3,hu,Sh.rV,h0 i Nz (by omega)] at g3
  have e3:v3=false:=g3
  have e4:v4=((i+1:Nat):Int):=by rw [g4,i64_in _ (by omega)];omega
  rw [i2,i3,w2,w3,pre i Nz (by omega),e3]
  refine (bw (by rfl)).trans ?_
  rw [ae,e4]
  exact ih (i+1) (by omega) (by omega)
theorem bI.ju (u:UInt64) (p:Nat) (hu:u.toNat=p) (hp:0<p) (ht:p≤top) (x2 x3:List UInt16) (i2:Nt.is x2=true) (i3:Nt.is x3=true) (w2:Nt.val x2=Sh.iP p) (w3:Nt.val x3=Sh.fY p) :
  ∀(m:Nat) (x:Int),x+m=Sh.dx p→-390≤x→bI.l2 u x x2 x3=some [.s (Sh.digits p).1,.i .i64 (Sh.digits p).2,.b true]:=by
 obtain ⟨d1,d2⟩:=vM hp ht
 obtain ⟨al,bl,_,_⟩:=tj p ht
 intro m
 induction m with
 | zero =>
  intro x hx KE
  have hx:x=Sh.dx p:=by omega
  subst hx
  refine bI.iw _ _ _ _ ?_
  intro v1 g1
  have GF:¬(Sh.tB (Sh.fY p) (-(Sh.dx p))≤Sh.tA (Sh.iP p) (-(Sh.dx p))):=fun h=>by have:=(uW hp _).1 h;omega
  rw [i2,i3,w2,w3,aa (⟨by omega,by omega,al,bl⟩ : -400≤Sh.dx p∧Sh.dx p≤400∧Sh.iP p<2 ^ 1100∧Sh.fY p<2 ^ 1100)]
  refine (bw (by rfl)).trans ?_
  rw [ab GF,ae]
  obtain ⟨n,n1,n2,n3,n4⟩:=Sh.first hp ht
  exact bI.DG u p hu hp ht x2 x3 i2 i3 w2 w3 n n2 n3 n4 (n - 1) 1 (by omega) (by omega)
 | succ m ih =>
  intro x hx KE
  refine bI.iw _ _ _ _ ?_
  intro v1 g1
  have e1:v1=x+1:=by rw [g1,i64_in _ (by omega)]
  rw [i2,i3,w2,w3,aa (⟨by omega,by omega,al,bl⟩ : -400≤x∧x≤400∧Sh.iP p<2 ^ 1100∧Sh.fY p<2 ^ 1100)]
  refine (bw (by rfl)).trans ?_
  rw [aa ((uW hp x).2 (by omega)),ai,e1]
  exact ih (x+1) (by omega) (by omega)
theorem N7 {α β γ:Type} (a:α) (b:β) (c:γ) (x:α × β × γ) (h:x=(a,b,c)):x.1=a∧x.2.1=b∧x.2.2=c:=by subst h;exact ⟨rfl,rfl,rfl⟩
theorem EA {b:UInt64} (h:(Nr.split b).1=2):(Sh.dg b).1=(Sh.digits (Sh.mM b)).1∧(Sh.dg b).2.1=(Sh.digits (Sh.mM b)).2∧(Sh.dg b).2.2=true :=
 N7 _ _ _ _ ((Sh.H0 b).trans (aw h))
theorem J8 {b:UInt64} (h:¬(Nr.split b).1=2):(Sh.dg b).1=[]∧(Sh.dg b).2.1=0∧(Sh.dg b).2.2=false:=by
 rw [Sh.H0]
 unfold Sh.NG
 rw [au h]
 exact ⟨rfl,rfl,rfl⟩
theorem bI.gM (u:UInt64) (p:Nat) (hu:u.toNat=p) (hp:0<p) (ht:p≤top) (x1 x2:List UInt16) (j1:Nt.is x1=true) (j2:Nt.is x2=true) (k1:Nt.val x1=Sh.iP p) (k2:Nt.val x2=Sh.fY p):bI.j1 u x1 x2=some [.s (Sh.digits p).1,.i .i64 (Sh.digits p).2,.b true]:=by
 obtain ⟨al,bl,ba,bb⟩:=tj _ ht
 refine bI.iI _ _ _ ?_
 intro u1 g1 u2 g2 u3 g3 u4 g4 u5 g5
 rw [k1] at g1
 rw [k2] at g2
 obtain ⟨q1,q2⟩:=D3 hp ht
 obtain ⟨r1,r2⟩:=vM hp ht
 generalize hA:Nt.bits (Sh.iP p)=A at *
 generalize hB:Nt.bits (Sh.fY p)=B at *
 have e3:u3=((A:Int) - (B:Int)) * 30103:=by
  rw [g3,g1,g2,i64_in ((A:Int) - (B:Int)) (by omega),i64_in _ (by omega)]
 have e4:u4=Int.tdiv (((A:Int) - (B:Int)) * 30103) 100000:=by rw [g4,e3,i64_in _ (by omega)]
 have e5:u5=Int.tdiv (((A:Int) - (B:Int)) * 30103) 100000 - 2:=by rw [g5,e4,i64_in _ (by omega)]
 have hz:(!decide ((100000:Int)=0))=true:=by decide
 rw [j1,j2,bQ,bQ,hz,bQ]
 rw [←e5] at q1 q2
 exact bI.ju u p hu hp ht x1 x2 j1 j2 k1 k2 (Sh.dx p - u5).toNat u5 (by omega) (by omega)
theorem bI.goal (b:UInt64):bI.F b=some [.s (Sh.dg b).1,.i .i64 (Sh.dg b).2.1,.b (Sh.dg b).2.2]:=by
 refine bI.bZ _ ?_
 intro v1 h1 v2 h2 v3 h3 v4 h4 v5 h5 v6 h6
 by_cases c:(Nr.split b).1=2
 ·obtain ⟨z1,z2,z3⟩:=EA c
  rw [z1,z2,z3,aa c,aH,ae]
  clear z1 z2 z3
  obtain ⟨hp,ht,hm,he⟩:=tY c
  have hu:v1.toNat=Sh.mM b:=by rw [h1];exact E9 b
  obtain ⟨al,bl,ba,bb⟩:=tj _ ht
  have Jg:=Nr.yV ht
  have BR:=Nr.sD (Sh.mM b)
  rw [hm] at h2
  have w2:Nt.val v2=mG (Sh.mM b):=by rw [h2,Nt.val_of]
  have w3:Nt.val v3=1:=by rw [h3,Nt.val_of];rfl
  have i2:Nt.is v2=true:=by rw [h2];exact iy (i:=53) BR (by omega)
  have i3:Nt.is v3=true:=by rw [h3];exact iy (i:=1) (by decide) (by omega)
  have key:∀x1 x2:List UInt16,Nt.is x1=true→Nt.is x2=true→Nt.val x1=Sh.iP (Sh.mM b)→Nt.val x2=Sh.fY (Sh.mM b)→bI.j1 v1 x1 x2=some [.s (Sh.digits (Sh.mM b)).1,.i .i64 (Sh.digits (Sh.mM b)).2,.b true]:=bI.gM v1 _ hu hp ht
  rw [he] at h4 h5 ⊢
  by_cases c2:0≤(sh (Sh.mM b):Int) - 1074
  ·have w4:Nt.val v4=Sh.iP (Sh.mM b):=by rw [h4,Nt.val_of,w2];rfl
   have i4:Nt.is v4=true:=by rw [h4,w2];exact iy (i:=1100) al (by omega)
   have RP:Nt.val v3=Sh.fY (Sh.mM b):=by rw [w3];unfold Sh.fY;rw [show (-((sh (Sh.mM b):Int) - 1074)).toNat=0 by omega,Nat.pow_zero]
   rw [aa c2,ai,i2,aa (show 0≤(sh (Sh.mM b):Int) - 1074∧(sh (Sh.mM b):Int) - 1074≤4096 by omega)]
   refine (bw (by rfl)).trans ?_
   exact key v4 v3 i4 i3 w4 RP
  ·have e5:v5=-((sh (Sh.mM b):Int) - 1074):=by rw [h5,i64_in _ (by omega)];omega
   have w6:Nt.val v6=Sh.fY (Sh.mM b):=by rw [h6,Nt.val_of,w3,e5,Nat.one_mul];rfl
   have i6:Nt.is v6=true:=by
    rw [h6,w3,e5,Nat.one_mul];exact iy (i:=1100) bl (by omega)
   have RQ:Nt.val v2=Sh.iP (Sh.mM b):=by rw [w2];unfold Sh.iP;rw [show ((sh (Sh.mM b):Int) - 1074).toNat=0 by omega,Nat.pow_zero,Nat.mul_one]
   rw [ab c2,ae,i3,e5,aa (show 0≤-((sh (Sh.mM b):Int) - 1074)∧-((sh (Sh.mM b):Int) - 1074)≤4096 by omega)]
   refine (bw (by rfl)).trans ?_
   exact key v2 v6 i2 i6 RQ w6
 ·obtain ⟨z1,z2,z3⟩:=J8 c
  rw [z1,z2,z3,ab c];rfl
end Go.Eng
set_option maxRecDepth 20000
namespace Go.Eng
open Go.IntWalk
open Nr (V mG sh top gZ rd)
theorem pC (n:Int):(Sh.dU n).length=n.toNat:=by unfold Sh.dU;rw [List.length_replicate]
theorem xx {v:Int} (h : -1000000≤v∧v≤1000000):Nr.i64 v=true:=aa (by omega)
theorem dK.gM (x:Int) (t:bz) (hx : -900≤x∧x≤900) (ht:t.length≤1000):dK.j1 x t=some [.s (t++(if x<1 then [101,45]++Nr.itoa (1 - x) else [101,43]++Nr.itoa (x - 1)))]:=by
 refine dK.iI _ _ ?_
 intro v1 h1 v2 h2 v3 h3 v4 h4
 have e1:v1=1 - x:=by rw [h1,i64_in _ (by omega)]
 have e3:v3=x - 1:=by rw [h3,i64_in _ (by omega)]
 by_cases c:x<1
 ·have il:=Sh.rC (v:=1 - x) (by omega) (by omega)
  have i1:Nr.i64 v1=true:=by rw [e1];exact xx (by omega)
  rw [aa c,ai,aw c,i1,bw (aa (by show t.length+2≤_;omega)),bQ,bw (aa (by rw [ao,e1];show t.length+2+_≤_;omega)),h2,e1,aG]
 ·have il:=Sh.rC (v:=x - 1) (by omega) (by omega)
  have i3:Nr.i64 v3=true:=by rw [e3];exact xx (by omega)
  rw [ab c,ae,au c,i3,bw (aa (by show t.length+2≤_;omega)),bQ,bw (aa (by rw [ao,e3];show t.length+2+_≤_;omega)),h4,e3,aG]
theorem dK.goal (d:bz) (x:Int) (hp:decide (1≤d.length∧d.length≤17∧-900≤x∧x≤900)=true):dK.F d x=some [.s (Sh.AA d x)]:=by
 obtain ⟨p1,p2,p3,p4⟩:=ar hp
 rw [Sh.xu]
 unfold Sh.laid
 refine dK.bZ _ _ ?_
 intro v1 h1 v2 h2 v3 h3 v4 h4 v5 h5 v6 h6 v7 h7 v8 h8 v9 h9 v10 iA v11 ki
 have nX:∀b:Bool,(!b || b)=true∧(!b || (b&&b))=true:=by decide
 have e1:v1=decide (1≤x∧x≤21):=by rw [h1];by_cases c:1≤x <;> simp [c]
 have e2:v2=decide (1≤x∧x≤21∧(d.length:Int)≤x):=by
  rw [h2,e1]
  by_cases c:1≤x∧x≤21
  ·rw [aa c,ai,aZ];omega
  ·rw [ab c,ae,ab (by omega)]
 have e6:v6=decide (-5≤x∧x≤0):=by rw [h6];by_cases c : -5≤x <;> simp [c]
 have e3:v3=x - d.length:=by rw [h3,i64_in _ (by omega)]
 have ew:IntKind.i64.wrap (0 - x)=-x:=by rw [i64_in _ (by omega)];omega
 rw [ew] at h7 ⊢
 rw [bw (nX _).1,bw (nX _).1,bw (nX _).2,bw (nX _).1,e2]
 by_cases c1:1≤x∧x≤21∧(d.length:Int)≤x
 ·rw [aa c1,ai,aw c1,bw (aa ⟨rfl,by omega,by omega⟩),bw (aa (by rw [pC];omega)),e3]
 ·rw [ab c1,ae,au c1,bw (nX _).1,bw (nX _).1,e1]
  by_cases c2:1≤x∧x≤21
  ·have l4:v4.length≤18:=by rw [h4,ao,aF];show min _ _+1≤18;omega
   rw [aa c2,ai,aw c2,bw (jm (by omega) (by omega) (by omega)),bw (aa (by rw [aF];show min _ _+1≤_;omega)),bw (jm (by omega) (by omega) (by omega)),bw (aa (by rw [aU];omega)),h5,h4,aG]
  ·rw [ab c2,ae,au c2,bw (nX _).1,bw (nX _).1,e6]
   by_cases c3 : -5≤x∧x≤0
   ·rw [aa c3,ai,aw c3,bw (aa ⟨rfl,by omega,by omega⟩),bw (aa (by rw [h7,pC];show 2+_≤_;omega)),bw (aa (by rw [ao,h7,pC];show 2+_+_≤_;omega)),h8,h7,aG]
   ·have l9:v9.length≤1:=by rw [h9,aF];show min 1 _≤1;omega
    have l10:v10.length≤17:=by rw [iA,aU];omega
    have g9:v9=d.take 1:=h9
    have g10:v10=d.drop 1:=iA
    rw [ab c3,ae,au c3,bw (jm (by omega) (by omega) (by omega))]
    by_cases c4:1<d.length
    ·rw [aa (by omega),ai,bw (jm (by omega) (by omega) (by omega)),bw (aa (by show 1+v10.length≤_;omega)),bw (aa (by rw [ao];show v9.length+(1+v10.length)≤_;omega)),dK.gM x v11 ⟨p3,p4⟩ (by rw [ki,ao,ao];show v9.length+(1+v10.length)≤_;omega),aw c4,ki,g9,g10];rfl
    ·rw [ab (by omega),ae,dK.gM x v9 ⟨p3,p4⟩ (by omega),au c4,bj,g9]
theorem Ez {b:UInt64} (h:(Nr.split b).1=2):(1≤(Sh.dg b).1.length∧(Sh.dg b).1.length≤17∧-900≤(Sh.dg b).2.1∧(Sh.dg b).2.1≤900)∧Sh.zW (Sh.dg b).1∧Nr.read (Sh.dg b).1 (Sh.dg b).2.1=some (Sh.mM b):=by
 obtain ⟨hp,ht,hm,he⟩:=tY h
 obtain ⟨z1,z2,z3⟩:=EA h
 obtain ⟨n,N,n1,n2,n3,n4,n5,n6,n7⟩:=Sh.qw hp ht
 obtain ⟨d1,d2⟩:=vM hp ht
 have hl:=Sh.yj n1 n4
 have hN:N<10 ^ (n+1):=Nat.lt_of_le_of_lt n4 (Nat.pow_lt_pow_right (by omega) (by omega))
 have hL:=Nr.ik (n+1) N hN (by omega)
 have hr:=Sh.yc hp ht
 obtain ⟨q1,q2,q3,q4⟩:=Nr.lC N
 obtain ⟨t,t1,t2⟩:=Nr.ko (Nr.dec N)
 have ne:Nr.gr (Nr.dec N)≠[]:=by
  intro e0
  have hn:=congrArg Nr.num t1
  rw [Nr.gC,Nr.jt,List.length_replicate,Nat.add_zero,q2,e0,show Nr.num []=0 from rfl,Nat.zero_mul] at hn
  omega
 have Ti:=Nr.kT N
 have lB:=List.length_pos_iff.2 ne
 rw [z1,z2]
 refine ⟨?_,?_,hr⟩
 ·rw [n6]
  refine ⟨lB,Nat.le_trans hl n2,?_,?_⟩
  ·show -900≤((Nr.dec N).length:Int)+(Sh.dx (Sh.mM b) - n);omega
  ·show ((Nr.dec N).length:Int)+(Sh.dx (Sh.mM b) - n)≤900;omega
 ·rw [n6]
  refine ⟨(Nr.ic q1 t1).1,ne,?_⟩
  have:=q4 n3
  rw [t1,af,List.getElem?_append_left lB,←af] at this
  exact this
theorem rS (b:UInt64):(Nr.split b).1=1∨(Nr.split b).1=2∨(Nr.split b).1=3∨(Nr.split b).1=4:=by
 unfold Nr.split
 simp only
 by_cases c1:b.toNat / 4503599627370496 % 2048=2047
 ·rw [aw c1]
  by_cases c2:b.toNat % 4503599627370496=0
  ·rw [aw c2];exact .inr (.inr (.inl rfl))
  ·rw [au c2];exact .inr (.inr (.inr rfl))
 ·rw [au c1]
  by_cases c2:b.toNat / 4503599627370496 % 2048=0
  ·rw [aw c2]
   by_cases c3:b.toNat % 4503599627370496=0
   ·rw [aw c3];exact .inl rfl
   ·rw [au c3];exact .inr (.inl rfl)
  ·rw [au c2];exact .inr (.inl rfl)
theorem xt {b:UInt64} (h:(Nr.split b).1=2):(Sh.laid (Sh.dg b).1 (Sh.dg b).2.1).length≤24:=by
 obtain ⟨⟨_,r2,r3,r4⟩,hL,_⟩:=Ez h
 obtain ⟨_,_,_,_,_,_,_,hlen,_⟩:=Sh.zw hL r2 ⟨r3,r4⟩
 exact hlen
theorem dC.gM (b:UInt64) (t:bz) (ht:t.length≤1000):dC.j1 (Nr.split b).2.1 t=some [.s (Sh.sign b++t)]:=by
 rw [dC.lp]
 unfold Sh.sign
 cases (Nr.split b).2.1 with
 | true=>rw [ai,bw (aa (by show 1+t.length≤_;omega)),aw rfl]
 | false=>rw [ae,au (by decide)];rfl
theorem dC.goal (b:UInt64):dC.F b=some [.s (Sh.text b)]:=by
 refine dC.bZ _ ?_
 intro v1 h1
 rw [Sh.xu] at h1
 rw [Sh.ve]
 unfold Sh.tX
 by_cases c4:(Nr.split b).1=4
 ·rw [aa c4,ai,aw c4]
 ·rw [ab c4,ae,au c4]
  by_cases c3:(Nr.split b).1=3
  ·rw [aa c3,ai,aw c3,dC.gM b _ (by decide)]
  ·rw [ab c3,ae,au c3]
   by_cases c1:(Nr.split b).1=1
   ·rw [aa c1,ai,aw c1,dC.gM b _ (by decide)]
   ·have c2:(Nr.split b).1=2:=by have:=rS b;omega
    have hl:=xt c2
    rw [ab c1,ae,au c1,bw (aa (Ez c2).1),h1,dC.gM b _ (by omega)]
end Go.Eng
set_option maxRecDepth 20000
namespace Go.Eng
open Nr (mG sh top)
namespace Sh
noncomputable def tb (b:UInt64):bz:=if (Nr.split b).1=3 then [73,110,102,105,110,105,116,121] else if (Nr.split b).1=1 then [48] else laid (dg b).1 (dg b).2.1
theorem CH {b:UInt64} (h:(Nr.split b).1=4):text b=[78,97,78]:=by rw [ve];unfold tX;rw [aw h]
theorem FL {b:UInt64} (h:¬(Nr.split b).1=4):text b=sign b++tb b:=by
 rw [ve];unfold tX tb
 rw [au h]
 by_cases c3:(Nr.split b).1=3
 ·rw [aw c3,aw c3]
 ·rw [au c3,au c3]
  by_cases c1:(Nr.split b).1=1
  ·rw [aw c1,aw c1]
  ·rw [au c1,au c1]
theorem Iy {b:UInt64} (h:¬(Nr.split b).1=4):(tb b).length≤24:=by
 unfold tb
 by_cases c3:(Nr.split b).1=3
 ·rw [aw c3];decide
 ·rw [au c3]
  by_cases c1:(Nr.split b).1=1
  ·rw [aw c1];decide
  ·rw [au c1]
   exact xt (by have:=rS b;omega)
theorem CI (b:UInt64):(text b).length≤25:=by
 by_cases c:(Nr.split b).1=4
 ·rw [CH c];decide
 ·rw [FL c,ao]
  have:=Iy c
  have hs:(sign b).length≤1:=by unfold sign;split <;> decide
  omega
end Sh
end Go.Eng
set_option maxRecDepth 20000
namespace Go.Eng
open Go.IntWalk
theorem gw (n:bz) (j:bM):bM.bO (Cn.one n j)=1+n.length+bM.bO j:=by
 simp only [bM.bO,Cn.one,Mem.of,Mem.bO,Mem.cM,aB];omega
theorem jV (n m:bz) (j k:bM):bM.bO (Cn.two n j m k)=1+n.length+m.length+bM.bO j+bM.bO k:=by
 simp only [bM.bO,Cn.two,Mem.of,Mem.bO,Mem.cM,aB];omega
theorem iq (s:bz):bM.bO (Cn.str s)=1+s.length:=by
 simp only [bM.bO,Cn.str,Mem.of,Mem.bO,Mem.cM,aB];omega
theorem sM (v:Int) (h:Nr.i64 v=true):(Nr.itoa v).length≤21:=by
 have h:=ar h
 rw [Nr.nN]
 have:=Nr.ik 20 v.natAbs (by rw [t20];omega) (by omega)
 split
 ·simp only [ay];omega
 ·omega
theorem wZ (v:Int) (h:Nr.i64 v=true):bM.bO (Cn.num v)≤22:=by
 have:=sM v h
 simp only [bM.bO,Cn.num,Mem.of,Mem.bO,Mem.cM,aB];omega
theorem B5 (h l:UInt64):(Cn.sW h l).length≤20001:=by
 have hx:=pN h l
 have hc:=rU h l
 have hd:=Nr.ik 34 _ (by rw [t34];exact hc) (by omega)
 have hl:=uM (d:=Nr.dec (Cn.split h l).2.2.1.val) (x:=(Cn.split h l).2.2.2) (by omega) (by omega) (by omega)
 unfold Cn.sW
 simp only
 split
 ·simp
 ·cases (Cn.split h l).2.1 with
  | true=>rw [ai,ay];split <;> simp <;> omega
  | false=>rw [ae];split <;> simp <;> omega
theorem Bv (v:Val):bM.bO (Cn.nW v).1≤30000:=by
 have h1:=ny v.bits
 have h2:=ny v.high
 have h3:=ny v.low
 have h4:=Sh.CI v.bits
 have h5:=B5 v.high v.low
 have i64:∀b,(Nr.itoa (Cn.i64 b)).length≤21:=fun b=>sM _ (sR _)
 have i32:∀b,(Nr.itoa (Cn.i32 b)).length≤21:=fun b=>sM _ (sR _)
 have n64:∀b,bM.bO (Cn.num (Cn.i64 b))≤22:=fun b=>wZ _ (sR _)
 have a1:=i64 v.bits
 have a2:=i32 v.bits
 have a3:=n64 (dD v.bits 32)
 have a4:=n64 (v.bits &&& 4294967295)
 unfold Cn.nW
 split
 ·split <;> simp only [gw,iq,ay,aB] <;> omega
 split
 ·simp only [gw,iq,ay,aB];omega
 split
 ·simp only [gw,iq,ay,aB];omega
 split
 ·simp only [gw,iq,ay,aB];omega
 split
 ·simp only [gw,jV,ay,aB];omega
 split
 ·split <;> simp only [gw,iq,ay,aB,ao] <;> omega
 ·decide
theorem yQ (v:Val):bM.bO (Cn.qM v)≤100+v.text.length+v.more.length+2 * v.bytes.length:=by
 have h1:=yp v.bytes
 unfold Cn.qM
 split
 ·simp only [gw,jV,iq,jA,ay,aB];omega
 split
 ·simp only [gw,jV,iq,jA,ay,aB];omega
 split
 ·simp only [gw,jV,iq,jA,ay,aB];omega
 split
 ·simp only [gw,jV,iq,jA,ay,aB];omega
 split
 ·simp only [gw,jV,iq,jA,ay,aB];omega
 split
 ·simp only [gw,jV,iq,jA,ay,aB];omega
 ·rw [iq];omega
end Go.Eng
set_option maxRecDepth 20000
namespace Go.Eng
open Go.IntWalk
theorem zt (v:Val):bM.bO (Cn.xl v)≤30000+v.text.length+v.more.length+2 * v.bytes.length:=by
 have h1:=Bv v
 have h2:=yQ v
 have h3:=wZ 1 (aa (by decide))
 have k:∀x:Int,bM.bO ⟨x,[],[]⟩=1:=fun x=>by simp only [bM.bO,Mem.of,Mem.bO,Mem.cM,aB]
 unfold Cn.xl
 split
 ·rw [gw,k];simp only [ay,aB];omega
 split
 ·rw [k];omega
 split
 ·rw [k];omega
 split
 ·rw [gw];simp only [ay,aB];omega
 split
 ·rw [gw];simp only [ay,aB];omega
 split
 ·omega
 ·omega
theorem qS:∀l:List Mem,Mem.cM (l.map Cn.sz)≤Mem.cM l
 | []=>by simp
 | m :: r=>by
  have:=qS r
  have h:=vn m
  have e:Mem.bO (Cn.sz m)=bM.bO m.val:=rfl
  simp only [aX,Mem.cM,e];omega
mutual
theorem B1:∀f:bJ,bM.bO (Cn.nZ f)+10 * f.name.length≤40000 * bJ.bO f
 | .mk n k b h l t m s y ks=>by
  have hk:=mv ks
  have hn:=qS (Cn.fM ks)
  have hl:=zt ⟨k,b,h,l,t,m,s,y,ks⟩
  have row:∀(x:Int) (ms:List Mem),bM.bO ⟨x,[],ms⟩=1+Mem.cM ms:=fun x ms=>by simp only [bM.bO,Mem.of,Mem.bO,aB]
  simp only [Cn.nZ,bJ.bO,bJ.name]
  split
  ·cases Cn.mD ks <;> simp only [ai,ae,gw,row,ay,aB] <;> omega
  split
  ·cases Tree.regular ks <;> simp only [ai,ae,gw,row,ay,aB] <;> omega
  split
  ·simp only [jV,row,iq,ay,aB];omega
  ·simp only at hl;omega
theorem mv:∀l:List bJ,Mem.cM (Cn.fM l)≤40000 * bJ.cM l
 | []=>by simp [Cn.fM,Mem.cM]
 | f :: r=>by
  have h1:=B1 f
  have h2:=mv r
  have e:Mem.bO (Mem.of f.name (Cn.nZ f))=f.name.length+bM.bO (Cn.nZ f):=by
   simp only [bM.bO,Mem.of,Mem.bO,aB];omega
  simp only [Cn.fM,Mem.cM,bJ.cM,e];omega
end
theorem zB (v:Val):bM.bO (Cn.jf v)≤1+40000 * bJ.bO (bJ.of [] v):=by
 have h:=mv v.kids
 have hk:bJ.cM v.kids+1≤bJ.bO (bJ.of [] v):=by simp only [bJ.of,bJ.bO];omega
 have row:∀(x:Int) (ms:List Mem),bM.bO ⟨x,[],ms⟩=1+Mem.cM ms:=fun x ms=>by simp only [bM.bO,Mem.of,Mem.bO,aB]
 unfold Cn.jf Cn.oA
 split
 ·rw [row];omega
 ·rw [row];simp only [Mem.cM];omega
theorem gn.goal (v:Val) (hp:(decide (bJ.bO (bJ.of [] v)≤100000))=true):gn.F v=some [.s (Cn.tV v),.ag [.i .i64 (Cn.oG v).2,.i .i64 0,.sl .is (Cn.oG v).1]]:=by
 have hb:=ar hp
 have hj:=zB v
 rw [gn.eJ,bw (aa (by omega))]
 unfold Cn.tV Cn.oG
 by_cases c:(Cn.jv v).2=0
 ·rw [aa c,aH,ae,au (by simp [c]),au (by simp [c]),bw (aa (by omega))]
 ·rw [ab c,aM,ai,aw c,aw c]
end Go.Eng
set_option maxRecDepth 20000
namespace Go.Eng
open Go.IntWalk
theorem Hd:Nr.itoa (Cn.i32 1)=[49]:=by
 have e:Cn.i32 1=1:=by decide +kernel
 rw [e,Nr.nN,au (by decide),show (1:Int).natAbs=1 from rfl,Nr.kB (by omega)];rfl
def H8:Val:=⟨3,0,0,0,[],[],0,[],[.mk [97] 16 1 0 0 [] [] 0 [] []]⟩
theorem zS:Cn.jv H8=([],0):=by decide +kernel
theorem AZ:Cn.jf H8=⟨7,[],[.mk [97] 7 [] [.mk [36,110,117,109,98,101,114,73,110,116] 5 [49] []]]⟩:=by
 unfold Cn.jf
 rw [zS,aw rfl]
 unfold Cn.oA H8
 simp only [Cn.fM,Cn.nZ,Cn.xl,Cn.nW]
 simp [Cn.one,Cn.str,Mem.of,Hd,bJ.name]
theorem E5:Cn.mE (Cn.jf H8)=0:=by
 rw [AZ]
 simp only [Cn.mE,Mem.of,Cn.zO,Cn.sY,Mem.name]
 have h1:fy.whole [97]=true:=by decide +kernel
 have h2:fy.whole [36,110,117,109,98,101,114,73,110,116]=true:=by decide +kernel
 have h3:fy.whole [49]=true:=by decide +kernel
 simp [h1,h2,h3]
theorem Kk:Cn.tJ (Cn.jf H8)=[123,34,97,34,58,123,34,36,110,117,109,98,101,114,73,110,116,34,58,34,49,34,125,125]:=by
 rw [AZ];decide +kernel
theorem dw.goal:dw.F=some [.b true]:=by
 refine dw.bZ ?_
 intro v1 h1 v2 h2 v3 h3 v4 h4 v5 h5 v6 h6
 have e0:(⟨3,0,0,0,[],[],0,[],v1⟩:Val)=H8:=by rw [h1];rfl
 rw [e0] at h2 h3 h4 ⊢
 have eE:Cn.oG H8=([],0):=by unfold Cn.oG;rw [zS,au (by simp),E5]
 have eV:Cn.tV H8=[123,34,97,34,58,123,34,36,110,117,109,98,101,114,73,110,116,34,58,34,49,34,125,125]:=by
  unfold Cn.tV Cn.pW;rw [zS,au (by simp),E5,Kk];rfl
 have e6:v6=true:=by rw [h6,h5,h3,h2,eE,eV];rfl
 rw [bw (by decide +kernel),bw (iJ _),bw (iJ _),e6]
end Go.Eng
set_option maxRecDepth 20000
namespace Go.Eng
open Go.IntWalk
theorem Wx {a b:UInt8}:a≤b ↔ a.toNat≤b.toNat:=UInt8.le_iff_toNat_le
theorem YS (c:UInt8):(cond (cond (decide ((48:UInt8)≤c)) (decide (c≤(57:UInt8))) false)
  (some [TV.i .i64 (IntKind.i64.wrap (((c - (48:UInt8))).toNat:Int))])
  (cond (cond (decide ((97:UInt8)≤c)) (decide (c≤(102:UInt8))) false)
  (some [(.i .i64 (IntKind.i64.wrap ((IntKind.i64.wrap (((c - (97:UInt8))).toNat:Int))+(10:Int))))])
  (cond (cond (decide ((65:UInt8)≤c)) (decide (c≤(70:UInt8))) false)
  (some [(.i .i64 (IntKind.i64.wrap ((IntKind.i64.wrap (((c - (65:UInt8))).toNat:Int))+(10:Int))))])
  (some [(.i .i64 (-1:Int))]))))=some [.i .i64 (lE.digit c)]:=by
 have hb:=c.toNat_lt
 have e:∀k:UInt8,k≤c→(c - k).toNat=c.toNat - k.toNat:=fun k hk=>UInt8.toNat_sub_of_le _ _ hk
 unfold lE.digit
 by_cases h1:48≤c.toNat∧c.toNat≤57
 ·have h2:(48:UInt8)≤c:=Wx.2 h1.1
  have h3:c≤(57:UInt8):=Wx.2 h1.2
  rw [aw h1]
  simp only [h2,h3,decide_true,ai,e _ h2]
  rw [i64_in _ (by simp;omega)]
  simp;omega
 ·have g1:(cond (decide ((48:UInt8)≤c)) (decide (c≤(57:UInt8))) false)=false:=by
   simp only [Wx]
   simp;omega
  rw [au h1,g1]
  simp only [ae]
  by_cases h4:97≤c.toNat∧c.toNat≤102
  ·have h2:(97:UInt8)≤c:=Wx.2 h4.1
   have h3:c≤(102:UInt8):=Wx.2 h4.2
   rw [aw h4]
   simp only [h2,h3,decide_true,ai,e _ h2]
   rw [i64_in (((c.toNat - (97:UInt8).toNat:Nat)):Int) (by simp;omega),i64_in _ (by simp;omega)]
   simp;omega
  ·have g2:(cond (decide ((97:UInt8)≤c)) (decide (c≤(102:UInt8))) false)=false:=by
    simp only [Wx]
    simp;omega
   rw [au h4,g2]
   simp only [ae]
   by_cases h5:65≤c.toNat∧c.toNat≤70
   ·have h2:(65:UInt8)≤c:=Wx.2 h5.1
    have h3:c≤(70:UInt8):=Wx.2 h5.2
    rw [aw h5]
    simp only [h2,h3,decide_true,ai,e _ h2]
    rw [i64_in (((c.toNat - (65:UInt8).toNat:Nat)):Int) (by simp;omega),i64_in _ (by simp;omega)]
    simp;omega
   ·have g3:(cond (decide ((65:UInt8)≤c)) (decide (c≤(70:UInt8))) false)=false:=by
     simp only [Wx]
     simp;omega
    rw [au h5,g3]
    rfl
theorem VB.goal (c:UInt8):VB.F c=some [.i .i64 (lE.digit c)]:=by
 refine VB.bZ _ ?_
 intro v1 h1 v2 h2 v3 h3 v4 h4 v5 h5 v6 h6 v7 h7 v8 h8
 subst h1 h2 h3 h4 h5 h6 h7 h8
 simp only [aR,bQ]
 exact YS c
theorem Gx (x:UInt8):((kX x ((4:UInt64)).toNat).toNat:Int).toNat=x.toNat / 16:=by
 have:=x.toNat_lt
 simp [kX,UInt8.toNat_ofNat'];omega
theorem DU (x:UInt8):(((x &&& (15:UInt8))).toNat:Int).toNat=x.toNat % 16:=by
 have:x.toNat &&& 15=x.toNat % 16:=Nat.and_two_pow_sub_one_eq_mod x.toNat 4
 simp [UInt8.toNat_and,this]
 omega
theorem DT (n:Nat) (h:n<16):bB (n:Int) (([48,49,50,51,52,53,54,55,56,57,97,98,99,100,101,102]:bz)).length=true:=by simp [bB];omega
theorem cd.cW (b:bz) (hb:b.length≤1099511627776):∀(m i:Nat) (acc:bz),i+m=b.length→acc.length=2 * i→cd.l1 b (b.length:Int) i acc=some [.s (acc++lE.text (b.drop i))]:=by
 intro m
 induction m with
 | zero =>
  intro i acc hi hl
  refine cd.bV _ _ _ _ ?_
  intro v1 h1 v2 h2 v3 h3 v4 h4 v5 h5 v6 h6
  rw [ab (by omega),ae,aE (by omega)]
  simp [lE.text]
 | succ m ih =>
  intro i acc hi hl
  refine cd.bV _ _ _ _ ?_
  intro v1 h1 v2 h2 v3 h3 v4 h4 v5 h5 v6 h6
  rw [aj] at h1
  have hx:=v1.toNat_lt
  have e1:((v2.toNat:Nat):Int)=((v1.toNat / 16:Nat):Int):=by rw [h2];have:=Gx v1;omega
  have e2:(((v1 &&& (15:UInt8))).toNat:Int)=((v1.toNat % 16:Nat):Int):=by have:=DU v1;omega
  rw [e1,aj] at h3
  rw [e2,aj] at h4
  have e5:v5=acc++lE.two v1:=by rw [h5,h3,h4];rfl
  rw [aa (by omega),ai,bw (bK (by omega) (by omega)),e1,e2,bw (DT _ (by omega)),bw (DT _ (by omega)),bw (dW (by simp;omega) (by simp;omega)),e5,show v6=((i+1:Nat):Int) by rw [h6,i64_in _ (by omega)];omega,ih _ _ (by omega) (by simp [lE.two,hl];omega),drop_cons (l:=b) (i:=i) (by omega) 0,←h1,lE.text,aG]
theorem cd.goal (b:bz) (hp:decide (b.length≤1099511627776)=true):cd.F b=some [.s (lE.text b)]:=by
 have hp:=ar hp
 refine cd.bZ _ ?_
 intro v1 h1 v2 h2
 have e:oq (0:Int) v1 1=true:=by rw [h1,i64_in _ (by omega),jY];unfold maxLen;omega
 rw [e,bQ,h2]
 exact cd.cW b hp b.length 0 [] (by omega) rfl
theorem Wo (c:UInt8) : -1≤lE.digit c∧lE.digit c<16:=by
 unfold lE.digit
 have:=c.toNat_lt
 split
 ·omega
 ·split
  ·omega
  ·split <;> omega
theorem Vk.cW (s:bz) (hs:s.length≤1099511627776):∀(m i:Nat) (acc:bz),i+2 * m=s.length→acc.length≤i→Vk.l1 s i acc=some [.sl .bs (((lE.bytes (s.drop i)).map (acc++·)).getD []),.b (lE.bytes (s.drop i)).isSome]:=by
 intro m
 induction m with
 | zero =>
  intro i acc hi hl
  refine Vk.bV _ _ _ ?_
  intro v1 h1 v2 h2 v3 h3 v4 h4 v5 h5 v6 h6 v7 h7 v8 h8
  rw [ab (by omega),ae,aE (by omega)]
  simp [lE.bytes]
 | succ m ih =>
  intro i acc hi hl
  refine Vk.bV _ _ _ ?_
  intro v1 h1 v2 h2 v3 h3 v4 h4 v5 h5 v6 h6 v7 h7 v8 h8
  rw [aj] at h1
  have e2:v2=((i+1:Nat):Int):=by rw [h2,i64_in _ (by omega)];omega
  rw [e2,aj] at h3
  obtain ⟨p1,p2⟩:=Wo v1
  obtain ⟨q1,q2⟩:=Wo v3
  rw [aa (by omega),ai,bw (bK (by omega) (by omega)),e2,bw (bK (by omega) (by omega)),drop_cons (l:=s) (i:=i) (by omega) 0,drop_cons (l:=s) (i:=i+1) (by omega) 0,←h1,←h3,lE.bytes]
  simp only [aR,bm,bQ]
  by_cases hd:lE.digit v1<0∨lE.digit v3<0
  ·have e4:v4=true:=by
    rw [h4]
    by_cases a:lE.digit v1<0
    ·rw [aa a];rfl
    ·rw [ab a];exact aa (hd.resolve_left a)
   rw [e4,ai,aw hd];rfl
  ·have e4:v4=false:=by rw [h4,ab (fun a=>hd (.inl a))];exact ab fun a=>hd (.inr a)
   have e6:v6=(((lE.digit v1).toNat * 16+(lE.digit v3).toNat:Nat):Int):=by
    rw [h6,h5,i64_in ((lE.digit v1) * 16) (by omega),i64_in _ (by omega)];omega
   have e7:v7=[UInt8.ofNat ((lE.digit v1).toNat * 16+(lE.digit v3).toNat)]:=by
    rw [h7,e6]
    have:UInt8.ofInt ((((lE.digit v1).toNat * 16+(lE.digit v3).toNat:Nat)):Int)=UInt8.ofNat ((lE.digit v1).toNat * 16+(lE.digit v3).toNat):=by
     apply UInt8.toNat_inj.1
     have:=rO ((((lE.digit v1).toNat * 16+(lE.digit v3).toNat:Nat)):Int)
     rw [wrap_u8'] at this
     simp at this ⊢
     omega
    rw [this]
   rw [e4,ae,au hd,bw (dW (by rw [e7];simp;omega) (by rw [e7];simp;omega)),show v8=((i+1+1:Nat):Int) by rw [h8,i64_in _ (by omega)];omega,ih _ _ (by omega) (by rw [e7];simp;omega),e7]
   cases lE.bytes (s.drop (i+1+1)) <;> simp
theorem Xe:∀(n:Nat) (s:bz),s.length=2 * n+1→lE.bytes s=none
 | 0,[_],_=>rfl
 | n+1,x :: y :: r,h=>by
  rw [lE.bytes,Xe n r (by simp at h;omega)]
  split <;> rfl
 | _,[],h=>by simp at h
 | n+1,[_],h=>by simp at h
 | 0,_ :: _ :: _,h=>by simp at h
theorem Vk.goal (s:bz) (hp:decide (s.length≤1099511627776)=true):Vk.F s=some [.sl .bs ((lE.bytes s).getD []),.b (lE.bytes s).isSome]:=by
 have hp:=ar hp
 refine Vk.bZ _ ?_
 intro v1 h1
 have e1:v1=((s.length % 2:Nat):Int):=by rw [h1,Int.tmod_eq_emod_of_nonneg (by omega)];omega
 rw [show (!decide ((2:Int)=0))=true by decide,bQ,e1]
 rcases Nat.mod_two_eq_zero_or_one s.length with h | h
 ·rw [h]
  have:=Vk.cW s hp (s.length / 2) 0 [] (by omega) (by simp)
  rw [bh] at this
  refine Eq.trans (b:=Vk.l1 s 0 []) rfl (this.trans ?_)
  cases lE.bytes s <;> simp
 ·rw [h,Xe (s.length / 2) s (by omega)];rfl
end Go.Eng
