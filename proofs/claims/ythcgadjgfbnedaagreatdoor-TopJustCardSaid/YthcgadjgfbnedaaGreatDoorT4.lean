/- Texts of my own, one behind the other: TpBin4, TpRegPure, TpRegP, TpBookP, TpOK, TpAwR, TpShelf, TpAwB, TpLA, TpAw, TpLTopJust, TpIff1, TpIff2, TpIff3, TpIff4, VD, TpQTopJust, TpOKTopJust, VE, TpClo, TpCloTopJust, RxGl. -/
import Derived.Test.YthcgadjgfbnedaaGreatDoorT3
import Derived.Ground.Names7Prog
import Derived.Shelf.LaysM
import Derived.Shelf.Strconv.Itoa3
import Derived.Shelf.Strconv.Itoa4
import Derived.Shelf.LaysC
import Derived.Shelf.Strconv.ParseIntPublic10
import Derived.Test.YthcgadjgfbnedaaGreatDoorProg
import Derived.WalkKit
import Derived.WalkSpells
import Derived.Lib.SmallJoins
import Derived.Stop.Joined
import Derived.SevenTiedAt
import Derived.Test.YthcgadjgfbnedaaGreatDoorRows
set_option linter.unusedVariables false
set_option linter.unusedSimpArgs false
set_option maxRecDepth 20000
namespace Go.Eng
open Go.IntWalk
abbrev Bs.pY (s:List TV) (Y:Except Bs.E (List bq × Nat)) (b:bG) (a:Int):OT:=some (s++[.sl .fl (Bs.fR ([],0) Y).1,.i .i64 ((Bs.fR ([],0) Y).2:Int),.ag (cD.cells (Bs.jM Y)),.ag (bz.cells ⟨b,a⟩)])
theorem de.goal (n:Nat) (r:bz) (q z d:Int) (hp:((decide (0≤q∧q+4≤z∧z≤((r.b).length:Int)∧(r.b).length≤1000000000∧0≤d∧d≤1000∧r.at_≤1000∧d<r.at_))&&decide ((3 * (r.at_ - d).toNat)<n+1))=true):de.F n r q z d=Bs.pY [.s (Bs.ei (Bs.doc (r.at_ - (d+1)).toNat) r.b q.toNat z.toNat).1] (Bs.ei (Bs.doc (r.at_ - (d+1)).toNat) r.b q.toNat z.toNat).2 r.b r.at_:=by
 rw [ae] at hp
 obtain ⟨h1,h2,h3,h4,h5,h6,h7,h8⟩:=au hp.1
 have hn:=au hp.2
 obtain ⟨q,rfl⟩:∃k:Nat,q=(k:Int):=⟨q.toNat,by omega⟩
 obtain ⟨z,rfl⟩:∃k:Nat,z=(k:Int):=⟨z.toNat,by omega⟩
 refine de.dq _ _ _ _ _ ?_
 rw [aq q,aq z]
 intro v1 e1 v2 e2 v3 e3 v4 e4 v5 e5 v6 e6 v7 e7 v8 e8 v9 e9 v10 ly
 have hr:=Bs.jI r.b q
 have IV:=Bs.jP r.b (r.at_ - (d+1)).toNat
 unfold Bs.ei
 generalize Bs.dy r.b q=m at *
 unfold Bs.mH
 rw [i64_in ((z:Int) - q) (by omega)] at e1
 have q1:v1=decide (m<14∨(z:Int) - q<m):=by
  rw [e1]
  by_cases c:m<14
  ·rw [aa c,aa (show m<14∨(z:Int) - q<m from .inl c)];rfl
  ·rw [ab c,af];exact aY.2 (by omega)
 rw [bw (aa ⟨by omega,by omega,h4⟩),bw (tc _).1,bw (tc _).1,bw (tc _).2.2,q1]
 by_cases c:m<14∨(z:Int) - q<m
 ·rw [aa c,ao,ar c];rfl
 rw [ab c,af,ak c]
 have q2:v2=((q+4:Nat):Int):=by rw [e2,i64_in _ (by omega)];omega
 have q3:v3=((q+m.toNat:Nat):Int):=by rw [e3,i64_in _ (by omega)];omega
 have q7:v7=d+1:=by rw [e7,i64_in _ (by omega)]
 rw [q2,q3,aq,aq] at e4 e5 e6
 have ht:=@Bs.jh r.b (q+4) (q+m.toNat) (by omega) (by omega)
 rw [q2,q3,bw (aa ⟨by omega,by omega,by omega,h4⟩)]
 match hx:Bs.text r.b (q+4) (q+m.toNat) with
 | .error (e,i) =>
  rw [hx] at e6
  have q6:v6=⟨e,i,[]⟩:=e6
  rw [q6,ab (show ¬cD.err ⟨e,i,[]⟩=0 from (ht.1 e i hx).1)];rfl
 | .ok (s,x) =>
  have hy:q+4≤x∧x≤q+m.toNat:=ht.2 _ hx
  rw [hx] at e4 e5 e6
  have q6:v6=⟨0,0,[]⟩:=e6
  have q5:v5=(x:Int):=e5
  have q4:v4=s:=e4
  rw [q5,q3,q7,aq,aq] at e8 e9 ly
  rw [q6,show decide (cD.err ⟨0,0,[]⟩=0)=true from rfl,aN,af,q5,q7,bw (by
   rw [ae]
   exact ⟨aa ⟨by omega,by omega,by omega,h4,by omega,by omega,h7⟩,aa (by omega)⟩),e8,e9,ly,q4];rfl
theorem DB (n:Nat) {b:bG} {a:Int} {z x:Nat} (f:cD) (acc:List bq) (h:z<b.length) (hx:x=z+1):bx.g1 n (x:Int) (z:Int) f b a acc=Bs.pY [] (if b.getD z 0≠0 then .error (3,z) else .ok (acc,z+1)) b a:=by
 refine bx.Ds _ _ _ _ _ _ _ ?_
 intro v1 e1
 rw [aq] at e1
 rw [bw (ew (by omega) (by omega)),←e1]
 by_cases c:v1=0
 ·rw [aa c,ak (by simp [c]),hx];rfl
 ·rw [ab c,ar c];rfl
theorem zX (m:Nat) {b:bG} {a d:Int} {z:Nat} (hz:z<b.length) (h3:b.length≤1000000000) (hd:0≤d∧d≤1000∧a≤1000∧d<a) (hn:3 * (a - d).toNat+1<m):∀(n at_:Nat) (f:cD) (v:Val) (acc:List bq),at_≤z→z - at_<n→acc.length≤at_ →
  bx.g2 m d (z+1:Nat) at_ f v b a acc=Bs.pY [] (Bs.rJ (Bs.eI (Bs.doc (a - (d+1)).toNat) b) b z n at_ acc) b a
 | 0,at_,f,v,acc,h1,h2,hl=>by omega
 | n+1,at_,f,v,acc,h1,h2,hl=>by
  have hv:=fun k q hq=>@Bs.pW (Bs.doc (a - (d+1)).toNat) b (Bs.jP b _) k q z hq (by omega)
  refine bx.zQ _ _ _ _ _ _ _ _ _ ?_
  intro v1 e1 v2 e2 v3 e3 v4 e4 v5 e5 v6 e6 v7 e7 v8 e8 v9 e9 v10 ly v11 xQ
  have q1:v1=(z:Int):=by rw [e1,i64_in _ (by omega)];omega
  have q4:v4=(at_:Int)+1:=by rw [e4,i64_in _ (by omega)]
  rw [aq] at e2
  have hb:=v2.toNat_lt
  have q3:v3=(v2.toNat:Int):=by rw [e3,i64_in _ (by omega)]
  rw [q1,aq,q4] at e5 e6 e7
  unfold Bs.rJ
  rw [q1]
  by_cases c:at_=z
  ·rw [aa (show (at_:Int)=z by omega),ao,ar c,c]
   exact DB m f acc hz rfl
  rw [ab (show ¬(at_:Int)=z by omega),af,ak c,bw (ew (by omega) (by omega)),←e2]
  by_cases c2:v2=0
  ·rw [aa c2,ao,ar c2];rfl
  rw [ab c2,af,ak c2,bw (ew (by omega) (by omega)),q3]
  by_cases c3:Tree.name (v2.toNat:Int)=[]
  ·rw [aa c3,ao,ar c3];rfl
  rw [ab c3,af,ak c3,bw (hO (by omega) (by omega) (by omega)),bw (aa (by rw [aq,aB];omega)),q4]
  show _=Bs.pY [] (if (Bs.ctext (b.take z) ((at_:Int)+1)).2.2≠0 then _ else _) b a
  rw [←e7]
  by_cases c4:v7=0
  ·rw [aa c4,aN,af,ak (by simp [c4])]
   rw [e7] at c4
   obtain ⟨_,k,_,k2,_,k1,_⟩:=Bs.hU c4
   rw [aB] at k2
   rw [←e6] at k1 ⊢
   rw [←e5]
   have hr:=hv (v2.toNat:Int) v6.toNat (by omega)
   rw [q1,aq,q3] at e8 e9 ly
   rw [bw (by
    rw [ae]
    exact ⟨aa ⟨by omega,by omega,by show (z:Int)≤(b.length:Int);omega,h3,hd.1,hd.2.1,hd.2.2.1,hd.2.2.2⟩,aa hn⟩)]
   match hx:Bs.eI (Bs.doc (a - (d+1)).toNat) b (v2.toNat:Int) v6.toNat z with
   | .error (e,i) =>
    rw [show Bs.eI (Bs.doc ((bz.mk b a).at_ - (d+1)).toNat) (bz.mk b a).b (v2.toNat:Int) v6.toNat z=_ from hx] at ly
    have Aq:v10=⟨e,i,[]⟩:=ly
    rw [Aq,ab (show ¬cD.err ⟨e,i,[]⟩=0 from (hr.1 e i hx).1)];rfl
   | .ok (w,x) =>
    rw [show Bs.eI (Bs.doc ((bz.mk b a).at_ - (d+1)).toNat) (bz.mk b a).b (v2.toNat:Int) v6.toNat z=_ from hx] at e8 e9 ly
    have Aq:v10=⟨0,0,[]⟩:=ly
    have q9:v9=(x:Int):=e9
    have q8:v8=w:=e8
    have hy:v6.toNat≤x∧x≤z:=hr.2 _ hx
    have EF:v11=[bq.of v5 w]:=by rw [xQ,q8];rfl
    rw [Aq,show decide (cD.err ⟨0,0,[]⟩=0)=true from rfl,aN,af,EF,bw (hY (by show (acc.length+1) * 136≤_;omega) (by show acc.length+1≤_;omega)),q9,q8]
    exact zX m hz h3 hd hn n x _ w (acc++[bq.of v5 w]) hy.2 (by omega) (by rw [al];show acc.length+1≤x;omega)
  ·rw [ab c4,aS,ao,ar c4];rfl
theorem bx.goal (n:Nat) (r:bz) (p z d fO:Int) (hp:((decide (0≤p∧p≤z∧z≤((r.b).length:Int)∧(r.b).length≤1000000000∧0≤d∧d≤1000∧r.at_≤1000))&&decide ((3 * (r.at_ - d).toNat+2)<n+1))=true):bx.F n r p z d fO=Bs.pY [] (Bs.doc (r.at_ - d).toNat r.b p.toNat z.toNat fO) r.b r.at_:=by
 rw [ae] at hp
 obtain ⟨h1,h2,h3,h4,h5,h6,h7⟩:=au hp.1
 have hn:=au hp.2
 obtain ⟨p,rfl⟩:∃k:Nat,p=(k:Int):=⟨p.toNat,by omega⟩
 obtain ⟨z,rfl⟩:∃k:Nat,z=(k:Int):=⟨z.toNat,by omega⟩
 refine bx.dq _ _ _ _ _ _ ?_
 rw [aq p,aq z]
 intro v1 e1 v2 e2 v3 e3 v4 e4 v5 e5 v6 e6 v7 e7 v8 e8 v9 e9 v10 ly v11 xQ v12 Dv lR Du oQ Ej xH Ip rD Io
 by_cases c:r.at_≤d
 ·rw [aa c,ao,show (r.at_ - d).toNat=0 by omega];rfl
 rw [ab c,af,show Bs.doc (r.at_ - d).toNat=Bs.doc ((r.at_ - (d+1)).toNat+1) by rw [show (r.at_ - d).toNat=(r.at_ - (d+1)).toNat+1 by omega]]
 rw [Bs.doc.eq_2,i64_in ((z:Int) - p) (by omega)]
 rw [i64_in ((z:Int) - p) (by omega)] at e3
 by_cases c1:z - p<4
 ·rw [aa (show (z:Int) - p<4 by omega),ao,ar c1];rfl
 rw [ab (show ¬(z:Int) - p<4 by omega),af,ak c1]
 have hr:=Bs.jI r.b p
 generalize Bs.dy r.b p=m at *
 unfold Bs.wU
 rw [i64_in _ (by omega)] at e1
 have q3:v3=decide (m<5∨(z:Int) - p<m):=by
  rw [e3]
  by_cases c:m<5
  ·rw [aa c,aa (show m<5∨(z:Int) - p<m from .inl c)];rfl
  ·rw [ab c,af];exact aY.2 (by omega)
 rw [bw (aa ⟨by omega,by omega,h4⟩),bw (tc _).1,bw (tc _).1,bw (tc _).2.2,bw (by cases v3 <;> rfl),bw (by cases v3 <;> rfl),bw (by cases v4 <;> rfl),bw (by rw [e4];cases v3 <;> cases decide (fO=2) <;> rfl),bw (by cases v3 <;> rfl)]
 have Hk:cond v3 true v5=decide (m<5∨(z:Int) - p<m∨(fO=2∧(p:Int)+m≠z)):=by
  rw [q3,e5,e1]
  by_cases c:m<5∨(z:Int) - p<m
  ·rw [aa c,ao,aa (show m<5∨(z:Int) - p<m∨(fO=2∧(p:Int)+m≠z) by omega)]
  ·rw [ab c,af]
   by_cases c2:fO=2
   ·rw [aa c2,ao,←decide_not];exact aY.2 ⟨fun h => .inr (.inr ⟨c2,h⟩),fun h=>by omega⟩
   ·rw [ab c2,af,ab (show ¬(m<5∨(z:Int) - p<m∨(fO=2∧(p:Int)+m≠z)) by omega)]
 rw [Hk]
 by_cases c2:m<5∨(z:Int) - p<m∨(fO=2∧(p:Int)+m≠z)
 ·rw [aa c2,ao,ar c2];rfl
 rw [ab c2,af,ak c2,bw (by cases decide (fO=1) <;> rfl),bw (by cases decide (fO=1) <;> rfl)]
 have q6:v6=decide (fO=1∧(p:Int)+m<z):=by
  rw [e6,e1]
  by_cases c:fO=1
  ·rw [aa c,ao];exact aY.2 ⟨fun h=>⟨c,h⟩,fun h=>h.2⟩
  ·rw [ab c,af,ab (fun h=>c h.1)]
 rw [q6]
 have q1:v1=((p+m.toNat:Nat):Int):=by omega
 by_cases c3:fO=1∧(p:Int)+m<z
 ·rw [aa c3,ao,ar c3,q1];rfl
 rw [ab c3,af,ak c3]
 have q2:v2=((p+4:Nat):Int):=by rw [e2,i64_in _ (by omega)];omega
 refine Eq.trans (Eq.symm (bx.zQ n d v1 v2 ⟨0,0,[]⟩ (Bs.cX 0) r.b r.at_ [] ?_)) ?_
 ·intro w1 f1 w2 f2 w3 f3 w4 f4 w5 f5 w6 f6 w7 f7 w8 f8 w9 f9 IF f10 IE f11
  subst f11 f10 f9 f8 f7 f6 f5 f4 f3 f2 f1 Io Ip Ej Du Dv xQ ly e9 e8 e7
  obtain ⟨rb,ra⟩:=r
  rw [bf,aO,Nat.zero_add]
  rfl
 ·rw [q1,q2,show p+m.toNat=(p+m.toNat - 1)+1 by omega]
  exact zX n (by omega) h4 ⟨h5,h6,h7,by omega⟩ (by omega) m.toNat (p+4) _ _ [] (by omega) (by omega) (Nat.zero_le _)
theorem df.goal (b:bG) (l:Lim) (hp:decide (b.length≤1000000000)=true):df.F b l=some [.ag (Val.cells (Bs.jA (Bs.decode b l))),.ag (cD.cells (Bs.jM (Bs.decode b l)))]:=by
 have h1:=au hp
 refine df.dq _ _ ?_
 intro v1 e1 v2 e2 v3 e3
 unfold Bs.decode
 cases hm:Bs.may l with
 | false=>rw [aS,ao,ar rfl];rfl
 | true =>
  have hd:1≤l.depth∧l.depth≤200:=by
   have:=au hm
   exact ⟨this.1,this.2.1⟩
  rw [aN,af,ak (by simp)]
  by_cases c:l.size<(b.length:Int)
  ·rw [aa c,ao,ar c];rfl
  rw [ab c,af,ak c,bw (aa ⟨by omega,by omega,Int.le_refl _,h1,by omega,by omega,by show l.depth≤1000;omega⟩)]
  rw [show ((bz.mk b l.depth).at_ - 0).toNat=l.depth.toNat by show (l.depth - 0).toNat=_;rw [Int.sub_zero],aq] at e1 e3
  have hr:=Bs.jP b l.depth.toNat 0 b.length 1 (by omega) (by omega)
  match hx:Bs.doc l.depth.toNat b 0 b.length 1 with
  | .error (e,i) =>
   rw [show Bs.doc l.depth.toNat (bz.mk b l.depth).b (0:Int).toNat b.length 1=_ from hx] at e3
   have q3:v3=⟨e,i,[]⟩:=e3
   rw [q3,ab (show ¬cD.err ⟨e,i,[]⟩=0 from (hr.1 e i hx).1)];rfl
  | .ok (ks,x) =>
   rw [show Bs.doc l.depth.toNat (bz.mk b l.depth).b (0:Int).toNat b.length 1=_ from hx] at e1 e3
   have q3:v3=⟨0,0,[]⟩:=e3
   rw [q3,show decide (cD.err ⟨0,0,[]⟩=0)=true from rfl,e1];rfl
end Go.Eng
set_option maxRecDepth 20000
namespace Go.Eng
open Go.IntWalk
theorem iN (n:Nat):UInt8.ofInt (n:Int)=UInt8.ofNat n:=by
 apply UInt8.toNat_inj.1
 rw [Ac,UInt8.toNat_ofNat']
end Go.Eng
set_option maxRecDepth 20000
namespace Go.Eng
open Go.IntWalk
theorem bR.eV (bY:List Int) (hl:bY.length≤10) (hs:∀s∈bY,0≤s):∀(m i:Nat) (left:Int),i+m=bY.length→left≤1200→bR.l1 left bY i=some [.i .i64 (dr.room left (bY.drop i))]:=by
 intro m
 induction m with
 | zero =>
  intro i left hi hle
  refine bR.et _ _ _ ?_
  intro v1 h1 v2 h2 v3 h3
  rw [ab (by omega),af,aL (by omega)];rfl
 | succ m ih =>
  intro i left hi hle
  refine bR.et _ _ _ ?_
  intro v1 h1 v2 h2 v3 h3
  rw [aq] at h1
  have h0:0≤v1:=hs v1 (by rw [h1,ai,ah (show i<bY.length by omega)];simp)
  rw [aa (by omega),ao,show cU (i:Int) bY.length=true from ew (by omega) (by omega),drop_cons (l:=bY) (i:=i) (by omega) 0,←h1,dr.room]
  simp only [bc,Bool.and_true,aW,bm,eu]
  by_cases a:left<0∨left<v1
  ·rw [ar a,show v2=true by rw [h2];by_cases b:left<0 <;> simp [b];omega];rfl
  ·rw [ak a,show v2=false by rw [h2];by_cases b:left<0 <;> simp [b] <;> omega,af,show v3=((i+1:Nat):Int) by rw [h3,i64_in _ (by omega)];omega,i64_in _ (by omega),ih _ _ (by omega) (by omega)]
theorem bR.goal (left:Int) (bY:List Int) (hp:(decide (left≤1200∧bY.length≤10)&&bY.all (fun s=>decide (0≤s)))=true):bR.F left bY=some [.i .i64 (dr.room left bY)]:=by
 simp only [ae,az,aw] at hp
 rw [bR.eY]
 exact bR.eV bY hp.1.2 hp.2 bY.length 0 left (by omega) hp.1.1
theorem dr.zu (left a:Int) (ha:0≤a) (hl:left≤1200):dr.room left [a]≤1200∧(dr.room left [a]=-1∨(dr.room left [a]=left - a∧0≤left - a)):=by
 simp only [dr.room];split <;> omega
theorem dr.zt (left a b c d:Int) (ha:0≤a) (hb:0≤b) (hc:0≤c) (hd:0≤d) (hl:left≤1200) :
  dr.room left [a,b,c,d]≤1200∧(dr.room left [a,b,c,d]=-1∨(dr.room left [a,b,c,d]=left - a - b - c - d∧0≤left - a - b - c - d)):=by
 simp only [dr.room]
 split
 ·omega
 ·split
  ·omega
  ·split
   ·omega
   ·split <;> omega
mutual
theorem dr.mE:∀(f:bq) (left:Int),left≤1200→dr.value left f≤1200∧(0≤dr.value left f→(bq.bS f:Int) - f.name.length≤left - dr.value left f)
 | .mk n k b h l t m s y ks,left,hl=>by
  have h1:=dr.zt left 2 t.length m.length y.length (by omega) (by omega) (by omega) (by omega) hl
  have h2:=dr.nV ks (dr.room left [2,(t.length:Int),(m.length:Int),(y.length:Int)]) h1.1
  simp only [dr.value,bq.bS,bq.name]
  refine ⟨h2.1,fun h0=>?_⟩
  rcases h1.2 with e | ⟨e,e0⟩
  ·have:=h2.2.2 (by omega);omega
  ·have:=h2.2.1 h0;omega
theorem dr.nV:∀(ks:List bq) (left:Int),left≤1200→dr.values left ks≤1200∧(0≤dr.values left ks→(bq.bU ks:Int)≤left - dr.values left ks)∧(left<0→dr.values left ks<0)
 | [],left,hl=>by simp only [dr.values,bq.bU];omega
 | f :: r,left,hl=>by
  simp only [dr.values,bq.bU]
  by_cases h:left<0
  ·rw [ar h];omega
  ·rw [ak h]
   have h1:=dr.zu left f.name.length (by omega) hl
   have h2:=dr.mE f (dr.room left [(f.name.length:Int)]) h1.1
   have h3:=dr.nV r (dr.value (dr.room left [(f.name.length:Int)]) f) h2.1
   refine ⟨h3.1,fun h0=>?_,fun h0=>by omega⟩
   have h4:=h3.2.1 h0
   have h5:0≤dr.value (dr.room left [(f.name.length:Int)]) f:=by
    by_cases h6:dr.value (dr.room left [(f.name.length:Int)]) f<0
    ·have:=h3.2.2 h6;omega
    ·omega
   have h7:=h2.2 h5
   have hb:(f.name.length:Int)≤bq.bS f:=by cases f;simp only [bq.name,bq.bS];omega
   rcases h1.2 with e | ⟨e,e0⟩
   ·omega
   ·omega
end
theorem dr.rN (v:Val) (h:0≤dr.value 1200 (bq.of [] v)):bq.bS (bq.of [] v)≤1200:=by
 have:=(dr.mE (bq.of [] v) 1200 (by omega)).2 h
 have hn:(bq.of [] v).name=[]:=rfl
 rw [hn] at this
 simp at this;omega
theorem dr.tO (left:Int) (f:bq):dr.value left (bq.of [] f.val)=dr.value left f:=by cases f;rfl
theorem dr.vn (f:bq) (left:Int) (hl:left≤1200) (h0:0≤dr.value left f):dr.value left f+1≤left:=by
 have:=(dr.mE f left hl).2 h0
 have hb:(f.name.length:Int)+1≤bq.bS f:=by cases f;simp only [bq.name,bq.bS];omega
 omega
theorem bJ.eV (n:Nat) (v:Val) (hn:bq.bU v.kids<n):∀(m i:Nat) (left:Int),i+m=v.kids.length→(i:Int)+left≤1200 →
  bJ.l1 n left i v=some [.i .i64 (dr.values left (v.kids.drop i))]:=by
 intro m
 induction m with
 | zero =>
  intro i left hi hle
  refine bJ.et _ _ _ _ ?_
  intro v1 h1 v2 h2 v3 h3 v4 h4 v5 h5 v6 h6 v7 h7
  simp only [aW,eu]
  rw [show v2=false by rw [h2,ab (by omega)];rfl,af,aL (by omega)];rfl
 | succ m ih =>
  intro i left hi hle
  refine bJ.et _ _ _ _ ?_
  intro v1 h1 v2 h2 v3 h3 v4 h4 v5 h5 v6 h6 v7 h7
  rw [aq] at h3
  have hg:=bq.gV v.kids i (dS.fi .fl) (by omega)
  rw [←h3] at hg
  have hv:=bq.kP v3
  have r1:=dr.zu left v4 (by omega) (by omega)
  rw [←h5] at r1
  have r2:=dr.vn v3 v5 r1.1
  rw [dr.tO] at h6
  simp only [aW,eu]
  rw [drop_cons (l:=v.kids) (i:=i) (by omega) (dS.fi .fl),←h3,dr.values]
  by_cases h:left<0
  ·rw [ar h,show v2=false by rw [h2,ab (show ¬0≤left by omega)];simp];rfl
  ·have r3:(i:Int)+1+v6≤1200:=by
    rw [h6]
    by_cases hx:0≤dr.value v5 v3
    ·have:=r2 hx;omega
    ·omega
   rw [ak h,show v2=true by rw [h2,aa (by omega),aa (by omega)];rfl,ao,bw (ew (by omega) (by omega)),bw (by simp;omega),bw (ew (by omega) (by omega)),aa r1.1,aa (by omega),bc,eu,
    show v7=((i+1:Nat):Int) by rw [h7,i64_in _ (by omega)];omega,ih _ _ (by omega) (by omega),h6,h5,h4]
theorem bJ.goal (n:Nat) (left:Int) (v:Val) (hp:((decide (left≤1200))&&decide ((bq.bS (bq.of [] v))<n+1))=true):bJ.F n left v=some [.i .i64 (dr.value left (bq.of [] v))]:=by
 simp only [ae,az] at hp
 obtain ⟨hl,hn⟩:=hp
 have wz:bq.bU v.kids<bq.bS (bq.of [] v):=by simp only [bq.of,bq.bS];omega
 refine bJ.dq n left v ?_
 intro v1 h1 v2 h2 v3 h3 v4 h4
 have r:=dr.zt left 2 v1 v2 v3 (by omega) (by omega) (by omega) (by omega) hl
 rw [←h4] at r
 rw [bw (by rw [h4];simp;omega)]
 have key:=bJ.eV n v (by omega) v.kids.length 0 (dr.room left v4) (by omega) (by omega)
 rw [aR] at key
 refine key.trans ?_
 rw [h4,h1,h2,h3]
 rfl
theorem cK.goal (v:Val):cK.F v=some [.b (decide (0≤dr.value 1200 (bq.of [] v)))]:=by
 refine cK.dq v ?_
 intro v1 h1
 rw [bw (by decide),h1]
end Go.Eng
set_option maxRecDepth 20000
namespace Go.Eng
open Go.Proofs
variable {ee:Errs}
theorem ca.ok:bD PG (cnGl ee) 177 (ca.c,ca.sg):=meets bW all_nil ca.h (fits fun ins=>by unfold ca.c;split;exact ca.goal _ _;trivial)
theorem dD.ok:bD PG (cnGl ee) 133 (dD.c,dD.sg):=meets bW (all_cons ca.ok all_nil) dD.h (fits fun ins=>by unfold dD.c;split;exact dD.goal _ _;trivial)
theorem eM.ok:bD PG (cnGl ee) 176 (eM.c,eM.sg):=meets bW all_nil eM.h (fits fun ins=>by unfold eM.c;split;exact eM.goal _;trivial)
theorem bA.ok:bD PG (cnGl ee) 132 (bA.c,bA.sg):=meets bW (all_cons eM.ok all_nil) bA.h (fits fun ins=>by unfold bA.c;split;exact bA.goal _ _;trivial)
theorem bM.ok:bD PG (cnGl ee) 100 (bM.c,bM.sg):=meets bW (all_cons bA.ok all_nil) bM.h (fits fun ins=>by unfold bM.c;split;exact bM.goal _;trivial)
theorem cC.ok:bD PG (cnGl ee) 69 (cC.c,cC.sg):=meets bW (all_cons bM.ok all_nil) cC.h (fits fun ins=>by unfold cC.c;split;exact cC.goal _;trivial)
theorem cM.ok:bD PG (cnGl ee) 46 (cM.c,cM.sg):=meets bW all_nil cM.h (fits fun ins=>by unfold cM.c;split;exact cM.goal _;trivial)
theorem br.ok:bD PG (cnGl ee) 57 (br.c,br.sg):=meets bW all_nil br.h (fits fun ins=>by unfold br.c;split;exact br.goal (.mk _ _ _ _ _ _ _ _ _);trivial)
theorem dC.ok:bD PG (cnGl ee) 102 (dC.c,dC.sg):=meets bW (all_cons dD.ok all_nil) dC.h (fits fun ins=>by unfold dC.c;split;exact dC.goal _ _;trivial)
theorem cB.ok:bD PG (cnGl ee) 79 (cB.c,cB.sg):=meets bW (all_cons dC.ok all_nil) cB.h (fits fun ins=>by unfold cB.c;split;exact cB.goal _ _;trivial)
theorem di.ok:bD PG (cnGl ee) 56 (di.c,di.sg):=meets bW all_nil di.h (fits fun ins=>by unfold di.c;split;exact di.goal _;trivial)
theorem cJ.ok:bD PG (cnGl ee) 58 (cJ.c,cJ.sg):=meets bW (all_cons cC.ok (all_cons cB.ok all_nil)) cJ.h (fits fun ins=>by unfold cJ.c;split;exact cJ.goal _ _;trivial)
theorem Ah.um:∀n:Nat,(bD PG (cnGl ee) 32 (bH.cn n,bH.sg)):=by
 intro n
 induction n with
 | zero=>exact eQ (by intro ti gO h;unfold bH.cn at h;split at h;exact absurd (aG.1 h.1).2 (by simp);exact h.elim)
 | succ n ih =>
  have uD:=ih
  exact meets bW (all_cons uD (all_cons cM.ok (all_cons di.ok (all_cons br.ok (all_cons cJ.ok all_nil))))) bH.h (fits fun ins=>by unfold bH.cn;split;exact bH.goal _ (.mk _ _ _ _ _ _ _ _ _) _ _;trivial)
theorem bH.ok:bD PG (cnGl ee) 32 (bH.c,bH.sg):=fV fun ti gO h=>by
 unfold bH.c at h
 split at h
 ·obtain ⟨hp,rfl⟩:=h;exact ⟨bH.cn (_+1),(Ah.um _),aG.2 ⟨hp,aa (Nat.lt_succ_self _)⟩,rfl⟩
 ·exact h.elim
theorem cA.ok:bD PG (cnGl ee) 12 (cA.c,cA.sg):=meets bW (all_cons bH.ok all_nil) cA.h (fits fun ins=>by unfold cA.c;split;exact cA.goal (.mk _ _ _ _ _ _ _ _ _);trivial)
theorem dG.ok:bD PG (cnGl ee) 31 (dG.c,dG.sg):=meets bW all_nil dG.h (fits fun ins=>by unfold dG.c;split;exact dG.goal _ _;trivial)
theorem CA.um:∀n:Nat,(bD PG (cnGl ee) 11 (bK.cn n,bK.sg)):=by
 intro n
 induction n with
 | zero=>exact eQ (by intro ti gO h;unfold bK.cn at h;split at h;exact absurd (aG.1 h.1).2 (by simp);exact h.elim)
 | succ n ih =>
  have uD:=ih
  exact meets bW (all_cons uD (all_cons dG.ok all_nil)) bK.h (fits fun ins=>by unfold bK.cn;split;exact bK.goal _ (.mk _ _ _ _ _ _ _ _ _) (.mk _ _ _ _ _ _ _ _ _);trivial)
theorem bK.ok:bD PG (cnGl ee) 11 (bK.c,bK.sg):=fV fun ti gO h=>by
 unfold bK.c at h
 split at h
 ·obtain ⟨hp,rfl⟩:=h;exact ⟨bK.cn (_+1),(CA.um _),aG.2 ⟨hp,aa (Nat.lt_succ_self _)⟩,rfl⟩
 ·exact h.elim
theorem Ag.um:∀n:Nat,(bD PG (cnGl ee) 30 (bI.cn n,bI.sg)):=by
 intro n
 induction n with
 | zero=>exact eQ (by intro ti gO h;unfold bI.cn at h;split at h;exact absurd (aG.1 h.1).2 (by simp);exact h.elim)
 | succ n ih =>
  have uD:=ih
  exact meets bW (all_cons uD all_nil) bI.h (fits fun ins=>by unfold bI.cn;split;exact bI.goal _ (.mk _ _ _ _ _ _ _ _ _);trivial)
theorem bI.ok:bD PG (cnGl ee) 30 (bI.c,bI.sg):=fV fun ti gO h=>by
 unfold bI.c at h
 split at h
 ·obtain ⟨hp,rfl⟩:=h;exact ⟨bI.cn (_+1),(Ag.um _),aG.2 ⟨hp,aa (Nat.lt_succ_self _)⟩,rfl⟩
 ·exact h.elim
theorem bR.ok:bD PG (cnGl ee) 43 (bR.c,bR.sg):=meets bW all_nil bR.h (fits fun ins=>by unfold bR.c;split;exact bR.goal _ _;trivial)
theorem Bz.um:∀n:Nat,(bD PG (cnGl ee) 23 (bJ.cn n,bJ.sg)):=by
 intro n
 induction n with
 | zero=>exact eQ (by intro ti gO h;unfold bJ.cn at h;split at h;exact absurd (aG.1 h.1).2 (by simp);exact h.elim)
 | succ n ih =>
  have uD:=ih
  exact meets bW (all_cons uD (all_cons bR.ok all_nil)) bJ.h (fits fun ins=>by unfold bJ.cn;split;exact bJ.goal _ _ (.mk _ _ _ _ _ _ _ _ _);trivial)
theorem bJ.ok:bD PG (cnGl ee) 23 (bJ.c,bJ.sg):=fV fun ti gO h=>by
 unfold bJ.c at h
 split at h
 ·obtain ⟨hp,rfl⟩:=h;exact ⟨bJ.cn (_+1),(Bz.um _),aG.2 ⟨hp,aa (Nat.lt_succ_self _)⟩,rfl⟩
 ·exact h.elim
theorem cK.ok:bD PG (cnGl ee) 7 (cK.c,cK.sg):=meets bW (all_cons bJ.ok all_nil) cK.h (fits fun ins=>by unfold cK.c;split;exact cK.goal (.mk _ _ _ _ _ _ _ _ _);trivial)
theorem cN.ok:bD PG (cnGl ee) 76 (cN.c,cN.sg):=meets bW all_nil cN.h (fits fun ins=>by unfold cN.c;split;exact cN.goal _;trivial)
theorem bZ.ok:bD PG (cnGl ee) 35 (bZ.c,bZ.sg):=meets bW all_nil bZ.h (fits fun ins=>by unfold bZ.c;split;exact bZ.goal _;trivial)
theorem eE.ok:bD PG (cnGl ee) 66 (eE.c,eE.sg):=meets bW (all_cons bZ.ok all_nil) eE.h (fits fun ins=>by unfold eE.c;split;exact eE.goal _;trivial)
theorem dI.ok:bD PG (cnGl ee) 101 (dI.c,dI.sg):=meets bW all_nil dI.h (fits fun ins=>by unfold dI.c;split;exact dI.goal (.mk _ _);trivial)
theorem dZ.ok:bD PG (cnGl ee) 98 (dZ.c,dZ.sg):=meets bW (all_cons dI.ok all_nil) dZ.h (fits fun ins=>by unfold dZ.c;split;exact dZ.goal (.mk _ _) _;trivial)
theorem cY.ok:bD PG (cnGl ee) 67 (cY.c,cY.sg):=meets bW (all_cons dZ.ok all_nil) cY.h (fits fun ins=>by unfold cY.c;split;exact cY.goal (.mk _ _) _;trivial)
theorem eg.ok:bD PG (cnGl ee) 71 (eg.c,eg.sg):=meets bW (all_cons bZ.ok (all_cons dI.ok all_nil)) eg.h (fits fun ins=>by unfold eg.c;split;exact eg.goal (.mk _ _) _;trivial)
theorem eO.ok:bD PG (cnGl ee) 27 (eO.c,eO.sg):=meets bW all_nil eO.h (fits fun ins=>by unfold eO.c;split;exact eO.goal;trivial)
theorem dx.ok:bD PG (cnGl ee) 52 (dx.c,dx.sg):=meets bW all_nil dx.h (fits fun ins=>by unfold dx.c;split;exact dx.goal _ _;trivial)
theorem eC.ok:bD PG (cnGl ee) 77 (eC.c,eC.sg):=meets bW all_nil eC.h (fits fun ins=>by unfold eC.c;split;exact eC.goal _ _;trivial)
theorem cP.ok:bD PG (cnGl ee) 51 (cP.c,cP.sg):=meets bW (all_cons cN.ok all_nil) cP.h (fits fun ins=>by unfold cP.c;split;exact cP.goal _ _ _;trivial)
theorem cW.ok:bD PG (cnGl ee) 55 (cW.c,cW.sg):=meets bW (all_cons cN.ok all_nil) cW.h (fits fun ins=>by unfold cW.c;split;exact cW.goal _ _ _ _;trivial)
theorem eD.ok:bD PG (cnGl ee) 50 (eD.c,eD.sg):=meets bW all_nil eD.h (fits fun ins=>by unfold eD.c;split;exact eD.goal _;trivial)
theorem dF.ok:bD PG (cnGl ee) 29 (dF.c,dF.sg):=meets bW (all_cons bZ.ok all_nil) dF.h (fits fun ins=>by unfold dF.c;split;exact dF.goal (.mk _);trivial)
theorem cd.ok:bD PG (cnGl ee) 68 (cd.c,cd.sg):=meets bW all_nil cd.h (fits fun ins=>by unfold cd.c;split;exact cd.goal _ _;trivial)
theorem cL.ok:bD PG (cnGl ee) 47 (cL.c,cL.sg):=meets bW (all_cons cd.ok (all_cons cC.ok all_nil)) cL.h (fits fun ins=>by unfold cL.c;split;exact cL.goal _ _;trivial)
theorem size.um:∀n:Nat,(bD PG (cnGl ee) 49 (cF.cn n,cF.sg))∧(bD PG (cnGl ee) 26 (ct.cn n,ct.sg)):=by
 intro n
 induction n with
 | zero=>exact ⟨eQ (by intro ti gO h;unfold cF.cn at h;split at h;exact absurd (aG.1 h.1).2 (by simp);exact h.elim),eQ (by intro ti gO h;unfold ct.cn at h;split at h;exact absurd (aG.1 h.1).2 (by simp);exact h.elim)⟩
 | succ n ih =>
  obtain ⟨uD,CS⟩:=ih
  exact ⟨meets bW (all_cons CS all_nil) cF.h (fits fun ins=>by unfold cF.cn;split;exact cF.goal _ _;trivial),meets bW (all_cons uD all_nil) ct.h (fits fun ins=>by unfold ct.cn;split;exact ct.goal _ (.mk _ _ _ _ _ _ _ _ _);trivial)⟩
theorem ct.ok:bD PG (cnGl ee) 26 (ct.c,ct.sg):=fV fun ti gO h=>by
 unfold ct.c at h
 split at h
 ·obtain ⟨hp,rfl⟩:=h;exact ⟨ct.cn (_+1),(size.um _).2,aG.2 ⟨hp,aa (Nat.lt_succ_self _)⟩,rfl⟩
 ·exact h.elim
theorem eB.ok:bD PG (cnGl ee) 24 (eB.c,eB.sg):=meets bW all_nil eB.h (fits fun ins=>by unfold eB.c;split;exact eB.goal (.mk _ _ _);trivial)
theorem dX.ok:bD PG (cnGl ee) 10 (dX.c,dX.sg):=meets bW (all_cons eB.ok (all_cons ct.ok (all_cons bI.ok all_nil))) dX.h (fits fun ins=>by unfold dX.c;split;exact dX.goal (.mk _ _ _ _ _ _ _ _ _) (.mk _ _ _);trivial)
theorem cS.ok:bD PG (cnGl ee) 53 (cS.c,cS.sg):=meets bW (all_cons dx.ok (all_cons eC.ok all_nil)) cS.h (fits fun ins=>by unfold cS.c;split;exact cS.goal _ _;trivial)
theorem eh.ok:bD PG (cnGl ee) 78 (eh.c,eh.sg):=meets bW (all_cons cP.ok (all_cons cS.ok all_nil)) eh.h (fits fun ins=>by unfold eh.c;split;exact eh.goal _ _;trivial)
theorem FH.um:∀n:Nat,(bD PG (cnGl ee) 28 (bC.cn n,bC.sg))∧(bD PG (cnGl ee) 54 (bB.cn n,bB.sg)):=by
 intro n
 induction n with
 | zero=>exact ⟨eQ (by intro ti gO h;unfold bC.cn at h;split at h;exact absurd (aG.1 h.1).2 (by simp);exact h.elim),eQ (by intro ti gO h;unfold bB.cn at h;split at h;exact absurd (aG.1 h.1).2 (by simp);exact h.elim)⟩
 | succ n ih =>
  obtain ⟨uD,CS⟩:=ih
  exact ⟨meets bW (all_cons eD.ok (all_cons cP.ok (all_cons dx.ok (all_cons cS.ok (all_cons CS (all_cons cW.ok all_nil)))))) bC.h (fits fun ins=>by unfold bC.cn;split;exact bC.goal _ _ _;trivial),meets bW (all_cons uD (all_cons eD.ok (all_cons cP.ok (all_cons dx.ok (all_cons cS.ok (all_cons cW.ok (all_cons eC.ok (all_cons eh.ok all_nil)))))))) bB.h (fits fun ins=>by unfold bB.cn;split;exact bB.goal _ (.mk _ _ _ _ _ _ _ _ _) _;trivial)⟩
theorem bC.ok:bD PG (cnGl ee) 28 (bC.c,bC.sg):=fV fun ti gO h=>by
 unfold bC.c at h
 split at h
 ·obtain ⟨hp,rfl⟩:=h;exact ⟨bC.cn (_+1),(FH.um _).1,aG.2 ⟨hp,aa (Nat.lt_succ_self _)⟩,rfl⟩
 ·exact h.elim
theorem db.ok:bD PG (cnGl ee) 9 (db.c,db.sg):=meets bW (all_cons cA.ok (all_cons ct.ok (all_cons eO.ok (all_cons bC.ok (all_cons dF.ok all_nil))))) db.h (fits fun ins=>by unfold db.c;split;exact db.goal (.mk _ _ _ _ _ _ _ _ _);trivial)
theorem b9.ok:bD PG (cnGl ee) 44 (b9.c,b9.sg):=meets bW all_nil b9.h (fits fun ins=>by unfold b9.c;split;exact b9.goal _ _;trivial)
theorem cj.ok:bD PG (cnGl ee) 45 (cj.c,cj.sg):=meets bW (all_cons eE.ok (all_cons cY.ok all_nil)) cj.h (fits fun ins=>by unfold cj.c;split;exact cj.goal (.mk _ _) _;trivial)
theorem bL.ok:bD PG (cnGl ee) 70 (bL.c,bL.sg):=meets bW all_nil bL.h (fits fun ins=>by unfold bL.c;split;exact bL.goal _;trivial)
theorem dH.ok:bD PG (cnGl ee) 73 (dH.c,dH.sg):=meets bW (all_cons b9.ok (all_cons cL.ok all_nil)) dH.h (fits fun ins=>by unfold dH.c;split;exact dH.goal (.mk _ _) _ _;trivial)
theorem dJ.ok:bD PG (cnGl ee) 72 (dJ.c,dJ.sg):=meets bW (all_cons b9.ok (all_cons cj.ok (all_cons cC.ok all_nil))) dJ.h (fits fun ins=>by unfold dJ.c;split;exact dJ.goal (.mk _ _) _ _;trivial)
theorem bT.ok:bD PG (cnGl ee) 74 (bT.c,bT.sg):=meets bW (all_cons bZ.ok (all_cons b9.ok (all_cons cj.ok all_nil))) bT.h (fits fun ins=>by unfold bT.c;split;exact bT.goal (.mk _ _) _ _;trivial)
theorem bin.um:∀n:Nat,(bD PG (cnGl ee) 75 (de.cn n,de.sg))∧(bD PG (cnGl ee) 48 (bu.cn n,bu.sg))∧(bD PG (cnGl ee) 25 (bx.cn n,bx.sg)):=by
 intro n
 induction n with
 | zero=>exact ⟨eQ (by intro ti gO h;unfold de.cn at h;split at h;exact absurd (aG.1 h.1).2 (by simp);exact h.elim),eQ (by intro ti gO h;unfold bu.cn at h;split at h;exact absurd (aG.1 h.1).2 (by simp);exact h.elim),eQ (by intro ti gO h;unfold bx.cn at h;split at h;exact absurd (aG.1 h.1).2 (by simp);exact h.elim)⟩
 | succ n ih =>
  obtain ⟨uD,CS,Gk⟩:=ih
  exact ⟨meets bW (all_cons Gk (all_cons b9.ok (all_cons cj.ok (all_cons dJ.ok all_nil)))) de.h (fits fun ins=>by unfold de.cn;split;exact de.goal _ (.mk _ _) _ _ _;trivial),meets bW (all_cons Gk (all_cons bZ.ok (all_cons b9.ok (all_cons eE.ok (all_cons cY.ok (all_cons bL.ok (all_cons eg.ok (all_cons dJ.ok (all_cons dH.ok (all_cons bT.ok (all_cons uD all_nil))))))))))) bu.h (fits fun ins=>by unfold bu.cn;split;exact bu.goal _ (.mk _ _) _ _ _ _;trivial),meets bW (all_cons b9.ok (all_cons cj.ok (all_cons cM.ok (all_cons cL.ok (all_cons CS all_nil))))) bx.h (fits fun ins=>by unfold bx.cn;split;exact bx.goal _ (.mk _ _) _ _ _ _;trivial)⟩
theorem bx.ok:bD PG (cnGl ee) 25 (bx.c,bx.sg):=fV fun ti gO h=>by
 unfold bx.c at h
 split at h
 ·obtain ⟨hp,rfl⟩:=h;exact ⟨bx.cn (_+1),(bin.um _).2.2,aG.2 ⟨hp,aa (Nat.lt_succ_self _)⟩,rfl⟩
 ·exact h.elim
theorem df.ok:bD PG (cnGl ee) 8 (df.c,df.sg):=meets bW (all_cons eB.ok (all_cons bx.ok all_nil)) df.h (fits fun ins=>by unfold df.c;split;exact df.goal _ (.mk _ _ _);trivial)
end Go.Eng
set_option maxRecDepth 100000
namespace Go.Eng
open Go.Proofs
noncomputable section
@[reducible] def zY:zj:=[(22,.bs,1),(26,.fl,136),(32,.is,8),(57,.yy,24),(135,.ml,64),(141,.il,80),(190,.ss,16),(301,.ws,2),(415,.qd,64)]
@[reducible] def DE:Zs:=[(24,[(.i .i64 (0:Int)),(.i .i64 (0:Int)),(.i .i64 (0:Int))]),(28,[(.i .i64 (0:Int)),(.u64 (0:UInt64)),(.u64 (0:UInt64)),(.u64 (0:UInt64)),(.s ([]:bG)),(.s ([]:bG)),(.i .i64 (0:Int)),(.nl .bs),(.nl .fl)]),(34,[(.i .i64 (0:Int)),(.i .i64 (0:Int)),(.nl .is)]),(67,[(.nl .bs),(.i .i64 (0:Int))]),(76,[(.s ([]:bG)),(.i .i64 (0:Int)),(.u64 (0:UInt64)),(.u64 (0:UInt64)),(.u64 (0:UInt64)),(.s ([]:bG)),(.s ([]:bG)),(.i .i64 (0:Int)),(.nl .bs),(.nl .fl)]),(99,[(.nl .bs)]),(118,[(.s ([]:bG)),(.s ([]:bG)),(.s ([]:bG)),(.s ([]:bG)),(.s ([]:bG)),(.s ([]:bG)),(.s ([]:bG)),(.s ([]:bG)),(.s ([]:bG)),(.s ([]:bG)),(.s ([]:bG)),(.s ([]:bG)),(.s ([]:bG)),(.s ([]:bG)),(.s ([]:bG)),(.s ([]:bG)),(.s ([]:bG)),(.s ([]:bG)),(.s ([]:bG)),(.s ([]:bG))]),(137,[(.i .i64 (0:Int)),(.s ([]:bG)),(.nl .ml)]),(143,[(.i .i64 (0:Int)),(.u64 (0:UInt64)),(.nl .bs),(.s ([]:bG)),(.nl .il)]),(156,[(.nl .bs),(.i .i64 (0:Int))]),(164,[(.s ([]:bG)),(.i .i64 (0:Int)),(.i .i64 (0:Int))]),(166,[(.i .i64 (0:Int)),(.i .i64 (0:Int)),(.i .i64 (0:Int)),(.s ([]:bG))]),(197,[(.s ([]:bG)),(.i .i64 (0:Int)),(.s ([]:bG)),(.nl .ml)]),(245,[(.c .nilFunc),(.c .nilFunc),(.c .nilFunc),(.c .nilFunc)]),(247,[(.i .i64 (0:Int)),(.u64 (0:UInt64)),(.u64 (0:UInt64)),(.u64 (0:UInt64)),(.s ([]:bG)),(.s ([]:bG)),(.i .i64 (0:Int)),(.nl .bs),(.nl .fl),(.i .i64 (0:Int)),(.u64 (0:UInt64)),(.u64 (0:UInt64)),(.u64 (0:UInt64)),(.s ([]:bG)),(.s ([]:bG)),(.i .i64 (0:Int)),(.nl .bs),(.nl .fl),(.i .i64 (0:Int)),(.u64 (0:UInt64)),(.u64 (0:UInt64)),(.u64 (0:UInt64)),(.s ([]:bG)),(.s ([]:bG)),(.i .i64 (0:Int)),(.nl .bs),(.nl .fl),(.i .i64 (0:Int)),(.u64 (0:UInt64)),(.u64 (0:UInt64)),(.u64 (0:UInt64)),(.s ([]:bG)),(.s ([]:bG)),(.i .i64 (0:Int)),(.nl .bs),(.nl .fl)]),(268,[(.s ([]:bG)),(.s ([]:bG)),(.s ([]:bG)),(.s ([]:bG)),(.s ([]:bG)),(.s ([]:bG))]),(269,[(.s ([]:bG)),(.s ([]:bG)),(.s ([]:bG))]),(319,[(.u64 (0:UInt64)),(.u64 (0:UInt64))]),(418,[(.c (.complex .f64 ((0,0):Cx).1 ((0,0):Cx).2)),(.c (.complex .f64 ((0,0):Cx).1 ((0,0):Cx).2)),(.c (.complex .f64 ((0,0):Cx).1 ((0,0):Cx).2)),(.c (.complex .f64 ((0,0):Cx).1 ((0,0):Cx).2))])]
def BF:zl:=[(6,({},(.o,[]))),
 (8,({ bE:=2 },(.o,[]))),
 (9,({ bE:=2 },(.o,[]))),
 (10,({},(.o,[]))),
 (12,({ bE:=2 },(.o,[]))),
 (20,({},(.o,[]))),
 (22,({ bE:=3 },(.o,[]))),
 (24,({},(.o,[]))),
 (25,({ md:=[.rf],bE:=3 },(.s .o (.sc [(0,[(0,.ptr 1000000 0),(10,.cT 800000),(11,.no),(12,.ptr 165 0),(13,.no),(165,.cl []),(1000000,.cl []),(800000,.pv)]),(1,[(0,.ptr 1000000 0),(3,.no),(10,.cT 800000),(11,.no),(12,.ptr 165 0),(13,.no),(17,.ptr 170 0),(165,.cl []),(170,.cl []),(1000000,.cl []),(800000,.pv)])] .o),[]))),
 (26,({},(.s .o (.s (.s .o (.b (.j [(1,.ptr 72 0),(4,.no),(5,.no),(72,.cl [])] .o (.s .o (.s .o (.s .o (.s .o (.s .o (.s .o (.s .o (.j [(1,.ptr 72 0),(4,.no),(16,.no),(72,.cl [])] .o (.s .o (.s .o (.s .o (.s .o (.s .o (.s .o (.s .o (.s .o (.s .o (.j [(1,.ptr 72 0),(4,.no),(55,.no),(72,.cl [])] .o .o))))))))))))))))))))) .o),[]))),
 (27,({ kd := .nw (some 0) },(.o,[]))),
 (28,({ bE:=0,kd := .wr 0 0 true },(.s .o (.s .o (.s (.s .o (.b (.l [(0,.ptr 1000000 0),(4,.no),(11,.no),(12,.no),(13,.no),(1000000,.cl [(0,800000)]),(800000,.pv)] .o))) .o)),[]))),
 (29,({ md:=[.rf] },(.o,[]))),
 (30,({},(.s .o (.s .o (.s .o (.s (.s .o (.b (.l (sc [3,20,21,22]) .o))) .o))),[]))),
 (31,({},(.o,[]))),
 (32,({ md:=[.pl,.pl,.sm],bE:=2 },(.s .o (.s .o (.s .o (.s (.s .o (.b (.l [(2,.cT 1000002),(50,.no),(51,.no),(52,.no),(1000002,.pv)] .o))) .o))),[139]))),
 (40,({},(.o,[]))),
 (41,({ bE:=2 },(.o,[]))),
 (42,({ bE:=3 },(.o,[]))),
 (44,({},(.o,[]))),
 (45,({ md:=[.rf] },(.o,[]))),
 (46,({},(.o,[]))),
 (47,({ bE:=3 },(.o,[]))),
 (48,({ md:=[.rf],bE:=3 },(.s .o (.s .o (.s .o (.s .o (.s .o (.s .o (.j [(10,.ptr 219 0),(11,.no),(12,.ptr 221 0),(219,.cl []),(221,.cl []),(1000000,.cl [])] (.s .o (.b (.j [(0,.ptr 1000000 0),(1,.no),(2,.no),(3,.no),(4,.no),(10,.ptr 219 0),(11,.no),(12,.ptr 221 0),(13,.no),(14,.ptr 245 0),(40,.no),(41,.no),(219,.cl []),(221,.cl []),(245,.cl []),(1000000,.cl [])] .o (.s .o (.s .o (.s .o (.s .o (.s .o (.j [(0,.ptr 1000000 0),(2,.no),(3,.no),(4,.no),(10,.ptr 219 0),(11,.no),(12,.ptr 221 0),(40,.no),(87,.no),(219,.cl []),(221,.cl []),(1000000,.cl [])] .o (.s .o (.s .o (.s (.s .o (.j [(0,.ptr 1000000 0),(10,.ptr 219 0),(11,.no),(12,.ptr 221 0),(219,.cl []),(221,.cl []),(1000000,.cl [])] .o .o)) (.s .o (.s .o (.s .o (.s .o (.j [(0,.ptr 1000000 0),(2,.no),(3,.no),(4,.no),(10,.ptr 219 0),(11,.no),(12,.ptr 221 0),(40,.no),(173,.no),(219,.cl []),(221,.cl []),(1000000,.cl [])] .o .o))))))))))))))))) .o)))))),[]))),
 (49,({},(.s .o (.s .o (.s (.s .o (.b (.l (sc [3,6,7,8]) .o))) .o)),[]))),
 (50,({ kd := .wr 0 0 true },(.o,[]))),
 (51,({ bE:=0,kd := .wr 0 0 true },(.s .o (.b (.l [(0,.ptr 1000000 0),(1,.no),(2,.no),(6,.no),(1000000,.cl [(0,800000)]),(800000,.pv)] .o)),[]))),
 (52,({ bE:=0,kd := .wr 0 0 true },(.o,[]))),
 (53,({ bE:=0,kd := .wr 0 0 true },(.o,[]))),
 (54,({ bE:=0,kd := .wr 0 0 true },(.s .o (.s .o (.b (.j [(0,.ptr 1000000 0),(3,.ptr 136 0),(7,.no),(8,.no),(136,.cl []),(1000000,.cl [(0,800000)]),(800000,.pv)] .o (.s .o (.s .o (.s .o (.s .o (.s .o (.s .o (.s .o (.j [(0,.ptr 1000000 0),(3,.ptr 136 0),(7,.no),(39,.no),(136,.cl []),(1000000,.cl [(0,800000)]),(800000,.pv)] .o (.s .o (.s .o (.s .o (.s .o (.s (.s .o (.j [(0,.ptr 1000000 0),(3,.ptr 136 0),(136,.cl []),(1000000,.cl [(0,800000)]),(800000,.pv)] .o .o)) (.s .o (.s .o (.s .o (.s .o (.j [(0,.ptr 1000000 0),(3,.ptr 136 0),(7,.no),(104,.no),(136,.cl []),(1000000,.cl [(0,800000)]),(800000,.pv)] .o .o))))))))))))))))))))),[]))),
 (55,({ kd := .wr 0 0 true },(.s .o (.s .o (.s (.s .o (.b (.l [(0,.ptr 1000000 0),(1,.no),(2,.no),(28,.no),(29,.no),(1000000,.cl [(0,800000)]),(800000,.pv)] .o))) .o)),[]))),
 (57,({},(.s .o (.s .o (.j [(1,.ptr 116 0),(3,.no),(116,.cl [])] (.s .o (.b (.j [(1,.ptr 116 0),(3,.no),(5,.no),(6,.no),(116,.cl [])] .o (.s .o (.s .o (.s .o (.s .o (.s .o (.s .o (.s .o (.j [(1,.ptr 116 0),(3,.no),(5,.no),(28,.no),(116,.cl [])] .o (.s .o (.s .o (.s .o (.s .o (.s .o (.s .o (.s .o (.s .o (.s .o (.j [(1,.ptr 116 0),(3,.no),(5,.no),(64,.no),(116,.cl [])] .o .o))))))))))))))))))))) .o)),[]))),
 (58,({},(.o,[]))),
 (62,({ bE:=2 },(.o,[]))),
 (63,({ bE:=2 },(.o,[]))),
 (64,({ bE:=2 },(.o,[]))),
 (65,({},(.o,[]))),
 (66,({ kd := .nw none },(.o,[]))),
 (67,({ md:=[.rf],bE:=2 },(.s .o (.s .o (.s .o (.s (.s .o (.b (.l [(7,.no),(8,.no),(17,.no),(18,.no),(19,.no),(1000000,.cl [])] .o))) .o))),[]))),
 (68,({},(.o,[]))),
 (69,({ bE:=2 },(.o,[]))),
 (70,({},(.s .o (.s (.s .o (.b (.j (sc [3,4]) .o (.s .o (.j (sc [3,9]) .o .o))))) .o),[]))),
 (71,({ md:=[.rf],bE:=2 },(.o,[87]))),
 (72,({ md:=[.rf],bE:=3 },(.o,[]))),
 (73,({ md:=[.rf],bE:=3 },(.o,[]))),
 (74,({ md:=[.rf],bE:=4 },(.s .o (.s .o (.s .o (.s .o (.j [(0,.ptr 1000000 0),(9,.ptr 80 0),(11,.no),(12,.no),(13,.no),(80,.cl []),(1000000,.cl [])] .o .o)))),[193,264]))),
 (75,({ md:=[.rf],bE:=4 },(.o,[]))),
 (76,({},(.o,[]))),
 (77,({ bE:=0,kd := .wr 0 0 true },(.o,[]))),
 (78,({ bE:=0,kd := .wr 0 0 true },(.o,[]))),
 (79,({},(.o,[]))),
 (84,({ bE:=2 },(.o,[]))),
 (85,({ bE:=2 },(.o,[]))),
 (86,({ bE:=2 },(.o,[]))),
 (87,({ bE:=2 },(.o,[]))),
 (90,({ bE:=2 },(.o,[]))),
 (91,({ bE:=2 },(.o,[]))),
 (92,({ bE:=2 },(.o,[]))),
 (93,({ bE:=2 },(.o,[]))),
 (96,({ bE:=2 },(.o,[]))),
 (97,({},(.s .o (.s .o (.s .o (.s (.s .o (.b (.l [(1,.ptr 76 0),(2,.ptr 77 0),(17,.no),(18,.no),(19,.no),(76,.cl [(8,800000)]),(77,.cl [(8,800001)]),(800000,.pv),(800001,.pv)] .o))) (.s .o (.j [(1,.ptr 76 0),(2,.ptr 77 0),(6,.no),(7,.no),(76,.cl [(8,800000)]),(77,.cl [(8,800001)]),(800000,.pv),(800001,.pv)] .o (.j [(1,.ptr 76 0),(2,.ptr 77 0),(76,.cl [(8,800000)]),(77,.cl [(8,800001)]),(800000,.pv),(800001,.pv)] .o .o)))))),[]))),
 (98,({ md:=[.rf],bE:=2 },(.o,[97]))),
 (100,({ bE:=2 },(.s .o (.j (sc [2,3]) (.b (.l (sc [0,2,3]) .o)) .o),[]))),
 (101,({ md:=[.rf] },(.o,[]))),
 (102,({},(.o,[]))),
 (107,({ md:=[.rf],bE:=2 },(.o,[]))),
 (108,({ md:=[.rf],bE:=2 },(.s .o (.s (.s .o (.b (.s .o (.s .o (.s .o (.s .o (.s .o (.s .o (.s .o (.s .o (.s .o (.s .o (.j [(0,.ptr 1000000 0),(2,.no),(4,.ptr 79 0),(6,.ptr 81 0),(7,.ptr 82 0),(36,.no),(79,.cl []),(81,.cl []),(82,.cl []),(1000000,.cl [])] .o .o))))))))))))) .o),[]))),
 (109,({},(.s .o (.s .o (.s (.s .o (.b (.l [(1,.ptr 105 0),(47,.no),(48,.no),(49,.no),(105,.cl [])] .o))) (.s .o (.s .o (.s (.s .o (.b (.l (sc [87,88,89]) .o))) .o))))),[]))),
 (110,({ md:=[.pl,.sm],bE:=2,own:=[0] },(.s .o (.s .o (.s (.s .o (.b (.l [(1,.cT 1000001),(5,.ptr 54 0),(6,.cT 800000),(12,.no),(13,.no),(14,.no),(54,.cl []),(800000,.pv),(1000001,.pv)] .o))) .o)),[71]))),
 (111,({ bE:=2 },(.o,[]))),
 (112,({ md:=[.rf],bE:=2 },(.s .o (.s .o (.s .o (.s .o (.s .o (.s .o (.s .o (.s .o (.s .o (.s .o (.s .o (.s (.s .o (.b (.s .o (.s .o (.s .o (.s .o (.j [(0,.ptr 1000000 0),(1,.no),(4,.ptr 139 0),(5,.ptr 140 0),(6,.no),(9,.no),(11,.no),(89,.no),(100,.no),(139,.cl []),(140,.cl []),(1000000,.cl [])] .o .o))))))) .o))))))))))),[]))),
 (113,({ md:=[.rf] },(.o,[]))),
 (114,({},(.s .o (.s .o (.s .o (.s .o (.s (.s .o (.b (.l (sc [29,30,31]) .o))) .o)))),[]))),
 (115,({ md:=[.sm] },(.o,[]))),
 (116,({ md:=[.pl,.pl,.sm],bE:=2,raw:=true },(.s .o (.s (.s .o (.b (.l [(1,.no),(2,.cT 1000002),(3,.ptr 73 0),(6,.ptr 76 0),(7,.ptr 77 0),(8,.no),(73,.cl [(8,800000)]),(76,.cl [(8,800001)]),(77,.cl []),(800000,.pv),(800001,.pv),(1000002,.pv)] .o))) .o),[105,117]))),
 (122,({ bE:=2 },(.o,[]))),
 (123,({ bE:=2 },(.o,[]))),
 (124,({ bE:=2 },(.o,[]))),
 (125,({},(.s .o (.s .o (.s (.s .o (.b (.l [(2,.ptr 28 0),(3,.ptr 29 0),(7,.no),(8,.no),(9,.no),(28,.cl [(4,800000)]),(29,.cl [(4,800001)]),(800000,.pv),(800001,.pv)] .o))) .o)),[]))),
 (126,({ bE:=0,kd := .wr 0 0 true },(.s .o (.s .o (.j [(0,.ptr 1000000 0),(3,.ptr 95 0),(95,.cl []),(1000000,.cl [(0,800000)]),(800000,.pv)] .o (.s .o (.b (.l [(0,.ptr 1000000 0),(82,.no),(83,.no),(84,.no),(1000000,.cl [(0,800000)]),(800000,.pv)] .o))))),[]))),
 (129,({ md:=[.gv,.pl,.pl,.sm],bE:=2,own:=[0] },(.s .o (.s .o (.j [(0,.cT 800000),(3,.cT 1000003),(5,.ptr 72 0),(6,.ptr 73 0),(72,.cl []),(73,.cl []),(800000,.pv),(1000003,.pv)] .o (.s (.s .o (.b (.l [(0,.cT 800000),(3,.cT 1000003),(6,.ptr 73 0),(30,.no),(31,.no),(32,.no),(73,.cl []),(800000,.pv),(1000003,.pv)] .o))) .o))),[126]))),
 (130,({ bE:=2 },(.o,[]))),
 (132,({ bE:=2 },(.s .o (.sc [(0,(sc [])),(1,(sc [0,1,4,7,8,9]))] (.s .o (.s .o (.s .o (.j (sc [0,1,4,7,8]) .o .o))))),[]))),
 (133,({},(.o,[]))),
 (136,({ bE:=2 },(.s .o (.s .o (.s (.b (.l [(0,.no),(1,.no),(4,.ptr 109 0),(5,.ptr 110 0),(109,.cl []),(110,.cl [])] .o)) .o)),[]))),
 (137,({ md:=[.rf],bE:=2 },(.s .o (.s .o (.s .o (.s .o (.s .o (.j [(7,.ptr 94 0),(11,.ptr 98 0),(94,.cl []),(98,.cl []),(1000000,.cl [])] (.b (.l [(0,.ptr 1000000 0),(1,.no),(2,.no),(7,.ptr 94 0),(8,.cT 800000),(9,.no),(10,.ptr 97 0),(11,.ptr 98 0),(94,.cl []),(97,.cl []),(98,.cl []),(1000000,.cl []),(800000,.pv)] (.s .o (.b (.s .o (.j [(0,.ptr 1000000 0),(1,.no),(2,.no),(7,.ptr 94 0),(8,.cT 800000),(9,.no),(10,.ptr 97 0),(11,.ptr 98 0),(12,.ptr 99 0),(94,.cl []),(97,.cl []),(98,.cl []),(99,.cl []),(1000000,.cl []),(800000,.pv)] .o .o)))))) .o))))),[]))),
 (138,({},(.o,[]))),
 (139,({},(.s .o (.s .o (.j (sc [0,3,4]) .o (.s .o (.s .o (.s .o (.j (sc [0,3,4]) .o (.j (sc [0,3,4]) (.s .o (.s (.s .o (.s .o (.j (sc [0,3,4]) .o .o))) .o)) .o))))))),[]))),
 (140,({},(.o,[]))),
 (141,({ md:=[.pl,.sm] },(.o,[]))),
 (142,({ md:=[.pl,.sm],bE:=2 },(.s .o (.s (.s .o (.b (.s .o (.s .o (.s .o (.s .o (.s .o (.s .o (.s .o (.s .o (.s .o (.s .o (.s .o (.s (.s .o (.s (.s .o (.b (.l [(4,.ptr 151 0),(5,.ptr 152 0),(8,.cT 800000),(9,.ptr 156 0),(68,.no),(69,.no),(151,.cl []),(152,.cl []),(156,.cl []),(800000,.pv),(1000001,.pv)] .o))) .o)) .o)))))))))))))) (.s .o (.s .o (.s (.s .o (.b (.l [(1,.cT 1000001),(2,.ptr 149 0),(4,.ptr 151 0),(5,.ptr 152 0),(130,.no),(131,.no),(149,.cl []),(151,.cl []),(152,.cl []),(1000001,.pv)] .o))) .o)))),[]))),
 (143,({ md:=[.rf],bE:=2 },(.o,[]))),
 (144,({ md:=[.rf],bE:=2 },(.o,[]))),
 (145,({},(.o,[]))),
 (146,({ md:=[.rf],bE:=2 },(.o,[]))),
 (147,({ md:=[.rf],bE:=2,raw:=true },(.s .o (.s (.b (.l [(0,.ptr 1000000 0),(2,.no),(3,.no),(4,.no),(6,.ptr 48 0),(10,.ptr 52 0),(11,.ptr 53 0),(48,.cl [(4,800000)]),(52,.cl [(4,800001)]),(53,.cl []),(1000000,.cl []),(800000,.pv),(800001,.pv)] (.s .o (.s (.b (.s .o (.b (.l [(0,.ptr 1000000 0),(2,.no),(3,.no),(4,.no),(6,.ptr 48 0),(10,.ptr 52 0),(11,.ptr 53 0),(18,.no),(19,.no),(48,.cl [(4,800000)]),(52,.cl [(4,800001)]),(53,.cl []),(1000000,.cl []),(800000,.pv),(800001,.pv)] .o)))) .o)))) .o),[]))),
 (148,({},(.s .o (.s .o (.s .o (.j [(1,.ptr 66 0),(3,.no),(4,.no),(66,.cl [])] (.s .o (.b (.j [(1,.ptr 66 0),(3,.no),(4,.no),(9,.no),(10,.no),(66,.cl [])] .o .o))) .o))),[]))),
 (149,({ md:=[.pl,.sm],bE:=2 },(.s .o (.j [(1,.cT 1000001),(4,.ptr 127 0),(5,.ptr 128 0),(127,.cl [(8,800000)]),(128,.cl []),(800000,.pv),(1000001,.pv)] (.s .o (.b (.s .o (.s .o (.s .o (.s .o (.s .o (.s .o (.s .o (.s .o (.j [(1,.cT 1000001),(2,.ptr 125 0),(4,.ptr 127 0),(5,.ptr 128 0),(14,.no),(46,.no),(125,.cl []),(127,.cl [(8,800000)]),(128,.cl []),(800000,.pv),(1000001,.pv)] .o (.s .o (.s .o (.s .o (.s .o (.s (.s .o (.s (.s .o (.b (.l [(1,.cT 1000001),(4,.ptr 127 0),(5,.ptr 128 0),(8,.ptr 131 0),(80,.no),(81,.no),(82,.no),(127,.cl [(8,800000)]),(128,.cl []),(131,.cl [(8,800001)]),(800000,.pv),(800001,.pv),(1000001,.pv)] .o))) .o)) .o)))))))))))))))) .o),[215]))),
 (151,({ md:=[.rf],bE:=2 },(.s .o (.s .o (.s .o (.s (.s .o (.b (.l [(7,.no),(8,.no),(17,.no),(18,.no),(19,.no),(1000000,.cl [])] .o))) .o))),[]))),
 (160,({ own:=[1002] },(.s .o (.s .o (.s (.s .o (.b (.l [(2,.ptr 28 0),(3,.ptr 29 0),(7,.no),(8,.no),(9,.no),(28,.cl [(2,800000)]),(29,.cl [(2,800001)]),(800000,.pv),(800001,.pv)] .o))) .o)),[51]))),
 (161,({ md:=[.gv],own:=[0] },(.s .o (.s .o (.s .o (.j [(0,.cT 1000000),(3,.ptr 76 0),(5,.no),(6,.no),(76,.cl []),(1000000,.pv)] .o (.s .o (.s (.s .o (.b (.l [(0,.cT 800000),(3,.ptr 76 0),(6,.no),(43,.no),(44,.no),(45,.no),(76,.cl []),(800000,.pv)] (.s .o (.s .o (.s (.b (.s .o (.j [(0,.cT 800000),(3,.ptr 76 0),(6,.no),(8,.ptr 81 0),(43,.no),(44,.no),(45,.no),(76,.cl []),(81,.cl []),(800000,.pv)] .o (.j [(0,.cT 800000),(3,.ptr 76 0),(6,.no),(8,.ptr 81 0),(43,.no),(44,.no),(45,.no),(76,.cl []),(81,.cl []),(800000,.pv)] .o .o)))) .o)))))) .o))))),[]))),
 (162,({ own:=[1002] },(.s .o (.s .o (.s (.s .o (.b (.l [(2,.ptr 28 0),(3,.ptr 29 0),(7,.no),(8,.no),(9,.no),(28,.cl [(2,800000)]),(29,.cl [(2,800001)]),(800000,.pv),(800001,.pv)] .o))) .o)),[51]))),
 (163,({},(.o,[]))),
 (164,({},(.s .o (.j [(1,.ptr 82 0),(2,.ptr 83 0),(82,.cl []),(83,.cl [(4,800000)]),(800000,.pv)] (.s .o (.b (.s .o (.s .o (.s .o (.s .o (.s .o (.s .o (.s .o (.s (.s .o (.s (.s .o (.s (.s .o (.b (.l [(2,.ptr 83 0),(3,.ptr 84 0),(30,.no),(31,.no),(32,.no),(83,.cl [(4,800000)]),(84,.cl []),(800000,.pv)] .o))) .o)) .o)) .o)))))))))) .o),[]))),
 (165,({ bE:=0,kd := .wr 0 0 true },(.s .o (.j [(0,.ptr 1000000 0),(2,.no),(6,.no),(1000000,.cl [(0,800000)]),(800000,.pv)] .o .o),[]))),
 (166,({ bE:=0,kd := .wr 0 0 true },(.s .o (.b (.l [(0,.ptr 1000000 0),(1,.no),(2,.no),(6,.no),(1000000,.cl [(0,800000)]),(800000,.pv)] .o)),[]))),
 (170,({},(.o,[]))),
 (171,({ bE:=4 },(.o,[]))),
 (172,({},(.s .o (.s .o (.s .o (.j (sc [4,7]) .o .o))),[]))),
 (173,({ bE:=2 },(.o,[]))),
 (175,({},(.o,[]))),
 (176,({},(.o,[]))),
 (177,({},(.o,[]))),
 (179,({},(.o,[]))),
 (180,({},(.s .o (.s .o (.s .o (.s .o (.s (.s .o (.b (.l (sc [0,1,5,6,7,8,9]) .o))) (.s .o (.s (.s .o (.b (.l (sc [0,1,5,6,7,8,10]) .o))) .o)))))),[]))),
 (182,({ bE:=2 },(.o,[]))),
 (183,({ bE:=2 },(.s .o (.s (.s .o (.b (.l (sc [0,8,9]) .o))) (.s (.s .o (.b (.l (sc [0,19,20]) .o))) .o)),[]))),
 (184,({ bE:=2 },(.s .o (.sc [(0,[(1,.no),(4,.ptr 179 0),(5,.ptr 180 0),(179,.cl []),(180,.cl [])]),(2,[(0,.no),(1,.no),(4,.ptr 179 0),(5,.ptr 180 0),(6,.cT 800000),(12,.no),(179,.cl []),(180,.cl []),(800000,.pv)]),(3,[(0,.no),(1,.no),(4,.ptr 179 0),(5,.ptr 180 0),(6,.cT 800000),(12,.no),(179,.cl []),(180,.cl []),(800000,.pv)]),(1,[(0,.no),(1,.no),(4,.ptr 179 0),(5,.ptr 180 0),(6,.cT 800000),(12,.no),(179,.cl []),(180,.cl []),(800000,.pv)])] (.s .o (.s .o (.s .o (.s .o (.s .o (.s .o (.s .o (.s .o (.s .o (.s .o (.s .o (.s .o (.s .o (.s .o (.s .o (.s .o (.s .o (.s .o (.s .o (.s .o (.s .o (.s .o (.s .o (.s .o (.j [(0,.no),(1,.no),(4,.ptr 179 0),(5,.ptr 180 0),(6,.cT 800000),(8,.no),(9,.no),(12,.no),(179,.cl []),(180,.cl []),(800000,.pv)] (.s .o (.s (.s .o (.j [(0,.no),(1,.no),(4,.ptr 179 0),(5,.ptr 180 0),(6,.cT 800000),(8,.no),(10,.no),(11,.no),(12,.no),(179,.cl []),(180,.cl []),(800000,.pv)] .o .o)) .o)) .o)))))))))))))))))))))))))),[]))),
 (185,({ bE:=2 },(.s .o (.s .o (.s (.b (.l [(0,.no),(1,.no),(4,.ptr 51 0),(5,.ptr 52 0),(6,.no),(51,.cl []),(52,.cl [])] .o)) .o)),[]))),
 (186,({ md:=[.rf],bE:=2 },(.o,[]))),
 (187,({},(.o,[]))),
 (188,({},(.s .o (.s (.b (.l (sc [0,1]) .o)) .o),[]))),
 (189,({ bE:=2 },(.o,[]))),
 (190,({},(.o,[]))),
 (191,({ bE:=2 },(.o,[]))),
 (192,({},(.o,[]))),
 (193,({ bE:=3 },(.o,[]))),
 (194,({ bE:=2 },(.o,[]))),
 (195,({ bE:=2 },(.o,[295,296]))),
 (196,({ bE:=2 },(.s .o (.s .o (.s .o (.j [(2,.ptr 123 0),(123,.cl [])] .o .o))),[276,277,332,333]))),
 (197,({ bE:=2 },(.o,[188,189]))),
 (198,({ bE:=2 },(.o,[]))),
 (199,({ md:=[.pl,.sm],bE:=2 },(.s .o (.s .o (.j [(1,.cT 1000001),(4,.ptr 73 0),(5,.ptr 74 0),(73,.cl []),(74,.cl []),(1000001,.pv)] .o .o)),[110,131]))),
 (202,({},(.s .o (.s (.s .o (.b (.s .o (.s .o (.s .o (.s (.s .o (.s .o (.s .o (.s (.s .o (.b (.l [(2,.ptr 97 0),(3,.ptr 98 0),(44,.no),(45,.no),(97,.cl [(2,800000)]),(98,.cl [(2,800001)]),(800000,.pv),(800001,.pv)] .o))) .o)))) .o)))))) .o),[]))),
 (203,({ md:=[.gv],own:=[0] },(.o,[]))),
 (204,({},(.s .o (.j [(1,.ptr 129 0),(2,.ptr 130 0),(129,.cl []),(130,.cl [(2,800000)]),(800000,.pv)] (.s .o (.b (.s .o (.s .o (.s .o (.s .o (.s .o (.s .o (.s .o (.s .o (.s .o (.s .o (.s .o (.s (.s .o (.s .o (.s .o (.s (.s .o (.b (.l [(2,.ptr 130 0),(7,.ptr 135 0),(88,.no),(89,.no),(130,.cl [(2,800000)]),(135,.cl [(2,800001)]),(800000,.pv),(800001,.pv)] .o))) .o)))) .o)))))))))))))) .o),[]))),
 (205,({},(.s .o (.s (.s .o (.b (.l (sc [5,6,7]) .o))) .o),[]))),
 (206,({},(.o,[]))),
 (207,({},(.o,[]))),
 (208,({},(.o,[]))),
 (209,({},(.o,[]))),
 (210,({},(.s .o (.s (.s .o (.b (.s .o (.s .o (.s .o (.s .o (.s .o (.s .o (.j [(1,.ptr 80 0),(2,.ptr 81 0),(4,.no),(26,.no),(80,.cl []),(81,.cl [])] .o (.s .o (.s .o (.s .o (.s .o (.s .o (.j [(1,.ptr 80 0),(2,.ptr 81 0),(4,.no),(53,.no),(80,.cl []),(81,.cl [])] .o .o))))))))))))))) .o),[]))),
 (215,({ bE:=3 },(.s .o (.s .o (.s .o (.s .o (.s .o (.j (sc [0,9,10]) .o (.s .o (.s (.b (.l (sc [0,3,9,10]) .o)) (.s .o (.b (.l (sc [0,3,9,10,11]) .o)))))))))),[]))),
 (216,({},(.s .o (.s .o (.s .o (.s .o (.j (sc [1,6]) .o .o)))),[]))),
 (217,({},(.o,[]))),
 (222,({ bE:=2 },(.s .o (.s .o (.s (.s .o (.b (.l (sc [0,4,5]) .o))) (.s .o (.s (.s .o (.b (.l (sc [4,6,7,8]) (.s .o (.s (.b (.j (sc [4,6,7,8]) .o .o)) .o))))) .o)))),[]))),
 (223,({},(.o,[]))),
 (224,({ bE:=2 },(.s .o (.j (sc [4,5]) (.b (.l (sc [0,1,4,5]) .o)) .o),[]))),
 (225,({},(.o,[]))),
 (226,({},(.o,[]))),
 (227,({},(.o,[]))),
 (228,({ bE:=2 },(.s .o (.s .o (.s .o (.s .o (.s .o (.j (sc [4,5,6]) .o (.s .o (.s .o (.s .o (.j (sc [11]) .o .o))))))))),[]))),
 (229,({},(.o,[]))),
 (230,({},(.o,[]))),
 (231,({},(.s .o (.s .o (.s (.s .o (.b (.l (sc [1,19,20,21]) .o))) .o)),[]))),
 (232,({ bE:=2 },(.o,[]))),
 (233,({ bE:=2 },(.o,[]))),
 (234,({ bE:=3 },(.s .o (.s .o (.s .o (.s .o (.s .o (.s .o (.s .o (.s .o (.s .o (.s .o (.j (sc [5,10,11,12,13,14]) .o (.s .o (.s .o (.j (sc [5,11,15]) .o .o))))))))))))),[]))),
 (235,({ bE:=2 },(.s .o (.s .o (.j (sc [0,4,5]) .o (.s .o (.s .o (.s .o (.s .o (.s .o (.s .o (.s .o (.s .o (.s .o (.s .o (.s (.s .o (.b (.l (sc [4,6,8,11,12,14,16,17]) .o))) .o))))))))))))),[]))),
 (236,({ bE:=2 },(.o,[]))),
 (237,({},(.s .o (.s .o (.s (.s .o (.b (.l (sc [3,6,7,8]) .o))) .o)),[]))),
 (238,({ bE:=2 },(.o,[]))),
 (239,({ bE:=2 },(.s .o (.sc [(0,(sc [])),(2,[(0,.no),(4,.cT 800000),(5,.no),(6,.no),(7,.no),(800000,.pv)]),(1,[(0,.no),(4,.cT 800000),(5,.no),(6,.no),(7,.no),(800000,.pv)])] (.s .o (.s .o (.s .o (.s .o (.s .o (.s .o (.s .o (.s .o (.s .o (.j [(0,.no),(4,.cT 800000),(5,.no),(6,.no),(7,.no),(800000,.pv)] .o .o))))))))))),[]))),
 (240,({ bE:=2 },(.s .o (.s .o (.s .o (.s (.s .o (.b (.l [(0,.no),(4,.cT 800000),(5,.no),(800000,.pv)] .o))) .o))),[]))),
 (241,({},(.s .o (.s (.s .o (.b (.l (sc [0,3]) .o))) .o),[]))),
 (242,({},(.o,[]))),
 (243,({ bE:=2 },(.s .o (.s .o (.s .o (.s .o (.j [(4,.ptr 215 0),(6,.ptr 217 0),(7,.no),(215,.cl []),(217,.cl [])] (.s .o (.b (.s .o (.s .o (.s .o (.s .o (.j [(3,.ptr 214 0),(4,.ptr 215 0),(6,.ptr 217 0),(7,.no),(23,.no),(74,.no),(214,.cl []),(215,.cl []),(217,.cl [])] .o (.s .o (.s .o (.s .o (.s .o (.s .o (.j [(3,.ptr 214 0),(4,.ptr 215 0),(6,.ptr 217 0),(7,.no),(23,.no),(144,.no),(214,.cl []),(215,.cl []),(217,.cl [])] .o (.s .o (.s .o (.s .o (.s .o (.s (.s .o (.s .o (.s (.s .o (.b (.l [(4,.ptr 215 0),(6,.ptr 217 0),(7,.no),(174,.no),(175,.no),(176,.no),(215,.cl []),(217,.cl [])] (.s .o (.s .o (.j [(4,.ptr 215 0),(6,.ptr 217 0),(7,.no),(174,.no),(175,.no),(176,.no),(215,.cl []),(217,.cl [])] .o .o)))))) .o))) (.j [(3,.ptr 214 0),(4,.ptr 215 0),(6,.ptr 217 0),(7,.no),(198,.no),(214,.cl []),(215,.cl []),(217,.cl [])] .o .o))))))))))))))))))) .o)))),[]))),
 (247,({ bE:=3 },(.o,[]))),
 (248,({},(.o,[]))),
 (249,({},(.o,[]))),
 (250,({},(.o,[]))),
 (251,({},(.o,[]))),
 (252,({ bE:=2 },(.o,[]))),
 (253,({},(.o,[]))),
 (254,({ bE:=2 },(.s .o (.s .o (.s .o (.s (.s .o (.b (.l [(0,.no),(4,.cT 800000),(13,.no),(14,.no),(800000,.pv)] (.s .o (.s .o (.j [(0,.no),(4,.cT 800000),(13,.no),(14,.no),(800000,.pv)] .o .o)))))) .o))),[]))),
 (255,({},(.o,[]))),
 (256,({ bE:=2 },(.s .o (.s .o (.s .o (.s .o (.s (.b (.l (sc [4,5,6]) .o)) (.s .o (.s .o (.s (.b (.l (sc [5,6,7,8]) .o)) (.s .o (.s .o (.j (sc [10]) .o .o)))))))))),[]))),
 (257,({ own:=[1002] },(.o,[19]))),
 (258,({},(.o,[]))),
 (259,({},(.s .o (.s .o (.s (.s .o (.b (.l [(1,.ptr 27 0),(2,.ptr 28 0),(3,.cT 800000),(4,.no),(27,.cl []),(28,.cl []),(800000,.pv)] (.s .o (.s (.b (.s .o (.j [(1,.ptr 27 0),(2,.ptr 28 0),(3,.cT 800000),(4,.no),(5,.no),(27,.cl []),(28,.cl []),(800000,.pv)] .o .o))) .o))))) .o)),[]))),
 (262,({},(.s .o (.s .o (.s (.b (.l [(0,.no),(3,.cT 800000),(800000,.pv)] .o)) .o)),[]))),
 (263,({},(.o,[]))),
 (264,({},(.o,[]))),
 (265,({},(.o,[]))),
 (266,({ bE:=3 },(.o,[]))),
 (274,({ bE:=2 },(.o,[]))),
 (275,({ bE:=2 },(.o,[]))),
 (277,({},(.s .o (.s .o (.s .o (.s (.s .o (.b (.l (sc [0,3,4,9,10]) .o))) .o))),[]))),
 (278,({ bE:=2 },(.s .o (.s .o (.s .o (.s .o (.s .o (.s .o (.s .o (.s .o (.s .o (.s .o (.j (sc [7,9]) .o .o)))))))))),[]))),
 (279,({ bE:=5 },(.s .o (.s .o (.j (sc [2,5,7]) .o (.j (sc [2,5,7]) (.s .o (.s .o (.s (.s .o (.s .o (.s .o (.j (sc [2,5,7,9,10]) .o (.s .o (.s (.s .o (.b (.l (sc [2,5,7,9,10,61,62]) .o))) .o)))))) .o))) .o))),[]))),
 (282,({ bE:=2 },(.s .o (.s .o (.s .o (.s (.s .o (.b (.l [(0,.no),(2,.ptr 72 0),(4,.ptr 74 0),(30,.no),(31,.no),(72,.cl []),(74,.cl [])] .o))) .o))),[]))),
 (283,({ bE:=3 },(.s .o (.s .o (.s .o (.j [(4,.ptr 38 0),(6,.no),(38,.cl [])] .o .o))),[]))),
 (284,({ bE:=2 },(.s .o (.s .o (.s (.s .o (.b (.l [(3,.no),(4,.no),(12,.no),(19,.cT 800000),(20,.no),(21,.no),(800000,.pv)] .o))) .o)),[]))),
 (285,({},(.s .o (.s (.s .o (.b (.j (sc [0,5,6]) .o .o))) .o),[]))),
 (286,({},(.o,[]))),
 (287,({},(.o,[]))),
 (288,({},(.o,[]))),
 (289,({ bE:=3 },(.o,[]))),
 (290,({},(.s .o (.s .o (.s (.s .o (.b (.l [(0,.no),(3,.cT 800000),(4,.no),(800000,.pv)] .o))) .o)),[]))),
 (291,({},(.o,[]))),
 (292,({},(.s .o (.s .o (.s .o (.j (sc [6,9]) .o .o))),[]))),
 (293,({},(.s .o (.s .o (.s (.b (.l [(0,.no),(3,.cT 800000),(800000,.pv)] .o)) (.j [(3,.cT 800000),(800000,.pv)] .o .o))),[]))),
 (294,({},(.s .o (.s .o (.s (.s .o (.b (.l [(3,.cT 800000),(10,.no),(11,.no),(12,.no),(800000,.pv)] .o))) .o)),[]))),
 (295,({},(.s .o (.s .o (.s (.b (.l (sc [1,5]) .o)) .o)),[]))),
 (296,({},(.o,[]))),
 (297,({ own:=[0] },(.s .o (.s .o (.s .o (.s (.s .o (.b (.l [(1,.no),(5,.cT 800000),(800000,.pv),(6,.no),(9,.no),(10,.no),(11,.no)] .o))) (.j [(5,.cT 800000),(800000,.pv)] .o .o)))),[]))),
 (298,({},(.s .o (.j (sc [0,2]) .o .o),[]))),
 (299,({ bE:=2 },(.o,[]))),
 (300,({},(.o,[]))),
 (301,({ bE:=3 },(.o,[]))),
 (302,({ bE:=3 },(.o,[]))),
 (303,({},(.s .o (.s .o (.j (sc [0,1]) .o (.s .o (.s .o (.s (.s .o (.b (.l [(1,.no),(5,.cT 800000),(6,.no),(26,.no),(27,.no),(800000,.pv)] (.s .o (.s .o (.s (.b (.s .o (.s .o (.j [(1,.no),(5,.cT 800000),(6,.no),(7,.no),(26,.no),(27,.no),(800000,.pv)] .o .o)))) .o)))))) (.j [(5,.cT 800000),(800000,.pv)] .o .o)))))),[]))),
 (304,({ bE:=2 },(.o,[]))),
 (313,({},(.o,[]))),
 (314,({},(.o,[]))),
 (317,({ bE:=2 },(.o,[]))),
 (319,({},(.o,[]))),
 (321,({ md:=[.rf] },(.o,[]))),
 (323,({ bE:=2 },(.s .o (.s .o (.s .o (.s (.s .o (.b (.l (sc [0,4,24,25]) .o))) .o))),[]))),
 (324,({ bE:=2 },(.s .o (.s .o (.s .o (.s (.b (.l (sc [0,1,6]) .o)) .o))),[]))),
 (325,({},(.s .o (.s .o (.s .o (.s .o (.s .o (.s (.s .o (.b (.l [(7,.cT 800000),(800000,.pv),(8,.no),(27,.no),(28,.no),(29,.no)] .o))) (.s (.b (.l [(7,.cT 800000),(800000,.pv),(8,.no)] .o)) .o)))))),[]))),
 (326,({ bE:=2 },(.s .o (.s .o (.s .o (.j (sc [6,7]) .o .o))),[]))),
 (327,({},(.s .o (.s (.b (.l (sc [0,1]) .o)) .o),[]))),
 (329,({},(.s .o (.j (sc [0]) (.b (.l (sc [0,1]) .o)) .o),[]))),
 (330,({},(.s .o (.s (.b (.l (sc [0,1]) .o)) .o),[]))),
 (332,({},(.s .o (.j (sc [0]) (.b (.l (sc [0,1]) (.s .o (.b (.s .o (.j (sc [0,1,5,6]) .o .o)))))) .o),[]))),
 (333,({ bE:=2 },(.o,[]))),
 (334,({ bE:=2 },(.o,[]))),
 (335,({},(.o,[]))),
 (336,({},(.o,[]))),
 (337,({},(.o,[]))),
 (338,({},(.o,[]))),
 (339,({ bE:=4 },(.s .o (.s .o (.s .o (.s .o (.s .o (.j [(0,.no),(5,.no),(6,.ptr 58 0),(58,.cl [])] .o .o))))),[]))),
 (340,({},(.s .o (.s .o (.s .o (.s (.b (.s .o (.s .o (.s .o (.s (.j (sc [0,1,5]) .o .o) .o))))) (.s .o (.j (sc [6,7]) .o .o))))),[]))),
 (341,({},(.s .o (.s .o (.s (.b (.l [(1,.ptr 53 0),(3,.no),(53,.cl [])] .o)) (.j (sc [3]) .o .o))),[]))),
 (342,({},(.s .o (.s .o (.s (.s .o (.b (.l (sc [0,1,5]) .o))) .o)),[]))),
 (343,({ own:=[0] },(.o,[]))),
 (344,({ bE:=2 },(.s .o (.s .o (.s .o (.s (.s .o (.b (.l [(0,.no),(1,.no),(6,.cT 800000),(7,.no),(8,.no),(800000,.pv)] .o))) .o))),[]))),
 (345,({ md:=[.gv],bE:=2 },(.s .o (.s .o (.s .o (.s .o (.s (.s .o (.b (.l [(0,.cT 800000),(1,.no),(4,.cT 800001),(6,.no),(7,.no),(800000,.pv),(800001,.pv)] (.s .o (.s (.b (.s .o (.s .o (.j [(0,.cT 800000),(1,.no),(4,.cT 800001),(6,.no),(7,.no),(9,.no),(800000,.pv),(800001,.pv)] (.b (.l [(0,.cT 800000),(1,.no),(4,.cT 800001),(6,.no),(7,.no),(9,.no),(10,.no),(800000,.pv),(800001,.pv)] .o)) (.s .o (.s (.s .o (.b (.l [(0,.cT 800000),(1,.no),(4,.cT 800001),(6,.no),(7,.no),(9,.no),(11,.no),(12,.no),(107,.no),(108,.no),(800000,.pv),(800001,.pv)] .o))) (.s .o (.s .o (.j [(0,.cT 800000),(1,.no),(4,.cT 800001),(6,.no),(7,.no),(9,.no),(800000,.pv),(800001,.pv)] (.s .o (.s (.s .o (.s .o (.s (.s .o (.b (.l [(0,.cT 800000),(1,.no),(4,.cT 800001),(6,.no),(7,.no),(9,.no),(17,.no),(169,.no),(170,.no),(800000,.pv),(800001,.pv)] .o))) .o))) .o)) .o))))))))) .o))))) .o)))),[]))),
 (346,({},(.s .o (.s (.b (.l (sc [0]) .o)) .o),[]))),
 (347,({},(.s .o (.s .o (.s (.s .o (.b (.l [(0,.no),(1,.no),(5,.cT 800000),(11,.no),(12,.no),(13,.no),(800000,.pv)] (.s .o (.s .o (.j [(0,.no),(1,.no),(5,.cT 800000),(11,.no),(12,.no),(13,.no),(800000,.pv)] .o .o)))))) .o)),[]))),
 (348,({},(.s .o (.s .o (.s .o (.s (.b (.l [(0,.no),(3,.cT 800000),(800000,.pv)] (.s .o (.b (.s .o (.s .o (.j [(3,.cT 800000),(4,.no),(6,.no),(800000,.pv)] .o .o))))))) .o))),[]))),
 (349,({ bE:=2 },(.o,[]))),
 (350,({ bE:=2 },(.o,[]))),
 (353,({},(.o,[]))),
 (354,({},(.s .o (.j (sc [0,2]) .o (.j (sc [0,2]) .o (.j (sc [0,2]) .o .o))),[]))),
 (355,({},(.o,[]))),
 (356,({},(.o,[]))),
 (357,({},(.o,[]))),
 (358,({},(.o,[]))),
 (359,({},(.s .o (.s .o (.s .o (.s (.s .o (.b (.l [(1,.no),(7,.cT 800000),(800000,.pv),(8,.no),(16,.no),(17,.no),(18,.no)] .o))) (.j [(7,.cT 800000),(800000,.pv)] .o .o)))),[]))),
 (360,({ bE:=2 },(.s .o (.s .o (.s .o (.s .o (.s .o (.s (.s .o (.b (.l [(0,.no),(1,.no),(6,.cT 800000),(8,.no),(48,.no),(49,.no),(50,.no),(800000,.pv)] (.s .o (.s .o (.s (.b (.s .o (.s .o (.b (.l [(0,.no),(1,.no),(6,.cT 800000),(8,.no),(9,.no),(10,.ptr 126 0),(48,.no),(49,.no),(50,.no),(55,.no),(56,.no),(57,.no),(126,.cl []),(800000,.pv)] (.s .o (.s .o (.s (.b (.s .o (.s .o (.s (.s .o (.b (.l [(0,.no),(1,.no),(6,.cT 800000),(8,.no),(9,.no),(10,.ptr 126 0),(11,.no),(12,.ptr 128 0),(13,.ptr 129 0),(48,.no),(49,.no),(50,.no),(55,.no),(56,.no),(57,.no),(62,.no),(126,.cl []),(128,.cl []),(129,.cl []),(800000,.pv)] .o))) (.s .o (.s .o (.b (.l [(0,.no),(1,.no),(6,.cT 800000),(8,.no),(9,.no),(10,.ptr 126 0),(11,.no),(15,.ptr 131 0),(48,.no),(49,.no),(50,.no),(55,.no),(56,.no),(57,.no),(80,.no),(126,.cl []),(131,.cl []),(800000,.pv)] .o)))))))) .o)))))))) .o)))))) .o))))),[]))),
 (361,({},(.s .o (.s .o (.s (.s .o (.b (.l [(3,.cT 800000),(9,.no),(10,.no),(11,.no),(800000,.pv)] .o))) .o)),[]))),
 (362,({ bE:=2 },(.s .o (.j (sc [0,1]) .o .o),[]))),
 (363,({ bE:=2 },(.s .o (.s .o (.j (sc [1,2,8]) .o .o)),[]))),
 (364,({ bE:=2 },(.o,[]))),
 (365,({},(.o,[]))),
 (366,({ bE:=2 },(.s .o (.s .o (.s .o (.s .o (.s .o (.s .o (.s .o (.j (sc [0,4,5]) (.s .o (.b (.l (sc [0,4,5,6]) .o))) (.j (sc [0,4,5]) .o .o)))))))),[]))),
 (367,({},(.o,[]))),
 (369,({ bE:=3 },(.o,[]))),
 (370,({},(.o,[]))),
 (371,({ md:=[.sl],bE:=0 },(.s .o (.b (.l [(0,.cT 1000000),(2,.no),(3,.no),(1000000,.pv)] .o)),[]))),
 (375,({},(.o,[]))),
 (376,({},(.o,[]))),
 (377,({},(.s .o (.s (.s .o (.b (.l (sc [0,5,6,7]) .o))) .o),[]))),
 (378,({},(.s .o (.s .o (.s (.s .o (.b (.l [(0,.no),(3,.cT 800000),(800000,.pv),(4,.no)] (.s .o (.s (.b (.s .o (.j [(0,.no),(3,.cT 800000),(800000,.pv),(4,.no),(5,.ptr 41 0),(41,.cl [])] .o .o))) .o))))) .o)),[]))),
 (379,({},(.o,[]))),
 (380,({ bE:=2 },(.s .o (.s .o (.s .o (.s (.s .o (.b (.l [(2,.ptr 53 0),(4,.ptr 55 0),(16,.no),(17,.no),(53,.cl []),(55,.cl [])] .o))) .o))),[]))),
 (381,({ bE:=3 },(.o,[]))),
 (382,({ bE:=2 },(.s .o (.s .o (.s .o (.s (.s .o (.b (.l (sc [4,15,16,17]) .o))) .o))),[]))),
 (383,({ bE:=2 },(.o,[]))),
 (384,({},(.o,[]))),
 (385,({ bE:=2 },(.s .o (.j (sc [0,1,2]) .o (.j (sc [0,1,2]) .o (.s .o (.s .o (.s .o (.s .o (.s .o (.s .o (.s .o (.s .o (.s .o (.s .o (.s .o (.j (sc [2,8,9,10,11,13,14,15]) (.b (.l (sc [2,8,9,10,11,13,14,15,16]) .o)) (.s .o (.s .o (.s .o (.j (sc [2,8,14,15,17,18]) (.b (.l (sc [2,8,9,10,14,15,16,17,18]) .o)) .o)))))))))))))))))),[]))),
 (387,({},(.o,[]))),
 (388,({},(.o,[]))),
 (389,({},(.o,[]))),
 (390,({},(.s .o (.s .o (.s (.s .o (.b (.l (sc [3,6,7]) .o))) .o)),[]))),
 (391,({},(.s .o (.s .o (.s (.s .o (.b (.l [(1,.no),(2,.ptr 34 0),(4,.ptr 36 0),(5,.ptr 37 0),(9,.no),(34,.cl []),(36,.cl []),(37,.cl [])] (.s .o (.s .o (.s (.b (.s .o (.s .o (.b (.l [(1,.no),(2,.ptr 34 0),(4,.ptr 36 0),(5,.ptr 37 0),(6,.no),(9,.no),(12,.no),(13,.no),(34,.cl []),(36,.cl []),(37,.cl [])] .o))))) .o)))))) .o)),[]))),
 (393,({},(.o,[]))),
 (394,({},(.o,[]))),
 (395,({},(.o,[]))),
 (396,({},(.o,[]))),
 (399,({},(.o,[]))),
 (400,({},(.o,[]))),
 (401,({},(.o,[])))]
def sD:List (Nat × (eH × cr)):=[(131,(fun ins=>match ins with | [.s [49]] => .ok [.i .i64 1,.b true] | _ => .err,{ bE:=2 })),(220,(fun ins=>match ins with | [.i .i64 1,.i .i64 10] => .ok [.s [49]] | _ => .err,{})),(35,(bZ.c,bZ.sg)),(56,(di.c,di.sg))]
def DF (d:Nat):cI:=ua PG 300 zY DE sD BF d
end
theorem FT:PG.follows .mixedOrders=true∧nW PG zY=true∧tN PG DE=true:=⟨by kernel_rfl,by kernel_rfl,by kernel_rfl⟩
end Go.Eng
namespace Go.Proofs
open Go.Shelf
def Tryz.pf:Go.Shelf.Ren:=⟨fun | 173=>220 | 246=>273 | 283=>313 | 284=>314 | 285=>315 | 286=>316 | 129=>354 | 317=>353 | 318=>355 | 319=>356 | 320=>357 | 337=>375 | 338=>376 | n=>n,fun | 2=>2 | 3=>3 | 9=>9 | 4=>4 | 171=>352 | 0=>0 | 53=>25 | 37=>22 | 5=>5 | 173=>354 | 212=>391 | 51=>107 | 20=>20 | 213=>392 | 46=>108 | 232=>425 | 233=>426 | n=>n,fun | 17=>3 | 18=>4 | 19=>5 | n=>n⟩
theorem Tryz.wc:Go.Proofs.LaysM.n173 Tryz.prog Tryz.pf:={
 mixed:=by kernel_rfl
 f129:=Tryz.func354.trans (congrArg some (by kernel_rfl))
 f173:=Tryz.func220.trans (congrArg some (by kernel_rfl))
 f246:=Tryz.func273.trans (congrArg some (by kernel_rfl))
 f283:=Tryz.func313.trans (congrArg some (by kernel_rfl))
 f284:=Tryz.func314.trans (congrArg some (by kernel_rfl))
 f285:=Tryz.func315.trans (congrArg some (by kernel_rfl))
 f286:=Tryz.func316.trans (congrArg some (by kernel_rfl))
 f317:=Tryz.func353.trans (congrArg some (by kernel_rfl))
 f318:=Tryz.func355.trans (congrArg some (by kernel_rfl))
 f319:=Tryz.func356.trans (congrArg some (by kernel_rfl))
 f320:=Tryz.func357.trans (congrArg some (by kernel_rfl))
 f337:=Tryz.func375.trans (congrArg some (by kernel_rfl))
 f338:=Tryz.func376.trans (congrArg some (by kernel_rfl))
 t0:=Tryz.underlying0
 a0:=Tryz.isAgg0
 z0:=Tryz.sizeOf0
 v0:=Tryz.zeroValue0
 t2:=Tryz.underlying2
 a2:=Tryz.isAgg2
 z2:=Tryz.sizeOf2
 v2:=Tryz.zeroValue2
 t3:=Tryz.underlying3
 a3:=Tryz.isAgg3
 z3:=Tryz.sizeOf3
 v3:=Tryz.zeroValue3
 t4:=Tryz.underlying4
 a4:=Tryz.isAgg4
 z4:=Tryz.sizeOf4
 v4:=Tryz.zeroValue4
 t5:=Tryz.underlying5
 a5:=Tryz.isAgg5
 z5:=Tryz.sizeOf5
 v5:=Tryz.zeroValue5
 t9:=Tryz.underlying9
 a9:=Tryz.isAgg9
 z9:=Tryz.sizeOf9
 v9:=Tryz.zeroValue9
 t20:=Tryz.underlying20
 a20:=Tryz.isAgg20
 z20:=Tryz.sizeOf20
 v20:=Tryz.zeroValue20
 t37:=Tryz.underlying22
 a37:=Tryz.isAgg22
 z37:=Tryz.sizeOf22
 v37:=Tryz.zeroValue22
 t46:=Tryz.underlying108
 a46:=Tryz.isAgg108
 z46:=Tryz.sizeOf108
 v46:=Tryz.zeroValue108
 t51:=Tryz.underlying107
 a51:=Tryz.isAgg107
 z51:=Tryz.sizeOf107
 v51:=Tryz.zeroValue107
 t53:=Tryz.underlying25
 a53:=Tryz.isAgg25
 z53:=Tryz.sizeOf25
 v53:=Tryz.zeroValue25
 t171:=Tryz.underlying352
 a171:=Tryz.isAgg352
 z171:=Tryz.sizeOf352
 v171:=Tryz.zeroValue352
 t173:=Tryz.underlying354
 a173:=Tryz.isAgg354
 z173:=Tryz.sizeOf354
 v173:=Tryz.zeroValue354
 t212:=Tryz.underlying391
 a212:=Tryz.isAgg391
 z212:=Tryz.sizeOf391
 v212:=Tryz.zeroValue391
 t213:=Tryz.underlying392
 a213:=Tryz.isAgg392
 z213:=Tryz.sizeOf392
 t232:=Tryz.underlying425
 a232:=Tryz.isAgg425
 z232:=Tryz.sizeOf425
 v232:=Tryz.zeroValue425
 t233:=Tryz.underlying426
 a233:=Tryz.isAgg426
 z233:=Tryz.sizeOf426
 v233:=Tryz.zeroValue426
 g17:=by kernel_rfl
 g18:=by kernel_rfl
 g19:=by kernel_rfl
 i0:=by kernel_rfl
 i2:=by kernel_rfl
 i3:=by kernel_rfl
 i4:=by kernel_rfl
 i5:=by kernel_rfl
 i9:=by kernel_rfl
 i20:=by kernel_rfl
 i37:=by kernel_rfl
 i46:=by kernel_rfl
 i51:=by kernel_rfl
 i53:=by kernel_rfl
 i171:=by kernel_rfl
 i173:=by kernel_rfl
 i212:=by kernel_rfl
 i232:=by kernel_rfl
 i233:=by kernel_rfl
 m17:=by kernel_rfl
 m18:=by kernel_rfl
 m19:=by kernel_rfl }
def Tryz.pg:Go.Shelf.Ren:=⟨fun | 174=>174 | 247=>218 | 245=>219 | 287=>268 | 279=>269 | 280=>270 | 281=>271 | 282=>272 | 321=>309 | 322=>310 | 316=>311 | 171=>190 | 205=>312 | 243=>229 | 246=>273 | 283=>313 | 284=>314 | 285=>315 | 286=>316 | 129=>354 | 317=>353 | 318=>355 | 319=>356 | 320=>357 | 337=>375 | 338=>376 | n=>n,fun | 9=>9 | 3=>3 | 2=>2 | 75=>229 | 85=>230 | 4=>4 | 167=>307 | 5=>5 | 53=>25 | 175=>308 | 46=>108 | 168=>310 | 37=>22 | 0=>0 | 210=>350 | 21=>21 | 127=>386 | 145=>389 | 143=>387 | 171=>352 | 173=>354 | 212=>391 | 51=>107 | 20=>20 | 213=>392 | 232=>425 | 233=>426 | 80=>347 | n=>n,fun | 15=>1 | 16=>2 | 17=>3 | 18=>4 | 19=>5 | n=>n⟩
theorem Tryz.we:Go.Proofs.LaysC.n174 Tryz.prog Tryz.pg:={
 mixed:=by kernel_rfl
 f129:=Tryz.func354.trans (congrArg some (by kernel_rfl))
 f171:=Tryz.func190.trans (congrArg some (by kernel_rfl))
 f174:=Tryz.func174.trans (congrArg some (by kernel_rfl))
 f205:=Tryz.func312.trans (congrArg some (by kernel_rfl))
 f243:=Tryz.func229.trans (congrArg some (by kernel_rfl))
 f245:=Tryz.func219.trans (congrArg some (by kernel_rfl))
 f246:=Tryz.func273.trans (congrArg some (by kernel_rfl))
 f247:=Tryz.func218.trans (congrArg some (by kernel_rfl))
 f279:=Tryz.func269.trans (congrArg some (by kernel_rfl))
 f280:=Tryz.func270.trans (congrArg some (by kernel_rfl))
 f281:=Tryz.func271.trans (congrArg some (by kernel_rfl))
 f282:=Tryz.func272.trans (congrArg some (by kernel_rfl))
 f283:=Tryz.func313.trans (congrArg some (by kernel_rfl))
 f284:=Tryz.func314.trans (congrArg some (by kernel_rfl))
 f285:=Tryz.func315.trans (congrArg some (by kernel_rfl))
 f286:=Tryz.func316.trans (congrArg some (by kernel_rfl))
 f287:=Tryz.func268.trans (congrArg some (by kernel_rfl))
 f316:=Tryz.func311.trans (congrArg some (by kernel_rfl))
 f317:=Tryz.func353.trans (congrArg some (by kernel_rfl))
 f318:=Tryz.func355.trans (congrArg some (by kernel_rfl))
 f319:=Tryz.func356.trans (congrArg some (by kernel_rfl))
 f320:=Tryz.func357.trans (congrArg some (by kernel_rfl))
 f321:=Tryz.func309.trans (congrArg some (by kernel_rfl))
 f322:=Tryz.func310.trans (congrArg some (by kernel_rfl))
 f337:=Tryz.func375.trans (congrArg some (by kernel_rfl))
 f338:=Tryz.func376.trans (congrArg some (by kernel_rfl))
 t0:=Tryz.underlying0
 a0:=Tryz.isAgg0
 z0:=Tryz.sizeOf0
 v0:=Tryz.zeroValue0
 t2:=Tryz.underlying2
 a2:=Tryz.isAgg2
 z2:=Tryz.sizeOf2
 v2:=Tryz.zeroValue2
 t3:=Tryz.underlying3
 a3:=Tryz.isAgg3
 z3:=Tryz.sizeOf3
 v3:=Tryz.zeroValue3
 t4:=Tryz.underlying4
 a4:=Tryz.isAgg4
 z4:=Tryz.sizeOf4
 v4:=Tryz.zeroValue4
 t5:=Tryz.underlying5
 a5:=Tryz.isAgg5
 z5:=Tryz.sizeOf5
 v5:=Tryz.zeroValue5
 t9:=Tryz.underlying9
 a9:=Tryz.isAgg9
 z9:=Tryz.sizeOf9
 v9:=Tryz.zeroValue9
 t20:=Tryz.underlying20
 a20:=Tryz.isAgg20
 z20:=Tryz.sizeOf20
 v20:=Tryz.zeroValue20
 t21:=Tryz.underlying21
 a21:=Tryz.isAgg21
 z21:=Tryz.sizeOf21
 v21:=Tryz.zeroValue21
 t37:=Tryz.underlying22
 a37:=Tryz.isAgg22
 z37:=Tryz.sizeOf22
 v37:=Tryz.zeroValue22
 t46:=Tryz.underlying108
 a46:=Tryz.isAgg108
 z46:=Tryz.sizeOf108
 v46:=Tryz.zeroValue108
 t51:=Tryz.underlying107
 a51:=Tryz.isAgg107
 z51:=Tryz.sizeOf107
 v51:=Tryz.zeroValue107
 t53:=Tryz.underlying25
 a53:=Tryz.isAgg25
 z53:=Tryz.sizeOf25
 v53:=Tryz.zeroValue25
 t75:=Tryz.underlying229
 a75:=Tryz.isAgg229
 z75:=Tryz.sizeOf229
 v75:=Tryz.zeroValue229
 t85:=Tryz.underlying230
 a85:=Tryz.isAgg230
 z85:=Tryz.sizeOf230
 v85:=Tryz.zeroValue230
 t127:=Tryz.underlying386
 a127:=Tryz.isAgg386
 z127:=Tryz.sizeOf386
 v127:=Tryz.zeroValue386
 t143:=Tryz.underlying387
 a143:=Tryz.isAgg387
 z143:=Tryz.sizeOf387
 v143:=Tryz.zeroValue387
 t145:=Tryz.underlying389
 a145:=Tryz.isAgg389
 z145:=Tryz.sizeOf389
 v145:=Tryz.zeroValue389
 t167:=Tryz.underlying307
 a167:=Tryz.isAgg307
 z167:=Tryz.sizeOf307
 v167:=Tryz.zeroValue307
 t168:=Tryz.underlying310
 a168:=Tryz.isAgg310
 z168:=Tryz.sizeOf310
 v168:=Tryz.zeroValue310
 t171:=Tryz.underlying352
 a171:=Tryz.isAgg352
 z171:=Tryz.sizeOf352
 v171:=Tryz.zeroValue352
 t173:=Tryz.underlying354
 a173:=Tryz.isAgg354
 z173:=Tryz.sizeOf354
 v173:=Tryz.zeroValue354
 t175:=Tryz.underlying308
 a175:=Tryz.isAgg308
 z175:=Tryz.sizeOf308
 v175:=Tryz.zeroValue308
 t210:=Tryz.underlying350
 a210:=Tryz.isAgg350
 z210:=Tryz.sizeOf350
 v210:=Tryz.zeroValue350
 t212:=Tryz.underlying391
 a212:=Tryz.isAgg391
 z212:=Tryz.sizeOf391
 v212:=Tryz.zeroValue391
 t213:=Tryz.underlying392
 a213:=Tryz.isAgg392
 z213:=Tryz.sizeOf392
 t232:=Tryz.underlying425
 a232:=Tryz.isAgg425
 z232:=Tryz.sizeOf425
 v232:=Tryz.zeroValue425
 t233:=Tryz.underlying426
 a233:=Tryz.isAgg426
 z233:=Tryz.sizeOf426
 v233:=Tryz.zeroValue426
 g15:=by kernel_rfl
 g16:=by kernel_rfl
 g17:=by kernel_rfl
 g18:=by kernel_rfl
 g19:=by kernel_rfl
 t80:=Tryz.underlying347
 a80:=Tryz.isAgg347
 z80:=Tryz.sizeOf347
 v80:=Tryz.zeroValue347
 i0:=by kernel_rfl
 i2:=by kernel_rfl
 i3:=by kernel_rfl
 i4:=by kernel_rfl
 i5:=by kernel_rfl
 i9:=by kernel_rfl
 i20:=by kernel_rfl
 i21:=by kernel_rfl
 i37:=by kernel_rfl
 i46:=by kernel_rfl
 i51:=by kernel_rfl
 i53:=by kernel_rfl
 i75:=by kernel_rfl
 i80:=by kernel_rfl
 i85:=by kernel_rfl
 i127:=by kernel_rfl
 i143:=by kernel_rfl
 i145:=by kernel_rfl
 i167:=by kernel_rfl
 i168:=by kernel_rfl
 i171:=by kernel_rfl
 i173:=by kernel_rfl
 i175:=by kernel_rfl
 i210:=by kernel_rfl
 i212:=by kernel_rfl
 i232:=by kernel_rfl
 i233:=by kernel_rfl
 m15:=by kernel_rfl
 m16:=by kernel_rfl
 m17:=by kernel_rfl
 m18:=by kernel_rfl
 m19:=by kernel_rfl
 c0:=by kernel_rfl
 c2:=by kernel_rfl
 c3:=by kernel_rfl
 c4:=by kernel_rfl
 c5:=by kernel_rfl
 c9:=by kernel_rfl
 c20:=by kernel_rfl
 c21:=by kernel_rfl
 c37:=by kernel_rfl
 c46:=by kernel_rfl
 c51:=by kernel_rfl
 c53:=by kernel_rfl
 c75:=by kernel_rfl
 c80:=by kernel_rfl
 c85:=by kernel_rfl
 c127:=by kernel_rfl
 c143:=by kernel_rfl
 c145:=by kernel_rfl
 c167:=by kernel_rfl
 c168:=by kernel_rfl
 c171:=by kernel_rfl
 c173:=by kernel_rfl
 c175:=by kernel_rfl
 c210:=by kernel_rfl
 c212:=by kernel_rfl
 c213:=by kernel_rfl
 c232:=by kernel_rfl
 c233:=by kernel_rfl }
end Go.Proofs
namespace Go.Eng
open Go.RowKit Go.Proofs Go.Sort
variable {ee:Errs}
set_option maxRecDepth 100000
set_option maxHeartbeats 1000000
theorem ym {w:World} {R:Reach} (hG:GlOK (cnGl ee) R w):Lib.TabIs Tryz.prog w "internal/strconv.uint64pow10" .u64 Lib.pow10Tab:=by
 have e:(cnGl ee) 3=some (p9 .u64 (Lib.pow10Tab.headD 0 :: Lib.pow10Tab.tail)):=rfl
 exact Ai hG e (by kernel_rfl)
theorem FD:Lib.decDigits 1=[49]:=by rw [Lib.decDigits,dif_pos (by decide)];rfl
theorem CQ:Lib.itoa 1=[49]:=by
 unfold Lib.itoa
 rw [ak (by decide)];exact FD
theorem Ar:Lib.parseIntB 64 [49] = .ok 1:=by kernel_rfl
theorem xx {R:Reach} {w:World} (hG:GlOK (cnGl ee) R w):Calls Tryz.prog 220 #[.int .i64 1,.int .i64 10] w fun e w'=>e = .returned (.string ⟨⟨[49]⟩⟩)∧Below w.heap.size w w':=by
 refine (Any.strconv_FormatInt_10 Tryz.wc 1 (by decide) (by decide) w (ym hG)).mono ?_
 rintro e w' ⟨rfl,q,os,rfl⟩
 exact ⟨by rw [CQ],sB _ _ _⟩
theorem xu {w W1 W2:World} (h1:Below w.heap.size w W1) (h2:Below W1.heap.size W1 W2):Below w.heap.size w W2 :=
 ⟨h2.os.trans h1.os,h2.tape.trans h1.tape,h2.output.trans h1.output,by have:=h1.size;have:=h2.size;omega,fun k hk=>(h2.block k (by have:=h1.size;omega)).trans (h1.block k hk)⟩
theorem uM {R:Reach} {w w':World} (hR:∀b o,R b o→b<w.heap.size) (h:Below w.heap.size w w') (hG:GlOK (cnGl ee) R w):GlOK (cnGl ee) R w':=hG.cq (lD (io:=fun _=>False) hR h).cq
theorem za {R:Reach} {w:World} (hG:GlOK (cnGl ee) R w):Calls Tryz.prog 175 #[.int .i64 1] w fun e w'=>e = .returned (.string ⟨⟨[49]⟩⟩)∧Below w.heap.size w w':=by
 go_enter Tryz.func175,Tryz.ntmps175
 go_wp2_with (go_at_call 220;refine (xx hG).mono ?_;rintro e w' ⟨rfl,hb⟩)
 go_ret
 exact ⟨rfl,hb⟩
theorem xw {R:Reach} {w:World} (hR:∀b o,R b o→b<w.heap.size) (hG:GlOK (cnGl ee) R w) :
  Calls Tryz.prog 131 #[.string ⟨⟨[49]⟩⟩] w fun e w'=>e = .returned (.tuple #[.int .i64 1,.bool true])∧Below w.heap.size w w':=by
 go_enter Tryz.func131,Tryz.ntmps131
 go_wp2_with (go_at_call 174;refine (Any.strconv_ParseInt_10_at64_ok Tryz.we ⟨⟨[49]⟩⟩ (by decide) 1 Ar w).mono ?_;rintro e W1 ⟨rfl,hW⟩)
 have xO:Below w.heap.size w W1:=by
  rcases hW with rfl | ⟨t,rfl⟩
  ·exact Below.refl _ _
  ·exact Go.Joins.below_bytesWorld _ _ _ _ (Nat.le_refl _)
 have Ig:=uM hR xO hG
 go_at_call 175
 refine (za Ig).mono ?_
 rintro e W2 ⟨rfl,zP⟩
 have hb:=xu xO zP
 go_wp2
 go_ret2
 exact ⟨rfl,hb⟩
theorem va:bD PG (cnGl ee) 220 (fun ins=>match ins with | [.i .i64 1,.i .i64 10] => .ok [.s [49]] | _ => .err,{}):=rM (by kernel_rfl) fun ti gO w R xs hc ha hR hG=>by
 split at hc
 ·obtain rfl:gO=[.s [49]]:=hc
  obtain rfl:=mI ha rfl
  refine (xx hG).mono ?_
  rintro e w' ⟨rfl,hb⟩
  exact ⟨_,rfl,hb,fun R w'=>CD CB⟩
 ·exact hc.elim
theorem ru:bD PG (cnGl ee) 131 (fun ins=>match ins with | [.s [49]] => .ok [.i .i64 1,.b true] | _ => .err,{ bE:=2 }):=qc (n:=2) (by kernel_rfl) (by decide) fun ti gO w R xs hc ha hR hG=>by
 split at hc
 ·obtain rfl:gO=[.i .i64 1,.b true]:=hc
  obtain rfl:=mI ha rfl
  refine (xw hR hG).mono ?_
  rintro e w' ⟨rfl,hb⟩
  exact ⟨_,rfl,rfl,hb,fun R w' => .cons CC (.cons (.sc rfl) .nil)⟩
 ·exact hc.elim
end Go.Eng
set_option maxRecDepth 100000
namespace Go.Eng
open Go.Proofs
noncomputable section
def fp.sg:cr:={}
def fp.c:eH:=fun l=>match l with
 | [] => .ok [(.b (true))]
 | _ => .err
end
end Go.Eng
set_option maxRecDepth 100000
namespace Go.Eng
open Go.Proofs
variable {ee:Errs}
theorem zb:∀p∈sD,bD PG (cnGl ee) p.1 p.2:=by
 intro p hp
 simp only [sD,aD,List.not_mem_nil,or_false] at hp
 rcases hp with rfl | rfl | rfl | rfl
 ·exact ru
 ·exact va
 ·exact bZ.ok
 ·exact di.ok
theorem y9:((DF 40).fs 6).1 [] = .ok [.b true]:=by kernel_rfl
theorem DD:(DF 40).fs 6=(((DF 40).fs 6).1,fp.sg):=by kernel_rfl
theorem fp.ok:bD PG (cnGl ee) 6 (fp.c,fp.sg):=fV fun ti gO h=>by
 unfold fp.c at h
 split at h
 ·obtain rfl:gO=[.b true]:=h
  have h6:bD PG (cnGl ee) 6 ((DF 40).fs 6):=runs FT zb 6
  rw [DD] at h6
  refine ⟨((DF 40).fs 6).1,h6,?_⟩
  rw [y9];rfl
 ·exact h.elim
end Go.Eng
set_option maxRecDepth 100000
namespace Go.Eng
open Go.Proofs
noncomputable section
def TopJust.sg:cr:={}
def TopJust.c:eH:=fun l=>match l with
 | [.sl .bs b,.ag [.i .i64 iX,.i .i64 kg,.i .i64 mX],.ag [.i .i64 Aw,.u64 Az,.u64 Ay,.u64 B1,.s Au,.s Av,.i .i64 B0,.sl .bs zx,.sl .fl Ax]] => .ok [(.b (true))]
 | _ => .err
def TopJust.E:cI:=dO fI zs [(6,(fp.c,fp.sg)),(7,(cK.c,cK.sg)),(8,(df.c,df.sg)),(9,(db.c,db.sg)),(10,(dX.c,dX.sg)),(11,(bK.c,bK.sg)),(12,(cA.c,cA.sg))]
def TopJust.h:Hint := .o
def TopJust.F (b:List UInt8) (l:Lim) (other:Val):OT:=dK PG TopJust.E 3 TopJust.sg TopJust.h [(.sl .bs b),(.ag (Lim.cells l)),(.ag (Val.cells other))]
theorem TopJust.dq (b:List UInt8) (l:Lim) (other:Val) {ρ:OT} (K:∀(v1:Bool) (h1:v1=(cond (decide ((2000:Int)<((b).length:Int))) true (!(decide (0≤dr.value 1200 (bq.of [] other)))))) (v2:cD) (h2:v2=((cD.mk (Bs.encode other).2.1 0 (Bs.encode other).2.2))) (v3:Bool) (h3:v3=(cond (decide ((cD.err v2)=(0:Int))) (decide (((Bs.encode other).1)=b)) false)) (v4:Int) (h4:v4=(cD.err ((Bs.jM (Bs.decode b l))))) (v5:Bool) (h5:v5=(Tree.same ((Bs.jA (Bs.decode b l))) other)) (v6:Bool) (h6:v6=(cond (decide (v4=(0:Int))) v5 false)) (v7:Int) (h7:v7=(cD.at_ ((Bs.jM (Bs.decode b l))))) (v8:Bool) (h8:v8=(cond (decide ((0:Int)≤v7)) (decide (v7≤((b).length:Int))) false)) (v9:List UInt8) (h9:v9=((Bs.encode ((Bs.jA (Bs.decode b l)))).1)) (v10:cD) (kL:v10=((cD.mk (Bs.encode ((Bs.jA (Bs.decode b l)))).2.1 0 (Bs.encode ((Bs.jA (Bs.decode b l)))).2.2))) (v11:List Int) (uK:v11=((Tree.fC (bq.of [] ((Bs.jA (Bs.decode b l)))) []).1)) (v12:Int) (Dn:v12=((Tree.fC (bq.of [] ((Bs.jA (Bs.decode b l)))) []).2)) (lR:Bool) (Ei:lR=(cond (decide ((cD.err v10)=(0:Int))) (decide (v9=b)) false)) (oQ:Bool) (Eh:oQ=(cond lR (decide (v12=(0:Int))) false)) (xH:Int) (Eg:xH=(Bs.fits ((Bs.jA (Bs.decode b l))) l)) (rD:Bool) (FC:rD=(cond oQ (decide (xH=(0:Int))) false)),cond (!(true))
  (some [(.b false)])
  (ck (!(!(decide ((2000:Int)<((b).length:Int)))) || (!(decide ((2000:Int)<((b).length:Int))))) (ck (!(!(decide ((2000:Int)<((b).length:Int)))) || (!(decide ((2000:Int)<((b).length:Int))))) (ck ((decide ((2000:Int)<((b).length:Int))) || (!(decide ((2000:Int)<((b).length:Int))))) (cond v1
  (some [(.b true)])
  (ck (decide ((b).length≤1000000000)) (ck (decide (bq.bS (bq.of [] other)≤10000000000)) (ck (!(decide ((cD.err v2)=(0:Int))) || (decide ((cD.err v2)=(0:Int)))) (ck (!(decide ((cD.err v2)=(0:Int))) || (decide ((cD.err v2)=(0:Int)))) (ck (!(decide ((cD.err v2)=(0:Int))) || ((decide ((cD.err v2)=(0:Int)))&&(decide ((cD.err v2)=(0:Int))))) (ck (!(decide ((cD.err v2)=(0:Int))) || (decide ((cD.err v2)=(0:Int)))) (cond v3
  (ck (decide (bq.bS (bq.of [] other)≤1000000000000)) (cond (!decide ((Bs.fits other l)=(0:Int)))
  (some [(.b (!decide (v4=(0:Int))))])
  (ck (!(decide (v4=(0:Int))) || (((decide (v4=(0:Int)))&&(decide (v4=(0:Int))))&&(decide (bq.bS (bq.of [] ((Bs.jA (Bs.decode b l))))≤1099511627776)))) (ck (!(decide (v4=(0:Int))) || (decide (v4=(0:Int)))) (some [(.b v6)])))))
  (cond (!decide (v4=(0:Int)))
  (ck (!(decide ((0:Int)≤v7)) || (decide ((0:Int)≤v7))) (ck (!(decide ((0:Int)≤v7)) || (decide ((0:Int)≤v7))) (ck (!(decide ((0:Int)≤v7)) || ((decide ((0:Int)≤v7))&&(decide ((0:Int)≤v7)))) (ck (!(decide ((0:Int)≤v7)) || (decide ((0:Int)≤v7))) (some [(.b v8)])))))
  (ck (decide (bq.bS (bq.of [] ((Bs.jA (Bs.decode b l))))≤10000000000)) (ck (decide (bq.bS (bq.of [] ((Bs.jA (Bs.decode b l))))≤1099511627776)) (ck (!(decide ((cD.err v10)=(0:Int))) || (decide ((cD.err v10)=(0:Int)))) (ck (!(decide ((cD.err v10)=(0:Int))) || (decide ((cD.err v10)=(0:Int)))) (ck (!(decide ((cD.err v10)=(0:Int))) || ((decide ((cD.err v10)=(0:Int)))&&(decide ((cD.err v10)=(0:Int))))) (ck (!(decide ((cD.err v10)=(0:Int))) || (decide ((cD.err v10)=(0:Int)))) (ck (!lR || lR) (ck (!lR || lR) (ck (!oQ || ((oQ&&oQ)&&(decide (bq.bS (bq.of [] ((Bs.jA (Bs.decode b l))))≤1000000000000)))) (ck (!oQ || oQ) (ck (!oQ || oQ) (ck (!rD || ((rD&&rD)&&(decide (bq.bS (bq.of [] ((Bs.jA (Bs.decode b l))))≤1099511627776)))) (ck (!rD || rD) (ck (!rD || rD) (some [(.b (cond rD (!v5) false))])))))))))))))))))))))))))))=ρ):TopJust.F b l other=ρ:=Eq.trans (by kernel_rfl) (K _ rfl _ rfl _ rfl _ rfl _ rfl _ rfl _ rfl _ rfl _ rfl _ rfl _ rfl _ rfl _ rfl _ rfl _ rfl _ rfl)
end
end Go.Eng
set_option maxRecDepth 20000
namespace Go.Eng
namespace Bs
def At (b:bG) (q:Nat) (w:bG):Prop:=(b.drop q).take w.length=w
theorem At.app {b:bG} {q:Nat} {x y:bG}:At b q (x++y) ↔ At b q x∧At b (q+x.length) y:=by
 unfold At
 rw [←List.prefix_iff_eq_take.trans eq_comm,←List.prefix_iff_eq_take.trans eq_comm,←List.prefix_iff_eq_take.trans eq_comm]
 constructor
 ·rintro ⟨t,h⟩
  refine ⟨⟨y++t,by rw [←h,aC]⟩,⟨t,?_⟩⟩
  rw [←List.drop_drop,←h,aC,List.drop_left]
 ·rintro ⟨⟨t,h⟩,⟨u,g⟩⟩
  rw [←List.drop_drop,←h,List.drop_left] at g
  exact ⟨u,by rw [←h,←g,aC]⟩
theorem At.sub {b:bG} {q n:Nat} {w:bG} (h:At b q w) (hn:w.length=n):sub b q n=w:=by subst hn;exact h
theorem kp {b:bG} {q n:Nat} {w:bG} (h:w=sub b q n):At b q w:=by
 subst h;unfold At sub
 rw [aB,aP,List.take_eq_take_iff,aP];omega
theorem gI {b:bG} {q n:Nat} (h:q+n≤b.length):(sub b q n).length=n:=by unfold sub;rw [aB,aP];omega
theorem at_one {b:bG} {i:Nat} {c:UInt8} (h:i<b.length):At b i [c] ↔ b.getD i 0=c:=by
 unfold At
 show List.take 1 (b.drop i)=[c] ↔ _
 rw [List.drop_eq_getElem_cons h,List.take_succ_cons,List.take_zero,ai,ah h,Option.getD_some,bg]
 exact ⟨fun h=>h.1,fun h=>⟨h,rfl⟩⟩
theorem s6:∀w:bG,eU w.length (gk w)=w
 | []=>rfl
 | c :: r=>by
  have hc:=c.toNat_lt
  show UInt8.ofNat ((c.toNat+256 * gk r) % 256) :: eU r.length ((c.toNat+256 * gk r) / 256)=c :: r
  rw [show (c.toNat+256 * gk r) % 256=c.toNat by omega,show (c.toNat+256 * gk r) / 256=gk r by omega,s6 r,UInt8.ofNat_toNat]
theorem s5:∀(n v:Nat),gk (eU n v)=v % 256 ^ n
 | 0,v=>by show 0=v % 1;omega
 | n+1,v=>by
  show (UInt8.ofNat (v % 256)).toNat+256 * gk (eU n (v / 256))=v % 256 ^ (n+1)
  rw [s5 n,UInt8.toNat_ofNat',show 256 ^ (n+1)=256 * 256 ^ n by rw [Nat.pow_succ,Nat.mul_comm],Nat.mod_mul]
  have:v % 256 % 2 ^ 8=v % 256:=Nat.mod_eq_of_lt (by omega)
  omega
theorem pd {b:bG} {q n v:Nat} (h:At b q (eU n v)) (hv:v<256 ^ n):gk (sub b q n)=v:=by rw [h.sub (bV _ _),s5,Nat.mod_eq_of_lt hv]
theorem pK {b:bG} {q n:Nat} (h:q+n≤b.length):At b q (eU n (gk (sub b q n))):=kp (by
 have:=s6 (sub b q n)
 rwa [gI h] at this)
theorem iR {b:bG} {p v:Nat} (h:p+4≤b.length) (hv:v<2147483648):dy b p=(v:Int) ↔ At b p (eU 4 v):=by
 have hl:=rX b p
 constructor
 ·intro e
  have:yk b p=v:=by unfold dy at e;split at e <;> omega
  rw [←this];exact pK h
 ·intro e
  have:yk b p=v:=pd e (by omega)
  unfold dy;rw [this,ar hv]
theorem mL {b:bG} {p:Nat} (h:p+4≤b.length) (h0:0≤dy b p):At b p (eU 4 (dy b p).toNat):=(iR h (by have:=jI b p;omega)).1 (by omega)
theorem iC {b:bG} {q z x:Nat} {s:bG} (h1:q≤z) (h2:z≤b.length) (h3:b.length≤1000000000):text b q z = .ok (s,x) ↔ x=q+(s.length+5)∧x≤z∧At b q (fv s)∧dt.whole s=true:=by
 unfold text fv
 constructor
 ·intro h
  by_cases c:z - q<4
  ·rw [ar c] at h;cases h
  rw [ak c] at h;unfold pZ at h
  by_cases d:dy b q<1∨(z:Int) - q - 4<dy b q
  ·rw [ar d] at h;cases h
  rw [ak d] at h
  by_cases e:b.getD (q+4+(dy b q).toNat - 1) 0≠0
  ·rw [ar e] at h;cases h
  rw [ak e] at h
  by_cases f:dt.whole ((b.drop (q+4)).take ((dy b q).toNat - 1))=false
  ·rw [ar f] at h;cases h
  rw [ak f] at h
  have r4:=mL (b:=b) (p:=q) (by omega) (by omega)
  generalize dy b q=n at *
  have hl:(sub b (q+4) (n.toNat - 1)).length=n.toNat - 1:=gI (by omega)
  obtain ⟨g1,g2⟩:=Prod.mk.injEq .. ▸ Except.ok.inj h
  have g1:sub b (q+4) (n.toNat - 1)=s:=g1
  subst g1
  refine ⟨by omega,by omega,?_,by cases hw:dt.whole (sub b (q+4) (n.toNat - 1)) with
   | false=>exact absurd hw f
   | true=>rfl⟩
  rw [At.app,At.app,bV,hl]
  refine ⟨by rw [show n.toNat - 1+1=n.toNat by omega];exact r4,kp rfl,(at_one (by omega)).2 ?_⟩
  rw [show q+4+(n.toNat - 1)=q+4+n.toNat - 1 by omega];simpa using e
 ·rintro ⟨rfl,g2,g3,g4⟩
  rw [At.app,At.app,bV] at g3
  obtain ⟨g5,g6,g7⟩:=g3
  have e:=(iR (v:=s.length+1) (by omega) (by omega)).2 g5
  rw [ak (by omega),e]
  unfold pZ
  rw [ak (by omega),aq,show q+4+(s.length+1) - 1=q+4+s.length by omega,ak (by rw [(at_one (by omega)).1 g7];simp),show s.length+1 - 1=s.length by omega,show (b.drop (q+4)).take s.length=s from g6,ak (by simp [g4])]
  rw [show q+4+(s.length+1)=q+(s.length+5) by omega]
theorem pT {s:bG}:dt.zero s=false ↔ ∀c∈s,c≠0:=by
 unfold dt.zero
 rw [List.contains_eq_mem,decide_eq_false_iff_not]
 exact ⟨fun h c hc e=>h (e ▸ hc),fun h e=>h 0 e rfl⟩
theorem gU {b:bG} {q z x:Nat} {s:bG} (h1:q≤z) (h2:z≤b.length):((ctext (b.take z) q).2.2=0∧(ctext (b.take z) q).1=s∧(ctext (b.take z) q).2.1=(x:Int)) ↔ x=q+(s.length+1)∧x≤z∧At b q (s++[0])∧dt.whole s=true∧dt.zero s=false:=by
 constructor
 ·rintro ⟨c,e1,e2⟩
  obtain ⟨_,k,_,k2,k3,k4,k5,k6,k7⟩:=hU c
  rw [aq] at k2 k3 k5 k6 k7
  rw [aB] at k2
  have hs:s=sub b q k:=by rw [←e1,k3,List.drop_take,List.take_take];unfold sub;congr 1;omega
  have hl:s.length=k:=by rw [hs];exact gI (by omega)
  refine ⟨by omega,by omega,?_,by rw [←e1,k3];exact k5,?_⟩
  ·rw [At.app,hl]
   refine ⟨kp hs,(at_one (by omega)).2 ?_⟩
   rw [aF,ar (by omega)] at k6
   rw [ai,k6];rfl
  ·rw [pT]
   intro c hc e
   obtain ⟨j,hj,HV⟩:=List.getElem_of_mem hc
   have:=k7 j (by omega)
   rw [aF,ar (by omega),←List.getElem?_drop] at this
   refine this ?_
   have h5:s[j]?=some 0:=by rw [ah hj,HV,e]
   rw [hs] at h5;unfold sub at h5
   rw [aF,ar (by omega)] at h5;exact h5
 ·rintro ⟨rfl,g2,g3,g4,g5⟩
  rw [At.app] at g3
  obtain ⟨g6,g7⟩:=g3
  have hd:((b.take z).drop q).take s.length=s:=by rw [List.drop_take,List.take_take,show min s.length (z - q)=s.length by omega];exact g6
  have hs:∀j,j<s.length→((b.take z).drop q)[j]?=s[j]?:=fun j hj=>by
   have:=congrArg (fun l=>l[j]?) hd
   rw [←this]
   show _=(List.take s.length _)[j]?
   rw [aF,ar hj]
  have h0:((b.take z).drop q)[s.length]?=some 0:=by
   rw [List.getElem?_drop,aF,ar (by omega)]
   have:=(at_one (by omega)).1 g7
   rw [ai,ah (by omega)] at this
   rw [ah (by omega)]
   exact congrArg some this
  have hx:¬Lib.indexByte ((b.take z).drop q) 0<0:=by
   intro h
   have:=fx 0 ((b.take z).drop q)
   rw [ab (by omega)] at this
   have h6:=ay h0
   rw [List.contains_eq_mem,aa h6] at this
   cases this
  obtain ⟨k,k1,k2,k3,k4⟩:=wh hx
  have hk:k=s.length:=by
   refine Nat.le_antisymm (Nat.le_of_not_lt fun h=>k4 s.length h h0) (Nat.le_of_not_lt fun h=>?_)
   rw [hs k h] at k3
   exact pT.1 g5 0 (ay k3) rfl
  unfold ctext
  rw [ak (by rw [aB];omega),aq,ak hx,k1,aq,hk,hd,ak (by simp [g4])]
  exact ⟨rfl,rfl,by show (q:Int)+s.length+1=_;omega⟩
theorem pC {b:bG} {q z x:Nat} {s:bG}:ended b q z = .ok (s,x) ↔ ((ctext (b.take z) q).2.2=0∧(ctext (b.take z) q).1=s∧(ctext (b.take z) q).2.1=(x:Int)):=by
 unfold ended
 by_cases c:(ctext (b.take z) q).2.2=0
 ·obtain ⟨_,k,_,_,_,k1,_⟩:=hU c
  rw [ak (by simp [c])]
  constructor
  ·intro h
   obtain ⟨g1,g2⟩:=Prod.mk.injEq .. ▸ Except.ok.inj h
   exact ⟨c,g1,by have g2:(ctext (b.take z) q).2.1.toNat=x:=g2;omega⟩
  ·rintro ⟨_,rfl,g⟩
   rw [g,aq]
 ·rw [ar c]
  exact ⟨(fun h=>by cases h),fun h=>absurd h.1 c⟩
theorem nC {b:bG} {q z x:Nat} {s:Int} {y:bG} (h1:q+5≤z) (h2:z≤b.length) (h3:b.length≤1000000000):binary b q z = .ok (s,y,x) ↔ x=q+(if s=2 then y.length+9 else y.length+5)∧x≤z∧At b q (nQ s y)∧0≤s∧s≤255:=by
 unfold binary y0 nQ
 have hc:=(b.getD (q+4) 0).toNat_lt
 constructor
 ·intro h
  by_cases d:dy b q<0∨(z:Int) - q - 5<dy b q
  ·rw [ar d] at h;cases h
  rw [ak d] at h
  have r4:=mL (b:=b) (p:=q) (by omega) (by omega)
  have r1:At b (q+4) [b.getD (q+4) 0]:=(at_one (by omega)).2 rfl
  by_cases e:((b.getD (q+4) 0).toNat:Int)=2
  ·rw [ar e] at h
   by_cases f:dy b q<4∨dy b (q+5)≠dy b q - 4
   ·rw [ar f] at h;cases h
   rw [ak f] at h
   have r5:=mL (b:=b) (p:=q+5) (by omega) (by omega)
   rw [show dy b (q+5)=dy b q - 4 by omega] at r5
   generalize dy b q=n at *
   have hl:(sub b (q+9) (n.toNat - 4)).length=n.toNat - 4:=gI (by omega)
   have h:=Except.ok.inj h
   simp only [Prod.mk.injEq] at h
   obtain ⟨g1,g2,g3⟩:=h
   have g2:sub b (q+9) (n.toNat - 4)=y:=g2
   subst g2
   have hs:s=2:=by omega
   subst hs
   rw [ar rfl,ar rfl,At.app,bV,←List.singleton_append,At.app,aI,At.app,bV,hl]
   have hu:b.getD (q+4) 0=UInt8.ofInt 2:=UInt8.toNat_inj.1 (by show _=2;omega)
   refine ⟨by omega,by omega,⟨by rw [show n.toNat - 4+4=n.toNat by omega];exact r4,hu ▸ r1,by rw [show n.toNat - 4=(n - 4).toNat by omega];exact r5,kp rfl⟩,by omega,by omega⟩
  ·rw [ak e] at h
   generalize dy b q=n at *
   have hl:(sub b (q+5) n.toNat).length=n.toNat:=gI (by omega)
   have h:=Except.ok.inj h
   simp only [Prod.mk.injEq] at h
   obtain ⟨g1,g2,g3⟩:=h
   have g2:sub b (q+5) n.toNat=y:=g2
   subst g2
   have hs:¬s=2:=by omega
   rw [ak hs,ak hs,At.app,bV,←List.singleton_append,At.app,aI,hl]
   have hu:b.getD (q+4) 0=UInt8.ofInt s:=by rw [←g1,iN,UInt8.ofNat_toNat]
   exact ⟨by omega,by omega,⟨r4,hu ▸ r1,kp rfl⟩,by omega,by omega⟩
 ·rintro ⟨rfl,g2,g3,g4,g5⟩
  have hb:∀k:Nat,k=s.toNat→(UInt8.ofInt s).toNat=k:=fun k hk=>by
   obtain ⟨j,rfl⟩:∃j:Nat,s=(j:Int):=⟨s.toNat,by omega⟩
   rw [iN,UInt8.toNat_ofNat',hk,aq];exact Nat.mod_eq_of_lt (by omega)
  by_cases e:s=2
  ·subst e
   rw [ar rfl] at g2 g3 ⊢
   rw [At.app,bV,←List.singleton_append,At.app,aI,At.app,bV] at g3
   obtain ⟨g6,g7,g8,g9⟩:=g3
   have e1:=(iR (v:=y.length+4) (by omega) (by omega)).2 g6
   have e2:=(iR (v:=y.length) (by omega) (by omega)).2 g8
   have e3:=(at_one (by omega)).1 g7
   rw [show q+4+1=q+5 by omega] at e2 g9
   rw [e1,e3,ak (by omega),hb 2 rfl,ar (by rfl),e2,ak (by omega),aq,show y.length+4 - 4=y.length by omega,show (b.drop (q+9)).take y.length=y from g9,show q+5+(y.length+4)=q+(y.length+9) by omega];rfl
  ·rw [ak e] at g2 g3 ⊢
   rw [At.app,bV,←List.singleton_append,At.app,aI] at g3
   obtain ⟨g6,g7,g9⟩:=g3
   have e1:=(iR (v:=y.length) (by omega) (by omega)).2 g6
   have e3:=(at_one (by omega)).1 g7
   rw [e1,e3,ak (by omega),hb s.toNat rfl,ak (by omega),aq,show (b.drop (q+5)).take y.length=y from g9,show ((s.toNat:Nat):Int)=s by omega,show q+5+y.length=q+(y.length+5) by omega]
end Bs
end Go.Eng
set_option maxRecDepth 20000
namespace Go.Eng
namespace Bs
mutual
def lX:bq→Bool
 | .mk n k b h l t m s y ks=>decide (Tree.nM ⟨k,b,h,l,t,m,s,y,ks⟩ n=0)&&eW ks
def eW:List bq→Bool
 | []=>true
 | f :: r=>lX f&&eW r
end
mutual
theorem nh:∀(f:bq) (p:List Int),(Tree.fC f p).2=0 ↔ lX f=true
 | .mk n k b h l t m s y ks,p=>by
  unfold Tree.fC lX
  rw [ae,decide_eq_true_iff]
  by_cases c:Tree.nM ⟨k,b,h,l,t,m,s,y,ks⟩ n=0
  ·rw [ak (by simp [c]),ov ks];exact ⟨fun h=>⟨c,h⟩,fun h=>h.2⟩
  ·rw [ar c];exact ⟨fun h=>absurd h c,fun h=>absurd h.1 c⟩
theorem ov:∀(l:List bq) (i:Nat) (p:List Int),(Tree.pJ l i p).2=0 ↔ eW l=true
 | [],i,p=>by unfold Tree.pJ eW;simp
 | f :: r,i,p=>by
  unfold Tree.pJ eW
  rw [ae,←nh f (p++[(i:Int)]),←ov r (i+1) p]
  by_cases c:(Tree.fC f (p++[(i:Int)])).2=0
  ·rw [ak (by simp [c])];exact ⟨fun h=>⟨c,h⟩,fun h=>h.2⟩
  ·rw [ar c];exact ⟨fun h=>absurd h c,fun h=>absurd h.1 c⟩
end
theorem dm (v:Val):Tree.own v=0 ↔ Tree.name v.kind≠[]∧Tree.cw v=true∧Tree.dw v.text (decide (v.kind=11))=true∧Tree.dw v.more (decide (v.kind=11))=true:=by
 unfold Tree.own
 by_cases a:Tree.name v.kind=[]
 ·rw [ar a];exact ⟨fun h=>absurd h (by decide),fun h=>absurd a h.1⟩
 rw [ak a]
 cases b:Tree.cw v with
 | false=>rw [ar rfl];exact ⟨fun h=>absurd h (by decide),fun h=>by cases h.2.1⟩
 | true =>
  rw [ak (by simp)]
  cases c:Tree.dw v.text (decide (v.kind=11)) <;> cases d:Tree.dw v.more (decide (v.kind=11)) <;> simp [a]
theorem jL (n:bG) (v:Val):lX (bq.of n v)=true ↔ Tree.own v=0∧dt.whole n=true∧dt.zero n=false∧eW v.kids=true:=by
 show (decide (Tree.nM v n=0)&&eW v.kids)=true ↔ _
 rw [ae,decide_eq_true_iff]
 unfold Tree.nM Tree.dw
 by_cases a:Tree.own v=0
 ·rw [ak (by simp [a])]
  cases dt.whole n <;> cases dt.zero n <;> simp [a]
 ·rw [ar a];exact ⟨fun h=>absurd h.1 a,fun h=>absurd h.1 a⟩
def vm (d:Nat) (b:bG) (k:Int) (q z:Nat) (v:Val) (x:Nat):Prop:=v.kind=k∧x=q+size (bq.of [] v)∧x≤z∧At b q (enc (bq.of [] v))∧Tree.own v=0∧eW v.kids=true∧Tree.depth (bq.of [] v)≤d
def ID (d:Nat) (b:bG) (p z:Nat) (fO:Int) (ks:List bq) (x:Nat):Prop:=x=p+(bY ks+5)∧x≤z∧(fO=1∨fO=2→x=z)∧At b p (fw ks)∧eW ks=true∧Tree.eK ks+1≤d
abbrev Dc:=bG→Nat→Nat→Int→Except E (List bq × Nat)
theorem mO {A:Type} {c:Prop} [Decidable c] {e:E} {u w:A}:(if c then (.error e:Except E A) else .ok u) = .ok w ↔ ¬c∧u=w:=by
 by_cases h:c
 ·rw [ar h];exact ⟨(fun g=>by cases g),fun g=>absurd h g.1⟩
 ·rw [ak h];exact ⟨fun g=>⟨h,Except.ok.inj g⟩,fun g=>by rw [g.2]⟩
theorem jU {dc:Dc} {b:bG} {d q z x:Nat} {v:Val} {k:Int} (hk:k=1∨k=9∨k=17∨k=18∨k=16∨k=8) (h1:q≤z) (h2:z≤b.length):eI dc b k q z = .ok (v,x) ↔ vm d b k q z v x:=by
 have e:eI dc b k q z=if z - q<fixed k then .error (2,q) else if k=8∧1<gk (sub b q 1) then .error (3,q) else .ok ({ cX k with bits:=UInt64.ofNat (gk (sub b q (fixed k))) },q+fixed k):=by
  unfold eI;rw [ar (show gK k∨k=16∨k=8 by rcases hk with h | h | h | h | h | h <;> subst h <;> decide)]
 have ev:∀w:Val,w.kind=k→Tree.own w=0→w={ cX k with bits:=w.bits }∧w.bits.toNat<256 ^ fixed k∧(k=8→w.bits.toNat<2):=by
  intro w hw ho
  obtain ⟨k',b',h',l',t',m',s',y',jf⟩:=w
  have hw:k'=k:=hw
  subst hw
  have hf:=((dm _).1 ho).2.1
  have hb:=b'.toNat_lt
  rcases hk with h | h | h | h | h | h <;> subst h <;> simp [Tree.cw,Tree.ff,aZ] at hf <;> simp [hf,cX,fixed,gK,gn] <;> omega
 have eo:∀u:UInt64,(k=16→u.toNat<4294967296)→(k=8→u.toNat<2)→Tree.own { cX k with bits:=u }=0:=by
  intro u g1 g2
  have hn:Tree.name k≠[]:=by rcases hk with h | h | h | h | h | h <;> subst h <;> decide
  refine (dm _).2 ⟨hn,?_,?_,?_⟩
  ·rcases hk with h | h | h | h | h | h <;> subst h <;> simp [Tree.cw,Tree.ff,aZ,cX] <;> simp at g1 g2 <;> omega
  ·rcases hk with h | h | h | h | h | h <;> subst h <;> rfl
  ·rcases hk with h | h | h | h | h | h <;> subst h <;> rfl
 have es:∀w:Val,w.kind=k→size (bq.of [] w)=fixed k∧enc (bq.of [] w)=eU (fixed k) w.bits.toNat∧Tree.depth (bq.of [] w)=0:=by
  intro w hw
  obtain ⟨k',b',h',l',t',m',s',y',jf⟩:=w
  have hw:k'=k:=hw
  subst hw
  rcases hk with h | h | h | h | h | h <;> subst h <;> exact ⟨rfl,rfl,rfl⟩
 have hf:1≤fixed k∧fixed k≤8∧(k=16→fixed k=4)∧(k=8→fixed k=1):=by rcases hk with h | h | h | h | h | h <;> subst h <;> decide
 rw [e]
 constructor
 ·intro h
  by_cases c:z - q<fixed k
  ·rw [ar c] at h;cases h
  rw [ak c,mO] at h
  obtain ⟨c2,h⟩:=h
  have hl:=lk (sub b q (fixed k))
  rw [gI (by omega)] at hl
  have hp:256 ^ fixed k≤256 ^ 8:=Nat.pow_le_pow_right (by omega) hf.2.1
  have hu:(UInt64.ofNat (gk (sub b q (fixed k)))).toNat=gk (sub b q (fixed k)):=by rw [UInt64.toNat_ofNat'];exact Nat.mod_eq_of_lt (by omega)
  obtain ⟨rfl,rfl⟩:=Prod.mk.inj h
  obtain ⟨g1,g2,g3⟩:=es { cX k with bits:=UInt64.ofNat (gk (sub b q (fixed k))) } rfl
  refine ⟨rfl,by rw [g1],by omega,?_,eo _ (fun h=>?_) (fun h=>?_),rfl,by omega⟩
  ·rw [g2,hu];exact pK (by omega)
  ·rw [hu];rw [hf.2.2.1 h] at hl ⊢;exact hl
  ·rw [hu,hf.2.2.2 h];exact Nat.lt_of_not_le fun g=>c2 ⟨h,g⟩
 ·rintro ⟨g1,rfl,g3,g4,g5,g6,g7⟩
  obtain ⟨e1,e2,e3⟩:=es v g1
  obtain ⟨e4,e5,e6⟩:=ev v g1 g5
  rw [e1] at g3 ⊢
  rw [e2] at g4
  have hl:=pd g4 e5
  rw [ak (by omega),ak (fun h=>by have:=e6 h.1;rw [hf.2.2.2 h.1] at hl;omega),hl,UInt64.ofNat_toNat,←e4]
theorem ze {dc:Dc} {b:bG} {d q z x:Nat} {v:Val} (h1:q≤z) (h2:z≤b.length):eI dc b 19 q z = .ok (v,x) ↔ vm d b 19 q z v x:=by
 have e:eI dc b 19 q z=if z - q<16 then .error (2,q) else .ok ({ cX 19 with low:=UInt64.ofNat (gk (sub b q 8)),high:=UInt64.ofNat (gk (sub b (q+8) 8)) },q+16):=rfl
 rw [e,mO]
 constructor
 ·rintro ⟨c,h⟩
  obtain ⟨rfl,rfl⟩:=Prod.mk.inj h
  have hu:∀p,p+8≤b.length→(UInt64.ofNat (gk (sub b p 8))).toNat=gk (sub b p 8):=fun p hp=>by
   have:=lk (sub b p 8)
   rw [gI hp] at this
   rw [UInt64.toNat_ofNat'];exact Nat.mod_eq_of_lt this
  refine ⟨rfl,rfl,by omega,?_,?_,rfl,Nat.zero_le _⟩
  ·show At b q (eU 8 (UInt64.ofNat (gk (sub b q 8))).toNat++eU 8 (UInt64.ofNat (gk (sub b (q+8) 8))).toNat)
   rw [At.app,bV,hu q (by omega),hu (q+8) (by omega)]
   exact ⟨pK (by omega),pK (by omega)⟩
  ·refine (dm _).2 ⟨show Tree.name 19≠[] by decide,by simp [Tree.cw,Tree.ff,cX],by rfl,by rfl⟩
 ·rintro ⟨g1,rfl,g3,g4,g5,g6,g7⟩
  obtain ⟨k',b',h',l',t',m',s',y',jf⟩:=v
  have g1:k'=19:=g1
  subst g1
  have g3:q+16≤z:=g3
  have g4:At b q (eU 8 l'.toNat++eU 8 h'.toNat):=g4
  rw [At.app,bV] at g4
  have hf:=((dm _).1 g5).2.1
  simp [Tree.cw,Tree.ff] at hf
  refine ⟨by omega,?_⟩
  rw [pd g4.1 l'.toNat_lt,pd g4.2 h'.toNat_lt,UInt64.ofNat_toNat,UInt64.ofNat_toNat]
  simp [hf,cX];rfl
theorem BI {dc:Dc} {b:bG} {d q z x:Nat} {v:Val} (h1:q≤z) (h2:z≤b.length):eI dc b 7 q z = .ok (v,x) ↔ vm d b 7 q z v x:=by
 have e:eI dc b 7 q z=if z - q<12 then .error (2,q) else .ok ({ cX 7 with bytes:=sub b q 12 },q+12):=rfl
 rw [e,mO]
 constructor
 ·rintro ⟨c,h⟩
  obtain ⟨rfl,rfl⟩:=Prod.mk.inj h
  have hl:(sub b q 12).length=12:=gI (by omega)
  refine ⟨rfl,rfl,by omega,kp rfl,?_,rfl,Nat.zero_le _⟩
  refine (dm _).2 ⟨show Tree.name 7≠[] by decide,by simp [Tree.cw,Tree.ff,cX,hl],by rfl,by rfl⟩
 ·rintro ⟨g1,rfl,g3,g4,g5,g6,g7⟩
  obtain ⟨k',b',h',l',t',m',s',y',jf⟩:=v
  have g1:k'=7:=g1
  subst g1
  have g3:q+12≤z:=g3
  have g4:At b q y':=g4
  have hf:=((dm _).1 g5).2.1
  simp [Tree.cw,Tree.ff] at hf
  refine ⟨by omega,?_⟩
  rw [g4.sub (by simp [hf])]
  simp [hf,cX];rfl
theorem nF {dc:Dc} {b:bG} {d q z x:Nat} {v:Val} {k:Int} (hk:k=2∨k=13∨k=14) (h1:q≤z) (h2:z≤b.length) (h3:b.length≤1000000000):eI dc b k q z = .ok (v,x) ↔ vm d b k q z v x:=by
 have e:eI dc b k q z=if z - q<4 then .error (2,q) else match text b q z with
  | .error e => .error e
  | .ok (s,x) => .ok ({ cX k with text:=s },x):=by rcases hk with h | h | h <;> subst h <;> rfl
 have eo:∀s:bG,Tree.own { cX k with text:=s }=0 ↔ dt.whole s=true:=by
  intro s
  rw [dm]
  have w0:dt.whole []=true:=rfl
  have hn:Tree.name k≠[]:=by rcases hk with h | h | h <;> subst h <;> decide
  rcases hk with h | h | h <;> subst h <;> simp [Tree.cw,Tree.ff,cX,Tree.dw,w0,hn]
 have es:∀w:Val,w.kind=k→size (bq.of [] w)=w.text.length+5∧enc (bq.of [] w)=fv w.text∧Tree.depth (bq.of [] w)=0:=by
  intro w hw
  obtain ⟨k',b',h',l',t',m',s',y',jf⟩:=w
  have hw:k'=k:=hw
  subst hw
  rcases hk with h | h | h <;> subst h <;> exact ⟨rfl,rfl,rfl⟩
 rw [e]
 constructor
 ·intro h
  by_cases c:z - q<4
  ·rw [ar c] at h;cases h
  rw [ak c] at h
  cases ht:text b q z with
  | error e=>rw [ht] at h;cases h
  | ok y =>
   obtain ⟨s,x'⟩:=y
   rw [ht] at h
   obtain ⟨rfl,rfl⟩:=Prod.mk.inj (Except.ok.inj h)
   obtain ⟨g1,g2,g3,g4⟩:=(iC h1 h2 h3).1 ht
   obtain ⟨e1,e2,e3⟩:=es { cX k with text:=s } rfl
   exact ⟨rfl,by rw [e1];exact g1,g2,by rw [e2];exact g3,(eo s).2 g4,rfl,by omega⟩
 ·rintro ⟨g1,rfl,g3,g4,g5,g6,g7⟩
  obtain ⟨e1,e2,e3⟩:=es v g1
  rw [e1] at g3 ⊢
  rw [e2] at g4
  have ev:v={ cX k with text:=v.text }:=by
   obtain ⟨k',b',h',l',t',m',s',y',jf⟩:=v
   have g1:k'=k:=g1
   subst g1
   have hf:=((dm _).1 g5).2.1
   rcases hk with h | h | h <;> subst h <;> simp [Tree.cw,Tree.ff] at hf <;> simp [hf,cX]
  rw [ev] at g5
  rw [ak (by omega),(iC (s:=v.text) h1 h2 h3).2 ⟨rfl,g3,g4,(eo _).1 g5⟩]
  exact congrArg (fun w=>Except.ok (w,q+(v.text.length+5))) ev.symm
theorem kS {dc:Dc} {b:bG} {d q z x:Nat} {v:Val} {k:Int} (hk:k=6∨k=10∨k=127∨k=255) (h1:q≤z):eI dc b k q z = .ok (v,x) ↔ vm d b k q z v x:=by
 have e:eI dc b k q z = .ok (cX k,q):=by
  have:fixed k=0:=by rcases hk with h | h | h | h <;> subst h <;> rfl
  unfold eI;rw [this,ak (by omega)]
  rcases hk with h | h | h | h <;> subst h <;> rfl
 have es:∀w:Val,w.kind=k→size (bq.of [] w)=0∧enc (bq.of [] w)=[]∧Tree.depth (bq.of [] w)=0:=by
  intro w hw
  obtain ⟨k',b',h',l',t',m',s',y',jf⟩:=w
  have hw:k'=k:=hw
  subst hw
  rcases hk with h | h | h | h <;> subst h <;> exact ⟨rfl,rfl,rfl⟩
 rw [e]
 constructor
 ·intro h
  obtain ⟨rfl,rfl⟩:=Prod.mk.inj (Except.ok.inj h)
  obtain ⟨e1,e2,e3⟩:=es (cX k) rfl
  refine ⟨rfl,by rw [e1];rfl,h1,by rw [e2];rfl,?_,rfl,by omega⟩
  rcases hk with h | h | h | h <;> subst h <;> decide
 ·rintro ⟨g1,rfl,g3,g4,g5,g6,g7⟩
  rw [(es v g1).1]
  obtain ⟨k',b',h',l',t',m',s',y',jf⟩:=v
  have g1:k'=k:=g1
  subst g1
  have hf:=((dm _).1 g5).2.1
  rcases hk with h | h | h | h <;> subst h <;> simp [Tree.cw,Tree.ff] at hf <;> simp [hf,cX]
end Bs
end Go.Eng
set_option maxRecDepth 20000
namespace Go.Eng
namespace Bs
theorem zd {dc:Dc} {b:bG} {d q z x:Nat} {v:Val} (h1:q≤z) (h2:z≤b.length) (h3:b.length≤1000000000):eI dc b 12 q z = .ok (v,x) ↔ vm d b 12 q z v x:=by
 have e:eI dc b 12 q z=if z - q<4 then .error (2,q) else match text b q z with
  | .error e => .error e
  | .ok (s,x)=>if z - x<12 then .error (2,x) else .ok ({ cX 12 with text:=s,bytes:=sub b x 12 },x+12):=rfl
 have eo:∀s y:bG,Tree.own { cX 12 with text:=s,bytes:=y }=0 ↔ dt.whole s=true∧y.length=12:=by
  intro s y
  rw [dm]
  have w0:dt.whole []=true:=rfl
  have hn:Tree.name 12≠[]:=by decide
  simp [Tree.cw,Tree.ff,cX,Tree.dw,w0,hn,and_comm]
 rw [e]
 constructor
 ·intro h
  by_cases c:z - q<4
  ·rw [ar c] at h;cases h
  rw [ak c] at h
  cases ht:text b q z with
  | error e=>rw [ht] at h;cases h
  | ok y =>
   obtain ⟨s,x'⟩:=y
   rw [ht] at h
   obtain ⟨c2,h⟩:=mO.1 h
   obtain ⟨rfl,rfl⟩:=Prod.mk.inj h
   obtain ⟨rfl,g2,g3,g4⟩:=(iC h1 h2 h3).1 ht
   have hl:(sub b (q+(s.length+5)) 12).length=12:=gI (by omega)
   refine ⟨rfl,?_,by omega,?_,(eo s _).2 ⟨g4,hl⟩,rfl,Nat.zero_le _⟩
   ·show _=q+(s.length+17);omega
   ·show At b q (fv s++sub b (q+(s.length+5)) 12)
    rw [At.app,fu];exact ⟨g3,kp rfl⟩
 ·rintro ⟨g1,rfl,g3,g4,g5,g6,g7⟩
  obtain ⟨k',b',h',l',t',m',s',y',jf⟩:=v
  have g1:k'=12:=g1
  subst g1
  have g3:q+(t'.length+17)≤z:=g3
  have g4:At b q (fv t'++y'):=g4
  rw [At.app,fu] at g4
  have hf:=((dm _).1 g5).2.1
  have hw:=((dm _).1 g5).2.2.1
  simp [Tree.cw,Tree.ff] at hf
  simp [Tree.dw] at hw
  rw [ak (by omega),(iC (s:=t') h1 h2 h3).2 ⟨rfl,by omega,g4.1,hw⟩]
  show (if z - (q+(t'.length+5))<12 then _ else _)=_
  rw [ak (by omega),g4.2.sub (by simp [hf])]
  simp [hf,cX];rfl
theorem BH {dc:Dc} {b:bG} {d q z x:Nat} {v:Val} (h1:q≤z) (h2:z≤b.length):eI dc b 11 q z = .ok (v,x) ↔ vm d b 11 q z v x:=by
 have e:eI dc b 11 q z=if z - q<0 then .error (2,q) else match ended b q z with
  | .error e => .error e
  | .ok (s,x)=>match ended b x z with
   | .error e => .error e
   | .ok (m,y) => .ok ({ cX 11 with text:=s,more:=m },y):=rfl
 have eo:∀s m:bG,Tree.own { cX 11 with text:=s,more:=m }=0 ↔ (dt.whole s=true∧dt.zero s=false)∧(dt.whole m=true∧dt.zero m=false):=by
  intro s m
  rw [dm]
  have hn:Tree.name 11≠[]:=by decide
  simp [Tree.cw,Tree.ff,cX,Tree.dw,hn]
 rw [e,ak (by omega)]
 constructor
 ·intro h
  cases ht:ended b q z with
  | error e=>rw [ht] at h;cases h
  | ok y =>
   obtain ⟨s,x'⟩:=y
   rw [ht] at h
   obtain ⟨rfl,g2,g3,g4⟩:=(gU h1 h2).1 (pC.1 ht)
   have h:(match ended b (q+(s.length+1)) z with
    | .error e => .error e
    | .ok (m,y) => .ok ({ cX 11 with text:=s,more:=m },y))=Except.ok (v,x):=h
   cases hu:ended b (q+(s.length+1)) z with
   | error e=>rw [hu] at h;cases h
   | ok y =>
    obtain ⟨m,y'⟩:=y
    rw [hu] at h
    obtain ⟨rfl,rfl⟩:=Prod.mk.inj (Except.ok.inj h)
    obtain ⟨rfl,i2,i3,i4⟩:=(gU g2 h2).1 (pC.1 hu)
    refine ⟨rfl,?_,i2,?_,(eo s m).2 ⟨g4,i4⟩,rfl,Nat.zero_le _⟩
    ·show _=q+(s.length+m.length+2);omega
    ·show At b q ((s++[0])++(m++[0]))
     rw [At.app]
     refine ⟨g3,?_⟩
     rw [al,aI];exact i3
 ·rintro ⟨g1,rfl,g3,g4,g5,g6,g7⟩
  obtain ⟨k',b',h',l',t',m',s',y',jf⟩:=v
  have g1:k'=11:=g1
  subst g1
  have g3:q+(t'.length+m'.length+2)≤z:=g3
  have g4:At b q ((t'++[0])++(m'++[0])):=g4
  rw [At.app,al,aI] at g4
  have hf:=((dm _).1 g5).2.1
  have hw:=((dm _).1 g5).2.2
  simp [Tree.cw,Tree.ff] at hf
  simp [Tree.dw] at hw
  rw [pC.2 ((gU (s:=t') h1 h2).2 ⟨rfl,by omega,g4.1,hw.1⟩)]
  show (match ended b (q+(t'.length+1)) z with | .error e=>_ | .ok (m,y)=>_)=_
  rw [pC.2 ((gU (s:=m') (q:=q+(t'.length+1)) (by omega) h2).2 ⟨rfl,by omega,g4.2,hw.2⟩)]
  show Except.ok _=Except.ok _
  rw [show q+(t'.length+1)+(m'.length+1)=q+(t'.length+m'.length+2) by omega]
  simp [hf,cX];rfl
theorem zf {dc:Dc} {b:bG} {d q z x:Nat} {v:Val} (h1:q≤z) (h2:z≤b.length) (h3:b.length≤1000000000):eI dc b 5 q z = .ok (v,x) ↔ vm d b 5 q z v x:=by
 have e:eI dc b 5 q z=if z - q<5 then .error (2,q) else match binary b q z with
  | .error e => .error e
  | .ok (s,y,x) => .ok ({ cX 5 with sub:=s,bytes:=y },x):=rfl
 have eo:∀(s:Int) (y:bG),Tree.own { cX 5 with sub:=s,bytes:=y }=0 ↔ 0≤s∧s≤255:=by
  intro s y
  rw [dm]
  have w0:dt.whole []=true:=rfl
  have hn:Tree.name 5≠[]:=by decide
  simp [Tree.cw,Tree.ff,cX,Tree.dw,w0,hn]
 rw [e]
 by_cases c:z - q<5
 ·rw [ar c]
  refine ⟨(fun h=>by cases h),?_⟩
  rintro ⟨g1,rfl,g3,g4,g5,g6,g7⟩
  obtain ⟨k',b',h',l',t',m',s',y',jf⟩:=v
  have g1:k'=5:=g1
  subst g1
  have g3:q+(if s'=2 then y'.length+9 else y'.length+5)≤z:=g3
  split at g3 <;> omega
 rw [ak c]
 constructor
 ·intro h
  cases ht:binary b q z with
  | error e=>rw [ht] at h;cases h
  | ok y =>
   obtain ⟨s,y,x'⟩:=y
   rw [ht] at h
   obtain ⟨rfl,rfl⟩:=Prod.mk.inj (Except.ok.inj h)
   obtain ⟨g1,g2,g3,g4⟩:=(nC (by omega) h2 h3).1 ht
   exact ⟨rfl,g1,g2,g3,(eo s y).2 g4,rfl,Nat.zero_le _⟩
 ·rintro ⟨g1,rfl,g3,g4,g5,g6,g7⟩
  obtain ⟨k',b',h',l',t',m',s',y',jf⟩:=v
  have g1:k'=5:=g1
  subst g1
  have hf:=((dm _).1 g5).2.1
  simp [Tree.cw,Tree.ff] at hf
  rw [(nC (s:=s') (y:=y') (by omega) h2 h3).2 ⟨rfl,g3,g4,by omega,by omega⟩]
  simp [hf,cX];rfl
def zo (dc:Dc) (d:Nat) (b:bG):Prop:=∀p z fO ks x,p≤z→z≤b.length→(dc b p z fO = .ok (ks,x) ↔ ID d b p z fO ks x)
theorem tJ {dc:Dc} {b:bG} {d q z x:Nat} {v:Val} {k:Int} (hk:k=3∨k=4) (hd:zo dc d b) (h1:q≤z) (h2:z≤b.length):eI dc b k q z = .ok (v,x) ↔ vm d b k q z v x:=by
 have e:eI dc b k q z=if z - q<0 then .error (2,q) else match dc b q z 0 with
  | .error e => .error e
  | .ok (l,x) => .ok ({ cX k with kids:=l },x):=by rcases hk with h | h <;> subst h <;> rfl
 have eo:∀l,Tree.own { cX k with kids:=l }=0:=by
  intro l
  have hn:Tree.name k≠[]:=by rcases hk with h | h <;> subst h <;> decide
  refine (dm _).2 ⟨hn,?_,?_,?_⟩
  ·rcases hk with h | h <;> subst h <;> simp [Tree.cw,Tree.ff,cX]
  ·rcases hk with h | h <;> subst h <;> rfl
  ·rcases hk with h | h <;> subst h <;> rfl
 have es:∀w:Val,w.kind=k→size (bq.of [] w)=bY w.kids+5∧enc (bq.of [] w)=fw w.kids∧Tree.depth (bq.of [] w)=Tree.eK w.kids+1:=by
  intro w hw
  obtain ⟨k',b',h',l',t',m',s',y',jf⟩:=w
  have hw:k'=k:=hw
  subst hw
  rcases hk with h | h <;> subst h <;> exact ⟨rfl,rfl,rfl⟩
 rw [e,ak (by omega)]
 constructor
 ·intro h
  cases ht:dc b q z 0 with
  | error e=>rw [ht] at h;cases h
  | ok y =>
   obtain ⟨l,x'⟩:=y
   rw [ht] at h
   obtain ⟨rfl,rfl⟩:=Prod.mk.inj (Except.ok.inj h)
   obtain ⟨g1,g2,g3,g4,g5,g6⟩:=(hd q z 0 l x' h1 h2).1 ht
   obtain ⟨e1,e2,e3⟩:=es { cX k with kids:=l } rfl
   exact ⟨rfl,by rw [e1];exact g1,g2,by rw [e2];exact g4,eo l,g5,by rw [e3];exact g6⟩
 ·rintro ⟨g1,rfl,g3,g4,g5,g6,g7⟩
  obtain ⟨e1,e2,e3⟩:=es v g1
  rw [e1] at g3 ⊢
  rw [e2] at g4
  rw [e3] at g7
  rw [(hd q z 0 v.kids (q+(bY v.kids+5)) h1 h2).2 ⟨rfl,g3,by omega,g4,g6,g7⟩]
  have ev:v={ cX k with kids:=v.kids }:=by
   obtain ⟨k',b',h',l',t',m',s',y',jf⟩:=v
   have g1:k'=k:=g1
   subst g1
   have hf:=((dm _).1 g5).2.1
   rcases hk with h | h <;> subst h <;> simp [Tree.cw,Tree.ff] at hf <;> simp [hf,cX]
  exact congrArg (fun w=>Except.ok (w,q+(bY v.kids+5))) ev.symm
theorem nq (l:List bq):(fw l).length=(dT l).length+5:=gg _
theorem vd {dc:Dc} {b:bG} {d q z x:Nat} {v:Val} (hd:zo dc d b) (hL:∀l,eW l=true→(dT l).length=bY l) (h1:q≤z) (h2:z≤b.length) (h3:b.length≤1000000000):eI dc b 15 q z = .ok (v,x) ↔ vm d b 15 q z v x:=by
 have e:eI dc b 15 q z=if z - q<4 then .error (2,q) else match (ei dc b q z).2 with
  | .error e => .error e
  | .ok (l,x) => .ok ({ cX 15 with text:=(ei dc b q z).1,kids:=l },x):=rfl
 have eo:∀(s:bG) l,Tree.own { cX 15 with text:=s,kids:=l }=0 ↔ dt.whole s=true:=by
  intro s l
  rw [dm]
  have w0:dt.whole []=true:=rfl
  have hn:Tree.name 15≠[]:=by decide
  simp [Tree.cw,Tree.ff,cX,Tree.dw,w0,hn]
 rw [e]
 constructor
 ·intro h
  by_cases c:z - q<4
  ·rw [ar c] at h;cases h
  rw [ak c] at h
  unfold ei mH at h
  by_cases c2:dy b q<14∨(z:Int) - q<dy b q
  ·rw [ar c2] at h;cases h
  rw [ak c2] at h
  have r4:=mL (b:=b) (p:=q) (by omega) (by omega)
  generalize dy b q=n at *
  cases ht:text b (q+4) (q+n.toNat) with
  | error e=>rw [ht] at h;cases h
  | ok y =>
   obtain ⟨s,y⟩:=y
   rw [ht] at h
   obtain ⟨g1,g2,g3,g4⟩:=(iC (by omega) (by omega) h3).1 ht
   have h:(match dc b y (q+n.toNat) 2 with
    | .error e => .error e
    | .ok (l,x) => .ok ({ cX 15 with text:=s,kids:=l },x))=Except.ok (v,x):=h
   cases hu:dc b y (q+n.toNat) 2 with
   | error e=>rw [hu] at h;cases h
   | ok w =>
    obtain ⟨l,x'⟩:=w
    rw [hu] at h
    obtain ⟨rfl,rfl⟩:=Prod.mk.inj (Except.ok.inj h)
    obtain ⟨i1,i2,i3,i4,i5,i6⟩:=(hd y (q+n.toNat) 2 l x' g2 (by omega)).1 hu
    have i3:=i3 (.inr rfl)
    have hl:=hL l i5
    refine ⟨rfl,?_,by omega,?_,(eo s l).2 g4,i5,i6⟩
    ·show _=q+(s.length+9+(bY l+5));omega
    ·show At b q (eU 4 ((fv s++ic (dT l)).length+4)++(fv s++ic (dT l)))
     rw [At.app,bV,At.app,al,fu,gg,show s.length+5+((dT l).length+5)+4=n.toNat by omega]
     exact ⟨r4,g3,by rw [←g1];exact i4⟩
 ·rintro ⟨g1,rfl,g3,g4,g5,g6,g7⟩
  obtain ⟨k',b',h',l',t',m',s',y',jf⟩:=v
  have g1:k'=15:=g1
  subst g1
  have g3:q+(t'.length+9+(bY jf+5))≤z:=g3
  have g6:eW jf=true:=g6
  have g4:At b q (eU 4 ((fv t'++ic (dT jf)).length+4)++(fv t'++ic (dT jf))):=g4
  have hl:=hL jf g6
  rw [At.app,bV,At.app,al,fu,gg,hl] at g4
  obtain ⟨i1,i2,i3⟩:=g4
  have hf:=((dm _).1 g5).2.1
  have hw:=((dm _).1 g5).2.2.1
  simp [Tree.cw,Tree.ff] at hf
  simp [Tree.dw] at hw
  have e1:=(iR (v:=t'.length+5+(bY jf+5)+4) (by omega) (by omega)).2 i1
  have es:ei dc b q z=(t',.ok (jf,q+(t'.length+9+(bY jf+5)))):=by
   unfold ei mH
   rw [e1,ak (by omega),aq,(iC (s:=t') (q:=q+4) (by omega) (by omega) h3).2 ⟨rfl,by omega,i2,hw⟩]
   show (t',dc b (q+4+(t'.length+5)) (q+(t'.length+5+(bY jf+5)+4)) 2)=_
   rw [(hd (q+4+(t'.length+5)) (q+(t'.length+5+(bY jf+5)+4)) 2 jf (q+(t'.length+9+(bY jf+5))) (by omega) (by omega)).2 ⟨by omega,by omega,fun _=>by omega,i3,g6,g7⟩]
  rw [ak (by omega),es]
  simp [hf,cX];rfl
theorem mY {k:Int} (h:Tree.name k≠[]):k∈Tree.kinds:=Classical.byContradiction fun g=>h (Tree.uu k g)
theorem vo {dc:Dc} {b:bG} {d:Nat} (hd:zo dc d b) (hL:∀l,eW l=true→(dT l).length=bY l) {q z x:Nat} {v:Val} {k:Int} (hk:Tree.name k≠[]) (h1:q≤z) (h2:z≤b.length) (h3:b.length≤1000000000):eI dc b k q z = .ok (v,x) ↔ vm d b k q z v x:=by
 have h:=mY hk
 simp only [Tree.kinds,aD,List.not_mem_nil,or_false] at h
 rcases h with h | h | h | h | h | h | h | h | h | h | h | h | h | h | h | h | h | h | h | h | h
 ·exact jU (.inl h) h1 h2
 ·exact nF (.inl h) h1 h2 h3
 ·exact tJ (.inl h) hd h1 h2
 ·exact tJ (.inr h) hd h1 h2
 ·subst h;exact zf h1 h2 h3
 ·exact kS (.inl h) h1
 ·subst h;exact BI h1 h2
 ·exact jU (.inr (.inr (.inr (.inr (.inr h))))) h1 h2
 ·exact jU (.inr (.inl h)) h1 h2
 ·exact kS (.inr (.inl h)) h1
 ·subst h;exact BH h1 h2
 ·subst h;exact zd h1 h2 h3
 ·exact nF (.inr (.inl h)) h1 h2 h3
 ·exact nF (.inr (.inr h)) h1 h2 h3
 ·subst h;exact vd hd hL h1 h2 h3
 ·exact jU (.inr (.inr (.inr (.inr (.inl h))))) h1 h2
 ·exact jU (.inr (.inr (.inl h))) h1 h2
 ·exact jU (.inr (.inr (.inr (.inl h)))) h1 h2
 ·subst h;exact ze h1 h2
 ·exact kS (.inr (.inr (.inl h))) h1
 ·exact kS (.inr (.inr (.inr h))) h1
end Bs
end Go.Eng
set_option maxRecDepth 20000
namespace Go.Eng
namespace Bs
mutual
theorem pD:∀f:bq,lX f=true→(enc f).length=size f
 | .mk n k b h l t m s y ks,hg=>by
  obtain ⟨ho,_,_,wz⟩:=(jL n ⟨k,b,h,l,t,m,s,y,ks⟩).1 hg
  have hy:k=7∨k=12→y.length=12:=by
   have hf:=((dm _).1 ho).2.1
   rintro (g | g) <;> subst g <;> simp [Tree.cw,Tree.ff] at hf <;> simp [hf]
  have hl:=gf ks wz
  unfold enc size
  by_cases c:gK k=true
  ·rw [ar c,ar c];exact bV _ _
  rw [ak c,ak c]
  by_cases c:k=16
  ·rw [ar c,ar c];exact bV _ _
  rw [ak c,ak c]
  by_cases c:k=8
  ·rw [ar c,ar c];exact bV _ _
  rw [ak c,ak c]
  by_cases c:k=19
  ·rw [ar c,ar c,al,bV,bV]
  rw [ak c,ak c]
  by_cases c:gn k=true
  ·rw [ar c,ar c];exact fu _
  rw [ak c,ak c]
  by_cases c:k=11
  ·rw [ar c,ar c];simp only [al,aI];omega
  rw [ak c,ak c]
  by_cases c:k=5
  ·rw [ar c,ar c];unfold nQ;split <;> simp only [al,aK,bV] <;> omega
  rw [ak c,ak c]
  by_cases c:k=7
  ·rw [ar c,ar c];exact hy (.inl c)
  rw [ak c,ak c]
  by_cases c:k=12
  ·rw [ar c,ar c,al,fu,hy (.inr c)]
  rw [ak c,ak c]
  by_cases c:k=3∨k=4
  ·rw [ar c,ar c,gg,hl]
  rw [ak c,ak c]
  by_cases c:k=15
  ·rw [ar c,ar c];unfold nR;rw [al,bV,al,fu,gg,hl];omega
  rw [ak c,ak c];rfl
theorem gf:∀l:List bq,eW l=true→(dT l).length=bY l
 | [],_=>rfl
 | f :: r,hg=>by
  have hg:(lX f&&eW r)=true:=hg
  rw [ae] at hg
  unfold dT bY
  have:=pD f hg.1
  have:=gf r hg.2
  simp only [aK,al,aO];omega
end
theorem sj (f:bq):bq.of f.name f.val=f:=by cases f;rfl
theorem Br (n:bG) (v:Val):enc (bq.of n v)=enc (bq.of [] v):=by cases v;simp only [bq.of,enc]
theorem ya (n:bG) (v:Val):size (bq.of n v)=size (bq.of [] v):=by cases v;simp only [bq.of,size]
theorem nu (n:bG) (v:Val):Tree.depth (bq.of n v)=Tree.depth (bq.of [] v):=by cases v;simp only [bq.of,Tree.depth]
theorem Dw {k:Int} (h:Tree.name k≠[]):((UInt8.ofInt k).toNat:Int)=k∧UInt8.ofInt k≠0:=by
 have:∀k∈Tree.kinds,((UInt8.ofInt k).toNat:Int)=k∧UInt8.ofInt k≠0:=by decide
 exact this k (mY h)
theorem G1 {b:bG} {p:Nat} {c:UInt8} {s e r:bG}:At b p ([c]++((s++[0])++e++r)) ↔ At b p [c]∧At b (p+1) (s++[0])∧At b (p+1+(s.length+1)) e∧At b (p+1+(s.length+1)+e.length) r:=by
 rw [At.app,At.app,At.app]
 simp only [al,aK,aO,Nat.zero_add,and_assoc,Nat.add_assoc]
theorem mq {vl:Int→Nat→Nat→Except E (Val × Nat)} {b:bG} {d z:Nat} (hz:z<b.length) (hv:∀k q v x,Tree.name k≠[]→q≤z→(vl k q z = .ok (v,x) ↔ vm d b k q z v x)) :
  ∀(n at_:Nat) (acc l:List bq) (y:Nat),at_≤z→z - at_<n→(rJ vl b z n at_ acc = .ok (l,y) ↔ y=z+1∧b.getD z 0=0∧∃r,l=acc++r∧z=at_+(dT r).length∧At b at_ (dT r)∧eW r=true∧Tree.eK r≤d)
 | 0,at_,acc,l,y,h1,h2=>by omega
 | n+1,at_,acc,l,y,h1,h2=>by
  unfold rJ
  by_cases c:at_=z
  ·rw [ar c,mO]
   constructor
   ·rintro ⟨g1,g2⟩
    obtain ⟨rfl,rfl⟩:=Prod.mk.inj g2
    exact ⟨rfl,by simpa using g1,[],by simp,by simp [dT,c],rfl,rfl,Nat.zero_le _⟩
   ·rintro ⟨rfl,g2,r,rfl,g4,g5,g6,g7⟩
    have:r=[]:=by
     cases r with
     | nil=>rfl
     | cons f r=>simp only [dT,aK] at g4;omega
    subst this
    exact ⟨by simpa using g2,by simp⟩
  rw [ak c]
  have De:((at_:Int)+1)=((at_+1:Nat):Int):=by omega
  show (if b.getD at_ 0=0 then _ else if Tree.name ((b.getD at_ 0).toNat:Int)=[] then _ else if (ctext (b.take z) ((at_:Int)+1)).2.2≠0 then _ else match vl ((b.getD at_ 0).toNat:Int) (ctext (b.take z) ((at_:Int)+1)).2.1.toNat z with
   | .error e => .error e
   | .ok (v,x)=>rJ vl b z n x (acc++[bq.of (ctext (b.take z) ((at_:Int)+1)).1 v]))=Except.ok (l,y) ↔ _
  rw [De]
  constructor
  ·intro h
   by_cases c1:b.getD at_ 0=0
   ·rw [ar c1] at h;cases h
   rw [ak c1] at h
   by_cases c2:Tree.name ((b.getD at_ 0).toNat:Int)=[]
   ·rw [ar c2] at h;cases h
   rw [ak c2] at h
   by_cases c3:(ctext (b.take z) ((at_+1:Nat):Int)).2.2≠0
   ·rw [ar c3] at h;cases h
   rw [ak c3] at h
   have c3:(ctext (b.take z) ((at_+1:Nat):Int)).2.2=0:=Classical.byContradiction c3
   have IK:0≤(ctext (b.take z) ((at_+1:Nat):Int)).2.1:=by
    obtain ⟨_,k,_,_,_,k1,_⟩:=hU c3;omega
   obtain ⟨g1,g2,g3,g4,g5⟩:=(gU (s:=(ctext (b.take z) ((at_+1:Nat):Int)).1) (x:=(ctext (b.take z) ((at_+1:Nat):Int)).2.1.toNat) (by omega) (by omega)).1 ⟨c3,rfl,by omega⟩
   generalize (ctext (b.take z) ((at_+1:Nat):Int)).1=s at *
   generalize (ctext (b.take z) ((at_+1:Nat):Int)).2.1.toNat=x0 at *
   cases hx:vl ((b.getD at_ 0).toNat:Int) x0 z with
   | error e=>rw [hx] at h;cases h
   | ok w =>
    obtain ⟨v,x⟩:=w
    rw [hx] at h
    obtain ⟨i1,i2,i3,i4,i5,i6,i7⟩:=(hv _ x0 v x c2 g2).1 hx
    obtain ⟨j1,j2,r,j3,j4,j5,j6,j7⟩:=(mq hz hv n x _ l y i3 (by omega)).1 h
    have hg:lX (bq.of s v)=true:=(jL s v).2 ⟨i5,g4,g5,i6⟩
    have hl:=pD (bq.of s v) hg
    rw [ya] at hl
    refine ⟨j1,j2,bq.of s v :: r,by rw [j3,aC];rfl,?_,?_,?_,?_⟩
    ·simp only [dT,aK,al]
     rw [hl,show (bq.of s v).name=s from rfl];simp only [aO];omega
    ·show At b at_ ([UInt8.ofInt v.kind]++((s++[0])++enc (bq.of s v)++dT r))
     rw [G1,hl]
     refine ⟨(at_one (by omega)).2 ?_,g3,?_,?_⟩
     ·rw [i1,iN,UInt8.ofNat_toNat]
     ·rw [←g1,Br];exact i4
     ·rw [show at_+1+(s.length+1)+size (bq.of [] v)=x by omega];exact j5
    ·show (lX (bq.of s v)&&eW r)=true
     rw [hg,j6];rfl
    ·show max (Tree.depth (bq.of s v)) (Tree.eK r)≤d
     rw [nu];omega
  ·rintro ⟨rfl,g2,r,rfl,g4,g5,g6,g7⟩
   cases r with
   | nil=>simp only [dT,aO] at g4;omega
   | cons f r =>
    have g6:(lX f&&eW r)=true:=g6
    rw [ae] at g6
    have g7:max (Tree.depth f) (Tree.eK r)≤d:=g7
    have hl:=pD f g6.1
    have hs:(bq.of f.name f.val).kind=f.kind:=by rw [sj]
    have g5:At b at_ ([UInt8.ofInt f.kind]++((f.name++[0])++enc f++dT r)):=g5
    have g4:z=at_+(UInt8.ofInt f.kind :: ((f.name++[0])++enc f++dT r)).length:=g4
    rw [G1,hl] at g5
    simp only [aK,al,aO] at g4
    have uI:=g6.1
    rw [←sj f,jL] at uI
    obtain ⟨o1,o2,o3,o4⟩:=uI
    have o2:dt.whole f.name=true:=o2
    have o3:dt.zero f.name=false:=o3
    have hn:Tree.name f.kind≠[]:=((dm _).1 o1).1
    obtain ⟨k1,k2⟩:=Dw hn
    obtain ⟨p1,p2,p3,p4⟩:=g5
    have e1:=(at_one (by omega)).1 p1
    obtain ⟨m1,m2,m3⟩:=(gU (b:=b) (q:=at_+1) (z:=z) (x:=at_+1+(f.name.length+1)) (by omega) (by omega)).2 ⟨rfl,by omega,p2,o2,o3⟩
    rw [e1,ak k2,k1,ak hn,m1,ak (by simp),m2,m3,aq]
    have jX:size (bq.of [] f.val)=size f:=qh f
    rw [(hv f.kind (at_+1+(f.name.length+1)) f.val (at_+1+(f.name.length+1)+size (bq.of [] f.val)) hn (by omega)).2 ⟨rfl,rfl,by omega,by rw [tB];exact p3,o1,o4,by rw [Tree.oE];omega⟩]
    show rJ vl b z n (at_+1+(f.name.length+1)+size (bq.of [] f.val)) (acc++[bq.of f.name f.val])=_
    rw [sj]
    refine (mq hz hv n _ _ _ _ (by omega) (by omega)).2 ⟨rfl,g2,r,by rw [aC];rfl,by omega,?_,g6.2,by omega⟩
    rw [jX];exact p4
theorem mu {b:bG} (h3:b.length≤1000000000):∀d,zo (doc d) d b
 | 0,p,z,fO,ks,x,h1,h2=>by
  constructor
  ·intro h;cases h
  ·rintro ⟨_,_,_,_,_,h⟩;omega
 | d+1,p,z,fO,ks,x,h1,h2=>by
  have hd:=mu h3 d
  have hv:=fun (w:Nat) (hw:w≤b.length) k q v x (hk:Tree.name k≠[]) (hq:q≤w)=>@vo (doc d) b d hd gf q w x v k hk hq hw h3
  unfold doc
  constructor
  ·intro h
   by_cases c:z - p<4
   ·rw [ar c] at h;cases h
   rw [ak c] at h
   unfold wU at h
   by_cases c1:dy b p<5∨(z:Int) - p<dy b p∨(fO=2∧(p:Int)+dy b p≠z)
   ·rw [ar c1] at h;cases h
   rw [ak c1] at h
   by_cases c2:fO=1∧(p:Int)+dy b p<z
   ·rw [ar c2] at h;cases h
   rw [ak c2] at h
   have r4:=mL (b:=b) (p:=p) (by omega) (by omega)
   generalize dy b p=n at *
   obtain ⟨g1,g2,r,g3,g4,g5,g6,g7⟩:=(mq (d:=d) (by omega) (hv (p+n.toNat - 1) (by omega)) n.toNat (p+4) [] ks x (by omega) (by omega)).1 h
   rw [bf] at g3
   subst g3
   have hl:=gf ks g6
   refine ⟨by omega,by omega,fun _=>by omega,?_,g6,by omega⟩
   show At b p (eU 4 ((dT ks).length+5)++(dT ks++[0]))
   rw [At.app,At.app,bV,show (dT ks).length+5=n.toNat by omega]
   refine ⟨r4,g5,(at_one (by omega)).2 ?_⟩
   rw [show p+4+(dT ks).length=p+n.toNat - 1 by omega];exact g2
  ·rintro ⟨rfl,g2,g3,g4,g5,g6⟩
   have hl:=gf ks g5
   have g4:At b p (eU 4 ((dT ks).length+5)++(dT ks++[0])):=g4
   rw [At.app,At.app,bV,hl] at g4
   obtain ⟨i1,i2,i3⟩:=g4
   have e1:=(iR (v:=bY ks+5) (by omega) (by omega)).2 i1
   rw [ak (by omega),e1]
   unfold wU
   rw [ak (by rintro (h | h | h);omega;omega;exact h.2 (by have:=g3 (.inr h.1);omega)),ak (fun h=>by have:=g3 (.inl h.1);omega),aq]
   refine (mq (d:=d) (by omega) (hv _ (by omega)) _ _ _ _ _ (by omega) (by omega)).2 ⟨by omega,?_,ks,rfl,by omega,i2,g5,by omega⟩
   have:=(at_one (by omega)).1 i3
   rw [show p+(bY ks+5) - 1=p+4+bY ks by omega];exact this
theorem km {b:bG} {l:Lim} {ks:List bq} (h3:b.length≤1000000000):decode b l = .ok ks ↔ may l=true∧(b.length:Int)≤l.size∧b=fw ks∧eW ks=true∧(Tree.eK ks:Int)+1≤l.depth:=by
 unfold decode
 cases hm:may l with
 | false=>rw [ar rfl];exact ⟨(fun h=>by cases h),fun h=>by cases h.1⟩
 | true =>
  have hd:1≤l.depth:=(au hm).1
  rw [ak (by simp)]
  by_cases c:l.size<(b.length:Int)
  ·rw [ar c];exact ⟨(fun h=>by cases h),fun h=>by omega⟩
  rw [ak c]
  have hi:=fun x=>mu h3 l.depth.toNat 0 b.length 1 ks x (Nat.zero_le _) (Nat.le_refl _)
  constructor
  ·intro h
   cases hx:doc l.depth.toNat b 0 b.length 1 with
   | error e=>rw [hx] at h;cases h
   | ok w =>
    obtain ⟨jf,x⟩:=w
    rw [hx] at h
    have h:jf=ks:=Except.ok.inj h
    subst h
    obtain ⟨g1,g2,g3,g4,g5,g6⟩:=(hi x).1 hx
    have g3:=g3 (.inl rfl)
    have hl:=gf jf g5
    have Fc:=nq jf
    refine ⟨rfl,by omega,?_,g5,by omega⟩
    have g4:(b.drop 0).take (fw jf).length=fw jf:=g4
    rw [aR,List.take_of_length_le (by omega)] at g4
    exact g4
  ·rintro ⟨_,g2,g3,g4,g5⟩
   have hl:=gf ks g4
   have Fc:=nq ks
   have hb:b.length=bY ks+5:=by rw [g3,Fc,hl]
   rw [(hi b.length).2 ⟨by omega,Nat.le_refl _,fun _=>rfl,by show (b.drop 0).take (fw ks).length=fw ks;rw [←g3,aR,List.take_length],g4,by omega⟩]
end Bs
end Go.Eng
namespace Go.Eng
structure LimTys (P:Program) (tl ti:TypeId):Prop where
 l:fieldsOf P tl=some [(ti,0),(ti,1),(ti,2)]
 i:P.underlying ti=some (.int .i64)
 cl:P.cellsOf tl=3
 ci:P.cellsOf ti=1
theorem LimTys.CL {P:Program} {tl ti:TypeId} (T:LimTys P tl ti) (n:Nat):iw P n tl Lim Lim.cells:=by
 obtain ⟨fs,h1,h2⟩:=iA T.l
 have R:=fun (k:Nat) (hk:k<n)=>(eL (off:=0) T.ci (iF T.i) (eL T.ci (iF T.i) (eL T.ci (iF T.i) oY)):ia P k _ 0 _ _)
 exact iU h1 h2 (by simp [T.cl,T.ci]) R (fun a=>(⟨a.1,a.2.1,a.2.2.1⟩:Lim)) (fun a=>rfl)
theorem LimTys.rep {P:Program} {tl ti:TypeId} (T:LimTys P tl ti) {H:Type} {enc:TypeId × Value→H} {w:World} {base:Nat} {spare:Nat→Bool} {held:Bool} {cs:Array Value} {d:DataW H} {p:List MemPlace} (h:DataW.Trod enc P w base spare held tl (.agg cs) d p) :
  ∃v:Lim,Rep (Old w) w (.ag (Lim.cells v)) (.agg cs):=by
 obtain ⟨n,h⟩:=h
 obtain ⟨v,hv⟩:=T.CL n H enc w base spare held _ _ h
 exact ⟨v,.ag (by simpa [Value.cells] using hv)⟩
end Go.Eng
set_option maxRecDepth 20000
namespace Go.Eng
open Go.IntWalk
namespace Bs
mutual
theorem u6:∀f:bq,lX f=true→bq.bS f≤size f+f.name.length+2
 | .mk n k b h l t m s y ks,hg=>by
  obtain ⟨ho,_,_,wz⟩:=(jL n ⟨k,b,h,l,t,m,s,y,ks⟩).1 hg
  have hl:=jC ks wz
  have hn:=mY ((dm _).1 ho).1
  have hf:=((dm _).1 ho).2.1
  simp only [Tree.kinds,aD,List.not_mem_nil,or_false] at hn
  have hb:bq.bS (.mk n k b h l t m s y ks)=1+n.length+t.length+m.length+y.length+bq.bU ks:=rfl
  have hz:size (.mk n k b h l t m s y ks)=_:=size.eq_1 n k b h l t m s y ks
  have hm:(bq.mk n k b h l t m s y ks).name=n:=rfl
  rw [hb,hz,hm]
  rcases hn with g | g | g | g | g | g | g | g | g | g | g | g | g | g | g | g | g | g | g | g | g <;> subst g <;> simp [Tree.cw,Tree.ff] at hf <;> simp [gK,gn,hf] <;> (try split) <;> (try simp [hf,bq.bU] at hl ⊢) <;> omega
theorem jC:∀l:List bq,eW l=true→bq.bU l≤bY l
 | [],_=>Nat.le_refl _
 | f :: r,hg=>by
  have hg:(lX f&&eW r)=true:=hg
  rw [ae] at hg
  have h1:=u6 f hg.1
  have h2:=jC r hg.2
  show bq.bS f+bq.bU r≤f.name.length+2+size f+bY r
  omega
end
def nr (ks:List bq):Val:=⟨3,0,0,0,[],[],0,[],ks⟩
theorem yn (ks:List bq):Tree.own (nr ks)=0:=by
 refine (dm _).2 ⟨show Tree.name 3≠[] by decide,?_,by rfl,by rfl⟩
 simp [Tree.cw,Tree.ff,nr]
theorem wD (ks:List bq):lX (bq.of [] (nr ks))=true ↔ eW ks=true:=by
 rw [jL]
 exact ⟨fun h=>h.2.2.2,fun h=>⟨yn ks,by rfl,by rfl,h⟩⟩
theorem tF (ks:List bq):(Tree.fC (bq.of [] (nr ks)) []).2=0 ↔ eW ks=true:=(nh _ _).trans (wD ks)
theorem np {v:Val} {b:bG}:((encode v).2.1=0∧(encode v).1=b) ↔ ∃ks,v=nr ks∧eW ks=true∧bY ks+5≤16777216∧b=fw ks:=by
 unfold encode
 constructor
 ·rintro ⟨h1,h2⟩
  by_cases c:(Tree.fC (bq.of [] v) []).2≠0
  ·rw [ar c] at h1;exact absurd h1 c
  rw [ak c] at h1 h2
  by_cases c2:v.kind≠3
  ·rw [ar c2] at h1;cases h1
  rw [ak c2] at h1 h2
  by_cases c3:16777216<size (bq.of [] v)
  ·rw [ar c3] at h1;cases h1
  rw [ak c3] at h2
  have hk:v.kind=3:=Classical.byContradiction c2
  have hg:=(nh _ _).1 (Classical.byContradiction c)
  obtain ⟨k',b',h',l',t',m',s',y',jf⟩:=v
  have hk:k'=3:=hk
  subst hk
  obtain ⟨ho,_,_,wz⟩:=(jL _ _).1 hg
  have hf:=((dm _).1 ho).2.1
  simp [Tree.cw,Tree.ff] at hf
  have hs:size (bq.of [] ⟨3,b',h',l',t',m',s',y',jf⟩)=bY jf+5:=rfl
  exact ⟨jf,by simp [nr,hf],wz,by omega,h2.symm⟩
 ·rintro ⟨ks,rfl,g1,g2,rfl⟩
  have hs:size (bq.of [] (nr ks))=bY ks+5:=rfl
  rw [ak (fun h=>h ((tF ks).2 g1)),ak (fun h=>h rfl),ak (by omega)]
  exact ⟨rfl,rfl⟩
theorem nn {ks:List bq} {l:Lim}:fits (nr ks) l=0 ↔ may l=true∧(Tree.eK ks:Int)+1≤l.depth∧(bY ks:Int)+5≤l.size:=by
 have hs:size (bq.of [] (nr ks))=bY ks+5:=rfl
 have hd:Tree.depth (bq.of [] (nr ks))=Tree.eK ks+1:=rfl
 unfold fits
 cases hm:may l with
 | false=>rw [ar rfl];exact ⟨fun h=>absurd h (by decide),fun h=>by cases h.1⟩
 | true =>
  rw [ak (by simp),ak (fun h=>h rfl),hs,hd]
  by_cases c:l.depth<((Tree.eK ks+1:Nat):Int)
  ·rw [ar c];exact ⟨fun h=>absurd h (by decide),fun h=>by omega⟩
  rw [ak c]
  by_cases c2:l.size<((bY ks+5:Nat):Int)
  ·rw [ar c2];exact ⟨fun h=>absurd h (by decide),fun h=>by omega⟩
  rw [ak c2]
  exact ⟨fun _=>⟨rfl,by omega,by omega⟩,fun _=>rfl⟩
theorem ja {ks:List bq} (h:eW ks=true):(fw ks).length=bY ks+5:=by rw [nq,gf ks h]
theorem wR {a b:List bq} (ha:eW a=true) (hb:eW b=true) (hl:(fw a).length≤1000000000) (h:fw a=fw b):a=b:=by
 have e1:=(mu hl (Tree.eK a+1+(Tree.eK b+1)) 0 (fw a).length 0 a (fw a).length (Nat.zero_le _) (Nat.le_refl _)).2 ⟨by have:=ja ha;omega,Nat.le_refl _,fun _=>rfl,by show ((fw a).drop 0).take (fw a).length=_;rw [aR,List.take_length],ha,by omega⟩
 have e2:=(mu hl (Tree.eK a+1+(Tree.eK b+1)) 0 (fw a).length 0 b (fw a).length (Nat.zero_le _) (Nat.le_refl _)).2 ⟨by have:=ja hb;rw [h];omega,Nat.le_refl _,fun _=>rfl,by show ((fw a).drop 0).take (fw b).length=_;rw [h,aR,List.take_length],hb,by omega⟩
 rw [e1] at e2
 exact (Prod.mk.inj (Except.ok.inj e2)).1
theorem oF {b:bG} {l:Lim} {e:Int} {a:Nat} (h:decode b l = .error (e,a)):e≠0∧a≤b.length:=by
 unfold decode at h
 by_cases c:may l=false
 ·rw [ar c] at h;cases h;exact ⟨by decide,Nat.zero_le _⟩
 rw [ak c] at h
 by_cases c2:l.size<(b.length:Int)
 ·rw [ar c2] at h;cases h;exact ⟨by decide,Nat.zero_le _⟩
 rw [ak c2] at h
 have hr:=jP b l.depth.toNat 0 b.length 1 (Nat.zero_le _) (Nat.le_refl _)
 cases hx:doc l.depth.toNat b 0 b.length 1 with
 | error p=>rw [hx] at h;cases h;exact hr.1 e a hx
 | ok w=>rw [hx] at h;cases h
end Bs
theorem TopJust.goal (b:List UInt8) (l:Lim) (other:Val):TopJust.F b l other=some [.b true]:=by
 refine TopJust.dq _ _ _ ?_
 intro v1 h1 v2 h2 v3 h3 v4 h4 v5 h5 v6 h6 v7 h7 v8 h8 v9 h9 v10 kL v11 uK v12 Dn lR Ei oQ Eh xH Eg rD FC
 have t1:∀c:Bool,(!c || c)=true:=fun c=>by cases c <;> rfl
 have t2:∀c:Bool,(!(!c) || (!c))=true:=fun c=>by cases c <;> rfl
 have t3:∀c:Bool,(c || (!c))=true:=fun c=>by cases c <;> rfl
 have t4:∀c:Bool,(!c || (c&&c))=true:=fun c=>by cases c <;> rfl
 rw [aN,af,bw (t2 _),bw (t2 _),bw (t3 _)]
 by_cases c1:(2000:Int)<(b.length:Int)
 ·rw [h1,aa c1];rfl
 by_cases c2:¬0≤dr.value 1200 (bq.of [] other)
 ·rw [h1,ab c1,af,ab c2];rfl
 have c2:0≤dr.value 1200 (bq.of [] other):=Classical.byContradiction c2
 have hb:=dr.rN other c2
 rw [h1,ab c1,af,aa c2,aN,af,bw (aa (by omega)),bw (aa (by omega)),bw (t1 _),bw (t1 _),bw (t4 _),bw (t1 _)]
 have hlen:b.length≤1000000000:=by omega
 have q3:v3=true ↔ (Bs.encode other).2.1=0∧(Bs.encode other).1=b:=by
  rw [h3,h2]
  show cond (decide ((Bs.encode other).2.1=0)) (decide ((Bs.encode other).1=b)) false=true ↔ _
  by_cases g:(Bs.encode other).2.1=0
  ·rw [aa g,ao,decide_eq_true_iff];exact ⟨fun h=>⟨g,h⟩,fun h=>h.2⟩
  ·rw [ab g,af];exact ⟨(fun h=>by cases h),fun h=>absurd h.1 g⟩
 cases hv:v3 with
 | true =>
  obtain ⟨ks,e1,e2,e3,e4⟩:=Bs.np.1 (q3.1 hv)
  rw [ao,bw (aa (by omega))]
  have hs:=Bs.ja e2
  by_cases f:Bs.fits other l=0
  ·rw [aa f,aN,af]
   rw [e1,Bs.nn] at f
   have hd:=(Bs.km (ks:=ks) hlen).2 ⟨f.1,by rw [e4,hs];omega,e4,e2,f.2.1⟩
   rw [hd] at h4 h5
   have q4:v4=0:=h4
   have q5:v5=true:=by rw [h5];exact (Tree.jj _ _).2 e1.symm
   rw [hd,bw (by
    have:decide (bq.bS (bq.of [] (Bs.jA (.ok ks)))≤1099511627776)=true:=aa (by
     show bq.bS (bq.of [] (Bs.nr ks))≤_
     rw [←e1];omega)
    rw [this];cases decide (v4=0) <;> rfl),bw (t1 _),h6,q4,q5];rfl
  ·have q4:¬v4=0:=by
    intro q4
    cases hd:Bs.decode b l with
    | error p =>
     obtain ⟨e,a⟩:=p
     rw [hd] at h4
     exact (Bs.oF hd).1 (h4.symm.trans q4)
    | ok jf =>
     obtain ⟨g1,g2,g3,g4,g5⟩:=(Bs.km hlen).1 hd
     have:=Bs.wR g4 e2 (by rw [←g3];exact hlen) (by rw [←g3,←e4])
     subst this
     refine f ?_
     rw [e1,Bs.nn]
     exact ⟨g1,g5,by rw [e4,hs] at g2;omega⟩
   rw [ab f,aS,ao,ab q4];rfl
 | false =>
  rw [af]
  cases hd:Bs.decode b l with
  | error p =>
   obtain ⟨e,a⟩:=p
   obtain ⟨g1,g2⟩:=Bs.oF hd
   rw [hd] at h4 h7
   have q4:v4=e:=h4
   have q7:v7=(a:Int):=h7
   rw [ab (show ¬v4=0 by rw [q4];exact g1),aS,ao,bw (t1 _),bw (t1 _),bw (t4 _),bw (t1 _),h8,q7,aa (show (0:Int)≤(a:Int) by omega),ao,aa (show (a:Int)≤(b.length:Int) by omega)]
  | ok ks =>
   obtain ⟨g1,g2,g3,g4,g5⟩:=(Bs.km hlen).1 hd
   have hs:=Bs.ja g4
   rw [←g3] at hs
   have IW:=Bs.jC ks g4
   have uJ:bq.bS (bq.of [] (Bs.jA (.ok ks)))=1+bq.bU ks:=by
    show 1+0+0+0+0+bq.bU ks=_
    omega
   rw [hd] at h4 h5 h9 kL Dn Eg
   have q4:v4=0:=h4
   have he:=Bs.np.2 ⟨ks,rfl,g4,by omega,g3⟩
   have q9:v9=b:=by rw [h9];exact he.2
   have Aq:cD.err v10=0:=by rw [kL];exact he.1
   have Hn:v12=0:=by rw [Dn];exact (Bs.tF ks).2 g4
   have Gc:lR=true:=by rw [Ei,aa Aq,ao,aa q9]
   have Gb:oQ=true:=by rw [Eh,Gc,ao,aa Hn]
   have Hm:xH=0:=by rw [Eg];exact Bs.nn.2 ⟨g1,g5,by omega⟩
   have Hl:rD=true:=by rw [FC,Gb,ao,aa Hm]
   have q5:v5=false:=by
    rw [h5]
    cases AP:Tree.same (Bs.jA (.ok ks)) other with
    | false=>rfl
    | true =>
     have e:=(Tree.jj _ _).1 AP
     have:v3=true:=q3.2 (by rw [←e];exact he)
     rw [hv] at this;cases this
   rw [q4,Gc,Gb,Hl,q5,uJ,aa (show 1+bq.bU ks≤10000000000 by omega),aa (show 1+bq.bU ks≤1099511627776 by omega),aa (show 1+bq.bU ks≤1000000000000 by omega)]
   rw [show decide ((0:Int)=0)=true from rfl,aN,af,eu,eu,bw (t1 _),bw (t1 _),bw (t4 _),bw (t1 _)];rfl
end Go.Eng
set_option maxRecDepth 20000
namespace Go.Eng
open Go.Proofs
variable {ee:Errs}
theorem TopJust.ok:bD PG (cnGl ee) 3 (TopJust.c,TopJust.sg):=meets bW (all_cons fp.ok (all_cons cK.ok (all_cons df.ok (all_cons db.ok (all_cons dX.ok (all_cons bK.ok (all_cons cA.ok all_nil))))))) TopJust.h (fits fun ins=>by unfold TopJust.c;split;exact TopJust.goal _ (.mk _ _ _) (.mk _ _ _ _ _ _ _ _ _);trivial)
end Go.Eng
namespace Go.Eng
def ff (f:Nat):List Nat→Bool
 | []=>false
 | g :: r=>cond (Nat.beq g f) true (ff f r)
theorem Nat.kn {a b:Nat} (h:¬a=b):Nat.beq a b=false:=by
 cases e:Nat.beq a b with
 | false=>rfl
 | true=>exact absurd (aj e) h
theorem tn (f:Nat):∀l:List Nat,l.contains f=ff f l
 | []=>rfl
 | g :: r=>by
  rw [List.contains_cons,tn f r]
  show _=cond (Nat.beq g f) true (ff f r)
  by_cases h:g=f
  ·subst h;simp
  ·rw [Nat.kn h,show (f == g)=false from by simpa using fun e=>h e.symm,Bool.false_or,af]
def sy (vx:List (List Nat)):Nat→List Nat→List Nat→List Nat
 | 0,_,seen=>seen.reverse
 | _,[],seen=>seen.reverse
 | n+1,f :: todo,seen=>cond (ff f seen) (sy vx n todo seen) (sy vx n (vx.getD f []++todo) (f :: seen))
theorem pH {P:Program} {vx:List (List Nat)} (h:∀f,(P.funcs[f]?).elim [] P.leadsTo=vx.getD f []):∀(n:Nat) (todo seen:List Nat),P.closureVia n todo seen=sy vx n todo seen
 | 0,_,_=>by unfold Program.closureVia sy;rfl
 | n+1,[],_=>by unfold Program.closureVia sy;rfl
 | n+1,f :: todo,seen=>by
  unfold Program.closureVia sy
  rw [tn f seen]
  cases ff f seen with
  | true=>rw [ar rfl,ao];exact pH h n todo seen
  | false=>rw [ak (by simp),af,h f];exact pH h n _ _
theorem Bx {P:Program} {vx:List (List Nat)} (h:P.funcs.toList.map P.leadsTo=vx) (f:Nat):P.closure f=sy vx (1+(vx.map fun l=>l.length+1).sum) [f] []:=by
 have h1:∀f,(P.funcs[f]?).elim [] P.leadsTo=vx.getD f []:=fun f=>by
  rw [←h,ai,ba,Array.getElem?_toList]
  cases P.funcs[f]? <;> rfl
 unfold Program.closure
 rw [pH h1,←h,List.map_map];rfl
theorem uL {P:Program} (h:P.funcs.any Func.goes=false) (f:Nat):P.goes f=false:=by
 unfold Program.goes
 rw [h,Bool.and_false,Bool.or_false,List.any_eq_false]
 intro g _
 cases hg:P.funcs[g]? with
 | none=>simp
 | some fn =>
  have hs:=Array.getElem?_eq_some_iff.1 hg
  obtain ⟨hl,he⟩:=hs
  have:=Array.any_eq_false.1 h g hl
  rw [he] at this
  simpa using this
theorem goesBy_none {P:Program} {c:OpenClaim} (h:P.funcs.any Func.goes=false) (hs:c.start = .entering):false=c.goesBy P:=by
 unfold OpenClaim.goesBy Program.goesAt Program.goesFrom
 rw [hs]
 cases P.funcNamed c.func with
 | none=>rfl
 | some f=>rw [Option.any_some,uL h];rfl
end Go.Eng
namespace Go.Eng
open Go.Proofs
set_option maxRecDepth 100000
def yx:List (List Nat):=[[],[],[1],[6,7,8,9,10,11,9,12,10,11],[13,14,15,16,15,15,15,17,15],[13,7,18,19,20,14,21,16,16,17],[20,22,20,22,20,22],[23],[24,25],[12,26,27,28,29],[24,30,26],[31,11],[32],[20,14,16,16,15],[24],[],[33,34,34,22,35],[34],[36,18],[37,38,39],[],[],[40,40,41,42],[43,43,23],[],[44,44,45,44,44,44,46,44,47,44,48,44],[49,49],[],[50,51,52,53,54,52,50,55],[35],[30],[],[46,56,57,56,58,58,58,56,32],[],[],[],[],[59],[38],[60,61],[24],[40,8,62,63,10],[40,64,65],[],[],[66,67],[],[68,69],[70,44,66,67,44,67,67,71,72,72,44,35,73,73,74,25,75],[26],[],[76],[],[77,52],[51,51,51,51,51,78,53,53,51,52,51,51,52,77,77,78,77,28,50,51,78,28,50,55],[76],[],[],[69,79],[80,81,82,59],[61,61,61,61,61,83,61,61,83,39,83,39,61],[],[24,84,85,10],[86,87,88,89],[9,90,91,92,93,94,95],[97,96],[35],[98],[99],[100],[],[101,35],[44,45,44,44,69,44],[47,44],[45,44,45,44,35],[45,44,72,25],[],[],[51,53],[102],[103,104,105,105,106,106],[105,106],[],[61],[107,108,107],[109,110],[111,66,112,101,113,111],[114,115,116],[117,66,118,101,113,117],[119,120,121],[122,123],[124,123],[12,125],[114,27,126,29],[12,30,127],[119,27,128,29],[129],[35,97,130,131],[101],[],[132],[],[133],[134],[],[135],[],[136],[137,138],[139,140,140,109],[79,141,142],[],[113,111,143,111,111,144,111,111,145,111,146,147,147,147],[],[148,69,114],[56],[79,115,149],[],[113,117,143,117,150,117,151,117,143,117,153,152,117,154,152,155,117,156,157],[158,69,119],[56],[79,120,159],[12,160],[109,161],[12,162],[163,164],[165,165,165,77,165,77,165,165,165,165,52,166,126],[167,168],[153,169,154,169,52,169,155,169,77,155,169,77,155,169,52,77,155,169,155,169,128],[170,56,129],[171,172,173,139],[174,175],[176],[177,178,177,179,178,180],[],[181],[182,183,184,185,182],[107,186,108,107,138,107],[],[187,188,187,188,187,187,188],[69],[56],[189,141,110,190,191,192,110,191,193,110,191,194,195,196,197,141],[],[151],[],[101,111,71,69,111],[112],[],[35,198,116,149,190,199,115],[],[98],[117],[],[],[],[118],[71,117,69,117],[200,200,200,200,200],[35,121,159,190,201,120],[202],[203,203,161],[204],[],[163,125,205,206,164,207,208,208,208,209,210],[145,52,52,52,52,52,166],[76],[],[167,127,205,168,35,211,211,212,213,214],[52,166],[31],[],[171,215,216],[171,171,217,217],[218,219],[220],[],[221],[],[],[222],[],[],[192,192],[182,132,182,223,182,224,182,192,224,182,225,182],[226,139,182,182],[138,107,138,107],[],[],[227,131,227,228],[229],[],[230],[231,231,231],[232,131,233,232,228,232,234,232,235,231,233],[236,237,236,237,237,231,231,238,238,231,231,231],[236,231,231,239,240,231,231,236],[232,232,231,231,79],[],[241,116,242,116,243,115],[],[244,205,245,245,244,246,35,35,245,247,79,246,246,246,35,246,245,245],[192,160,248,160,160,205,248,250,160,249,248,251,248,251,248,252,253],[254],[175,255,175,255,130,255,256,257,192,162,257,162,162,205,257,257,162,122],[190],[],[35],[],[258],[125,258,207,206,207,209,163,163,206,163,207,206,163,163,125,206,258,259,208],[],[],[],[260,35,261,35,261,260,261,261],[171,262,262,263,263,264,264,265,266],[267,267,175,175],[],[268],[269,270,271,272],[273],[],[],[226],[226],[274],[177],[],[139,275,276,277,247,278],[273],[],[],[231],[232,131],[279,280,281,267,282,283],[284,284,284,285,284,284,284,284,286,285],[232,240],[],[131],[287],[288,288],[190],[],[242,35,35,198,242,79,242,35],[88,121],[],[69],[289],[],[],[],[175],[172,290,250,248,250,248,175,250,248,248,175,250,248,175,250,248,251,251,249,248,291,292,250,248,290,290,250,248],[293,250,294,250,249,248,294,250,248,250,250,249,248,250,294,250,248,249,248,250,248,250,248,250],[140,226,294],[],[286,286,285,285,295,295,295,295,295,295,295],[],[],[207],[127,95],[],[],[296,297],[296,298],[299,300],[299,301,302,262,303,302,263,300],[304,192,192,192,192,192,305,306,307,307,307,308,306,308],[309,309,309,309,309,309,310],[311],[311],[311,190,312],[311,190,312],[313,314,315,316],[176],[317],[318,319,320,321,318],[280],[322,280,281,323,262,324,325,324,326],[276,192,192,322,247,322],[327,320,328,329],[330,320,331,332],[333,335,334],[337,336],[],[338],[],[],[],[133],[294],[339,283],[339,341,340],[],[],[190],[],[],[],[324,325,324,325],[296,296,342],[296,296,342,343,344,262,298,297,297,345,346,346,347],[348,281,278],[296,296,343],[349,350],[351,352],[351],[],[],[],[309,309,309,309,309,309],[],[],[],[354,353,355],[],[356,357],[230],[226,358,226,179,178],[],[],[],[330,327,320,331,328,332,329],[359,296],[262,262,359,296],[296,296,361,361,360,346],[264,264,362,362,363],[],[321],[364,365],[],[321],[366,365],[367,367,368],[368,368],[],[],[367],[],[337,336],[267,190,190],[369,370,267,370,280],[],[],[346],[],[],[346],[296,344,190,267,371,372],[],[],[373],[374],[],[],[],[],[375,376],[],[],[377,377,378,378,379,380,381],[],[263,263,301,382,263,300],[376,354],[383],[318],[384,364],[350],[],[385,385],[386],[],[305,306,306,306,308],[],[],[],[],[],[387,387,388],[389,389],[390,391,381],[392],[296],[],[],[393],[313,314,315,316],[],[390,391],[392],[394],[396],[397],[354],[395],[398,399],[392],[395],[],[400,401,402,403],[402,403],[402,402,403],[],[],[],[],[],[],[],[],[],[],[],[],[],[],[],[],[],[],[],[],[],[],[],[],[],[],[],[],[],[],[],[312,312]]
theorem leads:Tryz.prog.funcs.toList.map Tryz.prog.leadsTo=yx:=by kernel_rfl
theorem noGo:Tryz.prog.funcs.any Func.goes=false:=by kernel_rfl
theorem enters:Tryz.prog.mayEnter=true:=by kernel_rfl
theorem heard:Tryz.prog.stopsHeard=true:=by kernel_rfl
end Go.Eng
namespace Go.Eng
open Go.Proofs Go.Proofs.YthcgadjgfbnedaaGreatDoor
set_option maxRecDepth 100000
theorem By:Tryz.prog.closure 3=[3,6,20,22,40,24,41,8,25,44,45,66,35,67,98,101,46,47,68,99,69,100,132,176,48,70,71,72,73,74,75,62,84,107,136,182,183,192,230,184,223,226,177,221,224,225,274,185,139,187,188,108,137,186,138,85,109,140,110,79,102,133,178,179,180,222,141,56,142,189,227,131,174,218,268,309,310,219,269,311,270,271,190,229,273,313,314,354,353,355,315,316,356,357,375,376,312,272,175,220,228,275,317,276,318,358,319,320,321,277,280,327,328,329,364,383,365,247,289,278,322,330,331,332,366,384,281,323,359,296,262,324,325,361,360,377,378,387,388,390,394,395,398,399,400,402,403,401,391,396,392,397,379,389,380,381,346,326,264,298,362,263,297,301,342,343,344,345,347,382,300,363,191,193,231,194,232,233,234,279,267,304,349,350,305,351,373,352,374,306,307,308,282,333,367,368,335,334,283,337,336,235,284,285,338,286,195,236,240,288,237,238,196,239,287,197,10,30,26,49,63,86,111,112,113,143,144,151,145,146,147,87,114,148,115,116,149,198,199,241,242,243,88,117,118,150,153,152,154,155,156,157,89,119,158,200,120,121,159,201,244,205,245,246,42,64,9,12,32,57,58,27,28,50,51,76,52,53,77,54,78,55,29,90,122,160,202,248,250,249,251,252,172,171,215,265,299,266,302,348,371,372,303,216,290,294,291,339,292,341,369,385,393,370,386,340,253,293,123,161,203,254,91,124,162,204,255,130,173,217,256,295,257,92,125,163,164,206,207,208,209,258,210,259,93,126,165,166,94,127,167,168,211,212,213,214,260,95,128,169,261,65,97,96,129,170,31,7,23,43,11]:=(Bx leads 3).trans (by kernel_rfl)
theorem wm:(Rows.topJustRow.inPlace == Tryz.prog.inPlace 3)=true:=by
 unfold Program.inPlace
 rw [By];kernel_rfl
theorem Cz:Tryz.prog.unfollowed 3=true:=by
 unfold Program.unfollowed
 rw [By];kernel_rfl
theorem EE:Tryz.prog.recurses 3=true:=by
 unfold Program.recurses
 rw [Cz];rfl
theorem AE:(Rows.topJustRow.named == Tryz.prog.varsNamed 3)=true:=by
 unfold Program.varsNamed
 rw [By];kernel_rfl
theorem closed3:joinedFacts Tryz.prog 3 Tryz.f3 Rows.topJustSpec Rows.topJustRow=true:=by
 unfold joinedFacts
 rw [wm,AE,Cz,EE,enters,heard];kernel_rfl
end Go.Eng
namespace Go.Eng
theorem gl_var {P:Program} {w:World} {name:String} {g:Nat} {vs:List Value} {r:List (Nat × List Value)} (h:w.var? P name=some vs.toArray) (hg:P.globalNamed name=some g) (t:GlOK (yP r) (Old w) w):GlOK (yP ((g,vs) :: r)) (Old w) w:=fun n us hn o=>by
 unfold yP at hn
 cases hb:Nat.beq n g with
 | true =>
  rw [hb] at hn;cases hn;rw [aj hb]
  refine ⟨?_,by have:=World.var?_cell hg h o;simpa using this⟩
  unfold World.var? at h
  rw [hg] at h
  simp only [Option.bind_some] at h
  cases hh:w.heap[g]? with
  | none=>rw [hh] at h;cases h
  | some x=>exact (Array.getElem?_eq_some_iff.1 hh).1
 | false=>rw [hb] at hn;exact t n us hn o
end Go.Eng
