/- Texts of my own, one behind the other: TpIff3, TpIff4, TpIff5, TpGaLaw, TpGa, TpR20, TpBin3, TpBin4, TpBookP, TpOK, TpAwR, TpShelf, TpAwB, TpLA, TpAw, TpLB, TpAw35, TpLGateHolds, TpQGateHolds, TpOKGateHolds, VE, TpClo, TpCloGateHolds, VD, VF, RxGl. -/
import Derived.Test.YthcgadjgfbnedaaGreatDoorT3
import Derived.Ground.Names7Prog
import Derived.Shelf.LaysM
import Derived.Shelf.Strconv.Itoa3
import Derived.Shelf.Strconv.Itoa4
import Derived.Shelf.LaysC
import Derived.Shelf.Strconv.ParseIntPublic10
import Derived.Test.YthcgadjgfbnedaaGreatDoorProg
import Derived.WalkKit
import Derived.WalkSpells
import Derived.Lib.SmallJoins
import Derived.Stop.Joined
import Derived.SevenTiedAt
import Derived.Test.YthcgadjgfbnedaaGreatDoorRows
set_option linter.unusedVariables false
set_option linter.unusedSimpArgs false
set_option maxRecDepth 20000
namespace Go.Eng
namespace Bs
theorem y7 {dc:Dc} {b:Str} {d q z x:Nat} {v:bu} (h1:q≤z) (h2:z≤b.length) (h3:b.length≤1000000000):eM dc b 12 q z = .ok (v,x) ↔ vn d b 12 q z v x:=by
 have e:eM dc b 12 q z=if z - q<4 then .error (2,q) else match text b q z with
  | .error e => .error e
  | .ok (s,x)=>if z - x<12 then .error (2,x) else .ok ({ cS 12 with text:=s,bytes:=sub b x 12 },x+12):=rfl
 have eo:∀s y:Str,Tree.own { cS 12 with text:=s,bytes:=y }=0 ↔ dp.whole s=true∧y.length=12:=by
  intro s y
  rw [dz]
  have w0:dp.whole []=true:=rfl
  have hn:Tree.name 12≠[]:=by decide
  simp [Tree.cv,Tree.fu,cS,Tree.dr,w0,hn,and_comm]
 rw [e]
 constructor
 ·intro h
  by_cases c:z - q<4
  ·rw [aq c] at h;cases h
  rw [al c] at h
  cases ht:text b q z with
  | error e=>rw [ht] at h;cases h
  | ok y =>
   obtain ⟨s,x'⟩:=y
   rw [ht] at h
   obtain ⟨c2,h⟩:=mO.1 h
   obtain ⟨rfl,rfl⟩:=Prod.mk.inj h
   obtain ⟨rfl,g2,g3,g4⟩:=(iK h1 h2 h3).1 ht
   have hl:(sub b (q+(s.length+5)) 12).length=12:=gK (by omega)
   refine ⟨rfl,?_,by omega,?_,(eo s _).2 ⟨g4,hl⟩,rfl,Nat.zero_le _⟩
   ·show _=q+(s.length+17);omega
   ·show At b q (fC s++sub b (q+(s.length+5)) 12)
    rw [At.app,fB];exact ⟨g3,kx rfl⟩
 ·rintro ⟨g1,rfl,g3,g4,g5,g6,g7⟩
  obtain ⟨k',b',h',l',t',m',s',y',ka⟩:=v
  have g1:k'=12:=g1
  subst g1
  have g3:q+(t'.length+17)≤z:=g3
  have g4:At b q (fC t'++y'):=g4
  rw [At.app,fB] at g4
  have hf:=((dz _).1 g5).2.1
  have hw:=((dz _).1 g5).2.2.1
  simp [Tree.cv,Tree.fu] at hf
  simp [Tree.dr] at hw
  rw [al (by omega),(iK (s:=t') h1 h2 h3).2 ⟨rfl,by omega,g4.1,hw⟩]
  show (if z - (q+(t'.length+5))<12 then _ else _)=_
  rw [al (by omega),g4.2.sub (by simp [hf])]
  simp [hf,cS];rfl
theorem Bx {dc:Dc} {b:Str} {d q z x:Nat} {v:bu} (h1:q≤z) (h2:z≤b.length):eM dc b 11 q z = .ok (v,x) ↔ vn d b 11 q z v x:=by
 have e:eM dc b 11 q z=if z - q<0 then .error (2,q) else match ended b q z with
  | .error e => .error e
  | .ok (s,x)=>match ended b x z with
   | .error e => .error e
   | .ok (m,y) => .ok ({ cS 11 with text:=s,more:=m },y):=rfl
 have eo:∀s m:Str,Tree.own { cS 11 with text:=s,more:=m }=0 ↔ (dp.whole s=true∧dp.zero s=false)∧(dp.whole m=true∧dp.zero m=false):=by
  intro s m
  rw [dz]
  have hn:Tree.name 11≠[]:=by decide
  simp [Tree.cv,Tree.fu,cS,Tree.dr,hn]
 rw [e,al (by omega)]
 constructor
 ·intro h
  cases ht:ended b q z with
  | error e=>rw [ht] at h;cases h
  | ok y =>
   obtain ⟨s,x'⟩:=y
   rw [ht] at h
   obtain ⟨rfl,g2,g3,g4⟩:=(gW h1 h2).1 (py.1 ht)
   have h:(match ended b (q+(s.length+1)) z with
    | .error e => .error e
    | .ok (m,y) => .ok ({ cS 11 with text:=s,more:=m },y))=Except.ok (v,x):=h
   cases hu:ended b (q+(s.length+1)) z with
   | error e=>rw [hu] at h;cases h
   | ok y =>
    obtain ⟨m,y'⟩:=y
    rw [hu] at h
    obtain ⟨rfl,rfl⟩:=Prod.mk.inj (Except.ok.inj h)
    obtain ⟨rfl,i2,i3,i4⟩:=(gW g2 h2).1 (py.1 hu)
    refine ⟨rfl,?_,i2,?_,(eo s m).2 ⟨g4,i4⟩,rfl,Nat.zero_le _⟩
    ·show _=q+(s.length+m.length+2);omega
    ·show At b q ((s++[0])++(m++[0]))
     rw [At.app]
     refine ⟨g3,?_⟩
     rw [ak,aD];exact i3
 ·rintro ⟨g1,rfl,g3,g4,g5,g6,g7⟩
  obtain ⟨k',b',h',l',t',m',s',y',ka⟩:=v
  have g1:k'=11:=g1
  subst g1
  have g3:q+(t'.length+m'.length+2)≤z:=g3
  have g4:At b q ((t'++[0])++(m'++[0])):=g4
  rw [At.app,ak,aD] at g4
  have hf:=((dz _).1 g5).2.1
  have hw:=((dz _).1 g5).2.2
  simp [Tree.cv,Tree.fu] at hf
  simp [Tree.dr] at hw
  rw [py.2 ((gW (s:=t') h1 h2).2 ⟨rfl,by omega,g4.1,hw.1⟩)]
  show (match ended b (q+(t'.length+1)) z with | .error e=>_ | .ok (m,y)=>_)=_
  rw [py.2 ((gW (s:=m') (q:=q+(t'.length+1)) (by omega) h2).2 ⟨rfl,by omega,g4.2,hw.2⟩)]
  show Except.ok _=Except.ok _
  rw [show q+(t'.length+1)+(m'.length+1)=q+(t'.length+m'.length+2) by omega]
  simp [hf,cS];rfl
theorem y9 {dc:Dc} {b:Str} {d q z x:Nat} {v:bu} (h1:q≤z) (h2:z≤b.length) (h3:b.length≤1000000000):eM dc b 5 q z = .ok (v,x) ↔ vn d b 5 q z v x:=by
 have e:eM dc b 5 q z=if z - q<5 then .error (2,q) else match binary b q z with
  | .error e => .error e
  | .ok (s,y,x) => .ok ({ cS 5 with sub:=s,bytes:=y },x):=rfl
 have eo:∀(s:Int) (y:Str),Tree.own { cS 5 with sub:=s,bytes:=y }=0 ↔ 0≤s∧s≤255:=by
  intro s y
  rw [dz]
  have w0:dp.whole []=true:=rfl
  have hn:Tree.name 5≠[]:=by decide
  simp [Tree.cv,Tree.fu,cS,Tree.dr,w0,hn]
 rw [e]
 by_cases c:z - q<5
 ·rw [aq c]
  refine ⟨(fun h=>by cases h),?_⟩
  rintro ⟨g1,rfl,g3,g4,g5,g6,g7⟩
  obtain ⟨k',b',h',l',t',m',s',y',ka⟩:=v
  have g1:k'=5:=g1
  subst g1
  have g3:q+(if s'=2 then y'.length+9 else y'.length+5)≤z:=g3
  split at g3 <;> omega
 rw [al c]
 constructor
 ·intro h
  cases ht:binary b q z with
  | error e=>rw [ht] at h;cases h
  | ok y =>
   obtain ⟨s,y,x'⟩:=y
   rw [ht] at h
   obtain ⟨rfl,rfl⟩:=Prod.mk.inj (Except.ok.inj h)
   obtain ⟨g1,g2,g3,g4⟩:=(ny (by omega) h2 h3).1 ht
   exact ⟨rfl,g1,g2,g3,(eo s y).2 g4,rfl,Nat.zero_le _⟩
 ·rintro ⟨g1,rfl,g3,g4,g5,g6,g7⟩
  obtain ⟨k',b',h',l',t',m',s',y',ka⟩:=v
  have g1:k'=5:=g1
  subst g1
  have hf:=((dz _).1 g5).2.1
  simp [Tree.cv,Tree.fu] at hf
  rw [(ny (s:=s') (y:=y') (by omega) h2 h3).2 ⟨rfl,g3,g4,by omega,by omega⟩]
  simp [hf,cS];rfl
def zk (dc:Dc) (d:Nat) (b:Str):Prop:=∀p z fZ ks x,p≤z→z≤b.length→(dc b p z fZ = .ok (ks,x) ↔ Ix d b p z fZ ks x)
theorem tG {dc:Dc} {b:Str} {d q z x:Nat} {v:bu} {k:Int} (hk:k=3∨k=4) (hd:zk dc d b) (h1:q≤z) (h2:z≤b.length):eM dc b k q z = .ok (v,x) ↔ vn d b k q z v x:=by
 have e:eM dc b k q z=if z - q<0 then .error (2,q) else match dc b q z 0 with
  | .error e => .error e
  | .ok (l,x) => .ok ({ cS k with kids:=l },x):=by rcases hk with h | h <;> subst h <;> rfl
 have eo:∀l,Tree.own { cS k with kids:=l }=0:=by
  intro l
  have hn:Tree.name k≠[]:=by rcases hk with h | h <;> subst h <;> decide
  refine (dz _).2 ⟨hn,?_,?_,?_⟩
  ·rcases hk with h | h <;> subst h <;> simp [Tree.cv,Tree.fu,cS]
  ·rcases hk with h | h <;> subst h <;> rfl
  ·rcases hk with h | h <;> subst h <;> rfl
 have es:∀w:bu,w.kind=k→size (bx.of [] w)=dC w.kids+5∧enc (bx.of [] w)=iR w.kids∧Tree.depth (bx.of [] w)=Tree.jJ w.kids+1:=by
  intro w hw
  obtain ⟨k',b',h',l',t',m',s',y',ka⟩:=w
  have hw:k'=k:=hw
  subst hw
  rcases hk with h | h <;> subst h <;> exact ⟨rfl,rfl,rfl⟩
 rw [e,al (by omega)]
 constructor
 ·intro h
  cases ht:dc b q z 0 with
  | error e=>rw [ht] at h;cases h
  | ok y =>
   obtain ⟨l,x'⟩:=y
   rw [ht] at h
   obtain ⟨rfl,rfl⟩:=Prod.mk.inj (Except.ok.inj h)
   obtain ⟨g1,g2,g3,g4,g5,g6⟩:=(hd q z 0 l x' h1 h2).1 ht
   obtain ⟨e1,e2,e3⟩:=es { cS k with kids:=l } rfl
   exact ⟨rfl,by rw [e1];exact g1,g2,by rw [e2];exact g4,eo l,g5,by rw [e3];exact g6⟩
 ·rintro ⟨g1,rfl,g3,g4,g5,g6,g7⟩
  obtain ⟨e1,e2,e3⟩:=es v g1
  rw [e1] at g3 ⊢
  rw [e2] at g4
  rw [e3] at g7
  rw [(hd q z 0 v.kids (q+(dC v.kids+5)) h1 h2).2 ⟨rfl,g3,by omega,g4,g6,g7⟩]
  have ev:v={ cS k with kids:=v.kids }:=by
   obtain ⟨k',b',h',l',t',m',s',y',ka⟩:=v
   have g1:k'=k:=g1
   subst g1
   have hf:=((dz _).1 g5).2.1
   rcases hk with h | h <;> subst h <;> simp [Tree.cv,Tree.fu] at hf <;> simp [hf,cS]
  exact congrArg (fun w=>Except.ok (w,q+(dC v.kids+5))) ev.symm
theorem nn (l:List bx):(iR l).length=(dS l).length+5:=gw _
theorem vb {dc:Dc} {b:Str} {d q z x:Nat} {v:bu} (hd:zk dc d b) (hL:∀l,fU l=true→(dS l).length=dC l) (h1:q≤z) (h2:z≤b.length) (h3:b.length≤1000000000):eM dc b 15 q z = .ok (v,x) ↔ vn d b 15 q z v x:=by
 have e:eM dc b 15 q z=if z - q<4 then .error (2,q) else match (ew dc b q z).2 with
  | .error e => .error e
  | .ok (l,x) => .ok ({ cS 15 with text:=(ew dc b q z).1,kids:=l },x):=rfl
 have eo:∀(s:Str) l,Tree.own { cS 15 with text:=s,kids:=l }=0 ↔ dp.whole s=true:=by
  intro s l
  rw [dz]
  have w0:dp.whole []=true:=rfl
  have hn:Tree.name 15≠[]:=by decide
  simp [Tree.cv,Tree.fu,cS,Tree.dr,w0,hn]
 rw [e]
 constructor
 ·intro h
  by_cases c:z - q<4
  ·rw [aq c] at h;cases h
  rw [al c] at h
  unfold ew mH at h
  by_cases c2:cU b q<14∨(z:Int) - q<cU b q
  ·rw [aq c2] at h;cases h
  rw [al c2] at h
  have r4:=mL (b:=b) (p:=q) (by omega) (by omega)
  generalize cU b q=n at *
  cases ht:text b (q+4) (q+n.toNat) with
  | error e=>rw [ht] at h;cases h
  | ok y =>
   obtain ⟨s,y⟩:=y
   rw [ht] at h
   obtain ⟨g1,g2,g3,g4⟩:=(iK (by omega) (by omega) h3).1 ht
   have h:(match dc b y (q+n.toNat) 2 with
    | .error e => .error e
    | .ok (l,x) => .ok ({ cS 15 with text:=s,kids:=l },x))=Except.ok (v,x):=h
   cases hu:dc b y (q+n.toNat) 2 with
   | error e=>rw [hu] at h;cases h
   | ok w =>
    obtain ⟨l,x'⟩:=w
    rw [hu] at h
    obtain ⟨rfl,rfl⟩:=Prod.mk.inj (Except.ok.inj h)
    obtain ⟨i1,i2,i3,i4,i5,i6⟩:=(hd y (q+n.toNat) 2 l x' g2 (by omega)).1 hu
    have i3:=i3 (.inr rfl)
    have hl:=hL l i5
    refine ⟨rfl,?_,by omega,?_,(eo s l).2 g4,i5,i6⟩
    ·show _=q+(s.length+9+(dC l+5));omega
    ·show At b q (ff 4 ((fC s++ib (dS l)).length+4)++(fC s++ib (dS l)))
     rw [At.app,bU,At.app,ak,fB,gw,show s.length+5+((dS l).length+5)+4=n.toNat by omega]
     exact ⟨r4,g3,by rw [←g1];exact i4⟩
 ·rintro ⟨g1,rfl,g3,g4,g5,g6,g7⟩
  obtain ⟨k',b',h',l',t',m',s',y',ka⟩:=v
  have g1:k'=15:=g1
  subst g1
  have g3:q+(t'.length+9+(dC ka+5))≤z:=g3
  have g6:fU ka=true:=g6
  have g4:At b q (ff 4 ((fC t'++ib (dS ka)).length+4)++(fC t'++ib (dS ka))):=g4
  have hl:=hL ka g6
  rw [At.app,bU,At.app,ak,fB,gw,hl] at g4
  obtain ⟨i1,i2,i3⟩:=g4
  have hf:=((dz _).1 g5).2.1
  have hw:=((dz _).1 g5).2.2.1
  simp [Tree.cv,Tree.fu] at hf
  simp [Tree.dr] at hw
  have e1:=(jb (v:=t'.length+5+(dC ka+5)+4) (by omega) (by omega)).2 i1
  have es:ew dc b q z=(t',.ok (ka,q+(t'.length+9+(dC ka+5)))):=by
   unfold ew mH
   rw [e1,al (by omega),ar,(iK (s:=t') (q:=q+4) (by omega) (by omega) h3).2 ⟨rfl,by omega,i2,hw⟩]
   show (t',dc b (q+4+(t'.length+5)) (q+(t'.length+5+(dC ka+5)+4)) 2)=_
   rw [(hd (q+4+(t'.length+5)) (q+(t'.length+5+(dC ka+5)+4)) 2 ka (q+(t'.length+9+(dC ka+5))) (by omega) (by omega)).2 ⟨by omega,by omega,fun _=>by omega,i3,g6,g7⟩]
  rw [al (by omega),es]
  simp [hf,cS];rfl
theorem mX {k:Int} (h:Tree.name k≠[]):k∈Tree.kinds:=Classical.byContradiction fun g=>h (Tree.um k g)
theorem vo {dc:Dc} {b:Str} {d:Nat} (hd:zk dc d b) (hL:∀l,fU l=true→(dS l).length=dC l) {q z x:Nat} {v:bu} {k:Int} (hk:Tree.name k≠[]) (h1:q≤z) (h2:z≤b.length) (h3:b.length≤1000000000):eM dc b k q z = .ok (v,x) ↔ vn d b k q z v x:=by
 have h:=mX hk
 simp only [Tree.kinds,aC,List.not_mem_nil,or_false] at h
 rcases h with h | h | h | h | h | h | h | h | h | h | h | h | h | h | h | h | h | h | h | h | h
 ·exact jX (.inl h) h1 h2
 ·exact nB (.inl h) h1 h2 h3
 ·exact tG (.inl h) hd h1 h2
 ·exact tG (.inr h) hd h1 h2
 ·subst h;exact y9 h1 h2 h3
 ·exact kW (.inl h) h1
 ·subst h;exact By h1 h2
 ·exact jX (.inr (.inr (.inr (.inr (.inr h))))) h1 h2
 ·exact jX (.inr (.inl h)) h1 h2
 ·exact kW (.inr (.inl h)) h1
 ·subst h;exact Bx h1 h2
 ·subst h;exact y7 h1 h2 h3
 ·exact nB (.inr (.inl h)) h1 h2 h3
 ·exact nB (.inr (.inr h)) h1 h2 h3
 ·subst h;exact vb hd hL h1 h2 h3
 ·exact jX (.inr (.inr (.inr (.inr (.inl h))))) h1 h2
 ·exact jX (.inr (.inr (.inl h))) h1 h2
 ·exact jX (.inr (.inr (.inr (.inl h)))) h1 h2
 ·subst h;exact y8 h1 h2
 ·exact kW (.inr (.inr (.inl h))) h1
 ·exact kW (.inr (.inr (.inr h))) h1
end Bs
end Go.Eng
set_option maxRecDepth 20000
namespace Go.Eng
namespace Bs
mutual
theorem pz:∀f:bx,pn f=true→(enc f).length=size f
 | .mk n k b h l t m s y ks,hg=>by
  obtain ⟨ho,_,_,BU⟩:=(mj n ⟨k,b,h,l,t,m,s,y,ks⟩).1 hg
  have hy:k=7∨k=12→y.length=12:=by
   have hf:=((dz _).1 ho).2.1
   rintro (g | g) <;> subst g <;> simp [Tree.cv,Tree.fu] at hf <;> simp [hf]
  have hl:=gu ks BU
  unfold enc size
  by_cases c:gM k=true
  ·rw [aq c,aq c];exact bU _ _
  rw [al c,al c]
  by_cases c:k=16
  ·rw [aq c,aq c];exact bU _ _
  rw [al c,al c]
  by_cases c:k=8
  ·rw [aq c,aq c];exact bU _ _
  rw [al c,al c]
  by_cases c:k=19
  ·rw [aq c,aq c,ak,bU,bU]
  rw [al c,al c]
  by_cases c:gF k=true
  ·rw [aq c,aq c];exact fB _
  rw [al c,al c]
  by_cases c:k=11
  ·rw [aq c,aq c];simp only [ak,aD];omega
  rw [al c,al c]
  by_cases c:k=5
  ·rw [aq c,aq c];unfold nL;split <;> simp only [ak,aJ,bU] <;> omega
  rw [al c,al c]
  by_cases c:k=7
  ·rw [aq c,aq c];exact hy (.inl c)
  rw [al c,al c]
  by_cases c:k=12
  ·rw [aq c,aq c,ak,fB,hy (.inr c)]
  rw [al c,al c]
  by_cases c:k=3∨k=4
  ·rw [aq c,aq c,gw,hl]
  rw [al c,al c]
  by_cases c:k=15
  ·rw [aq c,aq c];unfold nM;rw [ak,bU,ak,fB,gw,hl];omega
  rw [al c,al c];rfl
theorem gu:∀l:List bx,fU l=true→(dS l).length=dC l
 | [],_=>rfl
 | f :: r,hg=>by
  have hg:(pn f&&fU r)=true:=hg
  rw [ae] at hg
  unfold dS dC
  have:=pz f hg.1
  have:=gu r hg.2
  simp only [aJ,ak,aM];omega
end
theorem sd (f:bx):bx.of f.name f.val=f:=by cases f;rfl
theorem Bg (n:Str) (v:bu):enc (bx.of n v)=enc (bx.of [] v):=by cases v;simp only [bx.of,enc]
theorem xW (n:Str) (v:bu):size (bx.of n v)=size (bx.of [] v):=by cases v;simp only [bx.of,size]
theorem wT (n:Str) (v:bu):Tree.depth (bx.of n v)=Tree.depth (bx.of [] v):=by cases v;simp only [bx.of,Tree.depth]
theorem Dg {k:Int} (h:Tree.name k≠[]):((UInt8.ofInt k).toNat:Int)=k∧UInt8.ofInt k≠0:=by
 have:∀k∈Tree.kinds,((UInt8.ofInt k).toNat:Int)=k∧UInt8.ofInt k≠0:=by decide
 exact this k (mX h)
theorem GD {b:Str} {p:Nat} {c:UInt8} {s e r:Str}:At b p ([c]++((s++[0])++e++r)) ↔ At b p [c]∧At b (p+1) (s++[0])∧At b (p+1+(s.length+1)) e∧At b (p+1+(s.length+1)+e.length) r:=by
 rw [At.app,At.app,At.app]
 simp only [ak,aJ,aM,Nat.zero_add,and_assoc,Nat.add_assoc]
theorem mu {vl:Int→Nat→Nat→Except E (bu × Nat)} {b:Str} {d z:Nat} (hz:z<b.length) (hv:∀k q v x,Tree.name k≠[]→q≤z→(vl k q z = .ok (v,x) ↔ vn d b k q z v x)) :
  ∀(n at_:Nat) (acc l:List bx) (y:Nat),at_≤z→z - at_<n→(rH vl b z n at_ acc = .ok (l,y) ↔ y=z+1∧b.getD z 0=0∧∃r,l=acc++r∧z=at_+(dS r).length∧At b at_ (dS r)∧fU r=true∧Tree.jJ r≤d)
 | 0,at_,acc,l,y,h1,h2=>by omega
 | n+1,at_,acc,l,y,h1,h2=>by
  unfold rH
  by_cases c:at_=z
  ·rw [aq c,mO]
   constructor
   ·rintro ⟨g1,g2⟩
    obtain ⟨rfl,rfl⟩:=Prod.mk.inj g2
    exact ⟨rfl,by simpa using g1,[],by simp,by simp [dS,c],rfl,rfl,Nat.zero_le _⟩
   ·rintro ⟨rfl,g2,r,rfl,g4,g5,g6,g7⟩
    have:r=[]:=by
     cases r with
     | nil=>rfl
     | cons f r=>simp only [dS,aJ] at g4;omega
    subst this
    exact ⟨by simpa using g2,by simp⟩
  rw [al c]
  have CY:((at_:Int)+1)=((at_+1:Nat):Int):=by omega
  show (if b.getD at_ 0=0 then _ else if Tree.name ((b.getD at_ 0).toNat:Int)=[] then _ else if (ctext (b.take z) ((at_:Int)+1)).2.2≠0 then _ else match vl ((b.getD at_ 0).toNat:Int) (ctext (b.take z) ((at_:Int)+1)).2.1.toNat z with
   | .error e => .error e
   | .ok (v,x)=>rH vl b z n x (acc++[bx.of (ctext (b.take z) ((at_:Int)+1)).1 v]))=Except.ok (l,y) ↔ _
  rw [CY]
  constructor
  ·intro h
   by_cases c1:b.getD at_ 0=0
   ·rw [aq c1] at h;cases h
   rw [al c1] at h
   by_cases c2:Tree.name ((b.getD at_ 0).toNat:Int)=[]
   ·rw [aq c2] at h;cases h
   rw [al c2] at h
   by_cases c3:(ctext (b.take z) ((at_+1:Nat):Int)).2.2≠0
   ·rw [aq c3] at h;cases h
   rw [al c3] at h
   have c3:(ctext (b.take z) ((at_+1:Nat):Int)).2.2=0:=Classical.byContradiction c3
   have IC:0≤(ctext (b.take z) ((at_+1:Nat):Int)).2.1:=by
    obtain ⟨_,k,_,_,_,k1,_⟩:=hO c3;omega
   obtain ⟨g1,g2,g3,g4,g5⟩:=(gW (s:=(ctext (b.take z) ((at_+1:Nat):Int)).1) (x:=(ctext (b.take z) ((at_+1:Nat):Int)).2.1.toNat) (by omega) (by omega)).1 ⟨c3,rfl,by omega⟩
   generalize (ctext (b.take z) ((at_+1:Nat):Int)).1=s at *
   generalize (ctext (b.take z) ((at_+1:Nat):Int)).2.1.toNat=x0 at *
   cases hx:vl ((b.getD at_ 0).toNat:Int) x0 z with
   | error e=>rw [hx] at h;cases h
   | ok w =>
    obtain ⟨v,x⟩:=w
    rw [hx] at h
    obtain ⟨i1,i2,i3,i4,i5,i6,i7⟩:=(hv _ x0 v x c2 g2).1 hx
    obtain ⟨j1,j2,r,j3,j4,j5,j6,j7⟩:=(mu hz hv n x _ l y i3 (by omega)).1 h
    have hg:pn (bx.of s v)=true:=(mj s v).2 ⟨i5,g4,g5,i6⟩
    have hl:=pz (bx.of s v) hg
    rw [xW] at hl
    refine ⟨j1,j2,bx.of s v :: r,by rw [j3,aB];rfl,?_,?_,?_,?_⟩
    ·simp only [dS,aJ,ak]
     rw [hl,show (bx.of s v).name=s from rfl];simp only [aM];omega
    ·show At b at_ ([UInt8.ofInt v.kind]++((s++[0])++enc (bx.of s v)++dS r))
     rw [GD,hl]
     refine ⟨(at_one (by omega)).2 ?_,g3,?_,?_⟩
     ·rw [i1,iW,UInt8.ofNat_toNat]
     ·rw [←g1,Bg];exact i4
     ·rw [show at_+1+(s.length+1)+size (bx.of [] v)=x by omega];exact j5
    ·show (pn (bx.of s v)&&fU r)=true
     rw [hg,j6];rfl
    ·show max (Tree.depth (bx.of s v)) (Tree.jJ r)≤d
     rw [wT];omega
  ·rintro ⟨rfl,g2,r,rfl,g4,g5,g6,g7⟩
   cases r with
   | nil=>simp only [dS,aM] at g4;omega
   | cons f r =>
    have g6:(pn f&&fU r)=true:=g6
    rw [ae] at g6
    have g7:max (Tree.depth f) (Tree.jJ r)≤d:=g7
    have hl:=pz f g6.1
    have hs:(bx.of f.name f.val).kind=f.kind:=by rw [sd]
    have g5:At b at_ ([UInt8.ofInt f.kind]++((f.name++[0])++enc f++dS r)):=g5
    have g4:z=at_+(UInt8.ofInt f.kind :: ((f.name++[0])++enc f++dS r)).length:=g4
    rw [GD,hl] at g5
    simp only [aJ,ak,aM] at g4
    have uD:=g6.1
    rw [←sd f,mj] at uD
    obtain ⟨o1,o2,o3,o4⟩:=uD
    have o2:dp.whole f.name=true:=o2
    have o3:dp.zero f.name=false:=o3
    have hn:Tree.name f.kind≠[]:=((dz _).1 o1).1
    obtain ⟨k1,k2⟩:=Dg hn
    obtain ⟨p1,p2,p3,p4⟩:=g5
    have e1:=(at_one (by omega)).1 p1
    obtain ⟨m1,m2,m3⟩:=(gW (b:=b) (q:=at_+1) (z:=z) (x:=at_+1+(f.name.length+1)) (by omega) (by omega)).2 ⟨rfl,by omega,p2,o2,o3⟩
    rw [e1,al k2,k1,al hn,m1,al (by simp),m2,m3,ar]
    have kb:size (bx.of [] f.val)=size f:=qb f
    rw [(hv f.kind (at_+1+(f.name.length+1)) f.val (at_+1+(f.name.length+1)+size (bx.of [] f.val)) hn (by omega)).2 ⟨rfl,rfl,by omega,by rw [tx];exact p3,o1,o4,by rw [Tree.uR];omega⟩]
    show rH vl b z n (at_+1+(f.name.length+1)+size (bx.of [] f.val)) (acc++[bx.of f.name f.val])=_
    rw [sd]
    refine (mu hz hv n _ _ _ _ (by omega) (by omega)).2 ⟨rfl,g2,r,by rw [aB];rfl,by omega,?_,g6.2,by omega⟩
    rw [kb];exact p4
theorem tB {b:Str} (h3:b.length≤1000000000):∀d,zk (doc d) d b
 | 0,p,z,fZ,ks,x,h1,h2=>by
  constructor
  ·intro h;cases h
  ·rintro ⟨_,_,_,_,_,h⟩;omega
 | d+1,p,z,fZ,ks,x,h1,h2=>by
  have hd:=tB h3 d
  have hv:=fun (w:Nat) (hw:w≤b.length) k q v x (hk:Tree.name k≠[]) (hq:q≤w)=>@vo (doc d) b d hd gu q w x v k hk hq hw h3
  unfold doc
  constructor
  ·intro h
   by_cases c:z - p<4
   ·rw [aq c] at h;cases h
   rw [al c] at h
   unfold wS at h
   by_cases c1:cU b p<5∨(z:Int) - p<cU b p∨(fZ=2∧(p:Int)+cU b p≠z)
   ·rw [aq c1] at h;cases h
   rw [al c1] at h
   by_cases c2:fZ=1∧(p:Int)+cU b p<z
   ·rw [aq c2] at h;cases h
   rw [al c2] at h
   have r4:=mL (b:=b) (p:=p) (by omega) (by omega)
   generalize cU b p=n at *
   obtain ⟨g1,g2,r,g3,g4,g5,g6,g7⟩:=(mu (d:=d) (by omega) (hv (p+n.toNat - 1) (by omega)) n.toNat (p+4) [] ks x (by omega) (by omega)).1 h
   rw [bf] at g3
   subst g3
   have hl:=gu ks g6
   refine ⟨by omega,by omega,fun _=>by omega,?_,g6,by omega⟩
   show At b p (ff 4 ((dS ks).length+5)++(dS ks++[0]))
   rw [At.app,At.app,bU,show (dS ks).length+5=n.toNat by omega]
   refine ⟨r4,g5,(at_one (by omega)).2 ?_⟩
   rw [show p+4+(dS ks).length=p+n.toNat - 1 by omega];exact g2
  ·rintro ⟨rfl,g2,g3,g4,g5,g6⟩
   have hl:=gu ks g5
   have g4:At b p (ff 4 ((dS ks).length+5)++(dS ks++[0])):=g4
   rw [At.app,At.app,bU,hl] at g4
   obtain ⟨i1,i2,i3⟩:=g4
   have e1:=(jb (v:=dC ks+5) (by omega) (by omega)).2 i1
   rw [al (by omega),e1]
   unfold wS
   rw [al (by rintro (h | h | h);omega;omega;exact h.2 (by have:=g3 (.inr h.1);omega)),al (fun h=>by have:=g3 (.inl h.1);omega),ar]
   refine (mu (d:=d) (by omega) (hv _ (by omega)) _ _ _ _ _ (by omega) (by omega)).2 ⟨by omega,?_,ks,rfl,by omega,i2,g5,by omega⟩
   have:=(at_one (by omega)).1 i3
   rw [show p+(dC ks+5) - 1=p+4+dC ks by omega];exact this
theorem so {b:Str} {l:eK} {ks:List bx} (h3:b.length≤1000000000):decode b l = .ok ks ↔ may l=true∧(b.length:Int)≤l.size∧b=iR ks∧fU ks=true∧(Tree.jJ ks:Int)+1≤l.depth:=by
 unfold decode
 cases hm:may l with
 | false=>rw [aq rfl];exact ⟨(fun h=>by cases h),fun h=>by cases h.1⟩
 | true =>
  have hd:1≤l.depth:=(au hm).1
  rw [al (by simp)]
  by_cases c:l.size<(b.length:Int)
  ·rw [aq c];exact ⟨(fun h=>by cases h),fun h=>by omega⟩
  rw [al c]
  have hi:=fun x=>tB h3 l.depth.toNat 0 b.length 1 ks x (Nat.zero_le _) (Nat.le_refl _)
  constructor
  ·intro h
   cases hx:doc l.depth.toNat b 0 b.length 1 with
   | error e=>rw [hx] at h;cases h
   | ok w =>
    obtain ⟨ka,x⟩:=w
    rw [hx] at h
    have h:ka=ks:=Except.ok.inj h
    subst h
    obtain ⟨g1,g2,g3,g4,g5,g6⟩:=(hi x).1 hx
    have g3:=g3 (.inl rfl)
    have hl:=gu ka g5
    have EX:=nn ka
    refine ⟨rfl,by omega,?_,g5,by omega⟩
    have g4:(b.drop 0).take (iR ka).length=iR ka:=g4
    rw [aY,List.take_of_length_le (by omega)] at g4
    exact g4
  ·rintro ⟨_,g2,g3,g4,g5⟩
   have hl:=gu ks g4
   have EX:=nn ks
   have hb:b.length=dC ks+5:=by rw [g3,EX,hl]
   rw [(hi b.length).2 ⟨by omega,Nat.le_refl _,fun _=>rfl,by show (b.drop 0).take (iR ks).length=iR ks;rw [←g3,aY,List.take_length],g4,by omega⟩]
end Bs
end Go.Eng
set_option maxRecDepth 20000
namespace Go.Eng
open Go.IntWalk
namespace Bs
mutual
theorem uY:∀f:bx,pn f=true→bx.dk f≤size f+f.name.length+2
 | .mk n k b h l t m s y ks,hg=>by
  obtain ⟨ho,_,_,BU⟩:=(mj n ⟨k,b,h,l,t,m,s,y,ks⟩).1 hg
  have hl:=jL ks BU
  have hn:=mX ((dz _).1 ho).1
  have hf:=((dz _).1 ho).2.1
  simp only [Tree.kinds,aC,List.not_mem_nil,or_false] at hn
  have hb:bx.dk (.mk n k b h l t m s y ks)=1+n.length+t.length+m.length+y.length+bx.cw ks:=rfl
  have hz:size (.mk n k b h l t m s y ks)=_:=size.eq_1 n k b h l t m s y ks
  have hm:(bx.mk n k b h l t m s y ks).name=n:=rfl
  rw [hb,hz,hm]
  rcases hn with g | g | g | g | g | g | g | g | g | g | g | g | g | g | g | g | g | g | g | g | g <;> subst g <;> simp [Tree.cv,Tree.fu] at hf <;> simp [gM,gF,hf] <;> (try split) <;> (try simp [hf,bx.cw] at hl ⊢) <;> omega
theorem jL:∀l:List bx,fU l=true→bx.cw l≤dC l
 | [],_=>Nat.le_refl _
 | f :: r,hg=>by
  have hg:(pn f&&fU r)=true:=hg
  rw [ae] at hg
  have h1:=uY f hg.1
  have h2:=jL r hg.2
  show bx.dk f+bx.cw r≤f.name.length+2+size f+dC r
  omega
end
theorem sj {ks:List bx} (h:fU ks=true):(iR ks).length=dC ks+5:=by rw [nn,gu ks h]
theorem uS {b:Str} {l:eK} {e:Int} {a:Nat} (h:decode b l = .error (e,a)):e≠0∧a≤b.length:=by
 unfold decode at h
 by_cases c:may l=false
 ·rw [aq c] at h;cases h;exact ⟨by decide,Nat.zero_le _⟩
 rw [al c] at h
 by_cases c2:l.size<(b.length:Int)
 ·rw [aq c2] at h;cases h;exact ⟨by decide,Nat.zero_le _⟩
 rw [al c2] at h
 have hr:=jT b l.depth.toNat 0 b.length 1 (Nat.zero_le _) (Nat.le_refl _)
 cases hx:doc l.depth.toNat b 0 b.length 1 with
 | error p=>rw [hx] at h;cases h;exact hr.1 e a hx
 | ok w=>rw [hx] at h;cases h
end Bs
end Go.Eng
set_option maxRecDepth 20000
namespace Go.Eng
open Bs
namespace Gt
theorem nk {l:eK} (hs:5≤l.size):∀(n:Nat) (a:Int) (h:Str) (acc:List Out),h.length<n →
  ((fA l n a h acc).2.2.1.length:Int)<l.size∧((fA l n a h acc).2.2.2=true→(fA l n a h acc).2.2.1=[])∧a≤(fA l n a h acc).2.1∧(fA l n a h acc).2.1+((fA l n a h acc).2.2.1.length:Int)≤a+(h.length:Int)
 | 0,_,_,_,hn=>absurd hn (Nat.not_lt_zero _)
 | n+1,a,h,acc,hn=>by
  rw [fA]
  by_cases c1:h.length<4
  ·rw [aq c1];exact ⟨by show (h.length:Int)<_;omega,(fun h=>by cases h),Int.le_refl _,Int.le_refl _⟩
  rw [al c1]
  by_cases c2:cU h 0<5
  ·rw [aq c2];exact ⟨by show ((0:Nat):Int)<_;omega,(fun _=>rfl),Int.le_refl _,by show a+((0:Nat):Int)≤_;omega⟩
  rw [al c2]
  by_cases c3:l.size<cU h 0
  ·rw [aq c3];exact ⟨by show ((0:Nat):Int)<_;omega,(fun _=>rfl),Int.le_refl _,by show a+((0:Nat):Int)≤_;omega⟩
  rw [al c3]
  by_cases c4:(h.length:Int)<cU h 0
  ·rw [aq c4];exact ⟨by show (h.length:Int)<_;omega,(fun h=>by cases h),Int.le_refl _,Int.le_refl _⟩
  rw [al c4]
  have hd:(h.drop (cU h 0).toNat).length=h.length - (cU h 0).toNat:=aL
  obtain ⟨i1,i2,i3,i4⟩:=nk hs n (a+cU h 0) (h.drop (cU h 0).toNat) (acc++[vS a (trans l (h.take (cU h 0).toNat))]) (by omega)
  exact ⟨i1,i2,by omega,by omega⟩
theorem uM {g:bS} {x h:Str} (hs:5≤g.size) (hh:(h.length:Int)<g.size) (h0:g.bT=true→h=[]) :
  (((feed g x h).2.2.length:Int)<g.size∧((feed g x h).2.1.bT=true→(feed g x h).2.2=[])∧g.at_≤(feed g x h).2.1.at_∧(feed g x h).2.1.at_+((feed g x h).2.2.length:Int)≤g.at_+(h.length:Int)+(x.length:Int)) ∧
  (feed g x h).2.1.fk=g.fk∧(feed g x h).2.1.depth=g.depth∧(feed g x h).2.1.size=g.size∧(feed g x h).2.1.out=g.out:=by
 unfold feed
 cases rZ:g.bT with
 | true =>
  rw [aq rfl]
  exact ⟨⟨hh,fun _=>h0 rZ,Int.le_refl _,by show g.at_+(h.length:Int)≤_;omega⟩,rfl,rfl,rfl,rfl⟩
 | false =>
  rw [al (by decide)]
  have hl:(h++x).length=h.length+x.length:=ak
  obtain ⟨i1,i2,i3,i4⟩:=nk (l:=yr g) hs (h.length+x.length+1) g.at_ (h++x) [] (by omega)
  exact ⟨⟨i1,i2,i3,Int.le_trans (hl ▸ i4) (by omega)⟩,rfl,rfl,rfl,rfl⟩
theorem vv {l:eK} {b:Str} (h:b.length≤1000000):0≤(trans l b).2.at_∧(trans l b).2.at_≤1000000:=by
 have hw:∀v,(write l v).2.at_=0:=fun v=>by unfold write;split;rfl;split;rfl;split <;> rfl
 unfold trans
 cases hd:Bs.decode b l with
 | error p =>
  obtain ⟨e,a⟩:=p
  obtain ⟨g1,g2⟩:=uS hd
  rw [aq (show (iI (.error (e,a):Except E (List bx))).err≠0 from g1)]
  show (0:Int)≤(a:Int)∧(a:Int)≤1000000
  omega
 | ok ks =>
  rw [al (show ¬(iI (.ok ks:Except E (List bx))).err≠0 from fun h=>h rfl),hw]
  omega
end Gt
end Go.Eng
set_option maxRecDepth 20000
namespace Go.Eng
open Go.IntWalk
theorem yi {a b c:Nat} (d:Nat) (ha:a<256) (hb:b<256) (hc:c<256):((a ||| b * 2 ^ 8) ||| c * 2 ^ 16) ||| d * 2 ^ 24=a+256 * (b+256 * (c+256 * d)):=by
 rw [Nat.or_comm a,lk (by omega),Nat.or_comm _ (c * 2 ^ 16),lk (by omega),Nat.or_comm _ (d * 2 ^ 24),lk (by omega)]
 omega
theorem jP {n:Nat} (h:n<4294967296):(UInt32.ofInt (n:Int)).toNat=n:=by
 have:=nS (n:Int)
 rw [wrap_u32'] at this
 omega
theorem la {a:UInt32} {n:Nat} (h:a.toNat * 2 ^ n<4294967296):(lL a n).toNat=a.toNat * 2 ^ n:=by
 unfold lL
 rw [UInt32.toNat_ofNat']
 exact Nat.mod_eq_of_lt h
theorem Bs.vO {b:Str} {p:Nat} (h:p+4≤b.length):Bs.vd b p=(b.getD p 0).toNat+256 * ((b.getD (p+1) 0).toNat+256 * ((b.getD (p+2) 0).toNat+256 * (b.getD (p+3) 0).toNat)):=by
 unfold Bs.vd
 rw [drop_cons (by omega) 0,drop_cons (by omega) 0,drop_cons (by omega) 0,drop_cons (by omega) 0]
 rfl
theorem cY.goal (b:List UInt8) (at_:Int) (hp:decide (b.length≤1000000000)=true):cY.F b at_=some [.i .i64 (Gt.iP b at_).1,.b (Gt.iP b at_).2]:=by
 have hl:=au hp
 refine cY.cR _ _ ?_
 intro v1 h1 v2 h2 v3 h3 v4 h4 v5 h5 v6 h6 v7 h7 v8 h8 v9 h9 v10 iU v11 tk v12 vi jY tj nR zM rB AX tM B4 zm Da zl C9
 simp only [aU,ba,bc,eQ]
 have q1:v1=(b.length:Int) - 4:=by rw [h1,i64_in _ (by omega)]
 unfold Gt.iP
 by_cases c:0≤at_∧at_+4≤(b.length:Int)
 ·obtain ⟨c1,c2⟩:=c
  have q5:v5=at_+1:=by rw [h5,i64_in _ (by omega)]
  have q9:v9=at_+2:=by rw [h9,i64_in _ (by omega)]
  have Cn:jY=at_+3:=by rw [tj,i64_in _ (by omega)]
  have b3:=v3.toNat_lt;have b6:=v6.toNat_lt;have IQ:=v10.toNat_lt;have IP:=nR.toNat_lt
  have q4:v4.toNat=v3.toNat:=by rw [h4,jP (by omega)]
  have q7:v7.toNat=v6.toNat:=by rw [h7,jP (by omega)]
  have zq:v11.toNat=v10.toNat:=by rw [tk,jP (by omega)]
  have Ha:rB.toNat=nR.toNat:=by rw [AX,jP (by omega)]
  have q8:v8.toNat=v6.toNat * 2 ^ 8:=by rw [h8,show ((8:UInt64)).toNat=8 from rfl,la (by omega),q7]
  have Hc:v12.toNat=v10.toNat * 2 ^ 16:=by rw [vi,show ((16:UInt64)).toNat=16 from rfl,la (by omega),zq]
  have G9:tM.toNat=nR.toNat * 2 ^ 24:=by rw [B4,show ((24:UInt64)).toNat=24 from rfl,la (by omega),Ha]
  have G8:zm.toNat=Bs.vd b at_.toNat:=by
   rw [Da,UInt32.toNat_or,UInt32.toNat_or,UInt32.toNat_or,q4,q8,Hc,G9,yi _ (by omega) (by omega) (by omega),Bs.vO (by omega),h3,h6,iU,zM,q5,q9,Cn,show (at_+1).toNat=at_.toNat+1 by omega,show (at_+2).toNat=at_.toNat+2 by omega,show (at_+3).toNat=at_.toNat+3 by omega]
  have eL:=Bs.oS b at_.toNat
  have G7:zl=Bs.cU b at_.toNat:=by
   rw [C9,G8,FL]
   unfold Bs.cU
   split <;> split <;> omega
  have hr:=Bs.ja b at_.toNat
  have q2:v2=false:=by rw [h2,ab (by omega),af,ab (by omega)]
  rw [q2,af,bw (eT (by omega) (by omega)),bw (eT (by omega) (by omega)),bw (eT (by omega) (by omega)),bw (eT (by omega) (by omega)),aq ⟨c1,c2⟩,G7,i64_in _ (by omega)]
 ·have q2:v2=true:=by
   rw [h2]
   by_cases d:at_<0
   ·rw [aa d];rfl
   ·rw [ab d,af];exact aa (by omega)
  rw [q2,ao,al c]
theorem dZ.goal (f:Int) (l:eK):dZ.F f l=some [.b (decide (1≤f∧f≤5)&&Bs.may l)]:=by
 refine dZ.cR _ _ ?_
 intro v1 h1
 simp only [aU,eQ]
 have q1:v1=decide (1≤f∧f≤5):=by
  rw [h1]
  by_cases c:1≤f
  ·rw [aa c,ao];exact aV.2 ⟨fun h=>⟨c,h⟩,fun h=>h.2⟩
  ·rw [ab c,af];exact (ab (fun h=>c h.1)).symm
 rw [q1]
 cases decide (1≤f∧f≤5) <;> rfl
theorem Au (l:eK):(decide ((1:Int)≤1∧(1:Int)≤5)&&Bs.may l)=Bs.may l:=by rw [aa ⟨by decide,by decide⟩,Bool.true_and]
theorem ei.goal (f:Int) (l:eK) (b:List UInt8) (hp:decide (f=1∧b.length≤1000000000)=true):ei.F f l b=some [.ag (bu.cells (Bs.nN (Bs.decode b l))),.ag (cq.cells (Bs.iI (Bs.decode b l)))]:=by
 obtain ⟨rfl,hl⟩:=au hp
 refine ei.cR _ _ _ ?_
 intro v1 h1 v2 h2
 rw [Au] at h1
 rw [h1]
 cases hm:Bs.may l with
 | false =>
  have e:Bs.decode b l = .error (1,0):=by unfold Bs.decode;rw [aq hm]
  rw [e];rfl
 | true=>rw [aK,af,aa rfl,ao,bw (aa hl)]
theorem eh.goal (f:Int) (v:bu) (hp:decide (f=1∧bx.dk (bx.of [] v)≤10000000000)=true):eh.F f v=some [.sl .bs (Bs.encode v).1,.ag (cq.cells ⟨(Bs.encode v).2.1,0,(Bs.encode v).2.2⟩)]:=by
 obtain ⟨rfl,hl⟩:=au hp
 refine eh.cR _ _ ?_
 intro v1 h1
 rw [aa rfl,ao,bw (aa hl),h1]
theorem dE.goal (f:Int) (l:eK) (v:bu) (hp:decide (f=1∧bx.dk (bx.of [] v)≤10000000000)=true):dE.F f l v=some [.sl .bs (Gt.write l v).1,.sl .mh [],.ag (cq.cells (Gt.write l v).2)]:=by
 obtain ⟨rfl,hl⟩:=au hp
 refine dE.cR _ _ _ ?_
 intro v1 h1 v2 h2 v3 h3
 rw [Au] at h1
 rw [h1]
 unfold Gt.write
 cases hm:Bs.may l with
 | false=>rw [aq rfl];rfl
 | true =>
  rw [aK,af,bw (aa ⟨rfl,hl⟩),al (by decide),h2]
  by_cases c:(Bs.encode v).2.1=0
  ·rw [al (fun h=>h c),show decide (cq.err ⟨(Bs.encode v).2.1,0,(Bs.encode v).2.2⟩=0)=true from aa c,aK,af]
   by_cases d:l.out<((Bs.encode v).1.length:Int)
   ·rw [aq d,h3,aa d];rfl
   ·rw [al d,h3,ab d];rfl
  ·rw [aq c,show decide (cq.err ⟨(Bs.encode v).2.1,0,(Bs.encode v).2.2⟩=0)=false from ab c];rfl
theorem Bs.wU {b:Str} {l:eK} (h:b.length≤1000000000):bx.dk (bx.of [] (Bs.nN (Bs.decode b l)))≤1000000001:=by
 cases hd:Bs.decode b l with
 | error p=>exact Nat.le_trans (show (1:Nat)+0+0+0+0+0≤1 by omega) (by omega)
 | ok ks =>
  obtain ⟨_,_,g3,g4,_⟩:=(Bs.so h).1 hd
  have hs:=Bs.sj g4
  rw [←g3] at hs
  have hb:=Bs.jL ks g4
  show 1+0+0+0+0+bx.cw ks≤_
  omega
theorem bY.goal (f t:Int) (l:eK) (b:List UInt8) (hp:decide (f=1∧t=1∧b.length≤1000000000)=true):bY.F f t l b=some [.sl .bs (Gt.trans l b).1,.sl .mh [],.ag (cq.cells (Gt.trans l b).2)]:=by
 obtain ⟨rfl,rfl,hl⟩:=au hp
 refine bY.cR _ _ _ _ ?_
 intro v1 h1 v2 h2 v3 h3 v4 h4 v5 h5
 rw [Au] at h1 h2
 simp only [aU,ba,bc,eQ]
 rw [h1,h2]
 unfold Gt.trans
 cases hm:Bs.may l with
 | false =>
  have e:Bs.decode b l = .error (1,0):=by unfold Bs.decode;rw [aq hm]
  rw [e];rfl
 | true =>
  have hb:=Bs.wU (l:=l) hl
  rw [aK,af,af,bw (aa ⟨trivial,hl⟩),h3]
  by_cases c:cq.err (Bs.iI (Bs.decode b l))=0
  ·rw [al (fun h=>h c),aa c,aK,af,bw (aa ⟨trivial,by omega⟩),h4,h5]
  ·rw [aq c,ab c];rfl
theorem eU.goal (t:Int) (l:eK) (hp:(decide (1≤t∧t≤5)&&Bs.may l)=true):eU.F t l=some [.ag [.i .i64 t,.i .i64 l.depth,.i .i64 l.size,.i .i64 l.out,.i .i64 0,.pt,.b false],.i .i64 0,.sl .bs []]:=by
 rw [ae] at hp
 obtain ⟨h1,h2⟩:=hp
 obtain ⟨h1,h3⟩:=au h1
 refine eU.cR _ _ ?_
 intro v1 e1
 simp only [aU,ba,bc,eQ]
 have q1:v1=false:=by rw [e1,ab (by omega),af,ab (by omega)]
 rw [q1,h2];rfl
theorem en.goal (g:bS) (b:List UInt8):en.F g b=some [.i .i64 (b.length:Int),.ag [.i .i64 g.fk,.i .i64 g.depth,.i .i64 g.size,.i .i64 g.out,.i .i64 g.at_,.pt,.b g.bT],.sl .bs b]:=en.fh g b
theorem dI.goal (g:bS) (e:Int):dI.F g e=some [.ag (Out.cells (Gt.j0 e g.at_)),.ag [.i .i64 (Gt.dT g).fk,.i .i64 (Gt.dT g).depth,.i .i64 (Gt.dT g).size,.i .i64 (Gt.dT g).out,.i .i64 (Gt.dT g).at_,.pt,.b (Gt.dT g).bT],.sl .bs []]:=dI.fh g e
theorem eV.goal (g:bS) (b:List UInt8):eV.F g b=some [.sl .ou (Gt.end_ g b).1,.ag [.i .i64 (Gt.end_ g b).2.1.fk,.i .i64 (Gt.end_ g b).2.1.depth,.i .i64 (Gt.end_ g b).2.1.size,.i .i64 (Gt.end_ g b).2.1.out,.i .i64 (Gt.end_ g b).2.1.at_,.pt,.b (Gt.end_ g b).2.1.bT],.sl .bs (Gt.end_ g b).2.2]:=by
 refine eV.cR _ _ ?_
 intro v1 h1 v2 h2
 simp only [aU,ba,bc,eQ]
 unfold Gt.end_
 by_cases c:g.bT=true∨b=[]
 ·have q1:v1=true:=by
   rw [h1]
   rcases c with c | c
   ·rw [c];rfl
   ·subst c;cases g.bT <;> rfl
  rw [q1,aq c];rfl
 ·have q1:v1=false:=by
   rw [h1,show g.bT=false by cases h:g.bT with | false=>rfl | true=>exact absurd (.inl h) c,af]
   refine ab fun h=>c (.inr (List.length_eq_zero_iff.1 (by omega)))
  rw [q1,al c,h2];rfl
theorem bI.zO (t d s o a:Int) (h:Str) (acc:List Out) (hh:h.length≤1000000):bI.g1 t d s o a h false acc=some [.sl .ou acc,.ag [.i .i64 t,.i .i64 d,.i .i64 s,.i .i64 o,.i .i64 a,.pt,.b false],.sl .bs h]:=by
 rw [bI.lP,bw (fQ (by omega) (by omega))]
theorem bI.tp (d s o:Int):∀(n:Nat) (z:Out) (a:Int) (h:Str) (acc:List Out),h.length<n→h.length≤1000000→0≤a→a+(h.length:Int)≤1000002000000→acc.length+h.length≤1000000 →
  bI.g3 z 1 d s o a h false acc=some [.sl .ou (Gt.fA ⟨d,s,o⟩ n a h acc).1,.ag [.i .i64 1,.i .i64 d,.i .i64 s,.i .i64 o,.i .i64 (Gt.fA ⟨d,s,o⟩ n a h acc).2.1,.pt,.b (Gt.fA ⟨d,s,o⟩ n a h acc).2.2.2],.sl .bs (Gt.fA ⟨d,s,o⟩ n a h acc).2.2.1]
 | 0,_,_,_,_,hn,_,_,_,_=>absurd hn (Nat.not_lt_zero _)
 | n+1,z,a,h,acc,hn,hh,h0,ha,hc=>by
  refine bI.ot _ _ _ _ _ _ _ _ _ ?_
  intro v1 h1 v2 h2 v3 h3 v4 h4 v5 h5 v6 h6 v7 h7 v8 h8 v9 h9 v10 iU v11 tk v12 vi jY tj
  rw [bw (aa (by omega)),Gt.fA]
  by_cases c1:h.length<4
  ·rw [h2,aq c1,show (Gt.iP h 0).2=false by unfold Gt.iP;rw [al (by omega)],aQ,ao,bI.zO _ _ _ _ _ _ _ hh]
  have e:Gt.iP h 0=(Bs.cU h 0,true):=by unfold Gt.iP;rw [aq (by omega)];rfl
  rw [e] at h1 h2
  have h1:v1=Bs.cU h 0:=h1
  have h2:v2=true:=h2
  have C2:∀w:Out,eO (acc.length + [w].length) 96=true:=fun w=>fQ (by rw [aD];omega) (by rw [aD];omega)
  rw [h2,al c1,aK,af,←h1]
  by_cases c2:v1<5
  ·rw [aq c2,aa c2,ao,bw (C2 _),h3,h4,h5,h6,h7,h8,h9];rfl
  rw [al c2,ab c2,af]
  by_cases c3:s<v1
  ·rw [aq c3,aa c3,ao,bw (C2 _),h3,h4,h5,h6,h7,h8,iU];rfl
  rw [al c3,ab c3,af]
  by_cases c4:(h.length:Int)<v1
  ·rw [aq c4,aa c4,ao,bI.zO _ _ _ _ _ _ _ hh]
  rw [al c4,ab c4,af,bw (gj (by omega) (by omega) (by omega)),bw (aa ⟨rfl,rfl,by rw [ay];omega⟩)]
  have hd:(h.drop v1.toNat).length=h.length - v1.toNat:=aL
  have step:∀w:Out,bI.j2 v1 w 1 d s o a h false acc=some [.sl .ou (Gt.fA ⟨d,s,o⟩ n (a+v1) (h.drop v1.toNat) (acc++[w])).1,.ag [.i .i64 1,.i .i64 d,.i .i64 s,.i .i64 o,.i .i64 (Gt.fA ⟨d,s,o⟩ n (a+v1) (h.drop v1.toNat) (acc++[w])).2.1,.pt,.b (Gt.fA ⟨d,s,o⟩ n (a+v1) (h.drop v1.toNat) (acc++[w])).2.2.2],.sl .bs (Gt.fA ⟨d,s,o⟩ n (a+v1) (h.drop v1.toNat) (acc++[w])).2.2.1]:=fun w=>by
   rw [bI.jE,bw (C2 _),bw (gj (by omega) (by omega) (by omega)),i64_in _ (by omega)]
   exact bI.tp d s o n w (a+v1) (h.drop v1.toNat) (acc++[w]) (by omega) (by omega) (by omega) (by omega) (by rw [ak,aD];omega)
  rw [step,step]
  have II:0≤v12.at_∧v12.at_≤1000000:=by rw [vi];exact Gt.vv (by rw [ay];omega)
  have Cn:jY=v12.at_+a:=by rw [tj,i64_in _ (by omega)]
  have yO:Gt.trans ⟨d,s,o⟩ (h.take v1.toNat)=(v11,v12):=by rw [tk,vi]
  rw [yO]
  unfold Gt.vS
  by_cases c5:v12.err=0
  ·rw [aq c5,aa c5,aK,af]
  ·rw [al c5,ab c5,aQ,ao,Cn]
theorem bI.goal (g:bS) (x b:List UInt8) (hp:decide (g.fk=1∧0≤g.at_∧g.at_≤1000000000000∧x.length+b.length≤1000000)=true):bI.F g x b=some [.sl .ou (Gt.feed g x b).1,.ag [.i .i64 (Gt.feed g x b).2.1.fk,.i .i64 (Gt.feed g x b).2.1.depth,.i .i64 (Gt.feed g x b).2.1.size,.i .i64 (Gt.feed g x b).2.1.out,.i .i64 (Gt.feed g x b).2.1.at_,.pt,.b (Gt.feed g x b).2.1.bT],.sl .bs (Gt.feed g x b).2.2]:=by
 obtain ⟨k1,k2,k3,k4⟩:=au hp
 refine bI.cR _ _ _ ?_
 intro v1 h1 v2 h2 v3 h3 v4 h4 v5 h5 v6 h6 v7 h7 v8 h8
 obtain ⟨t,d,s,o,a,st⟩:=g
 have k1:t=1:=k1
 subst k1
 have k2:0≤a:=k2
 have k3:a≤1000000000000:=k3
 cases st with
 | true=>rfl
 | false =>
  have hl:(b++x).length=b.length+x.length:=ak
  have g3:=bI.tp d s o (b.length+x.length+1) default a (b++x) [] (by omega) (by omega) k2 (by omega) (by show 0+_≤_;omega)
  show cond false _ _=_
  rw [af,bw (fQ (by omega) (by omega)),bw (aa (by omega))]
  refine Eq.trans ?_ g3
  symm
  refine bI.ot _ _ _ _ _ _ _ _ _ ?_
  intro w1 e1 w2 e2 w3 e3 w4 e4 w5 e5 w6 e6 w7 e7 w8 e8 w9 e9 G3 kT FM vm G2 yO G1 Bh
  have n1:w1=v1:=e1.trans h1.symm
  have n2:w2=v2:=e2.trans h2.symm
  subst n1;subst n2
  have Hh:FM=v6:=by rw [vm,h6,h5]
  have FV:G2=v7:=by rw [yO,h7,h5]
  have Hg:G1=v8:=by rw [Bh,h8,FV]
  rw [bw (aa (by omega)),e3,e4,e5,e6,e7,e8,e9,kT,Hh,FV,Hg,h3,h4,h5]
  rfl
end Go.Eng
set_option maxRecDepth 20000
namespace Go.Eng
open Go.IntWalk
abbrev Bs.told (Y:Except Bs.E (bu × Nat)) (b:Str) (a:Int):OT:=some [.ag (bu.cells (Bs.gh (Bs.cS 0,0) Y).1),.i .i64 ((Bs.gh (Bs.cS 0,0) Y).2:Int),.ag (cq.cells (Bs.iI Y)),.ag (bA.cells ⟨b,a⟩)]
theorem ri (n:Nat) {A:Type} {X:Except Bs.E A} (Y:Except Bs.E (bu × Nat)) (hX:Bs.GX X) (f:A→bu × Nat) (he:∀e,X = .error e→Y = .error e) (ho:∀y,X = .ok y→Y = .ok (f y)) {x0:Int} {x1:bu} (h:∀y,X = .ok y→x0=((f y).2:Int)∧x1=(f y).1) {x2:cq} (h2:x2=Bs.iI X) (b:Str) (a:Int):bt.j2 n x0 x1 x2 b a=Bs.told Y b a:=by
 rw [bt.jE,h2]
 cases X with
 | error e =>
  obtain ⟨e1,e2⟩:=e
  rw [he _ rfl,ab (show ¬cq.err (Bs.iI (.error (e1,e2):Except Bs.E A))=0 from hX e1 e2 rfl)];rfl
 | ok y =>
  obtain ⟨g1,g2⟩:=h y rfl
  rw [ho y rfl,aa (show cq.err (Bs.iI (.ok y:Except Bs.E A))=0 from rfl),g1,g2];rfl
theorem rh (n:Nat) (v:bu) (x:Nat) (b:Str) (a:Int):bt.j2 n x v ⟨0,0,[]⟩ b a=Bs.told (.ok (v,x)) b a:=bt.jE ..
theorem sw (n:Nat) (v:bu) (x:Int) {e:Int} (h:e≠0) (q:Nat) (b:Str) (a:Int):bt.j2 n x v ⟨e,q,[]⟩ b a=Bs.told (.error (e,q)) b a:=by
 rw [bt.jE,ab (show ¬cq.err ⟨e,q,[]⟩=0 from h)];rfl
theorem Bs.xe {w:Str} {n:Int} {f:Nat} (h:n=f) (h1:1≤f) (h8:f≤8) (hl:f≤w.length):Bs.can ⟨w,0⟩ n=true:=by
 subst h;exact aa ⟨by omega,by omega,by show (f:Int)≤(w.length:Int) - 0;omega⟩
theorem Dh (n:Nat) {b:Str} {a d:Int} {q z y:Nat} (k:Int) (h1:q≤z) (h2:z≤b.length) (h3:b.length≤1000000000) (hd:0≤d∧d≤1000∧a≤1000∧d<a) (hn:3 * (a - d).toNat+1<n+1)
  (hz:¬z - q<Bs.fixed k) (hy:¬k=15→y=q) :
  bt.j5 n q z d y k (decide (k=3∨k=4)) (Bs.cS k) ⟨0,0,[]⟩ b a=Bs.told (Bs.xQ (Bs.doc (a - (d+1)).toNat) b k q z) b a:=by
 have hr:=Bs.jT b (a - (d+1)).toNat
 refine bt.Cv _ _ _ _ _ _ _ _ _ _ _ ?_
 intro v1 e1 v2 e2 v3 e3 v4 e4 v5 e5 v6 e6 v7 e7 v8 e8
 have q1:v1=d+1:=by rw [e1,i64_in _ (by omega)]
 rw [ar,ar] at e2 e3 e4 e5 e6 e7 e8
 have e0:=Bs.xQ.eq_1 (Bs.doc (a - (d+1)).toNat) b k q z
 by_cases c8:k=3∨k=4
 ·rw [aa c8,ao,bw (by
   rw [ae]
   exact ⟨aa ⟨by omega,by omega,by show (z:Int)≤(b.length:Int);omega,h3,by omega,by omega,hd.2.2.1⟩,aa (by show 3 * (a - v1).toNat+2<n;omega)⟩)]
  rw [aq c8] at e0
  rw [show (bA.mk b a).at_ - v1=a - (d+1) by rw [q1]] at e2 e3 e4
  refine ri n _ (hr q z 0 h1 h2).ne (fun y=>({ Bs.cS k with kids:=y.1 },y.2)) ?_ ?_ ?_ e4 b a
  ·intro e i;rw [e0,i]
  ·intro y i;rw [e0,i]
  ·intro y i
   have i:Bs.doc (a - (d+1)).toNat (bA.mk b a).b q z 0 = .ok y:=i
   rw [i] at e2 e3
   exact ⟨e3,by rw [e2];rfl⟩
 rw [ab c8,af]
 rw [al c8] at e0
 by_cases c9:k=15
 ·have hf:Bs.fixed k=4:=by rw [c9];decide
  rw [aa c9,ao,bw (by
   rw [ae]
   exact ⟨aa ⟨by omega,by omega,by show (z:Int)≤(b.length:Int);omega,h3,by omega,by omega,hd.2.2.1,hd.2.2.2⟩,aa (by show 3 * (a - d).toNat<n;omega)⟩)]
  rw [aq c9] at e0
  refine ri n _ (Bs.nX hr h1 h2).ne (fun y=>({ Bs.cS k with text:=(Bs.ew (Bs.doc (a - (d+1)).toNat) b q z).1,kids:=y.1 },y.2)) ?_ ?_ ?_ e8 b a
  ·intro e i;rw [e0,i]
  ·intro y i;rw [e0,i]
  ·intro y i
   have i:(Bs.ew (Bs.doc ((bA.mk b a).at_ - (d+1)).toNat) (bA.mk b a).b q z).2 = .ok y:=i
   rw [i] at e6 e7
   exact ⟨e7,by rw [e5,e6];rfl⟩
 rw [ab c9,af,e0,al c9,hy c9]
 exact rh n _ q b a
theorem Di (n:Nat) {b:Str} {a:Int} {z x:Nat} (v:bu) (h1:x+12≤z) (h2:z≤b.length) (h3:b.length≤1000000000):bt.j4 n x v ⟨0,0,[]⟩ b a=Bs.told (.ok ({ v with bytes:=Bs.sub b x 12 },x+12)) b a:=by
 refine bt.s7 _ _ _ _ _ _ ?_
 intro v1 e1 v2 e2
 have q1:v1=((x+12:Nat):Int):=by rw [e1,i64_in _ (by omega)];omega
 have q2:v2=Bs.sub b x 12:=by rw [e2,q1,ar,ar,List.drop_take,show x+12 - x=12 by omega];rfl
 have l2:v2.length≤12:=by rw [q2];unfold Bs.sub;rw [ay];omega
 rw [show decide (cq.err ⟨0,0,[]⟩=0)=true from rfl,ao,bw (by rw [q1];exact gj (by omega) (by omega) (by omega)),bw (fQ (by omega) (by omega)),q2,q1]
 exact rh n _ (x+12) b a
theorem xf (n:Nat) {b:Str} {a x:Int} (v:bu) {e:Int} (h:e≠0) (q:Nat):bt.j4 n x v ⟨e,q,[]⟩ b a=Bs.told (.error (e,q)) b a:=by
 refine bt.s7 _ _ _ _ _ _ ?_
 intro v1 e1 v2 e2
 rw [ab (show ¬cq.err ⟨e,q,[]⟩=0 from h),af];exact sw n _ _ h q b a
theorem Dj (n:Nat) {b:Str} {a d:Int} {q z y:Nat} (k:Int) (h1:q≤z) (h2:z≤b.length) (h3:b.length≤1000000000) (hd:0≤d∧d≤1000∧a≤1000∧d<a) (hn:3 * (a - d).toNat+1<n+1)
  (hz:¬z - q<Bs.fixed k) (hy:¬Bs.gF k=true→¬k=12→¬k=5→¬k=15→y=q) :
  bt.j3 n q z d y k (decide (k=2∨k=13∨k=14)) (Bs.cS k) ⟨0,0,[]⟩ b a=Bs.told (Bs.xO (Bs.doc (a - (d+1)).toNat) b k q z) b a:=by
 have ht:=@Bs.jo b q z h1 h2
 have hu:=@Bs.jS b q z h1 h2
 refine bt.qx _ _ _ _ _ _ _ _ _ _ _ ?_
 intro v1 e1 v2 e2 v3 e3 v4 e4 v5 e5 v6 e6 v7 e7 v8 e8 v9 e9 v10 kT v11 vm v12 yO jY Bh nR D1
 rw [ar,ar] at e1 e2 e3 e5 e6 e7 vm yO Bh D1
 have e0:=Bs.xO.eq_1 (Bs.doc (a - (d+1)).toNat) b k q z
 have hb:decide (0≤(q:Int)∧(q:Int)≤(z:Int)∧(z:Int)≤(b.length:Int)∧b.length≤1000000000)=true:=aa ⟨by omega,by omega,by omega,h3⟩
 rw [show decide (k=2∨k=13∨k=14)=Bs.gF k from rfl]
 by_cases c4:Bs.gF k=true
 ·rw [c4,ao,bw hb]
  rw [aq c4] at e0
  refine ri n _ ht.ne (fun y=>({ Bs.cS k with text:=y.1 },y.2)) ?_ ?_ ?_ e3 b a
  ·intro e i;rw [e0,i]
  ·intro y i;rw [e0,i]
  ·intro y i
   rw [show Bs.text (bA.mk b a).b q z = .ok y from i] at e1 e2
   exact ⟨e2,by rw [e1];rfl⟩
 have Ig:Bs.gF k=false:=by simpa using c4
 rw [Ig,af]
 rw [al c4] at e0
 by_cases c5:k=12
 ·rw [aa c5,ao,bw hb,bw (by cases decide (cq.err v3=0) <;> rfl),bw (by cases decide (cq.err v3=0) <;> rfl),bw (by cases decide (cq.err v3=0) <;> rfl)]
  rw [aq c5] at e0
  match hx:Bs.text b q z with
  | .error (e,i) =>
   rw [show Bs.text (bA.mk b a).b q z=_ from hx] at e1 e2 e3
   have gf:=(ht.1 e i hx).1
   have q3:v3=⟨e,i,[]⟩:=e3
   rw [e0,hx,e4,q3,ab (show ¬cq.err ⟨e,i,[]⟩=0 from gf),af,af]
   exact xf n _ gf i
  | .ok (s,x) =>
   rw [show Bs.text (bA.mk b a).b q z=_ from hx] at e1 e2 e3
   have hy:q≤x∧x≤z:=ht.2 _ hx
   have q3:v3=⟨0,0,[]⟩:=e3
   have q2:v2=(x:Int):=e2
   have q1:v1=s:=e1
   rw [e0,hx,e4,q3,q2,q1,show decide (cq.err ⟨0,0,[]⟩=0)=true from rfl,ao,i64_in _ (by omega)]
   show _=Bs.told (if z - x<12 then _ else _) b a
   by_cases c:z - x<12
   ·rw [aa (show (z:Int) - x<12 by omega),ao,aq c]
    exact xf n _ (by decide) x
   ·rw [ab (show ¬(z:Int) - x<12 by omega),af,al c]
    exact Di n _ (z:=z) (by omega) h2 h3
 rw [ab c5,af]
 rw [al c5] at e0
 by_cases c6:k=11
 ·rw [aa c6,ao,bw hb]
  rw [aq c6] at e0
  match hx:Bs.ended b q z with
  | .error (e,i) =>
   rw [show Bs.ended (bA.mk b a).b q z=_ from hx] at e5 e6 e7
   have gf:=(hu.1 e i hx).1
   have q7:v7=⟨e,i,[]⟩:=e7
   rw [e0,hx,q7,ab (show ¬cq.err ⟨e,i,[]⟩=0 from gf),af]
   exact sw n _ _ gf i b a
  | .ok (s,x) =>
   rw [show Bs.ended (bA.mk b a).b q z=_ from hx] at e5 e6 e7
   have hy:q≤x∧x≤z:=hu.2 _ hx
   have q7:v7=⟨0,0,[]⟩:=e7
   have q6:v6=(x:Int):=e6
   have q5:v5=s:=e5
   rw [q6,ar,ar] at e8 e9 kT
   rw [e0,hx,q7,show decide (cq.err ⟨0,0,[]⟩=0)=true from rfl,ao,q6,bw (aa ⟨by omega,by omega,by show (z:Int)≤(b.length:Int);omega,h3⟩)]
   refine ri n _ (@Bs.jS b x z hy.2 h2).ne (fun y=>({ Bs.cS k with text:=s,more:=y.1 },y.2)) ?_ ?_ ?_ kT b a
   ·intro e i
    show (match Bs.ended b x z with | .error e=>_ | .ok (m,y)=>_)=_
    rw [i]
   ·intro y i
    show (match Bs.ended b x z with | .error e=>_ | .ok (m,y)=>_)=_
    rw [i]
   ·intro y i
    rw [show Bs.ended (bA.mk b a).b x z = .ok y from i] at e8 e9
    exact ⟨e9,by rw [e8,q5];rfl⟩
 rw [ab c6,af]
 rw [al c6] at e0
 by_cases c7:k=5
 ·have hf:Bs.fixed k=5:=by rw [c7];decide
  rw [aa c7,ao,bw (aa ⟨by omega,by omega,by show (z:Int)≤(b.length:Int);omega,h3⟩)]
  rw [aq c7] at e0
  refine ri n _ (@Bs.nx b q z (by omega) h2).ne (fun y=>({ Bs.cS k with sub:=y.1,bytes:=y.2.1 },y.2.2)) ?_ ?_ ?_ D1 b a
  ·intro e i;rw [e0,i]
  ·intro y i;rw [e0,i]
  ·intro y i
   rw [show Bs.binary (bA.mk b a).b q z = .ok y from i] at vm yO Bh
   exact ⟨Bh,by rw [vm,yO];rfl⟩
 rw [ab c7,af,xc (fun p=>bt.j5 n q z d y k p (Bs.cS k) ⟨0,0,[]⟩ b a)]
 rw [e0,al c7]
 exact Dh n k h1 h2 h3 hd hn hz (fun h=>hy c4 c5 c7 h)
theorem Bs.uj {w:Str} {n:Int} {f:Nat} (h:n=f) (h1:1≤f) (h8:f≤8) (hl:f=w.length):Bs.fH ⟨w,0⟩ n=w:=by
 unfold Bs.fH
 rw [aq (Bs.xe h h1 h8 (by omega))]
 show (w.drop 0).take n.toNat=w
 rw [aY,h,ar,List.take_of_length_le (by omega)]
theorem Dk (n:Nat) {b:Str} {a d:Int} {q z:Nat} (k:Int) (h1:q≤z) (h2:z≤b.length) (h3:b.length≤1000000000) (hd:0≤d∧d≤1000∧a≤1000∧d<a) (hn:3 * (a - d).toNat+1<n+1)
  (hz:¬z - q<Bs.fixed k) :
  bt.j1 n k q z d (q+Bs.fixed k:Nat) (Bs.fixed k:Nat) k (decide (k=1∨k=9∨k=17∨k=18∨k=16∨k=8)) (Bs.cS k) ⟨0,0,[]⟩ (Bs.sub b q (Bs.fixed k)) 0 b a=Bs.told (Bs.eM (Bs.doc (a - (d+1)).toNat) b k q z) b a:=by
 have e0:=Bs.eM.eq_1 (Bs.doc (a - (d+1)).toNat) b k q z
 rw [al hz] at e0
 have lw:(Bs.sub b q (Bs.fixed k)).length=Bs.fixed k:=by unfold Bs.sub;rw [ay,aL];omega
 have f16:=Bs.qP k
 refine bt.qy _ _ _ _ _ _ _ _ _ _ _ _ _ _ _ ?_
 intro v1 e1 v2 e2 v3 e3 v4 e4 v5 e5 v6 e6 v7 e7 v8 e8 v9 e9 v10 kT v11 vm
 have ed:decide (k=1∨k=9∨k=17∨k=18∨k=16∨k=8)=decide (Bs.gM k=true∨k=16∨k=8):=aV.2 (by
  rw [Bs.qp]
  constructor
  ·rintro (h | h | h | h | h | h) <;> simp [h]
  ·rintro ((h | h | h | h) | h | h) <;> simp [h])
 rw [ed]
 by_cases c1:Bs.gM k=true∨k=16∨k=8
 ·have hf:=Bs.ox c1
  rw [aq c1] at e0
  rw [Bs.uj rfl hf.1 hf.2.1 lw.symm] at e2
  rw [aa c1,ao,bw (aa ⟨by omega,by omega,Int.le_refl _,by show (0:Int)≤((Bs.sub b q (Bs.fixed k)).length:Int);omega,by show (Bs.sub b q (Bs.fixed k)).length≤_;omega⟩),bw (by cases decide (k=8) <;> rfl),bw (by cases decide (k=8) <;> rfl),bw (by cases decide (k=8) <;> rfl)]
  have q4:v4=decide (k=8∧1<Bs.gD (Bs.sub b q 1)):=by
   rw [e4]
   by_cases c:k=8
   ·have hl:=Bs.lu (Bs.sub b q (Bs.fixed k))
    rw [lw,hf.2.2 c] at hl
    rw [aa c,ao,e2]
    refine aV.2 ⟨fun h=>⟨c,?_⟩,fun h=>?_⟩
    ·have:=aZ.1 h
     rw [UInt64.toNat_ofNat',hf.2.2 c,Nat.mod_eq_of_lt (by omega)] at this
     exact this
    ·refine aZ.2 ?_
     rw [UInt64.toNat_ofNat',hf.2.2 c,Nat.mod_eq_of_lt (by omega)]
     exact h.2
   ·rw [ab c,af,ab (fun h=>c h.1)]
  rw [q4]
  by_cases c:k=8∧1<Bs.gD (Bs.sub b q 1)
  ·rw [aa c,ao,e0,aq c]
   exact sw n _ _ (by decide) q b a
  ·rw [ab c,af,e0,al c,e2]
   exact rh n _ _ b a
 rw [ab c1,af]
 rw [al c1] at e0
 by_cases c2:k=19
 ·have hf:Bs.fixed k=16:=by rw [c2];decide
  rw [hf] at lw e5 e6 e7 ⊢
  have cn:Bs.can ⟨Bs.sub b q 16,0⟩ 8=true:=Bs.xe (f:=8) rfl (by omega) (by omega) (by omega)
  have q5:v5=⟨Bs.sub b q 16,8⟩:=by rw [e5];unfold Bs.jA;rw [aq cn];rfl
  have cm:Bs.can ⟨Bs.sub b q 16,8⟩ 8=true:=aa ⟨by omega,by omega,by show (8:Int)≤((Bs.sub b q 16).length:Int) - 8;omega⟩
  have q6:v6=UInt64.ofNat (Bs.gD (Bs.sub b q 8)):=by
   rw [e6];unfold Bs.fH;rw [aq cn]
   show UInt64.ofNat (Bs.gD (((Bs.sub b q 16).drop 0).take 8))=_
   rw [aY];unfold Bs.sub;rw [List.take_take];rfl
  have q8:v8=UInt64.ofNat (Bs.gD (Bs.sub b (q+8) 8)):=by
   rw [e8,q5];unfold Bs.fH;rw [aq cm]
   show UInt64.ofNat (Bs.gD (((Bs.sub b q 16).drop 8).take 8))=_
   unfold Bs.sub;rw [List.drop_take,List.drop_drop,List.take_take];rfl
  rw [aa c2,ao,bw (aa ⟨by omega,by omega,Int.le_refl _,by show (0:Int)≤((Bs.sub b q 16).length:Int);omega,by show (Bs.sub b q 16).length≤_;omega⟩),q5,bw (aa ⟨by omega,by omega,by show (0:Int)≤8;omega,by show (8:Int)≤((Bs.sub b q 16).length:Int);omega,by show (Bs.sub b q 16).length≤_;omega⟩),e0,aq c2,q6,q8]
  exact rh n _ _ b a
 rw [ab c2,af]
 rw [al c2] at e0
 by_cases c3:k=7
 ·have hf:Bs.fixed k=12:=by rw [c3];decide
  rw [hf] at lw kT ⊢
  have cn:Bs.qY ⟨Bs.sub b q 12,0⟩ 12=true:=aa ⟨by omega,by show (12:Int)≤((Bs.sub b q 12).length:Int) - 0;omega⟩
  have Co:v10=Bs.sub b q 12:=by
   rw [kT];unfold Bs.pW;rw [aq (show Bs.qY ⟨Bs.sub b q 12,0⟩ ((12:Nat):Int)=true from cn)]
   show ((Bs.sub b q 12).drop 0).take 12=_
   rw [aY,List.take_of_length_le (by omega)]
  rw [aa c3,ao,bw (aa ⟨by omega,Int.le_refl _,by show (0:Int)≤((Bs.sub b q 12).length:Int);omega,by show (Bs.sub b q 12).length≤_;omega⟩),e0,aq c3,Co]
  exact rh n _ _ b a
 rw [ab c3,af,e0,al c3,xb (fun p=>bt.j3 n q z d (q+Bs.fixed k:Nat) k p (Bs.cS k) ⟨0,0,[]⟩ b a)]
 refine Dj n k h1 h2 h3 hd hn hz (fun c4 c5 c7 c9=>?_)
 have:Bs.fixed k=0:=by
  unfold Bs.fixed
  rw [al (fun h=>c1 (.inl h)),al (by rintro (h | h | h | h);exact c1 (.inr (.inl h));exact c4 h;exact c5 h;exact c9 h),al (fun h=>c1 (.inr (.inr h))),al c2,al c3,al c7]
 omega
theorem bt.goal (n:Nat) (r:bA) (k q z d:Int) (hp:((decide (0≤q∧q≤z∧z≤((r.b).length:Int)∧(r.b).length≤1000000000∧0≤d∧d≤1000∧r.at_≤1000∧d<r.at_))&&decide ((3 * (r.at_ - d).toNat+1)<n+1))=true):bt.F n r k q z d=Bs.told (Bs.eM (Bs.doc (r.at_ - (d+1)).toNat) r.b k q.toNat z.toNat) r.b r.at_:=by
 rw [ae] at hp
 obtain ⟨h1,h2,h3,h4,h5,h6,h7,h8⟩:=au hp.1
 have hn:=au hp.2
 obtain ⟨q,rfl⟩:∃k:Nat,q=(k:Int):=⟨q.toNat,by omega⟩
 obtain ⟨z,rfl⟩:∃k:Nat,z=(k:Int):=⟨z.toNat,by omega⟩
 refine bt.cR _ _ _ _ _ _ ?_
 rw [ar q,ar z]
 intro v1 e1 v2 e2
 have f16:=Bs.qP k
 rw [i64_in ((z:Int) - q) (by omega)]
 by_cases c:z - q<Bs.fixed k
 ·rw [aa (show (z:Int) - q<(Bs.fixed k:Nat) by omega),ao];unfold Bs.eM;rw [aq c];rfl
 have q1:v1=((q+Bs.fixed k:Nat):Int):=by rw [e1,i64_in _ (by omega)];omega
 have q2:v2=Bs.sub r.b q (Bs.fixed k):=by rw [e2,q1,ar,List.drop_take,show q+Bs.fixed k - q=Bs.fixed k by omega];rfl
 have l2:v2.length≤1099511627776:=by rw [q2];unfold Bs.sub;rw [ay];omega
 rw [ab (show ¬(z:Int) - q<(Bs.fixed k:Nat) by omega),af,bw (by rw [q1];exact gj (by omega) (by omega) (by omega)),bw (aa l2),q1,q2]
 exact (zU (fun p=>bt.j1 n k q z d (q+Bs.fixed k:Nat) (Bs.fixed k:Nat) k p (Bs.cS k) ⟨0,0,[]⟩ (Bs.sub r.b q (Bs.fixed k)) 0 r.b r.at_)).trans (Dk n k (by omega) (by omega) h4 ⟨h5,h6,h7,h8⟩ hn c)
end Go.Eng
set_option maxRecDepth 20000
namespace Go.Eng
open Go.IntWalk
abbrev Bs.pT (s:List TV) (Y:Except Bs.E (List bx × Nat)) (b:Str) (a:Int):OT:=some (s++[.sl .fl (Bs.gh ([],0) Y).1,.i .i64 ((Bs.gh ([],0) Y).2:Int),.ag (cq.cells (Bs.iI Y)),.ag (bA.cells ⟨b,a⟩)])
theorem da.goal (n:Nat) (r:bA) (q z d:Int) (hp:((decide (0≤q∧q+4≤z∧z≤((r.b).length:Int)∧(r.b).length≤1000000000∧0≤d∧d≤1000∧r.at_≤1000∧d<r.at_))&&decide ((3 * (r.at_ - d).toNat)<n+1))=true):da.F n r q z d=Bs.pT [.s (Bs.ew (Bs.doc (r.at_ - (d+1)).toNat) r.b q.toNat z.toNat).1] (Bs.ew (Bs.doc (r.at_ - (d+1)).toNat) r.b q.toNat z.toNat).2 r.b r.at_:=by
 rw [ae] at hp
 obtain ⟨h1,h2,h3,h4,h5,h6,h7,h8⟩:=au hp.1
 have hn:=au hp.2
 obtain ⟨q,rfl⟩:∃k:Nat,q=(k:Int):=⟨q.toNat,by omega⟩
 obtain ⟨z,rfl⟩:∃k:Nat,z=(k:Int):=⟨z.toNat,by omega⟩
 refine da.cR _ _ _ _ _ ?_
 rw [ar q,ar z]
 intro v1 e1 v2 e2 v3 e3 v4 e4 v5 e5 v6 e6 v7 e7 v8 e8 v9 e9 v10 kT
 have hr:=Bs.ja r.b q
 have IH:=Bs.jT r.b (r.at_ - (d+1)).toNat
 unfold Bs.ew
 generalize Bs.cU r.b q=m at *
 unfold Bs.mH
 rw [i64_in ((z:Int) - q) (by omega)] at e1
 have q1:v1=decide (m<14∨(z:Int) - q<m):=by
  rw [e1]
  by_cases c:m<14
  ·rw [aa c,aa (show m<14∨(z:Int) - q<m from .inl c)];rfl
  ·rw [ab c,af];exact aV.2 (by omega)
 rw [bw (aa ⟨by omega,by omega,h4⟩),bw (tc _).1,bw (tc _).1,bw (tc _).2.2,q1]
 by_cases c:m<14∨(z:Int) - q<m
 ·rw [aa c,ao,aq c];rfl
 rw [ab c,af,al c]
 have q2:v2=((q+4:Nat):Int):=by rw [e2,i64_in _ (by omega)];omega
 have q3:v3=((q+m.toNat:Nat):Int):=by rw [e3,i64_in _ (by omega)];omega
 have q7:v7=d+1:=by rw [e7,i64_in _ (by omega)]
 rw [q2,q3,ar,ar] at e4 e5 e6
 have ht:=@Bs.jo r.b (q+4) (q+m.toNat) (by omega) (by omega)
 rw [q2,q3,bw (aa ⟨by omega,by omega,by omega,h4⟩)]
 match hx:Bs.text r.b (q+4) (q+m.toNat) with
 | .error (e,i) =>
  rw [hx] at e6
  have q6:v6=⟨e,i,[]⟩:=e6
  rw [q6,ab (show ¬cq.err ⟨e,i,[]⟩=0 from (ht.1 e i hx).1)];rfl
 | .ok (s,x) =>
  have hy:q+4≤x∧x≤q+m.toNat:=ht.2 _ hx
  rw [hx] at e4 e5 e6
  have q6:v6=⟨0,0,[]⟩:=e6
  have q5:v5=(x:Int):=e5
  have q4:v4=s:=e4
  rw [q5,q3,q7,ar,ar] at e8 e9 kT
  rw [q6,show decide (cq.err ⟨0,0,[]⟩=0)=true from rfl,aK,af,q5,q7,bw (by
   rw [ae]
   exact ⟨aa ⟨by omega,by omega,by omega,h4,by omega,by omega,h7⟩,aa (by omega)⟩),e8,e9,kT,q4];rfl
theorem Dl (n:Nat) {b:Str} {a:Int} {z x:Nat} (f:cq) (acc:List bx) (h:z<b.length) (hx:x=z+1):bz.g1 n (x:Int) (z:Int) f b a acc=Bs.pT [] (if b.getD z 0≠0 then .error (3,z) else .ok (acc,z+1)) b a:=by
 refine bz.De _ _ _ _ _ _ _ ?_
 intro v1 e1
 rw [ar] at e1
 rw [bw (eT (by omega) (by omega)),←e1]
 by_cases c:v1=0
 ·rw [aa c,al (by simp [c]),hx];rfl
 ·rw [ab c,aq c];rfl
theorem zV (m:Nat) {b:Str} {a d:Int} {z:Nat} (hz:z<b.length) (h3:b.length≤1000000000) (hd:0≤d∧d≤1000∧a≤1000∧d<a) (hn:3 * (a - d).toNat+1<m):∀(n at_:Nat) (f:cq) (v:bu) (acc:List bx),at_≤z→z - at_<n→acc.length≤at_ →
  bz.g2 m d (z+1:Nat) at_ f v b a acc=Bs.pT [] (Bs.rH (Bs.eM (Bs.doc (a - (d+1)).toNat) b) b z n at_ acc) b a
 | 0,at_,f,v,acc,h1,h2,hl=>by omega
 | n+1,at_,f,v,acc,h1,h2,hl=>by
  have hv:=fun k q hq=>@Bs.pR (Bs.doc (a - (d+1)).toNat) b (Bs.jT b _) k q z hq (by omega)
  refine bz.zN _ _ _ _ _ _ _ _ _ ?_
  intro v1 e1 v2 e2 v3 e3 v4 e4 v5 e5 v6 e6 v7 e7 v8 e8 v9 e9 v10 kT v11 vm
  have q1:v1=(z:Int):=by rw [e1,i64_in _ (by omega)];omega
  have q4:v4=(at_:Int)+1:=by rw [e4,i64_in _ (by omega)]
  rw [ar] at e2
  have hb:=v2.toNat_lt
  have q3:v3=(v2.toNat:Int):=by rw [e3,i64_in _ (by omega)]
  rw [q1,ar,q4] at e5 e6 e7
  unfold Bs.rH
  rw [q1]
  by_cases c:at_=z
  ·rw [aa (show (at_:Int)=z by omega),ao,aq c,c]
   exact Dl m f acc hz rfl
  rw [ab (show ¬(at_:Int)=z by omega),af,al c,bw (eT (by omega) (by omega)),←e2]
  by_cases c2:v2=0
  ·rw [aa c2,ao,aq c2];rfl
  rw [ab c2,af,al c2,bw (eT (by omega) (by omega)),q3]
  by_cases c3:Tree.name (v2.toNat:Int)=[]
  ·rw [aa c3,ao,aq c3];rfl
  rw [ab c3,af,al c3,bw (gj (by omega) (by omega) (by omega)),bw (aa (by rw [ar,ay];omega)),q4]
  show _=Bs.pT [] (if (Bs.ctext (b.take z) ((at_:Int)+1)).2.2≠0 then _ else _) b a
  rw [←e7]
  by_cases c4:v7=0
  ·rw [aa c4,aK,af,al (by simp [c4])]
   rw [e7] at c4
   obtain ⟨_,k,_,k2,_,k1,_⟩:=Bs.hO c4
   rw [ay] at k2
   rw [←e6] at k1 ⊢
   rw [←e5]
   have hr:=hv (v2.toNat:Int) v6.toNat (by omega)
   rw [q1,ar,q3] at e8 e9 kT
   rw [bw (by
    rw [ae]
    exact ⟨aa ⟨by omega,by omega,by show (z:Int)≤(b.length:Int);omega,h3,hd.1,hd.2.1,hd.2.2.1,hd.2.2.2⟩,aa hn⟩)]
   match hx:Bs.eM (Bs.doc (a - (d+1)).toNat) b (v2.toNat:Int) v6.toNat z with
   | .error (e,i) =>
    rw [show Bs.eM (Bs.doc ((bA.mk b a).at_ - (d+1)).toNat) (bA.mk b a).b (v2.toNat:Int) v6.toNat z=_ from hx] at kT
    have Co:v10=⟨e,i,[]⟩:=kT
    rw [Co,ab (show ¬cq.err ⟨e,i,[]⟩=0 from (hr.1 e i hx).1)];rfl
   | .ok (w,x) =>
    rw [show Bs.eM (Bs.doc ((bA.mk b a).at_ - (d+1)).toNat) (bA.mk b a).b (v2.toNat:Int) v6.toNat z=_ from hx] at e8 e9 kT
    have Co:v10=⟨0,0,[]⟩:=kT
    have q9:v9=(x:Int):=e9
    have q8:v8=w:=e8
    have hy:v6.toNat≤x∧x≤z:=hr.2 _ hx
    have zq:v11=[bx.of v5 w]:=by rw [vm,q8];rfl
    rw [Co,show decide (cq.err ⟨0,0,[]⟩=0)=true from rfl,aK,af,zq,bw (fQ (by show (acc.length+1) * 136≤_;omega) (by show acc.length+1≤_;omega)),q9,q8]
    exact zV m hz h3 hd hn n x _ w (acc++[bx.of v5 w]) hy.2 (by omega) (by rw [ak];show acc.length+1≤x;omega)
  ·rw [ab c4,aQ,ao,aq c4];rfl
theorem bz.goal (n:Nat) (r:bA) (p z d fZ:Int) (hp:((decide (0≤p∧p≤z∧z≤((r.b).length:Int)∧(r.b).length≤1000000000∧0≤d∧d≤1000∧r.at_≤1000))&&decide ((3 * (r.at_ - d).toNat+2)<n+1))=true):bz.F n r p z d fZ=Bs.pT [] (Bs.doc (r.at_ - d).toNat r.b p.toNat z.toNat fZ) r.b r.at_:=by
 rw [ae] at hp
 obtain ⟨h1,h2,h3,h4,h5,h6,h7⟩:=au hp.1
 have hn:=au hp.2
 obtain ⟨p,rfl⟩:∃k:Nat,p=(k:Int):=⟨p.toNat,by omega⟩
 obtain ⟨z,rfl⟩:∃k:Nat,z=(k:Int):=⟨z.toNat,by omega⟩
 refine bz.cR _ _ _ _ _ _ ?_
 rw [ar p,ar z]
 intro v1 e1 v2 e2 v3 e3 v4 e4 v5 e5 v6 e6 v7 e7 v8 e8 v9 e9 v10 kT v11 vm v12 yO jY Bh nR D1 rB Ie tM Ic
 by_cases c:r.at_≤d
 ·rw [aa c,ao,show (r.at_ - d).toNat=0 by omega];rfl
 rw [ab c,af,show Bs.doc (r.at_ - d).toNat=Bs.doc ((r.at_ - (d+1)).toNat+1) by rw [show (r.at_ - d).toNat=(r.at_ - (d+1)).toNat+1 by omega]]
 rw [Bs.doc.eq_2,i64_in ((z:Int) - p) (by omega)]
 rw [i64_in ((z:Int) - p) (by omega)] at e3
 by_cases c1:z - p<4
 ·rw [aa (show (z:Int) - p<4 by omega),ao,aq c1];rfl
 rw [ab (show ¬(z:Int) - p<4 by omega),af,al c1]
 have hr:=Bs.ja r.b p
 generalize Bs.cU r.b p=m at *
 unfold Bs.wS
 rw [i64_in _ (by omega)] at e1
 have q3:v3=decide (m<5∨(z:Int) - p<m):=by
  rw [e3]
  by_cases c:m<5
  ·rw [aa c,aa (show m<5∨(z:Int) - p<m from .inl c)];rfl
  ·rw [ab c,af];exact aV.2 (by omega)
 rw [bw (aa ⟨by omega,by omega,h4⟩),bw (tc _).1,bw (tc _).1,bw (tc _).2.2,bw (by cases v3 <;> rfl),bw (by cases v3 <;> rfl),bw (by cases v4 <;> rfl),bw (by rw [e4];cases v3 <;> cases decide (fZ=2) <;> rfl),bw (by cases v3 <;> rfl)]
 have G6:cond v3 true v5=decide (m<5∨(z:Int) - p<m∨(fZ=2∧(p:Int)+m≠z)):=by
  rw [q3,e5,e1]
  by_cases c:m<5∨(z:Int) - p<m
  ·rw [aa c,ao,aa (show m<5∨(z:Int) - p<m∨(fZ=2∧(p:Int)+m≠z) by omega)]
  ·rw [ab c,af]
   by_cases c2:fZ=2
   ·rw [aa c2,ao,←decide_not];exact aV.2 ⟨fun h => .inr (.inr ⟨c2,h⟩),fun h=>by omega⟩
   ·rw [ab c2,af,ab (show ¬(m<5∨(z:Int) - p<m∨(fZ=2∧(p:Int)+m≠z)) by omega)]
 rw [G6]
 by_cases c2:m<5∨(z:Int) - p<m∨(fZ=2∧(p:Int)+m≠z)
 ·rw [aa c2,ao,aq c2];rfl
 rw [ab c2,af,al c2,bw (by cases decide (fZ=1) <;> rfl),bw (by cases decide (fZ=1) <;> rfl)]
 have q6:v6=decide (fZ=1∧(p:Int)+m<z):=by
  rw [e6,e1]
  by_cases c:fZ=1
  ·rw [aa c,ao];exact aV.2 ⟨fun h=>⟨c,h⟩,fun h=>h.2⟩
  ·rw [ab c,af,ab (fun h=>c h.1)]
 rw [q6]
 have q1:v1=((p+m.toNat:Nat):Int):=by omega
 by_cases c3:fZ=1∧(p:Int)+m<z
 ·rw [aa c3,ao,aq c3,q1];rfl
 rw [ab c3,af,al c3]
 have q2:v2=((p+4:Nat):Int):=by rw [e2,i64_in _ (by omega)];omega
 refine Eq.trans (Eq.symm (bz.zN n d v1 v2 ⟨0,0,[]⟩ (Bs.cS 0) r.b r.at_ [] ?_)) ?_
 ·intro w1 f1 w2 f2 w3 f3 w4 f4 w5 f5 w6 f6 w7 f7 w8 f8 w9 f9 G3 f10 FM f11
  subst f11 f10 f9 f8 f7 f6 f5 f4 f3 f2 f1 Ic Ie D1 Bh yO vm kT e9 e8 e7
  obtain ⟨rb,ra⟩:=r
  rw [bf,aM,Nat.zero_add]
  rfl
 ·rw [q1,q2,show p+m.toNat=(p+m.toNat - 1)+1 by omega]
  exact zV n (by omega) h4 ⟨h5,h6,h7,by omega⟩ (by omega) m.toNat (p+4) _ _ [] (by omega) (by omega) (Nat.zero_le _)
theorem db.goal (b:Str) (l:eK) (hp:decide (b.length≤1000000000)=true):db.F b l=some [.ag (bu.cells (Bs.nN (Bs.decode b l))),.ag (cq.cells (Bs.iI (Bs.decode b l)))]:=by
 have h1:=au hp
 refine db.cR _ _ ?_
 intro v1 e1 v2 e2 v3 e3
 unfold Bs.decode
 cases hm:Bs.may l with
 | false=>rw [aQ,ao,aq rfl];rfl
 | true =>
  have hd:1≤l.depth∧l.depth≤200:=by
   have:=au hm
   exact ⟨this.1,this.2.1⟩
  rw [aK,af,al (by simp)]
  by_cases c:l.size<(b.length:Int)
  ·rw [aa c,ao,aq c];rfl
  rw [ab c,af,al c,bw (aa ⟨by omega,by omega,Int.le_refl _,h1,by omega,by omega,by show l.depth≤1000;omega⟩)]
  rw [show ((bA.mk b l.depth).at_ - 0).toNat=l.depth.toNat by show (l.depth - 0).toNat=_;rw [Int.sub_zero],ar] at e1 e3
  have hr:=Bs.jT b l.depth.toNat 0 b.length 1 (by omega) (by omega)
  match hx:Bs.doc l.depth.toNat b 0 b.length 1 with
  | .error (e,i) =>
   rw [show Bs.doc l.depth.toNat (bA.mk b l.depth).b (0:Int).toNat b.length 1=_ from hx] at e3
   have q3:v3=⟨e,i,[]⟩:=e3
   rw [q3,ab (show ¬cq.err ⟨e,i,[]⟩=0 from (hr.1 e i hx).1)];rfl
  | .ok (ks,x) =>
   rw [show Bs.doc l.depth.toNat (bA.mk b l.depth).b (0:Int).toNat b.length 1=_ from hx] at e1 e3
   have q3:v3=⟨0,0,[]⟩:=e3
   rw [q3,show decide (cq.err ⟨0,0,[]⟩=0)=true from rfl,e1];rfl
end Go.Eng
set_option maxRecDepth 20000
namespace Go.Eng
open Go.Proofs
variable {ee:Errs}
theorem bX.ok:bE PG (cnGl ee) 177 (bX.c,bX.sg):=meets bP all_nil bX.h (fits fun ins=>by unfold bX.c;split;exact bX.goal _ _;trivial)
theorem dB.ok:bE PG (cnGl ee) 133 (dB.c,dB.sg):=meets bP (all_cons bX.ok all_nil) dB.h (fits fun ins=>by unfold dB.c;split;exact dB.goal _ _;trivial)
theorem eR.ok:bE PG (cnGl ee) 176 (eR.c,eR.sg):=meets bP all_nil eR.h (fits fun ins=>by unfold eR.c;split;exact eR.goal _;trivial)
theorem bB.ok:bE PG (cnGl ee) 132 (bB.c,bB.sg):=meets bP (all_cons eR.ok all_nil) bB.h (fits fun ins=>by unfold bB.c;split;exact bB.goal _ _;trivial)
theorem bK.ok:bE PG (cnGl ee) 100 (bK.c,bK.sg):=meets bP (all_cons bB.ok all_nil) bK.h (fits fun ins=>by unfold bK.c;split;exact bK.goal _;trivial)
theorem ct.ok:bE PG (cnGl ee) 69 (ct.c,ct.sg):=meets bP (all_cons bK.ok all_nil) ct.h (fits fun ins=>by unfold ct.c;split;exact ct.goal _;trivial)
theorem cH.ok:bE PG (cnGl ee) 46 (cH.c,cH.sg):=meets bP all_nil cH.h (fits fun ins=>by unfold cH.c;split;exact cH.goal _;trivial)
theorem bq.ok:bE PG (cnGl ee) 57 (bq.c,bq.sg):=meets bP all_nil bq.h (fits fun ins=>by unfold bq.c;split;exact bq.goal (.mk _ _ _ _ _ _ _ _ _);trivial)
theorem dA.ok:bE PG (cnGl ee) 102 (dA.c,dA.sg):=meets bP (all_cons dB.ok all_nil) dA.h (fits fun ins=>by unfold dA.c;split;exact dA.goal _ _;trivial)
theorem cr.ok:bE PG (cnGl ee) 79 (cr.c,cr.sg):=meets bP (all_cons dA.ok all_nil) cr.h (fits fun ins=>by unfold cr.c;split;exact cr.goal _ _;trivial)
theorem df.ok:bE PG (cnGl ee) 56 (df.c,df.sg):=meets bP all_nil df.h (fits fun ins=>by unfold df.c;split;exact df.goal _;trivial)
theorem cE.ok:bE PG (cnGl ee) 58 (cE.c,cE.sg):=meets bP (all_cons ct.ok (all_cons cr.ok all_nil)) cE.h (fits fun ins=>by unfold cE.c;split;exact cE.goal _ _;trivial)
theorem Ac.Ao:∀n:Nat,(bE PG (cnGl ee) 32 (bH.cn n,bH.sg)):=by
 intro n
 induction n with
 | zero=>exact fG (by intro ti fk h;unfold bH.cn at h;split at h;exact absurd (aO.1 h.1).2 (by simp);exact h.elim)
 | succ n ih =>
  have AD:=ih
  exact meets bP (all_cons AD (all_cons cH.ok (all_cons df.ok (all_cons bq.ok (all_cons cE.ok all_nil))))) bH.h (fits fun ins=>by unfold bH.cn;split;exact bH.goal _ (.mk _ _ _ _ _ _ _ _ _) _ _;trivial)
theorem bH.ok:bE PG (cnGl ee) 32 (bH.c,bH.sg):=jq fun ti fk h=>by
 unfold bH.c at h
 split at h
 ·obtain ⟨hp,rfl⟩:=h;exact ⟨bH.cn (_+1),(Ac.Ao _),aO.2 ⟨hp,aa (Nat.lt_succ_self _)⟩,rfl⟩
 ·exact h.elim
theorem cF.ok:bE PG (cnGl ee) 12 (cF.c,cF.sg):=meets bP (all_cons bH.ok all_nil) cF.h (fits fun ins=>by unfold cF.c;split;exact cF.goal (.mk _ _ _ _ _ _ _ _ _);trivial)
theorem cI.ok:bE PG (cnGl ee) 76 (cI.c,cI.sg):=meets bP all_nil cI.h (fits fun ins=>by unfold cI.c;split;exact cI.goal _;trivial)
theorem bQ.ok:bE PG (cnGl ee) 35 (bQ.c,bQ.sg):=meets bP all_nil bQ.h (fits fun ins=>by unfold bQ.c;split;exact bQ.goal _;trivial)
theorem eH.ok:bE PG (cnGl ee) 66 (eH.c,eH.sg):=meets bP (all_cons bQ.ok all_nil) eH.h (fits fun ins=>by unfold eH.c;split;exact eH.goal _;trivial)
theorem dJ.ok:bE PG (cnGl ee) 101 (dJ.c,dJ.sg):=meets bP all_nil dJ.h (fits fun ins=>by unfold dJ.c;split;exact dJ.goal (.mk _ _);trivial)
theorem er.ok:bE PG (cnGl ee) 98 (er.c,er.sg):=meets bP (all_cons dJ.ok all_nil) er.h (fits fun ins=>by unfold er.c;split;exact er.goal (.mk _ _) _;trivial)
theorem cT.ok:bE PG (cnGl ee) 67 (cT.c,cT.sg):=meets bP (all_cons er.ok all_nil) cT.h (fits fun ins=>by unfold cT.c;split;exact cT.goal (.mk _ _) _;trivial)
theorem et.ok:bE PG (cnGl ee) 71 (et.c,et.sg):=meets bP (all_cons bQ.ok (all_cons dJ.ok all_nil)) et.h (fits fun ins=>by unfold et.c;split;exact et.goal (.mk _ _) _;trivial)
theorem eW.ok:bE PG (cnGl ee) 27 (eW.c,eW.sg):=meets bP all_nil eW.h (fits fun ins=>by unfold eW.c;split;exact eW.goal;trivial)
theorem dt.ok:bE PG (cnGl ee) 52 (dt.c,dt.sg):=meets bP all_nil dt.h (fits fun ins=>by unfold dt.c;split;exact dt.goal _ _;trivial)
theorem eF.ok:bE PG (cnGl ee) 77 (eF.c,eF.sg):=meets bP all_nil eF.h (fits fun ins=>by unfold eF.c;split;exact eF.goal _ _;trivial)
theorem cK.ok:bE PG (cnGl ee) 51 (cK.c,cK.sg):=meets bP (all_cons cI.ok all_nil) cK.h (fits fun ins=>by unfold cK.c;split;exact cK.goal _ _ _;trivial)
theorem cQ.ok:bE PG (cnGl ee) 55 (cQ.c,cQ.sg):=meets bP (all_cons cI.ok all_nil) cQ.h (fits fun ins=>by unfold cQ.c;split;exact cQ.goal _ _ _ _;trivial)
theorem eG.ok:bE PG (cnGl ee) 50 (eG.c,eG.sg):=meets bP all_nil eG.h (fits fun ins=>by unfold eG.c;split;exact eG.goal _;trivial)
theorem dF.ok:bE PG (cnGl ee) 29 (dF.c,dF.sg):=meets bP (all_cons bQ.ok all_nil) dF.h (fits fun ins=>by unfold dF.c;split;exact dF.goal (.mk _);trivial)
theorem bZ.ok:bE PG (cnGl ee) 68 (bZ.c,bZ.sg):=meets bP all_nil bZ.h (fits fun ins=>by unfold bZ.c;split;exact bZ.goal _ _;trivial)
theorem cG.ok:bE PG (cnGl ee) 47 (cG.c,cG.sg):=meets bP (all_cons bZ.ok (all_cons ct.ok all_nil)) cG.h (fits fun ins=>by unfold cG.c;split;exact cG.goal _ _;trivial)
theorem size.Ao:∀n:Nat,(bE PG (cnGl ee) 49 (cB.cn n,cB.sg))∧(bE PG (cnGl ee) 26 (cu.cn n,cu.sg)):=by
 intro n
 induction n with
 | zero=>exact ⟨fG (by intro ti fk h;unfold cB.cn at h;split at h;exact absurd (aO.1 h.1).2 (by simp);exact h.elim),fG (by intro ti fk h;unfold cu.cn at h;split at h;exact absurd (aO.1 h.1).2 (by simp);exact h.elim)⟩
 | succ n ih =>
  obtain ⟨AD,CB⟩:=ih
  exact ⟨meets bP (all_cons CB all_nil) cB.h (fits fun ins=>by unfold cB.cn;split;exact cB.goal _ _;trivial),meets bP (all_cons AD all_nil) cu.h (fits fun ins=>by unfold cu.cn;split;exact cu.goal _ (.mk _ _ _ _ _ _ _ _ _);trivial)⟩
theorem cu.ok:bE PG (cnGl ee) 26 (cu.c,cu.sg):=jq fun ti fk h=>by
 unfold cu.c at h
 split at h
 ·obtain ⟨hp,rfl⟩:=h;exact ⟨cu.cn (_+1),(size.Ao _).2,aO.2 ⟨hp,aa (Nat.lt_succ_self _)⟩,rfl⟩
 ·exact h.elim
theorem dY.ok:bE PG (cnGl ee) 24 (dY.c,dY.sg):=meets bP all_nil dY.h (fits fun ins=>by unfold dY.c;split;exact dY.goal (.mk _ _ _);trivial)
theorem cO.ok:bE PG (cnGl ee) 53 (cO.c,cO.sg):=meets bP (all_cons dt.ok (all_cons eF.ok all_nil)) cO.h (fits fun ins=>by unfold cO.c;split;exact cO.goal _ _;trivial)
theorem eu.ok:bE PG (cnGl ee) 78 (eu.c,eu.sg):=meets bP (all_cons cK.ok (all_cons cO.ok all_nil)) eu.h (fits fun ins=>by unfold eu.c;split;exact eu.goal _ _;trivial)
theorem Fp.Ao:∀n:Nat,(bE PG (cnGl ee) 28 (bF.cn n,bF.sg))∧(bE PG (cnGl ee) 54 (bD.cn n,bD.sg)):=by
 intro n
 induction n with
 | zero=>exact ⟨fG (by intro ti fk h;unfold bF.cn at h;split at h;exact absurd (aO.1 h.1).2 (by simp);exact h.elim),fG (by intro ti fk h;unfold bD.cn at h;split at h;exact absurd (aO.1 h.1).2 (by simp);exact h.elim)⟩
 | succ n ih =>
  obtain ⟨AD,CB⟩:=ih
  exact ⟨meets bP (all_cons eG.ok (all_cons cK.ok (all_cons dt.ok (all_cons cO.ok (all_cons CB (all_cons cQ.ok all_nil)))))) bF.h (fits fun ins=>by unfold bF.cn;split;exact bF.goal _ _ _;trivial),meets bP (all_cons AD (all_cons eG.ok (all_cons cK.ok (all_cons dt.ok (all_cons cO.ok (all_cons cQ.ok (all_cons eF.ok (all_cons eu.ok all_nil)))))))) bD.h (fits fun ins=>by unfold bD.cn;split;exact bD.goal _ (.mk _ _ _ _ _ _ _ _ _) _;trivial)⟩
theorem bF.ok:bE PG (cnGl ee) 28 (bF.c,bF.sg):=jq fun ti fk h=>by
 unfold bF.c at h
 split at h
 ·obtain ⟨hp,rfl⟩:=h;exact ⟨bF.cn (_+1),(Fp.Ao _).1,aO.2 ⟨hp,aa (Nat.lt_succ_self _)⟩,rfl⟩
 ·exact h.elim
theorem cZ.ok:bE PG (cnGl ee) 9 (cZ.c,cZ.sg):=meets bP (all_cons cF.ok (all_cons cu.ok (all_cons eW.ok (all_cons bF.ok (all_cons dF.ok all_nil))))) cZ.h (fits fun ins=>by unfold cZ.c;split;exact cZ.goal (.mk _ _ _ _ _ _ _ _ _);trivial)
theorem bW.ok:bE PG (cnGl ee) 44 (bW.c,bW.sg):=meets bP all_nil bW.h (fits fun ins=>by unfold bW.c;split;exact bW.goal _ _;trivial)
theorem cd.ok:bE PG (cnGl ee) 45 (cd.c,cd.sg):=meets bP (all_cons eH.ok (all_cons cT.ok all_nil)) cd.h (fits fun ins=>by unfold cd.c;split;exact cd.goal (.mk _ _) _;trivial)
theorem bJ.ok:bE PG (cnGl ee) 70 (bJ.c,bJ.sg):=meets bP all_nil bJ.h (fits fun ins=>by unfold bJ.c;split;exact bJ.goal _;trivial)
theorem dG.ok:bE PG (cnGl ee) 73 (dG.c,dG.sg):=meets bP (all_cons bW.ok (all_cons cG.ok all_nil)) dG.h (fits fun ins=>by unfold dG.c;split;exact dG.goal (.mk _ _) _ _;trivial)
theorem dK.ok:bE PG (cnGl ee) 72 (dK.c,dK.sg):=meets bP (all_cons bW.ok (all_cons cd.ok (all_cons ct.ok all_nil))) dK.h (fits fun ins=>by unfold dK.c;split;exact dK.goal (.mk _ _) _ _;trivial)
theorem bR.ok:bE PG (cnGl ee) 74 (bR.c,bR.sg):=meets bP (all_cons bQ.ok (all_cons bW.ok (all_cons cd.ok all_nil))) bR.h (fits fun ins=>by unfold bR.c;split;exact bR.goal (.mk _ _) _ _;trivial)
theorem bin.Ao:∀n:Nat,(bE PG (cnGl ee) 75 (da.cn n,da.sg))∧(bE PG (cnGl ee) 48 (bt.cn n,bt.sg))∧(bE PG (cnGl ee) 25 (bz.cn n,bz.sg)):=by
 intro n
 induction n with
 | zero=>exact ⟨fG (by intro ti fk h;unfold da.cn at h;split at h;exact absurd (aO.1 h.1).2 (by simp);exact h.elim),fG (by intro ti fk h;unfold bt.cn at h;split at h;exact absurd (aO.1 h.1).2 (by simp);exact h.elim),fG (by intro ti fk h;unfold bz.cn at h;split at h;exact absurd (aO.1 h.1).2 (by simp);exact h.elim)⟩
 | succ n ih =>
  obtain ⟨AD,CB,FX⟩:=ih
  exact ⟨meets bP (all_cons FX (all_cons bW.ok (all_cons cd.ok (all_cons dK.ok all_nil)))) da.h (fits fun ins=>by unfold da.cn;split;exact da.goal _ (.mk _ _) _ _ _;trivial),meets bP (all_cons FX (all_cons bQ.ok (all_cons bW.ok (all_cons eH.ok (all_cons cT.ok (all_cons bJ.ok (all_cons et.ok (all_cons dK.ok (all_cons dG.ok (all_cons bR.ok (all_cons AD all_nil))))))))))) bt.h (fits fun ins=>by unfold bt.cn;split;exact bt.goal _ (.mk _ _) _ _ _ _;trivial),meets bP (all_cons bW.ok (all_cons cd.ok (all_cons cH.ok (all_cons cG.ok (all_cons CB all_nil))))) bz.h (fits fun ins=>by unfold bz.cn;split;exact bz.goal _ (.mk _ _) _ _ _ _;trivial)⟩
theorem bz.ok:bE PG (cnGl ee) 25 (bz.c,bz.sg):=jq fun ti fk h=>by
 unfold bz.c at h
 split at h
 ·obtain ⟨hp,rfl⟩:=h;exact ⟨bz.cn (_+1),(bin.Ao _).2.2,aO.2 ⟨hp,aa (Nat.lt_succ_self _)⟩,rfl⟩
 ·exact h.elim
theorem db.ok:bE PG (cnGl ee) 8 (db.c,db.sg):=meets bP (all_cons dY.ok (all_cons bz.ok all_nil)) db.h (fits fun ins=>by unfold db.c;split;exact db.goal _ (.mk _ _ _);trivial)
theorem cY.ok:bE PG (cnGl ee) 33 (cY.c,cY.sg):=meets bP all_nil cY.h (fits fun ins=>by unfold cY.c;split;exact cY.goal _ _;trivial)
theorem dZ.ok:bE PG (cnGl ee) 40 (dZ.c,dZ.sg):=meets bP (all_cons dY.ok all_nil) dZ.h (fits fun ins=>by unfold dZ.c;split;exact dZ.goal _ (.mk _ _ _);trivial)
theorem ei.ok:bE PG (cnGl ee) 41 (ei.c,ei.sg):=meets bP (all_cons db.ok (all_cons dZ.ok all_nil)) ei.h (fits fun ins=>by unfold ei.c;split;exact ei.goal _ (.mk _ _ _) _;trivial)
theorem eh.ok:bE PG (cnGl ee) 64 (eh.c,eh.sg):=meets bP (all_cons cZ.ok all_nil) eh.h (fits fun ins=>by unfold eh.c;split;exact eh.goal _ (.mk _ _ _ _ _ _ _ _ _);trivial)
theorem dE.ok:bE PG (cnGl ee) 42 (dE.c,dE.sg):=meets bP (all_cons dZ.ok (all_cons eh.ok all_nil)) dE.h (fits fun ins=>by unfold dE.c;split;exact dE.goal _ (.mk _ _ _) (.mk _ _ _ _ _ _ _ _ _);trivial)
theorem bY.ok:bE PG (cnGl ee) 22 (bY.c,bY.sg):=meets bP (all_cons dZ.ok (all_cons ei.ok (all_cons dE.ok all_nil))) bY.h (fits fun ins=>by unfold bY.c;split;exact bY.goal _ _ (.mk _ _ _) _;trivial)
theorem eU.ok:bE PG (cnGl ee) 14 (eU.c,eU.sg):=meets bP (all_cons dY.ok all_nil) eU.h (fits fun ins=>by unfold eU.c;split;exact eU.goal _ (.mk _ _ _);trivial)
theorem en.ok:bE PG (cnGl ee) 15 (en.c,en.sg):=meets bP all_nil en.h (fits fun ins=>by unfold en.c;split;exact en.goal (.mk _ _ _ _ _ _) _;trivial)
theorem dI.ok:bE PG (cnGl ee) 34 (dI.c,dI.sg):=meets bP all_nil dI.h (fits fun ins=>by unfold dI.c;split;exact dI.goal (.mk _ _ _ _ _ _) _;trivial)
theorem bI.ok:bE PG (cnGl ee) 16 (bI.c,bI.sg):=meets bP (all_cons bY.ok (all_cons cY.ok (all_cons dI.ok (all_cons bQ.ok all_nil)))) bI.h (fits fun ins=>by unfold bI.c;split;exact bI.goal (.mk _ _ _ _ _ _) _ _;trivial)
theorem eV.ok:bE PG (cnGl ee) 17 (eV.c,eV.sg):=meets bP (all_cons dI.ok all_nil) eV.h (fits fun ins=>by unfold eV.c;split;exact eV.goal (.mk _ _ _ _ _ _) _;trivial)
end Go.Eng
set_option maxRecDepth 100000
namespace Go.Eng
open Go.Proofs
noncomputable section
@[reducible] def zW:ze:=[(22,.bs,1),(26,.fl,136),(32,.is,8),(49,.ou,96),(57,.mh,24),(135,.ml,64),(141,.il,80),(190,.ss,16),(301,.ws,2),(415,.qd,64)]
@[reducible] def Dn:Zs:=[(24,[(.i .i64 (0:Int)),(.i .i64 (0:Int)),(.i .i64 (0:Int))]),(28,[(.i .i64 (0:Int)),(.u64 (0:UInt64)),(.u64 (0:UInt64)),(.u64 (0:UInt64)),(.s ([]:Str)),(.s ([]:Str)),(.i .i64 (0:Int)),(.nl .bs),(.nl .fl)]),(34,[(.i .i64 (0:Int)),(.i .i64 (0:Int)),(.nl .is)]),(59,[(.i .i64 (0:Int)),(.nl .bs),(.nl .mh),(.i .i64 (0:Int)),(.i .i64 (0:Int)),(.nl .is)]),(67,[(.nl .bs),(.i .i64 (0:Int))]),(76,[(.s ([]:Str)),(.i .i64 (0:Int)),(.u64 (0:UInt64)),(.u64 (0:UInt64)),(.u64 (0:UInt64)),(.s ([]:Str)),(.s ([]:Str)),(.i .i64 (0:Int)),(.nl .bs),(.nl .fl)]),(79,[(.i .i64 (0:Int)),(.i .i64 (0:Int)),(.i .i64 (0:Int)),(.i .i64 (0:Int)),(.i .i64 (0:Int)),(.nl .bs),(.b false)]),(99,[(.nl .bs)]),(118,[(.s ([]:Str)),(.s ([]:Str)),(.s ([]:Str)),(.s ([]:Str)),(.s ([]:Str)),(.s ([]:Str)),(.s ([]:Str)),(.s ([]:Str)),(.s ([]:Str)),(.s ([]:Str)),(.s ([]:Str)),(.s ([]:Str)),(.s ([]:Str)),(.s ([]:Str)),(.s ([]:Str)),(.s ([]:Str)),(.s ([]:Str)),(.s ([]:Str)),(.s ([]:Str)),(.s ([]:Str))]),(137,[(.i .i64 (0:Int)),(.s ([]:Str)),(.nl .ml)]),(143,[(.i .i64 (0:Int)),(.u64 (0:UInt64)),(.nl .bs),(.s ([]:Str)),(.nl .il)]),(156,[(.nl .bs),(.i .i64 (0:Int))]),(164,[(.s ([]:Str)),(.i .i64 (0:Int)),(.i .i64 (0:Int))]),(166,[(.i .i64 (0:Int)),(.i .i64 (0:Int)),(.i .i64 (0:Int)),(.s ([]:Str))]),(197,[(.s ([]:Str)),(.i .i64 (0:Int)),(.s ([]:Str)),(.nl .ml)]),(245,[(.c .nilFunc),(.c .nilFunc),(.c .nilFunc),(.c .nilFunc)]),(247,[(.i .i64 (0:Int)),(.u64 (0:UInt64)),(.u64 (0:UInt64)),(.u64 (0:UInt64)),(.s ([]:Str)),(.s ([]:Str)),(.i .i64 (0:Int)),(.nl .bs),(.nl .fl),(.i .i64 (0:Int)),(.u64 (0:UInt64)),(.u64 (0:UInt64)),(.u64 (0:UInt64)),(.s ([]:Str)),(.s ([]:Str)),(.i .i64 (0:Int)),(.nl .bs),(.nl .fl),(.i .i64 (0:Int)),(.u64 (0:UInt64)),(.u64 (0:UInt64)),(.u64 (0:UInt64)),(.s ([]:Str)),(.s ([]:Str)),(.i .i64 (0:Int)),(.nl .bs),(.nl .fl),(.i .i64 (0:Int)),(.u64 (0:UInt64)),(.u64 (0:UInt64)),(.u64 (0:UInt64)),(.s ([]:Str)),(.s ([]:Str)),(.i .i64 (0:Int)),(.nl .bs),(.nl .fl)]),(268,[(.s ([]:Str)),(.s ([]:Str)),(.s ([]:Str)),(.s ([]:Str)),(.s ([]:Str)),(.s ([]:Str))]),(269,[(.s ([]:Str)),(.s ([]:Str)),(.s ([]:Str))]),(319,[(.u64 (0:UInt64)),(.u64 (0:UInt64))]),(418,[(.c (.complex .f64 ((0,0):Cx).1 ((0,0):Cx).2)),(.c (.complex .f64 ((0,0):Cx).1 ((0,0):Cx).2)),(.c (.complex .f64 ((0,0):Cx).1 ((0,0):Cx).2)),(.c (.complex .f64 ((0,0):Cx).1 ((0,0):Cx).2))])]
def Bv:zh:=[(6,({},(.o,[]))),
 (8,({ bC:=2 },(.o,[]))),
 (9,({ bC:=2 },(.o,[]))),
 (10,({},(.o,[]))),
 (12,({ bC:=2 },(.o,[]))),
 (13,({},(.o,[147]))),
 (14,({ bC:=2,kd := .nw (some 5) },(.o,[]))),
 (15,({ kd := .wr 0 5 true },(.o,[]))),
 (16,({ kd := .wr 0 5 true },(.s .o (.sc [(1,[(0,.ptr 1000000 0),(5,.cM 800000),(1000000,.cl []),(800000,.pv)]),(0,[(0,.ptr 1000000 0),(5,.cM 800000),(6,.ptr 136 0),(136,.cl []),(1000000,.cl []),(800000,.pv)])] (.s .o (.s .o (.s .o (.s .o (.s .o (.s .o (.s .o (.s .o (.s .o (.s .o (.s .o (.s .o (.s .o (.s .o (.j [(0,.ptr 1000000 0),(5,.cM 800000),(6,.ptr 136 0),(7,.no),(136,.cl []),(1000000,.cl []),(800000,.pv)] .o .o)))))))))))))))),[]))),
 (20,({},(.o,[]))),
 (22,({ bC:=3 },(.o,[]))),
 (24,({},(.o,[]))),
 (25,({ md:=[.rf],bC:=3 },(.s .o (.sc [(0,[(0,.ptr 1000000 0),(10,.cM 800000),(11,.no),(12,.ptr 165 0),(13,.no),(165,.cl []),(1000000,.cl []),(800000,.pv)]),(1,[(0,.ptr 1000000 0),(3,.no),(10,.cM 800000),(11,.no),(12,.ptr 165 0),(13,.no),(17,.ptr 170 0),(165,.cl []),(170,.cl []),(1000000,.cl []),(800000,.pv)])] .o),[]))),
 (26,({},(.s .o (.s (.s .o (.b (.j [(1,.ptr 72 0),(4,.no),(5,.no),(72,.cl [])] .o (.s .o (.s .o (.s .o (.s .o (.s .o (.s .o (.s .o (.j [(1,.ptr 72 0),(4,.no),(16,.no),(72,.cl [])] .o (.s .o (.s .o (.s .o (.s .o (.s .o (.s .o (.s .o (.s .o (.s .o (.j [(1,.ptr 72 0),(4,.no),(55,.no),(72,.cl [])] .o .o))))))))))))))))))))) .o),[]))),
 (27,({ kd := .nw (some 0) },(.o,[]))),
 (28,({ bC:=0,kd := .wr 0 0 true },(.s .o (.s .o (.s (.s .o (.b (.l [(0,.ptr 1000000 0),(4,.no),(11,.no),(12,.no),(13,.no),(1000000,.cl [(0,800000)]),(800000,.pv)] .o))) .o)),[]))),
 (29,({ md:=[.rf] },(.o,[]))),
 (30,({},(.s .o (.s .o (.s .o (.s (.s .o (.b (.l (sc [3,20,21,22]) .o))) .o))),[]))),
 (31,({},(.o,[]))),
 (32,({ md:=[.pl,.pl,.sm],bC:=2 },(.s .o (.s .o (.s .o (.s (.s .o (.b (.l [(2,.cM 1000002),(50,.no),(51,.no),(52,.no),(1000002,.pv)] .o))) .o))),[139]))),
 (33,({ bC:=2 },(.o,[]))),
 (34,({ kd := .wr 0 5 false },(.o,[]))),
 (40,({},(.o,[]))),
 (41,({ bC:=2 },(.o,[]))),
 (42,({ bC:=3 },(.o,[]))),
 (44,({},(.o,[]))),
 (45,({ md:=[.rf] },(.o,[]))),
 (46,({},(.o,[]))),
 (47,({ bC:=3 },(.o,[]))),
 (48,({ md:=[.rf],bC:=3 },(.s .o (.s .o (.s .o (.s .o (.s .o (.s .o (.j [(10,.ptr 219 0),(11,.no),(12,.ptr 221 0),(219,.cl []),(221,.cl []),(1000000,.cl [])] (.s .o (.b (.j [(0,.ptr 1000000 0),(1,.no),(2,.no),(3,.no),(4,.no),(10,.ptr 219 0),(11,.no),(12,.ptr 221 0),(13,.no),(14,.ptr 245 0),(40,.no),(41,.no),(219,.cl []),(221,.cl []),(245,.cl []),(1000000,.cl [])] .o (.s .o (.s .o (.s .o (.s .o (.s .o (.j [(0,.ptr 1000000 0),(2,.no),(3,.no),(4,.no),(10,.ptr 219 0),(11,.no),(12,.ptr 221 0),(40,.no),(87,.no),(219,.cl []),(221,.cl []),(1000000,.cl [])] .o (.s .o (.s .o (.s (.s .o (.j [(0,.ptr 1000000 0),(10,.ptr 219 0),(11,.no),(12,.ptr 221 0),(219,.cl []),(221,.cl []),(1000000,.cl [])] .o .o)) (.s .o (.s .o (.s .o (.s .o (.j [(0,.ptr 1000000 0),(2,.no),(3,.no),(4,.no),(10,.ptr 219 0),(11,.no),(12,.ptr 221 0),(40,.no),(173,.no),(219,.cl []),(221,.cl []),(1000000,.cl [])] .o .o))))))))))))))))) .o)))))),[]))),
 (49,({},(.s .o (.s .o (.s (.s .o (.b (.l (sc [3,6,7,8]) .o))) .o)),[]))),
 (50,({ kd := .wr 0 0 true },(.o,[]))),
 (51,({ bC:=0,kd := .wr 0 0 true },(.s .o (.b (.l [(0,.ptr 1000000 0),(1,.no),(2,.no),(6,.no),(1000000,.cl [(0,800000)]),(800000,.pv)] .o)),[]))),
 (52,({ bC:=0,kd := .wr 0 0 true },(.o,[]))),
 (53,({ bC:=0,kd := .wr 0 0 true },(.o,[]))),
 (54,({ bC:=0,kd := .wr 0 0 true },(.s .o (.s .o (.b (.j [(0,.ptr 1000000 0),(3,.ptr 136 0),(7,.no),(8,.no),(136,.cl []),(1000000,.cl [(0,800000)]),(800000,.pv)] .o (.s .o (.s .o (.s .o (.s .o (.s .o (.s .o (.s .o (.j [(0,.ptr 1000000 0),(3,.ptr 136 0),(7,.no),(39,.no),(136,.cl []),(1000000,.cl [(0,800000)]),(800000,.pv)] .o (.s .o (.s .o (.s .o (.s .o (.s (.s .o (.j [(0,.ptr 1000000 0),(3,.ptr 136 0),(136,.cl []),(1000000,.cl [(0,800000)]),(800000,.pv)] .o .o)) (.s .o (.s .o (.s .o (.s .o (.j [(0,.ptr 1000000 0),(3,.ptr 136 0),(7,.no),(104,.no),(136,.cl []),(1000000,.cl [(0,800000)]),(800000,.pv)] .o .o))))))))))))))))))))),[]))),
 (55,({ kd := .wr 0 0 true },(.s .o (.s .o (.s (.s .o (.b (.l [(0,.ptr 1000000 0),(1,.no),(2,.no),(28,.no),(29,.no),(1000000,.cl [(0,800000)]),(800000,.pv)] .o))) .o)),[]))),
 (57,({},(.s .o (.s .o (.j [(1,.ptr 116 0),(3,.no),(116,.cl [])] (.s .o (.b (.j [(1,.ptr 116 0),(3,.no),(5,.no),(6,.no),(116,.cl [])] .o (.s .o (.s .o (.s .o (.s .o (.s .o (.s .o (.s .o (.j [(1,.ptr 116 0),(3,.no),(5,.no),(28,.no),(116,.cl [])] .o (.s .o (.s .o (.s .o (.s .o (.s .o (.s .o (.s .o (.s .o (.s .o (.j [(1,.ptr 116 0),(3,.no),(5,.no),(64,.no),(116,.cl [])] .o .o))))))))))))))))))))) .o)),[]))),
 (58,({},(.o,[]))),
 (62,({ bC:=2 },(.o,[]))),
 (63,({ bC:=2 },(.o,[]))),
 (64,({ bC:=2 },(.o,[]))),
 (65,({},(.o,[]))),
 (66,({ kd := .nw none },(.o,[]))),
 (67,({ md:=[.rf],bC:=2 },(.s .o (.s .o (.s .o (.s (.s .o (.b (.l [(7,.no),(8,.no),(17,.no),(18,.no),(19,.no),(1000000,.cl [])] .o))) .o))),[]))),
 (68,({},(.o,[]))),
 (69,({ bC:=2 },(.o,[]))),
 (70,({},(.s .o (.s (.s .o (.b (.j (sc [3,4]) .o (.s .o (.j (sc [3,9]) .o .o))))) .o),[]))),
 (71,({ md:=[.rf],bC:=2 },(.o,[87]))),
 (72,({ md:=[.rf],bC:=3 },(.o,[]))),
 (73,({ md:=[.rf],bC:=3 },(.o,[]))),
 (74,({ md:=[.rf],bC:=4 },(.s .o (.s .o (.s .o (.s .o (.j [(0,.ptr 1000000 0),(9,.ptr 80 0),(11,.no),(12,.no),(13,.no),(80,.cl []),(1000000,.cl [])] .o .o)))),[193,264]))),
 (75,({ md:=[.rf],bC:=4 },(.o,[]))),
 (76,({},(.o,[]))),
 (77,({ bC:=0,kd := .wr 0 0 true },(.o,[]))),
 (78,({ bC:=0,kd := .wr 0 0 true },(.o,[]))),
 (79,({},(.o,[]))),
 (84,({ bC:=2 },(.o,[]))),
 (85,({ bC:=2 },(.o,[]))),
 (86,({ bC:=2 },(.o,[]))),
 (87,({ bC:=2 },(.o,[]))),
 (90,({ bC:=2 },(.o,[]))),
 (91,({ bC:=2 },(.o,[]))),
 (92,({ bC:=2 },(.o,[]))),
 (93,({ bC:=2 },(.o,[]))),
 (96,({ bC:=2 },(.o,[]))),
 (97,({},(.s .o (.s .o (.s .o (.s (.s .o (.b (.l [(1,.ptr 76 0),(2,.ptr 77 0),(17,.no),(18,.no),(19,.no),(76,.cl [(8,800000)]),(77,.cl [(8,800001)]),(800000,.pv),(800001,.pv)] .o))) (.s .o (.j [(1,.ptr 76 0),(2,.ptr 77 0),(6,.no),(7,.no),(76,.cl [(8,800000)]),(77,.cl [(8,800001)]),(800000,.pv),(800001,.pv)] .o (.j [(1,.ptr 76 0),(2,.ptr 77 0),(76,.cl [(8,800000)]),(77,.cl [(8,800001)]),(800000,.pv),(800001,.pv)] .o .o)))))),[]))),
 (98,({ md:=[.rf],bC:=2 },(.o,[97]))),
 (100,({ bC:=2 },(.s .o (.j (sc [2,3]) (.b (.l (sc [0,2,3]) .o)) .o),[]))),
 (101,({ md:=[.rf] },(.o,[]))),
 (102,({},(.o,[]))),
 (107,({ md:=[.rf],bC:=2 },(.o,[]))),
 (108,({ md:=[.rf],bC:=2 },(.s .o (.s (.s .o (.b (.s .o (.s .o (.s .o (.s .o (.s .o (.s .o (.s .o (.s .o (.s .o (.s .o (.j [(0,.ptr 1000000 0),(2,.no),(4,.ptr 79 0),(6,.ptr 81 0),(7,.ptr 82 0),(36,.no),(79,.cl []),(81,.cl []),(82,.cl []),(1000000,.cl [])] .o .o))))))))))))) .o),[]))),
 (109,({},(.s .o (.s .o (.s (.s .o (.b (.l [(1,.ptr 105 0),(47,.no),(48,.no),(49,.no),(105,.cl [])] .o))) (.s .o (.s .o (.s (.s .o (.b (.l (sc [87,88,89]) .o))) .o))))),[]))),
 (110,({ md:=[.pl,.sm],bC:=2,own:=[0] },(.s .o (.s .o (.s (.s .o (.b (.l [(1,.cM 1000001),(5,.ptr 54 0),(6,.cM 800000),(12,.no),(13,.no),(14,.no),(54,.cl []),(800000,.pv),(1000001,.pv)] .o))) .o)),[71]))),
 (111,({ bC:=2 },(.o,[]))),
 (112,({ md:=[.rf],bC:=2 },(.s .o (.s .o (.s .o (.s .o (.s .o (.s .o (.s .o (.s .o (.s .o (.s .o (.s .o (.s (.s .o (.b (.s .o (.s .o (.s .o (.s .o (.j [(0,.ptr 1000000 0),(1,.no),(4,.ptr 139 0),(5,.ptr 140 0),(6,.no),(9,.no),(11,.no),(89,.no),(100,.no),(139,.cl []),(140,.cl []),(1000000,.cl [])] .o .o))))))) .o))))))))))),[]))),
 (113,({ md:=[.rf] },(.o,[]))),
 (114,({},(.s .o (.s .o (.s .o (.s .o (.s (.s .o (.b (.l (sc [29,30,31]) .o))) .o)))),[]))),
 (115,({ md:=[.sm] },(.o,[]))),
 (116,({ md:=[.pl,.pl,.sm],bC:=2,raw:=true },(.s .o (.s (.s .o (.b (.l [(1,.no),(2,.cM 1000002),(3,.ptr 73 0),(6,.ptr 76 0),(7,.ptr 77 0),(8,.no),(73,.cl [(8,800000)]),(76,.cl [(8,800001)]),(77,.cl []),(800000,.pv),(800001,.pv),(1000002,.pv)] .o))) .o),[105,117]))),
 (122,({ bC:=2 },(.o,[]))),
 (123,({ bC:=2 },(.o,[]))),
 (124,({ bC:=2 },(.o,[]))),
 (125,({},(.s .o (.s .o (.s (.s .o (.b (.l [(2,.ptr 28 0),(3,.ptr 29 0),(7,.no),(8,.no),(9,.no),(28,.cl [(4,800000)]),(29,.cl [(4,800001)]),(800000,.pv),(800001,.pv)] .o))) .o)),[]))),
 (126,({ bC:=0,kd := .wr 0 0 true },(.s .o (.s .o (.j [(0,.ptr 1000000 0),(3,.ptr 95 0),(95,.cl []),(1000000,.cl [(0,800000)]),(800000,.pv)] .o (.s .o (.b (.l [(0,.ptr 1000000 0),(82,.no),(83,.no),(84,.no),(1000000,.cl [(0,800000)]),(800000,.pv)] .o))))),[]))),
 (129,({ md:=[.gv,.pl,.pl,.sm],bC:=2,own:=[0] },(.s .o (.s .o (.j [(0,.cM 800000),(3,.cM 1000003),(5,.ptr 72 0),(6,.ptr 73 0),(72,.cl []),(73,.cl []),(800000,.pv),(1000003,.pv)] .o (.s (.s .o (.b (.l [(0,.cM 800000),(3,.cM 1000003),(6,.ptr 73 0),(30,.no),(31,.no),(32,.no),(73,.cl []),(800000,.pv),(1000003,.pv)] .o))) .o))),[126]))),
 (130,({ bC:=2 },(.o,[]))),
 (132,({ bC:=2 },(.s .o (.sc [(0,(sc [])),(1,(sc [0,1,4,7,8,9]))] (.s .o (.s .o (.s .o (.j (sc [0,1,4,7,8]) .o .o))))),[]))),
 (133,({},(.o,[]))),
 (136,({ bC:=2 },(.s .o (.s .o (.s (.b (.l [(0,.no),(1,.no),(4,.ptr 109 0),(5,.ptr 110 0),(109,.cl []),(110,.cl [])] .o)) .o)),[]))),
 (137,({ md:=[.rf],bC:=2 },(.s .o (.s .o (.s .o (.s .o (.s .o (.j [(7,.ptr 94 0),(11,.ptr 98 0),(94,.cl []),(98,.cl []),(1000000,.cl [])] (.b (.l [(0,.ptr 1000000 0),(1,.no),(2,.no),(7,.ptr 94 0),(8,.cM 800000),(9,.no),(10,.ptr 97 0),(11,.ptr 98 0),(94,.cl []),(97,.cl []),(98,.cl []),(1000000,.cl []),(800000,.pv)] (.s .o (.b (.s .o (.j [(0,.ptr 1000000 0),(1,.no),(2,.no),(7,.ptr 94 0),(8,.cM 800000),(9,.no),(10,.ptr 97 0),(11,.ptr 98 0),(12,.ptr 99 0),(94,.cl []),(97,.cl []),(98,.cl []),(99,.cl []),(1000000,.cl []),(800000,.pv)] .o .o)))))) .o))))),[]))),
 (138,({},(.o,[]))),
 (139,({},(.s .o (.s .o (.j (sc [0,3,4]) .o (.s .o (.s .o (.s .o (.j (sc [0,3,4]) .o (.j (sc [0,3,4]) (.s .o (.s (.s .o (.s .o (.j (sc [0,3,4]) .o .o))) .o)) .o))))))),[]))),
 (140,({},(.o,[]))),
 (141,({ md:=[.pl,.sm] },(.o,[]))),
 (142,({ md:=[.pl,.sm],bC:=2 },(.s .o (.s (.s .o (.b (.s .o (.s .o (.s .o (.s .o (.s .o (.s .o (.s .o (.s .o (.s .o (.s .o (.s .o (.s (.s .o (.s (.s .o (.b (.l [(4,.ptr 151 0),(5,.ptr 152 0),(8,.cM 800000),(9,.ptr 156 0),(68,.no),(69,.no),(151,.cl []),(152,.cl []),(156,.cl []),(800000,.pv),(1000001,.pv)] .o))) .o)) .o)))))))))))))) (.s .o (.s .o (.s (.s .o (.b (.l [(1,.cM 1000001),(2,.ptr 149 0),(4,.ptr 151 0),(5,.ptr 152 0),(130,.no),(131,.no),(149,.cl []),(151,.cl []),(152,.cl []),(1000001,.pv)] .o))) .o)))),[]))),
 (143,({ md:=[.rf],bC:=2 },(.o,[]))),
 (144,({ md:=[.rf],bC:=2 },(.o,[]))),
 (145,({},(.o,[]))),
 (146,({ md:=[.rf],bC:=2 },(.o,[]))),
 (147,({ md:=[.rf],bC:=2,raw:=true },(.s .o (.s (.b (.l [(0,.ptr 1000000 0),(2,.no),(3,.no),(4,.no),(6,.ptr 48 0),(10,.ptr 52 0),(11,.ptr 53 0),(48,.cl [(4,800000)]),(52,.cl [(4,800001)]),(53,.cl []),(1000000,.cl []),(800000,.pv),(800001,.pv)] (.s .o (.s (.b (.s .o (.b (.l [(0,.ptr 1000000 0),(2,.no),(3,.no),(4,.no),(6,.ptr 48 0),(10,.ptr 52 0),(11,.ptr 53 0),(18,.no),(19,.no),(48,.cl [(4,800000)]),(52,.cl [(4,800001)]),(53,.cl []),(1000000,.cl []),(800000,.pv),(800001,.pv)] .o)))) .o)))) .o),[]))),
 (148,({},(.s .o (.s .o (.s .o (.j [(1,.ptr 66 0),(3,.no),(4,.no),(66,.cl [])] (.s .o (.b (.j [(1,.ptr 66 0),(3,.no),(4,.no),(9,.no),(10,.no),(66,.cl [])] .o .o))) .o))),[]))),
 (149,({ md:=[.pl,.sm],bC:=2 },(.s .o (.j [(1,.cM 1000001),(4,.ptr 127 0),(5,.ptr 128 0),(127,.cl [(8,800000)]),(128,.cl []),(800000,.pv),(1000001,.pv)] (.s .o (.b (.s .o (.s .o (.s .o (.s .o (.s .o (.s .o (.s .o (.s .o (.j [(1,.cM 1000001),(2,.ptr 125 0),(4,.ptr 127 0),(5,.ptr 128 0),(14,.no),(46,.no),(125,.cl []),(127,.cl [(8,800000)]),(128,.cl []),(800000,.pv),(1000001,.pv)] .o (.s .o (.s .o (.s .o (.s .o (.s (.s .o (.s (.s .o (.b (.l [(1,.cM 1000001),(4,.ptr 127 0),(5,.ptr 128 0),(8,.ptr 131 0),(80,.no),(81,.no),(82,.no),(127,.cl [(8,800000)]),(128,.cl []),(131,.cl [(8,800001)]),(800000,.pv),(800001,.pv),(1000001,.pv)] .o))) .o)) .o)))))))))))))))) .o),[215]))),
 (151,({ md:=[.rf],bC:=2 },(.s .o (.s .o (.s .o (.s (.s .o (.b (.l [(7,.no),(8,.no),(17,.no),(18,.no),(19,.no),(1000000,.cl [])] .o))) .o))),[]))),
 (160,({ own:=[1002] },(.s .o (.s .o (.s (.s .o (.b (.l [(2,.ptr 28 0),(3,.ptr 29 0),(7,.no),(8,.no),(9,.no),(28,.cl [(2,800000)]),(29,.cl [(2,800001)]),(800000,.pv),(800001,.pv)] .o))) .o)),[51]))),
 (161,({ md:=[.gv],own:=[0] },(.s .o (.s .o (.s .o (.j [(0,.cM 1000000),(3,.ptr 76 0),(5,.no),(6,.no),(76,.cl []),(1000000,.pv)] .o (.s .o (.s (.s .o (.b (.l [(0,.cM 800000),(3,.ptr 76 0),(6,.no),(43,.no),(44,.no),(45,.no),(76,.cl []),(800000,.pv)] (.s .o (.s .o (.s (.b (.s .o (.j [(0,.cM 800000),(3,.ptr 76 0),(6,.no),(8,.ptr 81 0),(43,.no),(44,.no),(45,.no),(76,.cl []),(81,.cl []),(800000,.pv)] .o (.j [(0,.cM 800000),(3,.ptr 76 0),(6,.no),(8,.ptr 81 0),(43,.no),(44,.no),(45,.no),(76,.cl []),(81,.cl []),(800000,.pv)] .o .o)))) .o)))))) .o))))),[]))),
 (162,({ own:=[1002] },(.s .o (.s .o (.s (.s .o (.b (.l [(2,.ptr 28 0),(3,.ptr 29 0),(7,.no),(8,.no),(9,.no),(28,.cl [(2,800000)]),(29,.cl [(2,800001)]),(800000,.pv),(800001,.pv)] .o))) .o)),[51]))),
 (163,({},(.o,[]))),
 (164,({},(.s .o (.j [(1,.ptr 82 0),(2,.ptr 83 0),(82,.cl []),(83,.cl [(4,800000)]),(800000,.pv)] (.s .o (.b (.s .o (.s .o (.s .o (.s .o (.s .o (.s .o (.s .o (.s (.s .o (.s (.s .o (.s (.s .o (.b (.l [(2,.ptr 83 0),(3,.ptr 84 0),(30,.no),(31,.no),(32,.no),(83,.cl [(4,800000)]),(84,.cl []),(800000,.pv)] .o))) .o)) .o)) .o)))))))))) .o),[]))),
 (165,({ bC:=0,kd := .wr 0 0 true },(.s .o (.j [(0,.ptr 1000000 0),(2,.no),(6,.no),(1000000,.cl [(0,800000)]),(800000,.pv)] .o .o),[]))),
 (166,({ bC:=0,kd := .wr 0 0 true },(.s .o (.b (.l [(0,.ptr 1000000 0),(1,.no),(2,.no),(6,.no),(1000000,.cl [(0,800000)]),(800000,.pv)] .o)),[]))),
 (170,({},(.o,[]))),
 (171,({ bC:=4 },(.o,[]))),
 (172,({},(.s .o (.s .o (.s .o (.j (sc [4,7]) .o .o))),[]))),
 (173,({ bC:=2 },(.o,[]))),
 (175,({},(.o,[]))),
 (176,({},(.o,[]))),
 (177,({},(.o,[]))),
 (179,({},(.o,[]))),
 (180,({},(.s .o (.s .o (.s .o (.s .o (.s (.s .o (.b (.l (sc [0,1,5,6,7,8,9]) .o))) (.s .o (.s (.s .o (.b (.l (sc [0,1,5,6,7,8,10]) .o))) .o)))))),[]))),
 (182,({ bC:=2 },(.o,[]))),
 (183,({ bC:=2 },(.s .o (.s (.s .o (.b (.l (sc [0,8,9]) .o))) (.s (.s .o (.b (.l (sc [0,19,20]) .o))) .o)),[]))),
 (184,({ bC:=2 },(.s .o (.sc [(0,[(1,.no),(4,.ptr 179 0),(5,.ptr 180 0),(179,.cl []),(180,.cl [])]),(2,[(0,.no),(1,.no),(4,.ptr 179 0),(5,.ptr 180 0),(6,.cM 800000),(12,.no),(179,.cl []),(180,.cl []),(800000,.pv)]),(3,[(0,.no),(1,.no),(4,.ptr 179 0),(5,.ptr 180 0),(6,.cM 800000),(12,.no),(179,.cl []),(180,.cl []),(800000,.pv)]),(1,[(0,.no),(1,.no),(4,.ptr 179 0),(5,.ptr 180 0),(6,.cM 800000),(12,.no),(179,.cl []),(180,.cl []),(800000,.pv)])] (.s .o (.s .o (.s .o (.s .o (.s .o (.s .o (.s .o (.s .o (.s .o (.s .o (.s .o (.s .o (.s .o (.s .o (.s .o (.s .o (.s .o (.s .o (.s .o (.s .o (.s .o (.s .o (.s .o (.s .o (.j [(0,.no),(1,.no),(4,.ptr 179 0),(5,.ptr 180 0),(6,.cM 800000),(8,.no),(9,.no),(12,.no),(179,.cl []),(180,.cl []),(800000,.pv)] (.s .o (.s (.s .o (.j [(0,.no),(1,.no),(4,.ptr 179 0),(5,.ptr 180 0),(6,.cM 800000),(8,.no),(10,.no),(11,.no),(12,.no),(179,.cl []),(180,.cl []),(800000,.pv)] .o .o)) .o)) .o)))))))))))))))))))))))))),[]))),
 (185,({ bC:=2 },(.s .o (.s .o (.s (.b (.l [(0,.no),(1,.no),(4,.ptr 51 0),(5,.ptr 52 0),(6,.no),(51,.cl []),(52,.cl [])] .o)) .o)),[]))),
 (186,({ md:=[.rf],bC:=2 },(.o,[]))),
 (187,({},(.o,[]))),
 (188,({},(.s .o (.s (.b (.l (sc [0,1]) .o)) .o),[]))),
 (189,({ bC:=2 },(.o,[]))),
 (190,({},(.o,[]))),
 (191,({ bC:=2 },(.o,[]))),
 (192,({},(.o,[]))),
 (193,({ bC:=3 },(.o,[]))),
 (194,({ bC:=2 },(.o,[]))),
 (195,({ bC:=2 },(.o,[295,296]))),
 (196,({ bC:=2 },(.s .o (.s .o (.s .o (.j [(2,.ptr 123 0),(123,.cl [])] .o .o))),[276,277,332,333]))),
 (197,({ bC:=2 },(.o,[188,189]))),
 (198,({ bC:=2 },(.o,[]))),
 (199,({ md:=[.pl,.sm],bC:=2 },(.s .o (.s .o (.j [(1,.cM 1000001),(4,.ptr 73 0),(5,.ptr 74 0),(73,.cl []),(74,.cl []),(1000001,.pv)] .o .o)),[110,131]))),
 (202,({},(.s .o (.s (.s .o (.b (.s .o (.s .o (.s .o (.s (.s .o (.s .o (.s .o (.s (.s .o (.b (.l [(2,.ptr 97 0),(3,.ptr 98 0),(44,.no),(45,.no),(97,.cl [(2,800000)]),(98,.cl [(2,800001)]),(800000,.pv),(800001,.pv)] .o))) .o)))) .o)))))) .o),[]))),
 (203,({ md:=[.gv],own:=[0] },(.o,[]))),
 (204,({},(.s .o (.j [(1,.ptr 129 0),(2,.ptr 130 0),(129,.cl []),(130,.cl [(2,800000)]),(800000,.pv)] (.s .o (.b (.s .o (.s .o (.s .o (.s .o (.s .o (.s .o (.s .o (.s .o (.s .o (.s .o (.s .o (.s (.s .o (.s .o (.s .o (.s (.s .o (.b (.l [(2,.ptr 130 0),(7,.ptr 135 0),(88,.no),(89,.no),(130,.cl [(2,800000)]),(135,.cl [(2,800001)]),(800000,.pv),(800001,.pv)] .o))) .o)))) .o)))))))))))))) .o),[]))),
 (205,({},(.s .o (.s (.s .o (.b (.l (sc [5,6,7]) .o))) .o),[]))),
 (206,({},(.o,[]))),
 (207,({},(.o,[]))),
 (208,({},(.o,[]))),
 (209,({},(.o,[]))),
 (210,({},(.s .o (.s (.s .o (.b (.s .o (.s .o (.s .o (.s .o (.s .o (.s .o (.j [(1,.ptr 80 0),(2,.ptr 81 0),(4,.no),(26,.no),(80,.cl []),(81,.cl [])] .o (.s .o (.s .o (.s .o (.s .o (.s .o (.j [(1,.ptr 80 0),(2,.ptr 81 0),(4,.no),(53,.no),(80,.cl []),(81,.cl [])] .o .o))))))))))))))) .o),[]))),
 (215,({ bC:=3 },(.s .o (.s .o (.s .o (.s .o (.s .o (.j (sc [0,9,10]) .o (.s .o (.s (.b (.l (sc [0,3,9,10]) .o)) (.s .o (.b (.l (sc [0,3,9,10,11]) .o)))))))))),[]))),
 (216,({},(.s .o (.s .o (.s .o (.s .o (.j (sc [1,6]) .o .o)))),[]))),
 (217,({},(.o,[]))),
 (222,({ bC:=2 },(.s .o (.s .o (.s (.s .o (.b (.l (sc [0,4,5]) .o))) (.s .o (.s (.s .o (.b (.l (sc [4,6,7,8]) (.s .o (.s (.b (.j (sc [4,6,7,8]) .o .o)) .o))))) .o)))),[]))),
 (223,({},(.o,[]))),
 (224,({ bC:=2 },(.s .o (.j (sc [4,5]) (.b (.l (sc [0,1,4,5]) .o)) .o),[]))),
 (225,({},(.o,[]))),
 (226,({},(.o,[]))),
 (227,({},(.o,[]))),
 (228,({ bC:=2 },(.s .o (.s .o (.s .o (.s .o (.s .o (.j (sc [4,5,6]) .o (.s .o (.s .o (.s .o (.j (sc [11]) .o .o))))))))),[]))),
 (229,({},(.o,[]))),
 (230,({},(.o,[]))),
 (231,({},(.s .o (.s .o (.s (.s .o (.b (.l (sc [1,19,20,21]) .o))) .o)),[]))),
 (232,({ bC:=2 },(.o,[]))),
 (233,({ bC:=2 },(.o,[]))),
 (234,({ bC:=3 },(.s .o (.s .o (.s .o (.s .o (.s .o (.s .o (.s .o (.s .o (.s .o (.s .o (.j (sc [5,10,11,12,13,14]) .o (.s .o (.s .o (.j (sc [5,11,15]) .o .o))))))))))))),[]))),
 (235,({ bC:=2 },(.s .o (.s .o (.j (sc [0,4,5]) .o (.s .o (.s .o (.s .o (.s .o (.s .o (.s .o (.s .o (.s .o (.s .o (.s .o (.s (.s .o (.b (.l (sc [4,6,8,11,12,14,16,17]) .o))) .o))))))))))))),[]))),
 (236,({ bC:=2 },(.o,[]))),
 (237,({},(.s .o (.s .o (.s (.s .o (.b (.l (sc [3,6,7,8]) .o))) .o)),[]))),
 (238,({ bC:=2 },(.o,[]))),
 (239,({ bC:=2 },(.s .o (.sc [(0,(sc [])),(2,[(0,.no),(4,.cM 800000),(5,.no),(6,.no),(7,.no),(800000,.pv)]),(1,[(0,.no),(4,.cM 800000),(5,.no),(6,.no),(7,.no),(800000,.pv)])] (.s .o (.s .o (.s .o (.s .o (.s .o (.s .o (.s .o (.s .o (.s .o (.j [(0,.no),(4,.cM 800000),(5,.no),(6,.no),(7,.no),(800000,.pv)] .o .o))))))))))),[]))),
 (240,({ bC:=2 },(.s .o (.s .o (.s .o (.s (.s .o (.b (.l [(0,.no),(4,.cM 800000),(5,.no),(800000,.pv)] .o))) .o))),[]))),
 (241,({},(.s .o (.s (.s .o (.b (.l (sc [0,3]) .o))) .o),[]))),
 (242,({},(.o,[]))),
 (243,({ bC:=2 },(.s .o (.s .o (.s .o (.s .o (.j [(4,.ptr 215 0),(6,.ptr 217 0),(7,.no),(215,.cl []),(217,.cl [])] (.s .o (.b (.s .o (.s .o (.s .o (.s .o (.j [(3,.ptr 214 0),(4,.ptr 215 0),(6,.ptr 217 0),(7,.no),(23,.no),(74,.no),(214,.cl []),(215,.cl []),(217,.cl [])] .o (.s .o (.s .o (.s .o (.s .o (.s .o (.j [(3,.ptr 214 0),(4,.ptr 215 0),(6,.ptr 217 0),(7,.no),(23,.no),(144,.no),(214,.cl []),(215,.cl []),(217,.cl [])] .o (.s .o (.s .o (.s .o (.s .o (.s (.s .o (.s .o (.s (.s .o (.b (.l [(4,.ptr 215 0),(6,.ptr 217 0),(7,.no),(174,.no),(175,.no),(176,.no),(215,.cl []),(217,.cl [])] (.s .o (.s .o (.j [(4,.ptr 215 0),(6,.ptr 217 0),(7,.no),(174,.no),(175,.no),(176,.no),(215,.cl []),(217,.cl [])] .o .o)))))) .o))) (.j [(3,.ptr 214 0),(4,.ptr 215 0),(6,.ptr 217 0),(7,.no),(198,.no),(214,.cl []),(215,.cl []),(217,.cl [])] .o .o))))))))))))))))))) .o)))),[]))),
 (247,({ bC:=3 },(.o,[]))),
 (248,({},(.o,[]))),
 (249,({},(.o,[]))),
 (250,({},(.o,[]))),
 (251,({},(.o,[]))),
 (252,({ bC:=2 },(.o,[]))),
 (253,({},(.o,[]))),
 (254,({ bC:=2 },(.s .o (.s .o (.s .o (.s (.s .o (.b (.l [(0,.no),(4,.cM 800000),(13,.no),(14,.no),(800000,.pv)] (.s .o (.s .o (.j [(0,.no),(4,.cM 800000),(13,.no),(14,.no),(800000,.pv)] .o .o)))))) .o))),[]))),
 (255,({},(.o,[]))),
 (256,({ bC:=2 },(.s .o (.s .o (.s .o (.s .o (.s (.b (.l (sc [4,5,6]) .o)) (.s .o (.s .o (.s (.b (.l (sc [5,6,7,8]) .o)) (.s .o (.s .o (.j (sc [10]) .o .o)))))))))),[]))),
 (257,({ own:=[1002] },(.o,[19]))),
 (258,({},(.o,[]))),
 (259,({},(.s .o (.s .o (.s (.s .o (.b (.l [(1,.ptr 27 0),(2,.ptr 28 0),(3,.cM 800000),(4,.no),(27,.cl []),(28,.cl []),(800000,.pv)] (.s .o (.s (.b (.s .o (.j [(1,.ptr 27 0),(2,.ptr 28 0),(3,.cM 800000),(4,.no),(5,.no),(27,.cl []),(28,.cl []),(800000,.pv)] .o .o))) .o))))) .o)),[]))),
 (262,({},(.s .o (.s .o (.s (.b (.l [(0,.no),(3,.cM 800000),(800000,.pv)] .o)) .o)),[]))),
 (263,({},(.o,[]))),
 (264,({},(.o,[]))),
 (265,({},(.o,[]))),
 (266,({ bC:=3 },(.o,[]))),
 (274,({ bC:=2 },(.o,[]))),
 (275,({ bC:=2 },(.o,[]))),
 (277,({},(.s .o (.s .o (.s .o (.s (.s .o (.b (.l (sc [0,3,4,9,10]) .o))) .o))),[]))),
 (278,({ bC:=2 },(.s .o (.s .o (.s .o (.s .o (.s .o (.s .o (.s .o (.s .o (.s .o (.s .o (.j (sc [7,9]) .o .o)))))))))),[]))),
 (279,({ bC:=5 },(.s .o (.s .o (.j (sc [2,5,7]) .o (.j (sc [2,5,7]) (.s .o (.s .o (.s (.s .o (.s .o (.s .o (.j (sc [2,5,7,9,10]) .o (.s .o (.s (.s .o (.b (.l (sc [2,5,7,9,10,61,62]) .o))) .o)))))) .o))) .o))),[]))),
 (282,({ bC:=2 },(.s .o (.s .o (.s .o (.s (.s .o (.b (.l [(0,.no),(2,.ptr 72 0),(4,.ptr 74 0),(30,.no),(31,.no),(72,.cl []),(74,.cl [])] .o))) .o))),[]))),
 (283,({ bC:=3 },(.s .o (.s .o (.s .o (.j [(4,.ptr 38 0),(6,.no),(38,.cl [])] .o .o))),[]))),
 (284,({ bC:=2 },(.s .o (.s .o (.s (.s .o (.b (.l [(3,.no),(4,.no),(12,.no),(19,.cM 800000),(20,.no),(21,.no),(800000,.pv)] .o))) .o)),[]))),
 (285,({},(.s .o (.s (.s .o (.b (.j (sc [0,5,6]) .o .o))) .o),[]))),
 (286,({},(.o,[]))),
 (287,({},(.o,[]))),
 (288,({},(.o,[]))),
 (289,({ bC:=3 },(.o,[]))),
 (290,({},(.s .o (.s .o (.s (.s .o (.b (.l [(0,.no),(3,.cM 800000),(4,.no),(800000,.pv)] .o))) .o)),[]))),
 (291,({},(.o,[]))),
 (292,({},(.s .o (.s .o (.s .o (.j (sc [6,9]) .o .o))),[]))),
 (293,({},(.s .o (.s .o (.s (.b (.l [(0,.no),(3,.cM 800000),(800000,.pv)] .o)) (.j [(3,.cM 800000),(800000,.pv)] .o .o))),[]))),
 (294,({},(.s .o (.s .o (.s (.s .o (.b (.l [(3,.cM 800000),(10,.no),(11,.no),(12,.no),(800000,.pv)] .o))) .o)),[]))),
 (295,({},(.s .o (.s .o (.s (.b (.l (sc [1,5]) .o)) .o)),[]))),
 (296,({},(.o,[]))),
 (297,({ own:=[0] },(.s .o (.s .o (.s .o (.s (.s .o (.b (.l [(1,.no),(5,.cM 800000),(800000,.pv),(6,.no),(9,.no),(10,.no),(11,.no)] .o))) (.j [(5,.cM 800000),(800000,.pv)] .o .o)))),[]))),
 (298,({},(.s .o (.j (sc [0,2]) .o .o),[]))),
 (299,({ bC:=2 },(.o,[]))),
 (300,({},(.o,[]))),
 (301,({ bC:=3 },(.o,[]))),
 (302,({ bC:=3 },(.o,[]))),
 (303,({},(.s .o (.s .o (.j (sc [0,1]) .o (.s .o (.s .o (.s (.s .o (.b (.l [(1,.no),(5,.cM 800000),(6,.no),(26,.no),(27,.no),(800000,.pv)] (.s .o (.s .o (.s (.b (.s .o (.s .o (.j [(1,.no),(5,.cM 800000),(6,.no),(7,.no),(26,.no),(27,.no),(800000,.pv)] .o .o)))) .o)))))) (.j [(5,.cM 800000),(800000,.pv)] .o .o)))))),[]))),
 (304,({ bC:=2 },(.o,[]))),
 (313,({},(.o,[]))),
 (314,({},(.o,[]))),
 (317,({ bC:=2 },(.o,[]))),
 (319,({},(.o,[]))),
 (321,({ md:=[.rf] },(.o,[]))),
 (323,({ bC:=2 },(.s .o (.s .o (.s .o (.s (.s .o (.b (.l (sc [0,4,24,25]) .o))) .o))),[]))),
 (324,({ bC:=2 },(.s .o (.s .o (.s .o (.s (.b (.l (sc [0,1,6]) .o)) .o))),[]))),
 (325,({},(.s .o (.s .o (.s .o (.s .o (.s .o (.s (.s .o (.b (.l [(7,.cM 800000),(800000,.pv),(8,.no),(27,.no),(28,.no),(29,.no)] .o))) (.s (.b (.l [(7,.cM 800000),(800000,.pv),(8,.no)] .o)) .o)))))),[]))),
 (326,({ bC:=2 },(.s .o (.s .o (.s .o (.j (sc [6,7]) .o .o))),[]))),
 (327,({},(.s .o (.s (.b (.l (sc [0,1]) .o)) .o),[]))),
 (329,({},(.s .o (.j (sc [0]) (.b (.l (sc [0,1]) .o)) .o),[]))),
 (330,({},(.s .o (.s (.b (.l (sc [0,1]) .o)) .o),[]))),
 (332,({},(.s .o (.j (sc [0]) (.b (.l (sc [0,1]) (.s .o (.b (.s .o (.j (sc [0,1,5,6]) .o .o)))))) .o),[]))),
 (333,({ bC:=2 },(.o,[]))),
 (334,({ bC:=2 },(.o,[]))),
 (335,({},(.o,[]))),
 (336,({},(.o,[]))),
 (337,({},(.o,[]))),
 (338,({},(.o,[]))),
 (339,({ bC:=4 },(.s .o (.s .o (.s .o (.s .o (.s .o (.j [(0,.no),(5,.no),(6,.ptr 58 0),(58,.cl [])] .o .o))))),[]))),
 (340,({},(.s .o (.s .o (.s .o (.s (.b (.s .o (.s .o (.s .o (.s (.j (sc [0,1,5]) .o .o) .o))))) (.s .o (.j (sc [6,7]) .o .o))))),[]))),
 (341,({},(.s .o (.s .o (.s (.b (.l [(1,.ptr 53 0),(3,.no),(53,.cl [])] .o)) (.j (sc [3]) .o .o))),[]))),
 (342,({},(.s .o (.s .o (.s (.s .o (.b (.l (sc [0,1,5]) .o))) .o)),[]))),
 (343,({ own:=[0] },(.o,[]))),
 (344,({ bC:=2 },(.s .o (.s .o (.s .o (.s (.s .o (.b (.l [(0,.no),(1,.no),(6,.cM 800000),(7,.no),(8,.no),(800000,.pv)] .o))) .o))),[]))),
 (345,({ md:=[.gv],bC:=2 },(.s .o (.s .o (.s .o (.s .o (.s (.s .o (.b (.l [(0,.cM 800000),(1,.no),(4,.cM 800001),(6,.no),(7,.no),(800000,.pv),(800001,.pv)] (.s .o (.s (.b (.s .o (.s .o (.j [(0,.cM 800000),(1,.no),(4,.cM 800001),(6,.no),(7,.no),(9,.no),(800000,.pv),(800001,.pv)] (.b (.l [(0,.cM 800000),(1,.no),(4,.cM 800001),(6,.no),(7,.no),(9,.no),(10,.no),(800000,.pv),(800001,.pv)] .o)) (.s .o (.s (.s .o (.b (.l [(0,.cM 800000),(1,.no),(4,.cM 800001),(6,.no),(7,.no),(9,.no),(11,.no),(12,.no),(107,.no),(108,.no),(800000,.pv),(800001,.pv)] .o))) (.s .o (.s .o (.j [(0,.cM 800000),(1,.no),(4,.cM 800001),(6,.no),(7,.no),(9,.no),(800000,.pv),(800001,.pv)] (.s .o (.s (.s .o (.s .o (.s (.s .o (.b (.l [(0,.cM 800000),(1,.no),(4,.cM 800001),(6,.no),(7,.no),(9,.no),(17,.no),(169,.no),(170,.no),(800000,.pv),(800001,.pv)] .o))) .o))) .o)) .o))))))))) .o))))) .o)))),[]))),
 (346,({},(.s .o (.s (.b (.l (sc [0]) .o)) .o),[]))),
 (347,({},(.s .o (.s .o (.s (.s .o (.b (.l [(0,.no),(1,.no),(5,.cM 800000),(11,.no),(12,.no),(13,.no),(800000,.pv)] (.s .o (.s .o (.j [(0,.no),(1,.no),(5,.cM 800000),(11,.no),(12,.no),(13,.no),(800000,.pv)] .o .o)))))) .o)),[]))),
 (348,({},(.s .o (.s .o (.s .o (.s (.b (.l [(0,.no),(3,.cM 800000),(800000,.pv)] (.s .o (.b (.s .o (.s .o (.j [(3,.cM 800000),(4,.no),(6,.no),(800000,.pv)] .o .o))))))) .o))),[]))),
 (349,({ bC:=2 },(.o,[]))),
 (350,({ bC:=2 },(.o,[]))),
 (353,({},(.o,[]))),
 (354,({},(.s .o (.j (sc [0,2]) .o (.j (sc [0,2]) .o (.j (sc [0,2]) .o .o))),[]))),
 (355,({},(.o,[]))),
 (356,({},(.o,[]))),
 (357,({},(.o,[]))),
 (358,({},(.o,[]))),
 (359,({},(.s .o (.s .o (.s .o (.s (.s .o (.b (.l [(1,.no),(7,.cM 800000),(800000,.pv),(8,.no),(16,.no),(17,.no),(18,.no)] .o))) (.j [(7,.cM 800000),(800000,.pv)] .o .o)))),[]))),
 (360,({ bC:=2 },(.s .o (.s .o (.s .o (.s .o (.s .o (.s (.s .o (.b (.l [(0,.no),(1,.no),(6,.cM 800000),(8,.no),(48,.no),(49,.no),(50,.no),(800000,.pv)] (.s .o (.s .o (.s (.b (.s .o (.s .o (.b (.l [(0,.no),(1,.no),(6,.cM 800000),(8,.no),(9,.no),(10,.ptr 126 0),(48,.no),(49,.no),(50,.no),(55,.no),(56,.no),(57,.no),(126,.cl []),(800000,.pv)] (.s .o (.s .o (.s (.b (.s .o (.s .o (.s (.s .o (.b (.l [(0,.no),(1,.no),(6,.cM 800000),(8,.no),(9,.no),(10,.ptr 126 0),(11,.no),(12,.ptr 128 0),(13,.ptr 129 0),(48,.no),(49,.no),(50,.no),(55,.no),(56,.no),(57,.no),(62,.no),(126,.cl []),(128,.cl []),(129,.cl []),(800000,.pv)] .o))) (.s .o (.s .o (.b (.l [(0,.no),(1,.no),(6,.cM 800000),(8,.no),(9,.no),(10,.ptr 126 0),(11,.no),(15,.ptr 131 0),(48,.no),(49,.no),(50,.no),(55,.no),(56,.no),(57,.no),(80,.no),(126,.cl []),(131,.cl []),(800000,.pv)] .o)))))))) .o)))))))) .o)))))) .o))))),[]))),
 (361,({},(.s .o (.s .o (.s (.s .o (.b (.l [(3,.cM 800000),(9,.no),(10,.no),(11,.no),(800000,.pv)] .o))) .o)),[]))),
 (362,({ bC:=2 },(.s .o (.j (sc [0,1]) .o .o),[]))),
 (363,({ bC:=2 },(.s .o (.s .o (.j (sc [1,2,8]) .o .o)),[]))),
 (364,({ bC:=2 },(.o,[]))),
 (365,({},(.o,[]))),
 (366,({ bC:=2 },(.s .o (.s .o (.s .o (.s .o (.s .o (.s .o (.s .o (.j (sc [0,4,5]) (.s .o (.b (.l (sc [0,4,5,6]) .o))) (.j (sc [0,4,5]) .o .o)))))))),[]))),
 (367,({},(.o,[]))),
 (369,({ bC:=3 },(.o,[]))),
 (370,({},(.o,[]))),
 (371,({ md:=[.sl],bC:=0 },(.s .o (.b (.l [(0,.cM 1000000),(2,.no),(3,.no),(1000000,.pv)] .o)),[]))),
 (375,({},(.o,[]))),
 (376,({},(.o,[]))),
 (377,({},(.s .o (.s (.s .o (.b (.l (sc [0,5,6,7]) .o))) .o),[]))),
 (378,({},(.s .o (.s .o (.s (.s .o (.b (.l [(0,.no),(3,.cM 800000),(800000,.pv),(4,.no)] (.s .o (.s (.b (.s .o (.j [(0,.no),(3,.cM 800000),(800000,.pv),(4,.no),(5,.ptr 41 0),(41,.cl [])] .o .o))) .o))))) .o)),[]))),
 (379,({},(.o,[]))),
 (380,({ bC:=2 },(.s .o (.s .o (.s .o (.s (.s .o (.b (.l [(2,.ptr 53 0),(4,.ptr 55 0),(16,.no),(17,.no),(53,.cl []),(55,.cl [])] .o))) .o))),[]))),
 (381,({ bC:=3 },(.o,[]))),
 (382,({ bC:=2 },(.s .o (.s .o (.s .o (.s (.s .o (.b (.l (sc [4,15,16,17]) .o))) .o))),[]))),
 (383,({ bC:=2 },(.o,[]))),
 (384,({},(.o,[]))),
 (385,({ bC:=2 },(.s .o (.j (sc [0,1,2]) .o (.j (sc [0,1,2]) .o (.s .o (.s .o (.s .o (.s .o (.s .o (.s .o (.s .o (.s .o (.s .o (.s .o (.s .o (.j (sc [2,8,9,10,11,13,14,15]) (.b (.l (sc [2,8,9,10,11,13,14,15,16]) .o)) (.s .o (.s .o (.s .o (.j (sc [2,8,14,15,17,18]) (.b (.l (sc [2,8,9,10,14,15,16,17,18]) .o)) .o)))))))))))))))))),[]))),
 (387,({},(.o,[]))),
 (388,({},(.o,[]))),
 (389,({},(.o,[]))),
 (390,({},(.s .o (.s .o (.s (.s .o (.b (.l (sc [3,6,7]) .o))) .o)),[]))),
 (391,({},(.s .o (.s .o (.s (.s .o (.b (.l [(1,.no),(2,.ptr 34 0),(4,.ptr 36 0),(5,.ptr 37 0),(9,.no),(34,.cl []),(36,.cl []),(37,.cl [])] (.s .o (.s .o (.s (.b (.s .o (.s .o (.b (.l [(1,.no),(2,.ptr 34 0),(4,.ptr 36 0),(5,.ptr 37 0),(6,.no),(9,.no),(12,.no),(13,.no),(34,.cl []),(36,.cl []),(37,.cl [])] .o))))) .o)))))) .o)),[]))),
 (393,({},(.o,[]))),
 (394,({},(.o,[]))),
 (395,({},(.o,[]))),
 (396,({},(.o,[]))),
 (399,({},(.o,[]))),
 (400,({},(.o,[]))),
 (401,({},(.o,[])))]
def sB:List (Nat × (eE × cg)):=[(131,(fun ins=>match ins with | [.s [49]] => .ok [.i .i64 1,.b true] | _ => .err,{ bC:=2 })),(220,(fun ins=>match ins with | [.i .i64 1,.i .i64 10] => .ok [.s [49]] | _ => .err,{})),(35,(bQ.c,bQ.sg)),(56,(df.c,df.sg))]
def Dp (d:Nat):cz:=tX PG 300 zW Dn sB Bv d
end
theorem Fq:PG.follows .mixedOrders=true∧nT PG zW=true∧tL PG Dn=true:=⟨by kernel_rfl,by kernel_rfl,by kernel_rfl⟩
end Go.Eng
namespace Go.Proofs
open Go.Shelf
def Tryz.o8:Go.Shelf.Ren:=⟨fun | 173=>220 | 246=>273 | 283=>313 | 284=>314 | 285=>315 | 286=>316 | 129=>354 | 317=>353 | 318=>355 | 319=>356 | 320=>357 | 337=>375 | 338=>376 | n=>n,fun | 2=>2 | 3=>3 | 9=>9 | 4=>4 | 171=>352 | 0=>0 | 53=>25 | 37=>22 | 5=>5 | 173=>354 | 212=>391 | 51=>107 | 20=>20 | 213=>392 | 46=>108 | 232=>425 | 233=>426 | n=>n,fun | 17=>3 | 18=>4 | 19=>5 | n=>n⟩
theorem Tryz.wg:Go.Proofs.LaysM.n173 Tryz.prog Tryz.o8:={
 mixed:=by kernel_rfl
 f129:=Tryz.func354.trans (congrArg some (by kernel_rfl))
 f173:=Tryz.func220.trans (congrArg some (by kernel_rfl))
 f246:=Tryz.func273.trans (congrArg some (by kernel_rfl))
 f283:=Tryz.func313.trans (congrArg some (by kernel_rfl))
 f284:=Tryz.func314.trans (congrArg some (by kernel_rfl))
 f285:=Tryz.func315.trans (congrArg some (by kernel_rfl))
 f286:=Tryz.func316.trans (congrArg some (by kernel_rfl))
 f317:=Tryz.func353.trans (congrArg some (by kernel_rfl))
 f318:=Tryz.func355.trans (congrArg some (by kernel_rfl))
 f319:=Tryz.func356.trans (congrArg some (by kernel_rfl))
 f320:=Tryz.func357.trans (congrArg some (by kernel_rfl))
 f337:=Tryz.func375.trans (congrArg some (by kernel_rfl))
 f338:=Tryz.func376.trans (congrArg some (by kernel_rfl))
 t0:=Tryz.underlying0
 a0:=Tryz.isAgg0
 z0:=Tryz.sizeOf0
 v0:=Tryz.zeroValue0
 t2:=Tryz.underlying2
 a2:=Tryz.isAgg2
 z2:=Tryz.sizeOf2
 v2:=Tryz.zeroValue2
 t3:=Tryz.underlying3
 a3:=Tryz.isAgg3
 z3:=Tryz.sizeOf3
 v3:=Tryz.zeroValue3
 t4:=Tryz.underlying4
 a4:=Tryz.isAgg4
 z4:=Tryz.sizeOf4
 v4:=Tryz.zeroValue4
 t5:=Tryz.underlying5
 a5:=Tryz.isAgg5
 z5:=Tryz.sizeOf5
 v5:=Tryz.zeroValue5
 t9:=Tryz.underlying9
 a9:=Tryz.isAgg9
 z9:=Tryz.sizeOf9
 v9:=Tryz.zeroValue9
 t20:=Tryz.underlying20
 a20:=Tryz.isAgg20
 z20:=Tryz.sizeOf20
 v20:=Tryz.zeroValue20
 t37:=Tryz.underlying22
 a37:=Tryz.isAgg22
 z37:=Tryz.sizeOf22
 v37:=Tryz.zeroValue22
 t46:=Tryz.underlying108
 a46:=Tryz.isAgg108
 z46:=Tryz.sizeOf108
 v46:=Tryz.zeroValue108
 t51:=Tryz.underlying107
 a51:=Tryz.isAgg107
 z51:=Tryz.sizeOf107
 v51:=Tryz.zeroValue107
 t53:=Tryz.underlying25
 a53:=Tryz.isAgg25
 z53:=Tryz.sizeOf25
 v53:=Tryz.zeroValue25
 t171:=Tryz.underlying352
 a171:=Tryz.isAgg352
 z171:=Tryz.sizeOf352
 v171:=Tryz.zeroValue352
 t173:=Tryz.underlying354
 a173:=Tryz.isAgg354
 z173:=Tryz.sizeOf354
 v173:=Tryz.zeroValue354
 t212:=Tryz.underlying391
 a212:=Tryz.isAgg391
 z212:=Tryz.sizeOf391
 v212:=Tryz.zeroValue391
 t213:=Tryz.underlying392
 a213:=Tryz.isAgg392
 z213:=Tryz.sizeOf392
 t232:=Tryz.underlying425
 a232:=Tryz.isAgg425
 z232:=Tryz.sizeOf425
 v232:=Tryz.zeroValue425
 t233:=Tryz.underlying426
 a233:=Tryz.isAgg426
 z233:=Tryz.sizeOf426
 v233:=Tryz.zeroValue426
 g17:=by kernel_rfl
 g18:=by kernel_rfl
 g19:=by kernel_rfl
 i0:=by kernel_rfl
 i2:=by kernel_rfl
 i3:=by kernel_rfl
 i4:=by kernel_rfl
 i5:=by kernel_rfl
 i9:=by kernel_rfl
 i20:=by kernel_rfl
 i37:=by kernel_rfl
 i46:=by kernel_rfl
 i51:=by kernel_rfl
 i53:=by kernel_rfl
 i171:=by kernel_rfl
 i173:=by kernel_rfl
 i212:=by kernel_rfl
 i232:=by kernel_rfl
 i233:=by kernel_rfl
 m17:=by kernel_rfl
 m18:=by kernel_rfl
 m19:=by kernel_rfl }
def Tryz.o9:Go.Shelf.Ren:=⟨fun | 174=>174 | 247=>218 | 245=>219 | 287=>268 | 279=>269 | 280=>270 | 281=>271 | 282=>272 | 321=>309 | 322=>310 | 316=>311 | 171=>190 | 205=>312 | 243=>229 | 246=>273 | 283=>313 | 284=>314 | 285=>315 | 286=>316 | 129=>354 | 317=>353 | 318=>355 | 319=>356 | 320=>357 | 337=>375 | 338=>376 | n=>n,fun | 9=>9 | 3=>3 | 2=>2 | 75=>229 | 85=>230 | 4=>4 | 167=>307 | 5=>5 | 53=>25 | 175=>308 | 46=>108 | 168=>310 | 37=>22 | 0=>0 | 210=>350 | 21=>21 | 127=>386 | 145=>389 | 143=>387 | 171=>352 | 173=>354 | 212=>391 | 51=>107 | 20=>20 | 213=>392 | 232=>425 | 233=>426 | 80=>347 | n=>n,fun | 15=>1 | 16=>2 | 17=>3 | 18=>4 | 19=>5 | n=>n⟩
theorem Tryz.wh:Go.Proofs.LaysC.n174 Tryz.prog Tryz.o9:={
 mixed:=by kernel_rfl
 f129:=Tryz.func354.trans (congrArg some (by kernel_rfl))
 f171:=Tryz.func190.trans (congrArg some (by kernel_rfl))
 f174:=Tryz.func174.trans (congrArg some (by kernel_rfl))
 f205:=Tryz.func312.trans (congrArg some (by kernel_rfl))
 f243:=Tryz.func229.trans (congrArg some (by kernel_rfl))
 f245:=Tryz.func219.trans (congrArg some (by kernel_rfl))
 f246:=Tryz.func273.trans (congrArg some (by kernel_rfl))
 f247:=Tryz.func218.trans (congrArg some (by kernel_rfl))
 f279:=Tryz.func269.trans (congrArg some (by kernel_rfl))
 f280:=Tryz.func270.trans (congrArg some (by kernel_rfl))
 f281:=Tryz.func271.trans (congrArg some (by kernel_rfl))
 f282:=Tryz.func272.trans (congrArg some (by kernel_rfl))
 f283:=Tryz.func313.trans (congrArg some (by kernel_rfl))
 f284:=Tryz.func314.trans (congrArg some (by kernel_rfl))
 f285:=Tryz.func315.trans (congrArg some (by kernel_rfl))
 f286:=Tryz.func316.trans (congrArg some (by kernel_rfl))
 f287:=Tryz.func268.trans (congrArg some (by kernel_rfl))
 f316:=Tryz.func311.trans (congrArg some (by kernel_rfl))
 f317:=Tryz.func353.trans (congrArg some (by kernel_rfl))
 f318:=Tryz.func355.trans (congrArg some (by kernel_rfl))
 f319:=Tryz.func356.trans (congrArg some (by kernel_rfl))
 f320:=Tryz.func357.trans (congrArg some (by kernel_rfl))
 f321:=Tryz.func309.trans (congrArg some (by kernel_rfl))
 f322:=Tryz.func310.trans (congrArg some (by kernel_rfl))
 f337:=Tryz.func375.trans (congrArg some (by kernel_rfl))
 f338:=Tryz.func376.trans (congrArg some (by kernel_rfl))
 t0:=Tryz.underlying0
 a0:=Tryz.isAgg0
 z0:=Tryz.sizeOf0
 v0:=Tryz.zeroValue0
 t2:=Tryz.underlying2
 a2:=Tryz.isAgg2
 z2:=Tryz.sizeOf2
 v2:=Tryz.zeroValue2
 t3:=Tryz.underlying3
 a3:=Tryz.isAgg3
 z3:=Tryz.sizeOf3
 v3:=Tryz.zeroValue3
 t4:=Tryz.underlying4
 a4:=Tryz.isAgg4
 z4:=Tryz.sizeOf4
 v4:=Tryz.zeroValue4
 t5:=Tryz.underlying5
 a5:=Tryz.isAgg5
 z5:=Tryz.sizeOf5
 v5:=Tryz.zeroValue5
 t9:=Tryz.underlying9
 a9:=Tryz.isAgg9
 z9:=Tryz.sizeOf9
 v9:=Tryz.zeroValue9
 t20:=Tryz.underlying20
 a20:=Tryz.isAgg20
 z20:=Tryz.sizeOf20
 v20:=Tryz.zeroValue20
 t21:=Tryz.underlying21
 a21:=Tryz.isAgg21
 z21:=Tryz.sizeOf21
 v21:=Tryz.zeroValue21
 t37:=Tryz.underlying22
 a37:=Tryz.isAgg22
 z37:=Tryz.sizeOf22
 v37:=Tryz.zeroValue22
 t46:=Tryz.underlying108
 a46:=Tryz.isAgg108
 z46:=Tryz.sizeOf108
 v46:=Tryz.zeroValue108
 t51:=Tryz.underlying107
 a51:=Tryz.isAgg107
 z51:=Tryz.sizeOf107
 v51:=Tryz.zeroValue107
 t53:=Tryz.underlying25
 a53:=Tryz.isAgg25
 z53:=Tryz.sizeOf25
 v53:=Tryz.zeroValue25
 t75:=Tryz.underlying229
 a75:=Tryz.isAgg229
 z75:=Tryz.sizeOf229
 v75:=Tryz.zeroValue229
 t85:=Tryz.underlying230
 a85:=Tryz.isAgg230
 z85:=Tryz.sizeOf230
 v85:=Tryz.zeroValue230
 t127:=Tryz.underlying386
 a127:=Tryz.isAgg386
 z127:=Tryz.sizeOf386
 v127:=Tryz.zeroValue386
 t143:=Tryz.underlying387
 a143:=Tryz.isAgg387
 z143:=Tryz.sizeOf387
 v143:=Tryz.zeroValue387
 t145:=Tryz.underlying389
 a145:=Tryz.isAgg389
 z145:=Tryz.sizeOf389
 v145:=Tryz.zeroValue389
 t167:=Tryz.underlying307
 a167:=Tryz.isAgg307
 z167:=Tryz.sizeOf307
 v167:=Tryz.zeroValue307
 t168:=Tryz.underlying310
 a168:=Tryz.isAgg310
 z168:=Tryz.sizeOf310
 v168:=Tryz.zeroValue310
 t171:=Tryz.underlying352
 a171:=Tryz.isAgg352
 z171:=Tryz.sizeOf352
 v171:=Tryz.zeroValue352
 t173:=Tryz.underlying354
 a173:=Tryz.isAgg354
 z173:=Tryz.sizeOf354
 v173:=Tryz.zeroValue354
 t175:=Tryz.underlying308
 a175:=Tryz.isAgg308
 z175:=Tryz.sizeOf308
 v175:=Tryz.zeroValue308
 t210:=Tryz.underlying350
 a210:=Tryz.isAgg350
 z210:=Tryz.sizeOf350
 v210:=Tryz.zeroValue350
 t212:=Tryz.underlying391
 a212:=Tryz.isAgg391
 z212:=Tryz.sizeOf391
 v212:=Tryz.zeroValue391
 t213:=Tryz.underlying392
 a213:=Tryz.isAgg392
 z213:=Tryz.sizeOf392
 t232:=Tryz.underlying425
 a232:=Tryz.isAgg425
 z232:=Tryz.sizeOf425
 v232:=Tryz.zeroValue425
 t233:=Tryz.underlying426
 a233:=Tryz.isAgg426
 z233:=Tryz.sizeOf426
 v233:=Tryz.zeroValue426
 g15:=by kernel_rfl
 g16:=by kernel_rfl
 g17:=by kernel_rfl
 g18:=by kernel_rfl
 g19:=by kernel_rfl
 t80:=Tryz.underlying347
 a80:=Tryz.isAgg347
 z80:=Tryz.sizeOf347
 v80:=Tryz.zeroValue347
 i0:=by kernel_rfl
 i2:=by kernel_rfl
 i3:=by kernel_rfl
 i4:=by kernel_rfl
 i5:=by kernel_rfl
 i9:=by kernel_rfl
 i20:=by kernel_rfl
 i21:=by kernel_rfl
 i37:=by kernel_rfl
 i46:=by kernel_rfl
 i51:=by kernel_rfl
 i53:=by kernel_rfl
 i75:=by kernel_rfl
 i80:=by kernel_rfl
 i85:=by kernel_rfl
 i127:=by kernel_rfl
 i143:=by kernel_rfl
 i145:=by kernel_rfl
 i167:=by kernel_rfl
 i168:=by kernel_rfl
 i171:=by kernel_rfl
 i173:=by kernel_rfl
 i175:=by kernel_rfl
 i210:=by kernel_rfl
 i212:=by kernel_rfl
 i232:=by kernel_rfl
 i233:=by kernel_rfl
 m15:=by kernel_rfl
 m16:=by kernel_rfl
 m17:=by kernel_rfl
 m18:=by kernel_rfl
 m19:=by kernel_rfl
 c0:=by kernel_rfl
 c2:=by kernel_rfl
 c3:=by kernel_rfl
 c4:=by kernel_rfl
 c5:=by kernel_rfl
 c9:=by kernel_rfl
 c20:=by kernel_rfl
 c21:=by kernel_rfl
 c37:=by kernel_rfl
 c46:=by kernel_rfl
 c51:=by kernel_rfl
 c53:=by kernel_rfl
 c75:=by kernel_rfl
 c80:=by kernel_rfl
 c85:=by kernel_rfl
 c127:=by kernel_rfl
 c143:=by kernel_rfl
 c145:=by kernel_rfl
 c167:=by kernel_rfl
 c168:=by kernel_rfl
 c171:=by kernel_rfl
 c173:=by kernel_rfl
 c175:=by kernel_rfl
 c210:=by kernel_rfl
 c212:=by kernel_rfl
 c213:=by kernel_rfl
 c232:=by kernel_rfl
 c233:=by kernel_rfl }
end Go.Proofs
namespace Go.Eng
open Go.RowKit Go.Proofs Go.Sort
variable {ee:Errs}
set_option maxRecDepth 100000
set_option maxHeartbeats 1000000
theorem yg {w:World} {R:Reach} (hG:GlOK (cnGl ee) R w):Lib.TabIs Tryz.prog w "internal/strconv.uint64pow10" .u64 Lib.pow10Tab:=by
 have e:(cnGl ee) 3=some (pX .u64 (Lib.pow10Tab.headD 0 :: Lib.pow10Tab.tail)):=rfl
 exact Ad hG e (by kernel_rfl)
theorem Fj:Lib.decDigits 1=[49]:=by rw [Lib.decDigits,dif_pos (by decide)];rfl
theorem Cz:Lib.itoa 1=[49]:=by
 unfold Lib.itoa
 rw [al (by decide)];exact Fj
theorem Al:Lib.parseIntB 64 [49] = .ok 1:=by kernel_rfl
theorem xu {R:Reach} {w:World} (hG:GlOK (cnGl ee) R w):Calls Tryz.prog 220 #[.int .i64 1,.int .i64 10] w fun e w'=>e = .returned (.string ⟨⟨[49]⟩⟩)∧Below w.heap.size w w':=by
 refine (Any.strconv_FormatInt_10 Tryz.wg 1 (by decide) (by decide) w (yg hG)).mono ?_
 rintro e w' ⟨rfl,q,os,rfl⟩
 exact ⟨by rw [Cz],sz _ _ _⟩
theorem xq {w W1 W2:World} (h1:Below w.heap.size w W1) (h2:Below W1.heap.size W1 W2):Below w.heap.size w W2 :=
 ⟨h2.os.trans h1.os,h2.tape.trans h1.tape,h2.output.trans h1.output,by have:=h1.size;have:=h2.size;omega,fun k hk=>(h2.block k (by have:=h1.size;omega)).trans (h1.block k hk)⟩
theorem uF {R:Reach} {w w':World} (hR:∀b o,R b o→b<w.heap.size) (h:Below w.heap.size w w') (hG:GlOK (cnGl ee) R w):GlOK (cnGl ee) R w':=hG.cj (lF (io:=fun _=>False) hR h).cj
theorem yZ {R:Reach} {w:World} (hG:GlOK (cnGl ee) R w):Calls Tryz.prog 175 #[.int .i64 1] w fun e w'=>e = .returned (.string ⟨⟨[49]⟩⟩)∧Below w.heap.size w w':=by
 go_enter Tryz.func175,Tryz.ntmps175
 go_wp2_with (go_at_call 220;refine (xu hG).mono ?_;rintro e w' ⟨rfl,hb⟩)
 go_ret
 exact ⟨rfl,hb⟩
theorem xt {R:Reach} {w:World} (hR:∀b o,R b o→b<w.heap.size) (hG:GlOK (cnGl ee) R w) :
  Calls Tryz.prog 131 #[.string ⟨⟨[49]⟩⟩] w fun e w'=>e = .returned (.tuple #[.int .i64 1,.bool true])∧Below w.heap.size w w':=by
 go_enter Tryz.func131,Tryz.ntmps131
 go_wp2_with (go_at_call 174;refine (Any.strconv_ParseInt_10_at64_ok Tryz.wh ⟨⟨[49]⟩⟩ (by decide) 1 Al w).mono ?_;rintro e W1 ⟨rfl,hW⟩)
 have xK:Below w.heap.size w W1:=by
  rcases hW with rfl | ⟨t,rfl⟩
  ·exact Below.refl _ _
  ·exact Go.Joins.below_bytesWorld _ _ _ _ (Nat.le_refl _)
 have H3:=uF hR xK hG
 go_at_call 175
 refine (yZ H3).mono ?_
 rintro e W2 ⟨rfl,zL⟩
 have hb:=xq xK zL
 go_wp2
 go_ret2
 exact ⟨rfl,hb⟩
theorem u6:bE PG (cnGl ee) 220 (fun ins=>match ins with | [.i .i64 1,.i .i64 10] => .ok [.s [49]] | _ => .err,{}):=rK (by kernel_rfl) fun ti fk w R xs hc ha hR hG=>by
 split at hc
 ·obtain rfl:fk=[.s [49]]:=hc
  obtain rfl:=mI ha rfl
  refine (xu hG).mono ?_
  rintro e w' ⟨rfl,hb⟩
  exact ⟨_,rfl,hb,fun R w'=>Ck Ci⟩
 ·exact hc.elim
theorem rq:bE PG (cnGl ee) 131 (fun ins=>match ins with | [.s [49]] => .ok [.i .i64 1,.b true] | _ => .err,{ bC:=2 }):=p7 (n:=2) (by kernel_rfl) (by decide) fun ti fk w R xs hc ha hR hG=>by
 split at hc
 ·obtain rfl:fk=[.i .i64 1,.b true]:=hc
  obtain rfl:=mI ha rfl
  refine (xt hR hG).mono ?_
  rintro e w' ⟨rfl,hb⟩
  exact ⟨_,rfl,rfl,hb,fun R w' => .cons Cj (.cons (.sc rfl) .nil)⟩
 ·exact hc.elim
end Go.Eng
set_option maxRecDepth 100000
namespace Go.Eng
open Go.Proofs
variable {ee:Errs}
theorem y0:∀p∈sB,bE PG (cnGl ee) p.1 p.2:=by
 intro p hp
 simp only [sB,aC,List.not_mem_nil,or_false] at hp
 rcases hp with rfl | rfl | rfl | rfl
 ·exact rq
 ·exact u6
 ·exact bQ.ok
 ·exact df.ok
end Go.Eng
set_option maxRecDepth 100000
namespace Go.Eng
open Go.Proofs
noncomputable section
def eP.sg:cg:={}
def eP.c:eE:=fun l=>match l with
 | [] => .ok [(.b (true))]
 | _ => .err
end
end Go.Eng
set_option maxRecDepth 100000
namespace Go.Eng
open Go.Proofs
variable {ee:Errs}
theorem u7:((Dp 40).fs 13).1 [] = .ok [.b true]:=by kernel_rfl
theorem y6:(Dp 40).fs 13=(((Dp 40).fs 13).1,eP.sg):=by kernel_rfl
theorem eP.ok:bE PG (cnGl ee) 13 (eP.c,eP.sg):=jq fun ti fk h=>by
 unfold eP.c at h
 split at h
 ·obtain rfl:fk=[.b true]:=h
  have tj:bE PG (cnGl ee) 13 ((Dp 40).fs 13):=runs Fq y0 13
  rw [y6] at tj
  refine ⟨((Dp 40).fs 13).1,tj,?_⟩
  rw [u7];rfl
 ·exact h.elim
end Go.Eng
set_option maxRecDepth 100000
namespace Go.Eng
open Go.Proofs
noncomputable section
def GateHolds.sg:cg:={}
def GateHolds.c:eE:=fun l=>match l with
 | [.i .i64 size,.sl .bss pieces] => .eC ((pieces).all fun x=>decide (x.length≤140737488355328)) [(.b (true))]
 | _ => .err
def GateHolds.E:cz:=dH fJ zs [(13,(eP.c,eP.sg)),(14,(eU.c,eU.sg)),(15,(en.c,en.sg)),(16,(bI.c,bI.sg)),(17,(eV.c,eV.sg))] [196,225,231]
def GateHolds.h:Hint := .s .o (.s .o (.s .o (.s .o (.s .o (.s .o (.s (.s .o (.b (.l [(0,.no),(1,.no),(5,.ptr 105 0),(7,.no),(8,.no),(105,.cl [(5,800000)]),(800000,.pv)] .o))) .o))))))
def GateHolds.F (size:Int) (pieces:List Str):OT:=dD PG GateHolds.E 4 GateHolds.sg GateHolds.h [(.i .i64 size),(.sl .bss pieces)]
def GateHolds.l1 (x0:Int) (x1:List Str) (x2:Int) (x3:Int) (x4:Int) (x5:Int) (x6:Int) (x7:Int) (x8:Int) (x9:Bool) (ia:List UInt8):OT:=j9 PG GateHolds.E 4 GateHolds.sg GateHolds.h 703 [(.i .i64 x0),(.sl .bss x1),.pt,(.i .i64 x2),(.i .i64 x3),(.ag [(.i .i64 x4),(.i .i64 x5),(.i .i64 x6),(.i .i64 x7),(.i .i64 x8),.pt,(.b x9)]),(.sl .bs ia)]
theorem GateHolds.fo (x0:Int) (x1:List Str) (x2:Int) (x3:Int) (x4:Int) (x5:Int) (x6:Int) (x7:Int) (x8:Int) (x9:Bool) (ia:List UInt8) {ρ:OT} (K:∀(v1:List UInt8) (h1:v1=(List.getD x1 (x3).toNat ([]:List UInt8))) (v2:Int) (h2:v2=(IntKind.i64.wrap (x2+((v1).length:Int)))) (v3:List UInt8) (h3:v3=((Gt.feed (bS.mk x4 x5 x6 x7 x8 x9) v1 ia).2.2)) (v4:Int) (h4:v4=(bS.fk ((Gt.feed (bS.mk x4 x5 x6 x7 x8 x9) v1 ia).2.1))) (v5:Int) (h5:v5=(bS.depth ((Gt.feed (bS.mk x4 x5 x6 x7 x8 x9) v1 ia).2.1))) (v6:Int) (h6:v6=(bS.size ((Gt.feed (bS.mk x4 x5 x6 x7 x8 x9) v1 ia).2.1))) (v7:Int) (h7:v7=(bS.out ((Gt.feed (bS.mk x4 x5 x6 x7 x8 x9) v1 ia).2.1))) (v8:Int) (h8:v8=(bS.at_ ((Gt.feed (bS.mk x4 x5 x6 x7 x8 x9) v1 ia).2.1))) (v9:Bool) (h9:v9=(bS.bT ((Gt.feed (bS.mk x4 x5 x6 x7 x8 x9) v1 ia).2.1))) (v10:List Out) (iU:v10=((Gt.feed (bS.mk x4 x5 x6 x7 x8 x9) v1 ia).1)) (v11:Bool) (tk:v11=(cond (decide ((((v3).length:Int))<(0:Int))) true (decide (x0≤(((((v3))).length:Int)))))) (v12:Int) (vi:v12=(((((((v3))))).length:Int))) (jY:Bool) (tj:jY=(cond v11 true (decide (v2<v12)))) (nR:Int) (zM:nR=(IntKind.i64.wrap (x3+(1:Int)))) (rB:List UInt8) (AX:rB=((Gt.end_ (bS.mk x4 x5 x6 x7 x8 x9) ia).2.2)) (tM:Int) (B4:tM=(bS.fk ((Gt.end_ (bS.mk x4 x5 x6 x7 x8 x9) ia).2.1))) (zm:Int) (Da:zm=(bS.depth ((Gt.end_ (bS.mk x4 x5 x6 x7 x8 x9) ia).2.1))) (zl:Int) (C9:zl=(bS.size ((Gt.end_ (bS.mk x4 x5 x6 x7 x8 x9) ia).2.1))) (Ee:Int) (Gw:Ee=(bS.out ((Gt.end_ (bS.mk x4 x5 x6 x7 x8 x9) ia).2.1))) (v20:Int) (Gu:v20=(bS.at_ ((Gt.end_ (bS.mk x4 x5 x6 x7 x8 x9) ia).2.1))) (v21:Bool) (Gs:v21=(bS.bT ((Gt.end_ (bS.mk x4 x5 x6 x7 x8 x9) ia).2.1))) (Ed:List Out) (Gr:Ed=((Gt.end_ (bS.mk x4 x5 x6 x7 x8 x9) ia).1)),cond (decide (x3<((x1).length:Int)))
  (ck (dj x3 (x1).length) (cond (decide ((2000:Int)<v2))
  (some [(.b true)])
  (ck (dj x3 (x1).length) (ck (decide (bS.fk (bS.mk x4 x5 x6 x7 x8 x9)=1∧0≤bS.at_ (bS.mk x4 x5 x6 x7 x8 x9)∧bS.at_ (bS.mk x4 x5 x6 x7 x8 x9)≤1000000000000∧(v1).length+(ia).length≤1000000)) (ck ((!(decide ((((v3).length:Int))<(0:Int))))&&(!(decide ((((v3).length:Int))<(0:Int))))) (ck (!(!(decide ((((v3).length:Int))<(0:Int)))) || (!(decide ((((v3).length:Int))<(0:Int))))) (ck ((decide ((((v3).length:Int))<(0:Int))) || (!(decide ((((v3).length:Int))<(0:Int))))) (ck ((!v11)&&(!v11)) (ck (!(!v11) || (!v11)) (ck (v11 || (!v11)) (cond jY
  (some [(.b false)])
  (GateHolds.l1 x0 x1 v2 nR v4 v5 v6 v7 v8 v9 (((((v3)))))))))))))))))
  (some [(.b (decide ((((rB).length:Int))=(0:Int))))])=ρ):GateHolds.l1 x0 x1 x2 x3 x4 x5 x6 x7 x8 x9 ia=ρ:=((gn _ _ _ _ _ _ _).trans (by kernel_rfl)).trans (K _ rfl _ rfl _ rfl _ rfl _ rfl _ rfl _ rfl _ rfl _ rfl _ rfl _ rfl _ rfl _ rfl _ rfl _ rfl _ rfl _ rfl _ rfl _ rfl _ rfl _ rfl _ rfl)
theorem GateHolds.cR (size:Int) (pieces:List Str) {ρ:OT} (K:∀(v1:Bool) (h1:v1=(cond (decide (size<(5:Int))) true (decide ((2000:Int)<size)))) (v2:Bool) (h2:v2=(cond v1 true (decide ((30:Int)<((pieces).length:Int))))) (v3:Int) (h3:v3=(eK.depth (eK.mk (5:Int) size (2000:Int)))) (v4:Int) (h4:v4=(eK.size (eK.mk (5:Int) size (2000:Int)))) (v5:Int) (h5:v5=(eK.out (eK.mk (5:Int) size (2000:Int)))) (v6:Bool) (h6:v6=(!(!decide ((0)=(0:Int))))) (v7:Bool) (h7:v7=(cond (!decide ((0)=(0:Int))) true false)) (v8:Int) (h8:v8=(((((([]:List UInt8)))).length:Int))) (v9:Bool) (h9:v9=(cond v7 true (!decide (v8=(0:Int))))),cond (!(true))
  (some [(.b false)])
  (ck (!(!(decide (size<(5:Int)))) || (!(decide (size<(5:Int))))) (ck ((decide (size<(5:Int))) || (!(decide (size<(5:Int))))) (ck (!(!v1) || (!v1)) (ck (!(!v1) || (!v1)) (ck (v1 || (!v1)) (cond v2
  (some [(.b true)])
  (ck (decide (1≤((1:Int))∧((1:Int))≤5)&&Bs.may (eK.mk (5:Int) size (2000:Int))) (ck (!v6 || v6) (ck ((!decide ((0)=(0:Int))) || v6) (ck ((!v7)&&(!v7)) (ck (v7 || (!v7)) (cond v9
  (some [(.b false)])
  (GateHolds.l1 size pieces (0:Int) (0:Int) ((1:Int)) v3 v4 v5 0 false (((([]:List UInt8)))))))))))))))))=ρ):GateHolds.F size pieces=ρ:=Eq.trans (by kernel_rfl) (K _ rfl _ rfl _ rfl _ rfl _ rfl _ rfl _ rfl _ rfl _ rfl)
end
end Go.Eng
set_option maxRecDepth 20000
namespace Go.Eng
open Go.IntWalk
theorem GateHolds.fx (size:Int) (h5:5≤size) (C8:size≤2000) (ps:List Str) (hl:ps.length≤30) (hp:∀x∈ps,x.length≤140737488355328):∀(m i:Nat) (all a:Int) (st:Bool) (h:Str),i+m=ps.length→0≤a→a+(h.length:Int)≤all→all≤2000→(h.length:Int)<size→(st=true→h=[]) →
  GateHolds.l1 size ps all (i:Int) 1 5 size 2000 a st h=some [.b true]
 | 0,i,all,a,st,h,hi,h0,ha,HW,hh,hs=>by
  refine GateHolds.fo _ _ _ _ _ _ _ _ _ _ _ ?_
  intro v1 h1 v2 h2 v3 h3 v4 h4 v5 h5 v6 h6 v7 h7 v8 h8 v9 h9 v10 iU v11 tk v12 vi jY tj nR zM rB AX tM B4 zm Da zl C9 Ee Gw v20 Gu v21 Gs Ed Gr
  rw [ab (by omega),af]
  have q:rB=[]:=by
   rw [AX]
   unfold Gt.end_
   by_cases c:st=true∨h=[]
   ·rw [aq c]
    rcases c with c | c
    ·exact hs c
    ·exact c
   ·rw [al c]
  rw [q];rfl
 | m+1,i,all,a,st,h,hi,h0,ha,HW,hh,hs=>by
  refine GateHolds.fo _ _ _ _ _ _ _ _ _ _ _ ?_
  intro v1 h1 v2 h2 v3 h3 v4 h4 v5 H6 v6 h6 v7 h7 v8 h8 v9 h9 v10 iU v11 tk v12 vi jY tj nR zM rB AX tM B4 zm Da zl C9 Ee Gw v20 Gu v21 Gs Ed Gr
  have hm:v1.length≤140737488355328:=hp v1 (by
   rw [h1,ar,ai,ah (by omega)];exact List.getElem_mem _)
  have q2:v2=all+(v1.length:Int):=by rw [h2,i64_in _ (by omega)]
  rw [aa (by omega),ao,bw (eT (by omega) (by omega))]
  by_cases c:2000<v2
  ·rw [aa c];rfl
  obtain ⟨⟨f1,f2,f3,f4⟩,f5,f6,f7,f8⟩:=Gt.uM (g:=⟨1,5,size,2000,a,st⟩) (x:=v1) (h:=h) h5 hh hs
  rw [←h3] at f1 f2 f4
  rw [←h8] at f3 f4
  rw [←h9] at f2
  rw [←h4] at f5;rw [←H6] at f6;rw [←h6] at f7;rw [←h7] at f8
  have f1:(v3.length:Int)<size:=f1
  have f3:a≤v8:=f3
  have f4:v8+(v3.length:Int)≤a+(h.length:Int)+(v1.length:Int):=f4
  have f5:v4=1:=f5
  have f6:v5=5:=f6
  have f7:v6=size:=f7
  have f8:v7=2000:=f8
  have zq:v11=false:=by rw [tk,ab (by omega),af,ab (by omega)]
  have Cn:jY=false:=by rw [tj,zq,af,vi,ab (by omega)]
  have Hb:nR=((i+1:Nat):Int):=by rw [zM,i64_in _ (by omega)];omega
  rw [ab c,af,bw (eT (by omega) (by omega)),bw (aa ⟨rfl,h0,by show a≤_;omega,by omega⟩),ab (show ¬(v3.length:Int)<0 by omega),zq,Cn,Hb,f5,f6,f7,f8]
  exact GateHolds.fx size h5 C8 ps hl hp m (i+1) v2 v8 v9 v3 (by omega) (by omega) (by omega) (by omega) f1 f2
theorem GateHolds.goal (size:Int) (ps:List Str) (hp:(ps.all fun x=>decide (x.length≤140737488355328))=true):GateHolds.F size ps=some [.b true]:=by
 refine GateHolds.cR _ _ ?_
 intro v1 h1 v2 h2 v3 h3 v4 h4 v5 h5 v6 h6 v7 h7 v8 h8 v9 h9
 simp only [aU,ba,eQ]
 rw [aK,af]
 have q1:v1=true ↔ ¬(5≤size∧size≤2000):=by
  rw [h1]
  by_cases c:size<5
  ·rw [aa c,ao];exact ⟨fun _ h=>by omega,fun _=>rfl⟩
  ·rw [ab c,af,decide_eq_true_iff];omega
 cases hv:v1 with
 | true=>rw [h2,hv];rfl
 | false =>
  have hz:5≤size∧size≤2000:=Classical.byContradiction fun h=>by rw [q1.2 h] at hv;cases hv
  rw [h2,hv,af]
  by_cases c:(30:Int)<(ps.length:Int)
  ·rw [aa c];rfl
  have hm:Bs.may ⟨5,size,2000⟩=true:=aa ⟨show (1:Int)≤5 by omega,show (5:Int)≤200 by omega,hz.1,by show size≤_;omega,show (0:Int)≤2000 by omega,show (2000:Int)≤_ by omega⟩
  rw [ab c,af,hm,h9,h8,h7,h6,h3,h4,h5]
  refine Eq.trans ?_ (GateHolds.fx size hz.1 hz.2 ps (by omega) (fun x hx=>au (aw.1 hp x hx)) ps.length 0 0 0 false [] (by omega) (by decide) (by decide) (by decide) (by show ((0:Nat):Int)<size;omega) (fun h=>by cases h))
  rfl
end Go.Eng
set_option maxRecDepth 20000
namespace Go.Eng
open Go.Proofs
variable {ee:Errs}
theorem GateHolds.ok:bE PG (cnGl ee) 4 (GateHolds.c,GateHolds.sg):=meets bP (all_cons eP.ok (all_cons eU.ok (all_cons en.ok (all_cons bI.ok (all_cons eV.ok all_nil))))) GateHolds.h (fits fun ins=>by unfold GateHolds.c;split;exact GateHolds.goal _ _;trivial)
end Go.Eng
namespace Go.Eng
def fu (f:Nat):List Nat→Bool
 | []=>false
 | g :: r=>cond (Nat.beq g f) true (fu f r)
theorem Nat.ku {a b:Nat} (h:¬a=b):Nat.beq a b=false:=by
 cases e:Nat.beq a b with
 | false=>rfl
 | true=>exact absurd (aj e) h
theorem tg (f:Nat):∀l:List Nat,l.contains f=fu f l
 | []=>rfl
 | g :: r=>by
  rw [List.contains_cons,tg f r]
  show _=cond (Nat.beq g f) true (fu f r)
  by_cases h:g=f
  ·subst h;simp
  ·rw [Nat.ku h,show (f == g)=false from by simpa using fun e=>h e.symm,Bool.false_or,af]
def sv (vy:List (List Nat)):Nat→List Nat→List Nat→List Nat
 | 0,_,seen=>seen.reverse
 | _,[],seen=>seen.reverse
 | n+1,f :: todo,seen=>cond (fu f seen) (sv vy n todo seen) (sv vy n (vy.getD f []++todo) (f :: seen))
theorem pD {P:Program} {vy:List (List Nat)} (h:∀f,(P.funcs[f]?).elim [] P.leadsTo=vy.getD f []):∀(n:Nat) (todo seen:List Nat),P.closureVia n todo seen=sv vy n todo seen
 | 0,_,_=>by unfold Program.closureVia sv;rfl
 | n+1,[],_=>by unfold Program.closureVia sv;rfl
 | n+1,f :: todo,seen=>by
  unfold Program.closureVia sv
  rw [tg f seen]
  cases fu f seen with
  | true=>rw [aq rfl,ao];exact pD h n todo seen
  | false=>rw [al (by simp),af,h f];exact pD h n _ _
theorem Bm {P:Program} {vy:List (List Nat)} (h:P.funcs.toList.map P.leadsTo=vy) (f:Nat):P.closure f=sv vy (1+(vy.map fun l=>l.length+1).sum) [f] []:=by
 have h1:∀f,(P.funcs[f]?).elim [] P.leadsTo=vy.getD f []:=fun f=>by
  rw [←h,ai,bg,Array.getElem?_toList]
  cases P.funcs[f]? <;> rfl
 unfold Program.closure
 rw [pD h1,←h,List.map_map];rfl
theorem uE {P:Program} (h:P.funcs.any Func.goes=false) (f:Nat):P.goes f=false:=by
 unfold Program.goes
 rw [h,Bool.and_false,Bool.or_false,List.any_eq_false]
 intro g _
 cases hg:P.funcs[g]? with
 | none=>simp
 | some fn =>
  have hs:=Array.getElem?_eq_some_iff.1 hg
  obtain ⟨hl,he⟩:=hs
  have:=Array.any_eq_false.1 h g hl
  rw [he] at this
  simpa using this
theorem goesBy_none {P:Program} {c:OpenClaim} (h:P.funcs.any Func.goes=false) (hs:c.start = .entering):false=c.goesBy P:=by
 unfold OpenClaim.goesBy Program.goesAt Program.goesFrom
 rw [hs]
 cases P.funcNamed c.func with
 | none=>rfl
 | some f=>rw [Option.any_some,uE h];rfl
end Go.Eng
namespace Go.Eng
open Go.Proofs
set_option maxRecDepth 100000
def yt:List (List Nat):=[[],[],[1],[6,7,8,9,10,11,9,12,10,11],[13,14,15,16,15,15,15,17,15],[13,7,18,19,20,14,21,16,16,17],[20,22,20,22,20,22],[23],[24,25],[12,26,27,28,29],[24,30,26],[31,11],[32],[20,14,16,16,15],[24],[],[33,34,34,22,35],[34],[36,18],[37,38,39],[],[],[40,40,41,42],[43,43,23],[],[44,44,45,44,44,44,46,44,47,44,48,44],[49,49],[],[50,51,52,53,54,52,50,55],[35],[30],[],[46,56,57,56,58,58,58,56,32],[],[],[],[],[59],[38],[60,61],[24],[40,8,62,63,10],[40,64,65],[],[],[66,67],[],[68,69],[70,44,66,67,44,67,67,71,72,72,44,35,73,73,74,25,75],[26],[],[76],[],[77,52],[51,51,51,51,51,78,53,53,51,52,51,51,52,77,77,78,77,28,50,51,78,28,50,55],[76],[],[],[69,79],[80,81,82,59],[61,61,61,61,61,83,61,61,83,39,83,39,61],[],[24,84,85,10],[86,87,88,89],[9,90,91,92,93,94,95],[97,96],[35],[98],[99],[100],[],[101,35],[44,45,44,44,69,44],[47,44],[45,44,45,44,35],[45,44,72,25],[],[],[51,53],[102],[103,104,105,105,106,106],[105,106],[],[61],[107,108,107],[109,110],[111,66,112,101,113,111],[114,115,116],[117,66,118,101,113,117],[119,120,121],[122,123],[124,123],[12,125],[114,27,126,29],[12,30,127],[119,27,128,29],[129],[35,97,130,131],[101],[],[132],[],[133],[134],[],[135],[],[136],[137,138],[139,140,140,109],[79,141,142],[],[113,111,143,111,111,144,111,111,145,111,146,147,147,147],[],[148,69,114],[56],[79,115,149],[],[113,117,143,117,150,117,151,117,143,117,153,152,117,154,152,155,117,156,157],[158,69,119],[56],[79,120,159],[12,160],[109,161],[12,162],[163,164],[165,165,165,77,165,77,165,165,165,165,52,166,126],[167,168],[153,169,154,169,52,169,155,169,77,155,169,77,155,169,52,77,155,169,155,169,128],[170,56,129],[171,172,173,139],[174,175],[176],[177,178,177,179,178,180],[],[181],[182,183,184,185,182],[107,186,108,107,138,107],[],[187,188,187,188,187,187,188],[69],[56],[189,141,110,190,191,192,110,191,193,110,191,194,195,196,197,141],[],[151],[],[101,111,71,69,111],[112],[],[35,198,116,149,190,199,115],[],[98],[117],[],[],[],[118],[71,117,69,117],[200,200,200,200,200],[35,121,159,190,201,120],[202],[203,203,161],[204],[],[163,125,205,206,164,207,208,208,208,209,210],[145,52,52,52,52,52,166],[76],[],[167,127,205,168,35,211,211,212,213,214],[52,166],[31],[],[171,215,216],[171,171,217,217],[218,219],[220],[],[221],[],[],[222],[],[],[192,192],[182,132,182,223,182,224,182,192,224,182,225,182],[226,139,182,182],[138,107,138,107],[],[],[227,131,227,228],[229],[],[230],[231,231,231],[232,131,233,232,228,232,234,232,235,231,233],[236,237,236,237,237,231,231,238,238,231,231,231],[236,231,231,239,240,231,231,236],[232,232,231,231,79],[],[241,116,242,116,243,115],[],[244,205,245,245,244,246,35,35,245,247,79,246,246,246,35,246,245,245],[192,160,248,160,160,205,248,250,160,249,248,251,248,251,248,252,253],[254],[175,255,175,255,130,255,256,257,192,162,257,162,162,205,257,257,162,122],[190],[],[35],[],[258],[125,258,207,206,207,209,163,163,206,163,207,206,163,163,125,206,258,259,208],[],[],[],[260,35,261,35,261,260,261,261],[171,262,262,263,263,264,264,265,266],[267,267,175,175],[],[268],[269,270,271,272],[273],[],[],[226],[226],[274],[177],[],[139,275,276,277,247,278],[273],[],[],[231],[232,131],[279,280,281,267,282,283],[284,284,284,285,284,284,284,284,286,285],[232,240],[],[131],[287],[288,288],[190],[],[242,35,35,198,242,79,242,35],[88,121],[],[69],[289],[],[],[],[175],[172,290,250,248,250,248,175,250,248,248,175,250,248,175,250,248,251,251,249,248,291,292,250,248,290,290,250,248],[293,250,294,250,249,248,294,250,248,250,250,249,248,250,294,250,248,249,248,250,248,250,248,250],[140,226,294],[],[286,286,285,285,295,295,295,295,295,295,295],[],[],[207],[127,95],[],[],[296,297],[296,298],[299,300],[299,301,302,262,303,302,263,300],[304,192,192,192,192,192,305,306,307,307,307,308,306,308],[309,309,309,309,309,309,310],[311],[311],[311,190,312],[311,190,312],[313,314,315,316],[176],[317],[318,319,320,321,318],[280],[322,280,281,323,262,324,325,324,326],[276,192,192,322,247,322],[327,320,328,329],[330,320,331,332],[333,335,334],[337,336],[],[338],[],[],[],[133],[294],[339,283],[339,341,340],[],[],[190],[],[],[],[324,325,324,325],[296,296,342],[296,296,342,343,344,262,298,297,297,345,346,346,347],[348,281,278],[296,296,343],[349,350],[351,352],[351],[],[],[],[309,309,309,309,309,309],[],[],[],[354,353,355],[],[356,357],[230],[226,358,226,179,178],[],[],[],[330,327,320,331,328,332,329],[359,296],[262,262,359,296],[296,296,361,361,360,346],[264,264,362,362,363],[],[321],[364,365],[],[321],[366,365],[367,367,368],[368,368],[],[],[367],[],[337,336],[267,190,190],[369,370,267,370,280],[],[],[346],[],[],[346],[296,344,190,267,371,372],[],[],[373],[374],[],[],[],[],[375,376],[],[],[377,377,378,378,379,380,381],[],[263,263,301,382,263,300],[376,354],[383],[318],[384,364],[350],[],[385,385],[386],[],[305,306,306,306,308],[],[],[],[],[],[387,387,388],[389,389],[390,391,381],[392],[296],[],[],[393],[313,314,315,316],[],[390,391],[392],[394],[396],[397],[354],[395],[398,399],[392],[395],[],[400,401,402,403],[402,403],[402,402,403],[],[],[],[],[],[],[],[],[],[],[],[],[],[],[],[],[],[],[],[],[],[],[],[],[],[],[],[],[],[],[],[312,312]]
theorem leads:Tryz.prog.funcs.toList.map Tryz.prog.leadsTo=yt:=by kernel_rfl
theorem noGo:Tryz.prog.funcs.any Func.goes=false:=by kernel_rfl
theorem enters:Tryz.prog.mayEnter=true:=by kernel_rfl
theorem heard:Tryz.prog.stopsHeard=true:=by kernel_rfl
end Go.Eng
namespace Go.Eng
open Go.Proofs Go.Proofs.YthcgadjgfbnedaaGreatDoor
set_option maxRecDepth 100000
theorem Bn:Tryz.prog.closure 4=[4,13,20,14,24,16,33,34,22,40,41,8,25,44,45,66,35,67,98,101,46,47,68,99,69,100,132,176,48,70,71,72,73,74,75,62,84,107,136,182,183,192,230,184,223,226,177,221,224,225,274,185,139,187,188,108,137,186,138,85,109,140,110,79,102,133,178,179,180,222,141,56,142,189,227,131,174,218,268,309,310,219,269,311,270,271,190,229,273,313,314,354,353,355,315,316,356,357,375,376,312,272,175,220,228,275,317,276,318,358,319,320,321,277,280,327,328,329,364,383,365,247,289,278,322,330,331,332,366,384,281,323,359,296,262,324,325,361,360,377,378,387,388,390,394,395,398,399,400,402,403,401,391,396,392,397,379,389,380,381,346,326,264,298,362,263,297,301,342,343,344,345,347,382,300,363,191,193,231,194,232,233,234,279,267,304,349,350,305,351,373,352,374,306,307,308,282,333,367,368,335,334,283,337,336,235,284,285,338,286,195,236,240,288,237,238,196,239,287,197,10,30,26,49,63,86,111,112,113,143,144,151,145,146,147,87,114,148,115,116,149,198,199,241,242,243,88,117,118,150,153,152,154,155,156,157,89,119,158,200,120,121,159,201,244,205,245,246,42,64,9,12,32,57,58,27,28,50,51,76,52,53,77,54,78,55,29,90,122,160,202,248,250,249,251,252,172,171,215,265,299,266,302,348,371,372,303,216,290,294,291,339,292,341,369,385,393,370,386,340,253,293,123,161,203,254,91,124,162,204,255,130,173,217,256,295,257,92,125,163,164,206,207,208,209,258,210,259,93,126,165,166,94,127,167,168,211,212,213,214,260,95,128,169,261,65,97,96,129,170,31,15,17]:=(Bm leads 4).trans (by kernel_rfl)
theorem wq:(Rows.gateHoldsRow.inPlace == Tryz.prog.inPlace 4)=true:=by
 unfold Program.inPlace
 rw [Bn];kernel_rfl
theorem Cf:Tryz.prog.unfollowed 4=true:=by
 unfold Program.unfollowed
 rw [Bn];kernel_rfl
theorem En:Tryz.prog.recurses 4=true:=by
 unfold Program.recurses
 rw [Cf];rfl
theorem Ar:(Rows.gateHoldsRow.named == Tryz.prog.varsNamed 4)=true:=by
 unfold Program.varsNamed
 rw [Bn];kernel_rfl
theorem closed4:joinedFacts Tryz.prog 4 Tryz.f4 Rows.gateHoldsSpec Rows.gateHoldsRow=true:=by
 unfold joinedFacts
 rw [wq,Ar,Cf,En,enters,heard];kernel_rfl
end Go.Eng
namespace Go.Eng
section
variable {P:Program} {n:Nat} {t:TypeId}
theorem nJ {e:TypeId} {st:ez} {R:∀{H:Type},DataW H→Prop} {Q:st.El→Prop} (ht:P.underlying t=some (.slice e)) (hs:P.cellsOf e=st.size) (uC:0<st.size)
  {H:Type} {enc:TypeId × Value→H} {w:World} {base:Nat} {spare:Nat→Bool} {held:Bool} {cs:List Value} {x:DataW H × List MemPlace}
  (he:∀m ys z,m<n→DataW.trod enc P w base spare held m e ys=some z→R z.1→∃a:st.El,bV (Old w) w (st.tv a).cells ys∧Q a)
  (h:DataW.trod enc P w base spare held n t cs=some x) (hR:∀es sp d,x.1 = .slice es sp→d∈es→R d):∃l:List st.El,bV (Old w) w [.sl st l] cs∧∀y∈l,Q y:=by
 rcases DataW.trod_slice ht h with ⟨rfl,_⟩ | ⟨a,len,cap,elems,rest,m,rfl,rfl,rfl,_,h2,h3,h4,h5,_,_⟩
 ·exact ⟨[],.cons rfl (.sn _) .nil,fun _ h=>by cases h⟩
 ·by_cases h0:len=0
  ·subst h0;exact ⟨[],.cons rfl (.em _ h3) .nil,fun _ h=>by cases h⟩
  ·have get:∀i,i<len→∃ys,w.cells? base (a.add (i * st.size)) st.size=some ys∧∃y:st.El,bV (Old w) w (st.tv y).cells ys∧Q y:=fun i hi=>by
    have:=h5 i hi
    rw [hs] at this
    have eL:i<elems.length:=by omega
    rw [ah eL] at this
    obtain ⟨ys,h6,h7⟩:=aE.1 this
    exact ⟨ys,h6,he m ys _ (Nat.lt_succ_self m) h7 (hR _ _ _ rfl (aS.2 ⟨_,List.getElem_mem eL,rfl⟩))⟩
   have qC:a.spot=none:=by
    obtain ⟨ys,h6,_⟩:=get 0 (by omega)
    obtain ⟨_,h7,h8⟩:=World.cells?_some h6
    have h9:=h8 0 uC
    cases hy:ys[0]? with
    | none=>rw [List.getElem?_eq_none_iff] at hy;omega
    | some y=>rw [hy] at h9;simpa [Addr.add] using World.cell?_spot h9
   obtain ⟨b,off,spot⟩:=a
   simp only at qC
   subst qC
   have key:∀k i,i+k=len→∃l:List st.El,(l.length=k∧∀y∈l,Q y)∧fF (Old w) w st.size (l.map st.tv) b (off+i * st.size):=by
    intro k
    induction k with
    | zero=>exact fun i _=>⟨[],⟨rfl,fun _ h=>by cases h⟩,.nil _ _ _⟩
    | succ k ih =>
     intro i hi
     obtain ⟨l,⟨hl,hq⟩,hE⟩:=ih (i+1) (by omega)
     obtain ⟨ys,h6,y,h7,hy⟩:=get i (by omega)
     obtain ⟨_,h8,h9⟩:=World.cells?_some h6
     refine ⟨y :: l,⟨by simp [hl],List.forall_mem_cons.2 ⟨hy,hq⟩⟩,.cons (gC.write (ez.fM st y) h7 (fun j hj=>?_) (fun j z hz=>?_)) ?_⟩
     ·have iU:=h9 j hj
      have EY:j<ys.length:=by omega
      rw [ah EY] at iU
      by_cases eL:b<w.heap.size
      ·exact eL
      ·have:w.heap[b]?=none:=Array.getElem?_eq_none (by omega)
       rw [addr_add,addr_add] at iU
       simp only [World.cell?,this] at iU
       cases iU
     ·have hj:j<st.size:=by have:=(av.1 hz).1;omega
      have iU:=h9 j hj
      rw [hz,addr_add,addr_add] at iU
      exact iU
     ·rw [show off+i * st.size+st.size=off+(i+1) * st.size by rw [Nat.succ_mul];omega];exact hE
   obtain ⟨l,⟨hl,hq⟩,hE⟩:=key len 0 (by omega)
   refine ⟨l,.cons rfl (.sl hl.symm h2 h3 ?_) .nil,hq⟩
   simpa using hE
theorem jn {H:Type} {e:TypeId} {k:Nat}:∀{l:List (DataW H)} {d:DataW H},d∈l→k∈d.weights P e→k∈DataW.weightsAll P e l
 | _ :: _,_,.head _,hk=>by unfold DataW.weightsAll;exact List.mem_append.2 (.inl hk)
 | _ :: _,_,.tail _ h,hk=>by unfold DataW.weightsAll;exact List.mem_append.2 (.inr (jn h hk))
theorem sR {R:Reach} {w:World} {st:ez} {l:List st.El} {a:Option Addr} {len cap:Nat} (h:Rep R w (.sl st l) (.slice a len cap)):l.length=len:=by
 cases h with
 | sc h=>cases h
 | sl=>omega
 | sn=>rfl
 | em=>rfl
theorem rep_bss {y b:TypeId} (ht:P.underlying t=some (.slice b)) (hb:P.underlying b=some (.slice y)) (hy:P.underlying y=some (.int .u8)) (cb:P.cellsOf b=1) (cy:P.cellsOf y=1) (sy:P.bytesOf y=1)
  {H:Type} {enc:TypeId × Value→H} {w:World} {base:Nat} {spare:Nat→Bool} {held:Bool} {v:Value} {d:DataW H} {p:List MemPlace} (hv:v.cells=#[v]) (h:DataW.Trod enc P w base spare held t v d p) (hw:(d.weights P t).all (·≤reachBytes)=true) :
  ∃l:List Str,Rep (Old w) w (.sl .bss l) v∧(l.all fun x=>decide (x.length≤140737488355328))=true:=by
 obtain ⟨n,h⟩:=h
 obtain ⟨l,h1,h2⟩:=nJ (st := .bss) (R:=fun {H} (d:DataW H)=>∀es sp,d = .slice es sp→es.length≤140737488355328) (Q:=fun x:Str=>x.length≤140737488355328) ht cb (by decide) (fun m ys z _ hz hR=>by
  obtain ⟨x,hx⟩:=qo hb hy cy H enc w base spare held _ _ hz
  refine ⟨x,hx,?_⟩
  rcases DataW.trod_slice hb hz with ⟨rfl,_⟩ | ⟨a,len,cap,elems,rest,m,rfl,rfl,rfl,_,_,_,h4,_,_,_⟩
  ·cases hx with
   | cons _ hr _=>rw [sR hr];omega
  ·have:=hR _ _ rfl
   rw [bn,h4] at this
   cases hx with
   | cons _ hr _=>rw [sR hr];exact this) h (fun es sp d' he hd Ia G5 nf=>by
  have he:d = .slice es sp:=he
  subst nf
  rw [he] at hw
  unfold DataW.weights at hw
  rw [ht] at hw
  rw [aw] at hw
  have hm:(Ia.length+G5.length) * P.bytesOf y∈DataW.weightsAll P b es:=jn hd (by unfold DataW.weights;rw [hb];exact List.mem_cons_self ..)
  have:=au (hw _ (List.mem_cons_of_mem _ (List.mem_append.2 (.inl hm))))
  rw [sy] at this
  have h9:reachBytes≤140737488355328:=by decide
  omega)
 rw [hv] at h1
 cases h1 with
 | cons _ hr _=>exact ⟨l,hr,aw.2 fun x hx=>aa (h2 x hx)⟩
end
end Go.Eng
namespace Go.Eng
theorem gl_var {P:Program} {w:World} {name:String} {g:Nat} {vs:List Value} {r:List (Nat × List Value)} (h:w.var? P name=some vs.toArray) (hg:P.globalNamed name=some g) (t:GlOK (yJ r) (Old w) w):GlOK (yJ ((g,vs) :: r)) (Old w) w:=fun n us hn o=>by
 unfold yJ at hn
 cases hb:Nat.beq n g with
 | true =>
  rw [hb] at hn;cases hn;rw [aj hb]
  refine ⟨?_,by have:=World.var?_cell hg h o;simpa using this⟩
  unfold World.var? at h
  rw [hg] at h
  simp only [Option.bind_some] at h
  cases hh:w.heap[g]? with
  | none=>rw [hh] at h;cases h
  | some x=>exact (Array.getElem?_eq_some_iff.1 hh).1
 | false=>rw [hb] at hn;exact t n us hn o
end Go.Eng
