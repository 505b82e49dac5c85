/- Texts of my own, one behind the other: TpTreeP3, TpTreeP4, TpSize, TpBout, TpBin1, TpBin2, TpRegPure, TpRegP, TpIff1, TpIff2, TpIff3, TpIff4, TpIff5, TpGaLaw, TpGa, TpR20, TpBin3, TpBin4, TpBookP, TpOK, TpAwR, TpShelf, TpAwB, TpLA, TpAw, TpLB, TpAw35, TpLGateDocs, TpQGateDocs, TpOKGateDocs. -/
import Derived.Test.YthcgadjgfbnedaaGreatDoorT3
import Derived.Lib.IndexLaws
import Derived.Ground.Names7Prog
import Derived.Shelf.LaysM
import Derived.Shelf.Strconv.Itoa3
import Derived.Shelf.Strconv.Itoa4
import Derived.Shelf.LaysC
import Derived.Shelf.Strconv.ParseIntPublic10
import Derived.Test.YthcgadjgfbnedaaGreatDoorProg
import Derived.WalkKit
import Derived.WalkSpells
import Derived.Lib.SmallJoins
set_option linter.unusedVariables false
set_option linter.unusedSimpArgs false
set_option maxRecDepth 20000
namespace Go.Eng
open Go.IntWalk
theorem Ja.goal (s:IY) (hp:decide (s.length≤1099511627776)=true):Ja.F s=some [.b (Tree.dr s true)]:=by
 refine Ja.cR s ?_
 intro v1 h1
 rw [bw hp,hp]
 subst h1
 unfold Tree.dr
 cases dp.whole s <;> cases dp.zero s <;> rfl
theorem I7.goal (p:List Int) (k:Int) (hp:decide (p.length≤1099511627776)=true):I7.F p k=some [.sl .is (p++[k])]:=by
 have hp:=au hp
 refine I7.cR p k ?_
 intro v1 h1
 rw [bw (fQ (by simp;omega) (by simp;omega)),bw (fQ (by simp;omega) (by simp;omega)),h1];rfl
theorem Jg.goal (v:Val) (hp:decide (bx.dk (bx.of [] v)≤1099511627776)=true):Jg.F v=some [.i .i64 (Tree.own v)]:=by
 have hp:=au hp
 have xK:v.text.length≤1099511627776:=by simp only [bx.of,bx.dk] at hp;omega
 have zL:v.more.length≤1099511627776:=by simp only [bx.of,bx.dk] at hp;omega
 refine Jg.cR v ?_
 intro v1 h1 v2 h2 v3 h3 v4 h4 v5 h5 v6 h6 v7 h7 v8 h8 v9 h9 v10 iU v11 h11 v12 vi jY tj nR zM rB AX tM B4 zm Da zl C9 Ee Gw v20 Gu v21 Gs Ed Gr JY KG v24 H7 JS KC Jn KB JX KF v28 KA J6 Kw v30 Kv v31 Ku JV KU Kp KT KK KP KJ KO KH KN
 unfold Tree.own
 by_cases hn:Tree.name v.kind=[]
 ·rw [aq hn,aa hn];rfl
 ·rw [al hn,ab hn,af]
  subst h4 AX KG KF KU KT
  simp only [aU,ba,bc,eQ,K1,K0,aa xK,aa zL,Bool.and_true]
  have u1:decide ((4294967296:UInt64)≤v.bits)=!decide (v.bits<4294967296):=by rw [aN];simp [UInt64.le_iff_toNat_le,aZ]
  have u2:decide ((1:UInt64)<v.bits)=!decide (v.bits<2):=by rw [aN];simp [UInt64.le_iff_toNat_le,aZ];omega
  have l1:decide ((0:Int)<tM)=!decide (v.bytes=[]):=by rw [B4,aN];simp [List.length_pos_iff]
  have l2:decide ((0:Int)<v20)=!decide (v.kids=[]):=by rw [Gu,aN];simp [List.length_pos_iff]
  have l3:decide (tM=(12:Int))=decide (v.bytes.length=12):=by rw [B4,aN];simp;omega
  rw [u1] at Gr
  rw [u2] at H7
  rw [l1] at Da
  rw [l2] at Gs
  rw [l3] at Kw
  have e1:Tree.fieldsOK v=!(cond (cond (cond zl true v21) true Jn) true J6):=by
   subst h1 h2 h3 h5 h6 h7 h8 h9 iU h11 vi tj zM Da C9 Gw Gs Gr H7 KC KB KA Kw
   unfold Tree.fieldsOK
   have s1:decide (v.sub<0)=!decide (0≤v.sub):=by rw [aN];simp
   have s2:decide (255<v.sub)=!decide (v.sub≤255):=by rw [aN];simp
   rw [s1,s2]
   simp only [Bool.cond_true_left,Bool.cond_false_right,Bool.not_or,Bool.not_and,Bool.not_not,Bool.and_assoc]
  have e2:KH=decide (Tree.dr v.text (decide (v.kind=11))=false∨Tree.dr v.more (decide (v.kind=11))=false):=by
   subst Kv Ku KP KO KN
   unfold Tree.dr
   cases dp.whole v.text <;> cases dp.whole v.more <;> cases dp.zero v.text <;> cases dp.zero v.more <;> by_cases k:v.kind=11 <;> simp [k]
  rw [e1,e2]
  clear h1 h2 h3 h5 h6 h7 h8 h9 iU h11 vi tj zM Da C9 Gw Gs Gr H7 KC KB KA Kw Kv Ku KP KO KN e1 e2
  by_cases c:Tree.dr v.text (decide (v.kind=11))=false∨Tree.dr v.more (decide (v.kind=11))=false
  ·rw [aa c,aq c]
   cases zl <;> cases v21 <;> cases Jn <;> cases J6 <;> rfl
  ·rw [ab c,al c]
   cases zl <;> cases v21 <;> cases Jn <;> cases J6 <;> rfl
theorem BD.lens (v:Val) (n:IY) (m:Nat) (h:bx.dk (bx.of n v)≤m):v.text.length≤m∧v.more.length≤m∧n.length≤m∧v.bytes.length≤m∧bx.cw v.kids+1≤m:=by
 simp only [bx.of,bx.dk] at h;omega
theorem bx.xg (f:bx):1≤f.dk:=by cases f;simp only [bx.dk];omega
theorem bx.oE:∀(l:List bx) (i:Nat) (d:bx),i<l.length→(l.getD i d).dk≤bx.cw l
 | f :: l,0,d,_=>by simp [bx.cw]
 | f :: l,i+1,d,h=>by
  have:=bx.oE l i d (by simpa using h)
  simp only [List.getD_cons_succ,bx.cw];omega
theorem bx.oD:∀(l:List bx),l.length≤bx.cw l
 | []=>by simp
 | f :: l=>by have:=bx.oD l;have:=bx.xg f;simp only [aJ,bx.cw];omega
theorem bx.Aq (f:bx):bx.of f.name f.val=f:=by cases f;rfl
theorem bx.JK (f:bx):bx.dk (bx.of [] f.val)≤f.dk:=by cases f;simp only [bx.of,bx.val,bx.dk,bx.kind,bx.bits,bx.high,bx.low,bx.text,bx.more,bx.sub,bx.bytes,bx.kids];simp
theorem vu (v:Val) (n:IY):Tree.oY v n=(if Tree.name v.kind=[] then 5 else if Tree.fieldsOK v=false then 1 else if Tree.dr v.text (decide (v.kind=11))=false∨Tree.dr v.more (decide (v.kind=11))=false∨Tree.dr n true=false then 4 else 0):=by
 unfold Tree.oY Tree.own
 grind
theorem Tree.yR (n:IY) (v:Val) (p:List Int):Tree.hU (bx.of n v) p=if Tree.oY v n≠0 then (p,Tree.oY v n) else Tree.uX v.kids 0 p:=by
 cases v;simp only [bx.of,Tree.hU]
theorem bH.fx (n:Nat) (ks:List bx) (p:List Int) (hb:bx.cw ks+p.length<1099511627776) (hn:bx.cw ks<n):∀(m i:Nat),i+m=ks.length →
  bH.l1 n ks (ks.length:Int) i p=some [.sl .is (Tree.uX (ks.drop i) i p).1,.i .i64 (Tree.uX (ks.drop i) i p).2,.sl .is p]:=by
 have hlen:=bx.oD ks
 intro m
 induction m with
 | zero =>
  intro i hi
  refine bH.fo _ _ _ _ _ ?_
  intro v1 h1 v2 h2 v3 h3 v4 h4
  rw [ab (by omega),af,aW (by omega)];rfl
 | succ m ih =>
  intro i hi
  refine bH.fo _ _ _ _ _ ?_
  intro v1 h1 v2 h2 v3 h3 v4 h4
  rw [ar] at h1
  have hg:=bx.oE ks i (ez.iH .fl) (by omega)
  rw [←h1] at hg
  rw [bx.Aq] at h2 h3 ⊢
  rw [aa (by omega),ao,bw (eT (by omega) (by omega)),bw (fQ (by simp;omega) (by simp;omega)),aa (by simp;omega),aa (by omega),bc,eQ,drop_cons (l:=ks) (i:=i) (by omega) (ez.iH .fl),←h1,Tree.uX]
  by_cases h:v3=0
  ·rw [aa h,al (by rw [h3] at h;simpa using h)]
   simp only [aK,af]
   rw [show v4=((i+1:Nat):Int) by rw [h4,i64_in _ (by omega)];omega,ih _ (by omega)]
  ·rw [ab h,aq (by rw [h3] at h;simpa using h)]
   simp only [aQ,ao]
   rw [h2,h3]
theorem bH.goal (n:Nat) (v:Val) (name:IY) (path:List Int) (hp:((decide (bx.dk (bx.of name v)+path.length≤1099511627776))&&decide ((bx.dk (bx.of name v))<n+1))=true) :
  bH.F n v name path=some [.sl .is (Tree.hU (bx.of name v) path).1,.i .i64 (Tree.hU (bx.of name v) path).2,.sl .is path]:=by
 simp only [ae,aF] at hp
 obtain ⟨hp,hn⟩:=hp
 obtain ⟨b1,b2,b3,_,_⟩:=BD.lens v name 1099511627776 (by omega)
 have BU:bx.cw v.kids<bx.dk (bx.of name v):=by simp only [bx.of,bx.dk];omega
 refine bH.cR n v name path ?_
 intro v1 h1 v2 h2 v3 h3 v4 h4
 rw [Tree.yR,vu]
 simp only [aU,ba,bc,eQ,aa b1,aa b2,aa b3,Bool.and_true]
 have C2:eO path.length 8=true:=fQ (by omega) (by omega)
 simp only [C2,eQ]
 by_cases a:Tree.name v.kind=[]
 ·rw [aa a];simp [a]
 ·rw [ab a,af]
  by_cases b:Tree.fieldsOK v=false
  ·rw [b];simp [a]
  ·have b':Tree.fieldsOK v=true:=by simpa using b
   rw [b']
   have e3:v3=decide (Tree.dr v.text (decide (v.kind=11))=false∨Tree.dr v.more (decide (v.kind=11))=false∨Tree.dr name true=false):=by
    subst h1 h2 h3
    cases Tree.dr v.text (decide (v.kind=11)) <;> cases Tree.dr v.more (decide (v.kind=11)) <;> cases Tree.dr name true <;> rfl
   rw [e3,h4]
   by_cases c:Tree.dr v.text (decide (v.kind=11))=false∨Tree.dr v.more (decide (v.kind=11))=false∨Tree.dr name true=false
   ·rw [aa c];simp [a,c]
   ·rw [ab c]
    simp only [aK,af,al a,al c]
    have:=bH.fx n v.kids path (by omega) (by omega) v.kids.length 0 (by omega)
    rw [aY] at this
    simpa using this
theorem cF.goal (v:Val) (hp:decide (bx.dk (bx.of [] v)≤1099511627776)=true):cF.F v=some [.sl .is (Tree.hU (bx.of [] v) []).1,.i .i64 (Tree.hU (bx.of [] v) []).2]:=by
 refine cF.cR v ?_
 intro v1 h1 v2 h2
 rw [bw (by simpa using hp),h1,h2]
theorem IX.JJ (n:Nat) (v:Val) (p:List Int) (hb:bx.cw v.kids+p.length<1099511627776) (hn:bx.cw v.kids<n):∀(m i:Nat),i+m=v.kids.length →
  IX.l2 n p i v=some [.sl .is (Tree.uX (v.kids.drop i) i p).1,.i .i64 (Tree.uX (v.kids.drop i) i p).2]:=by
 have hlen:=bx.oD v.kids
 intro m
 induction m with
 | zero =>
  intro i hi
  refine IX.Jv _ _ _ _ ?_
  intro v1 h1 v2 h2 v3 h3 v4 h4 v5 h5
  rw [ab (by omega),af,aW (by omega)];rfl
 | succ m ih =>
  intro i hi
  refine IX.Jv _ _ _ _ ?_
  intro v1 h1 v2 h2 v3 h3 v4 h4 v5 h5
  rw [ar] at h2
  have hg:=bx.oE v.kids i (ez.iH .fl) (by omega)
  rw [←h2] at hg
  rw [bx.Aq] at h3 h4 ⊢
  rw [aa (by omega),ao,bw (eT (by omega) (by omega)),bw (eT (by omega) (by omega)),bw (aa (by omega)),aa (by simp;omega),aa (by omega),bc,eQ,drop_cons (l:=v.kids) (i:=i) (by omega) (ez.iH .fl),←h2,Tree.uX]
  by_cases h:v4=0
  ·rw [aa h,al (by rw [h4] at h;simpa using h)]
   simp only [aK,af]
   rw [show v5=((i+1:Nat):Int) by rw [h5,i64_in _ (by omega)];omega,ih _ (by omega)]
  ·rw [ab h,aq (by rw [h4] at h;simpa using h)]
   simp only [aQ,ao]
   rw [h3,h4]
theorem IX.goal (n:Nat) (v:Val) (name:IY) (p:List Int) (hp:((decide (bx.dk (bx.of name v)+p.length≤1099511627776))&&decide ((bx.dk (bx.of name v))<n+1))=true) :
  IX.F n v name p=some [.sl .is (Tree.hU (bx.of name v) p).1,.i .i64 (Tree.hU (bx.of name v) p).2]:=by
 simp only [ae,aF] at hp
 obtain ⟨hp,hn⟩:=hp
 obtain ⟨b1,b2,b3,_,_⟩:=BD.lens v name 1099511627776 (by omega)
 have BU:bx.cw v.kids<bx.dk (bx.of name v):=by simp only [bx.of,bx.dk];omega
 have K6:bx.dk (bx.of [] v)≤bx.dk (bx.of name v):=by simp only [bx.of,bx.dk,aM];omega
 refine IX.cR n v name p ?_
 intro v1 h1
 rw [bw (aa (by omega)),aa b3]
 simp only [Bool.and_true,aU,eQ,IX.qz]
 rw [Tree.yR]
 unfold Tree.oY
 have key:=IX.JJ n v p (by omega) (by omega) v.kids.length 0 (by omega)
 rw [aY] at key
 have key:IX.l2 n p 0 v=_:=key
 rw [key]
 by_cases a:Tree.own v=0
 ·rw [aa a] at h1
  cases b:Tree.dr name true
  ·rw [b] at h1;rw [h1];simp [a]
  ·rw [b] at h1;rw [h1];simp [a]
 ·rw [ab a] at h1
  rw [h1];simp [a]
theorem Jb.goal (v:Val) (hp:decide (bx.dk (bx.of [] v)≤1099511627776)=true):Jb.F v=some [.sl .is (Tree.hU (bx.of [] v) []).1,.i .i64 (Tree.hU (bx.of [] v) []).2]:=by
 refine Jb.cR v ?_
 intro v1 h1 v2 h2
 rw [bw (by simpa using hp),h1,h2]
end Go.Eng
set_option maxRecDepth 20000
namespace Go.Eng
open Go.IntWalk
theorem Tree.uR (f:bx):Tree.depth (bx.of [] f.val)=Tree.depth f:=by cases f;rfl
theorem Tree.wT (n:IY) (v:Val):Tree.depth (bx.of n v)=if v.kind=3∨v.kind=4∨v.kind=15 then Tree.jJ v.kids+1 else 0:=by cases v;rfl
theorem Tree.Ju:∀l:List bx,Tree.jJ l≤bx.cw l∧∀f∈l,Tree.depth f≤bx.dk f
 | []=>by simp [Tree.jJ]
 | f :: l=>by
  obtain ⟨h1,h2⟩:=Tree.Ju l
  have hf:Tree.depth f≤bx.dk f:=by
   obtain ⟨n,k,b,h,lo,t,m,s,y,ks⟩:=f
   have:=(Tree.Ju ks).1
   unfold Tree.depth bx.dk
   split <;> omega
  refine ⟨by simp only [Tree.jJ,bx.cw];omega,fun g hg=>?_⟩
  rcases aC.1 hg with rfl | hg
  ·exact hf
  ·exact h2 g hg
theorem Tree.J5 (f:bx):Tree.depth f≤bx.dk f:=(Tree.Ju [f]).2 f (List.mem_cons_self ..)
end Go.Eng
set_option maxRecDepth 20000
namespace Go.Eng
open Go.IntWalk
theorem bZ.goal (b:List UInt8) (c:UInt8):bZ.F b c=some [.i .i64 (Lib.indexByte b c)]:=bZ.fh b c
theorem wk {l:IY} {c:UInt8} (h:¬Lib.indexByte l c<0):∃k:Nat,Lib.indexByte l c=(k:Int)∧k<l.length∧l[k]?=some c∧∀j,j<k→l[j]?≠some c:=by
 obtain ⟨k,hk⟩:∃k:Nat,Lib.indexByte l c=(k:Int):=⟨(Lib.indexByte l c).toNat,by omega⟩
 obtain ⟨h1,h2⟩:=Lib.indexByte_some hk
 exact ⟨k,hk,(av.1 h1).1,h1,h2⟩
theorem cG.goal (b:List UInt8) (a:Int) (hp:decide (b.length≤1099511627776)=true):cG.F b a=some [.s (Bs.ctext b a).1,.i .i64 (Bs.ctext b a).2.1,.i .i64 (Bs.ctext b a).2.2]:=by
 have hp:=au hp
 refine cG.cR _ _ ?_
 intro v1 h1 v2 h2 v3 h3 v4 h4 v5 h5
 have t:∀c:Bool,(!(!c) || (!c))=true∧(!(!c) || ((!c)&&(!c)))=true∧(c || (!c))=true:=by decide
 rw [bw (t _).1,bw (t _).2.1,bw (t _).2.2]
 unfold Bs.ctext
 by_cases c:a<0∨(b.length:Int)<a
 ·rw [aq c]
  have:v1=true:=by
   rw [h1]
   by_cases d:a<0
   ·rw [aa d];rfl
   ·rw [ab d,af,aa (by omega)]
  rw [this];rfl
 ·rw [al c]
  have:v1=false:=by rw [h1,ab (by omega),af,ab (by omega)]
  rw [this,af,bw (gj (by omega) (by omega) (by omega))]
  by_cases d:v2<0
  ·rw [aa d,ao,aq (by rw [←h2];exact d)]
  ·rw [ab d,af,al (by rw [←h2];exact d),←h2]
   obtain ⟨k,k1,k2,_⟩:=wk (by rw [←h2];exact d)
   rw [←h2] at k1
   rw [aL] at k2
   have e3:v3=a+k:=by rw [h3,k1,i64_in _ (by omega)]
   have e4:v4=(b.drop a.toNat).take v2.toNat:=by rw [h4,e3,List.drop_take,k1,show (a+(k:Int)).toNat - a.toNat=(k:Int).toNat by omega]
   have e5:v5=a+v2+1:=by rw [h5,e3,k1,i64_in _ (by omega)]
   have l4:v4.length≤1099511627776:=by rw [e4,ay,aL];omega
   have cc:dV a v3 b.length=true:=gj (by omega) (by omega) (by omega)
   rw [bw cc,bw (aa l4),←e4]
   cases hw:dp.whole v4 with
   | false=>rw [aq rfl];rfl
   | true=>rw [al (by simp),bw cc,e5];rfl
theorem xa {X:Type} {k a b c d:Int} (f:Bool→X):cond (decide (k=a)) (f (decide (k=a))) (cond (decide (k=b)) (f (decide (k=b))) (cond (decide (k=c)) (f (decide (k=c))) (f (decide (k=d)))))=f (decide (k=a∨k=b∨k=c∨k=d)):=by
 by_cases h1:k=a
 ·simp [h1]
 by_cases h2:k=b
 ·subst h2;simp [h1]
 by_cases h3:k=c
 ·subst h3;simp [h1,h2]
 simp [h1,h2,h3]
theorem xb {X:Type} {k a b c:Int} (f:Bool→X):cond (decide (k=a)) (f (decide (k=a))) (cond (decide (k=b)) (f (decide (k=b))) (f (decide (k=c))))=f (decide (k=a∨k=b∨k=c)):=by
 by_cases h1:k=a
 ·simp [h1]
 by_cases h2:k=b
 ·subst h2;simp [h1]
 simp [h1,h2]
theorem xc {X:Type} {k a b:Int} (f:Bool→X):cond (decide (k=a)) (f (decide (k=a))) (f (decide (k=b)))=f (decide (k=a∨k=b)):=by
 by_cases h1:k=a
 ·simp [h1]
 simp [h1]
namespace Bs
mutual
theorem size_le:∀f:bx,size f+f.name.length+2≤30 * bx.dk f
 | .mk nm k b h l t m s y ks=>by
  have:=mF ks
  simp only [size,bx.dk,bx.name]
  have p:∀{c:Prop} [Decidable c] {a b n:Nat},a≤n→b≤n→(if c then a else b)≤n:=fun ha hb=>by split;exact ha;exact hb
  suffices hs:(if gM k then 8 else if k=16 then 4 else if k=8 then 1 else if k=19 then 16 else if gF k then t.length+5 else if k=11 then t.length+m.length+2 else if k=5 then (if s=2 then y.length+9 else y.length+5) else if k=7 then 12 else if k=12 then t.length+17 else if k=3∨k=4 then dC ks+5 else if k=15 then t.length+9+(dC ks+5) else 0)≤17+t.length+m.length+y.length+30 * bx.cw ks by omega
  refine p (by omega) (p (by omega) (p (by omega) (p (by omega) (p (by omega) (p (by omega) (p (p (by omega) (by omega)) (p (by omega) (p (by omega) (p (by omega) (p (by omega) (by omega)))))))))))
theorem mF:∀l:List bx,dC l≤30 * bx.cw l
 | []=>by simp [dC]
 | f :: r=>by
  have:=size_le f
  have:=mF r
  simp only [dC,bx.cw];omega
end
mutual
theorem wP:∀f:bx,(enc f).length+f.name.length+2≤30 * bx.dk f
 | .mk nm k b h l t m s y ks=>by
  have:=mr ks
  have e:∀x:IY,(fC x).length=x.length+5∧(ib x).length=x.length+5∧(nM x).length=x.length+4:=fun x=>by
   simp only [fC,ib,nM,ak,bU,aD];omega
  have e2:(nL s y).length≤y.length+9:=by
   unfold nL
   split <;> simp only [ak,aJ,bU] <;> omega
  simp only [enc,bx.dk,bx.name]
  have p:∀{c:Prop} [Decidable c] {a b:IY} {n:Nat},a.length≤n→b.length≤n→(if c then a else b).length≤n:=fun ha hb=>by split;exact ha;exact hb
  suffices hs:(if gM k=true then ff 8 b.toNat else if k=16 then ff 4 b.toNat else if k=8 then ff 1 b.toNat else if k=19 then ff 8 l.toNat++ff 8 h.toNat else if gF k=true then fC t else if k=11 then (t++[0])++(m++[0]) else if k=5 then nL s y else if k=7 then y else if k=12 then fC t++y else if k=3∨k=4 then ib (dS ks) else if k=15 then nM (fC t++ib (dS ks)) else []).length≤16+t.length+m.length+y.length+30 * bx.cw ks by omega
  refine p (by rw [bU];omega) (p (by rw [bU];omega) (p (by rw [bU];omega) (p (by rw [ak,bU,bU];omega) (p (by rw [(e t).1];omega) (p (by simp only [ak,aD];omega) (p (by omega) (p (by omega) (p (by rw [ak,(e t).1];omega) (p (by rw [(e _).2.1];omega) (p (by rw [(e _).2.2,ak,(e t).1,(e _).2.1];omega) (by simp)))))))))))
theorem mr:∀l:List bx,(dS l).length≤30 * bx.cw l
 | []=>by simp [dS]
 | f :: r=>by
  have:=wP f
  have:=mr r
  simp only [dS,bx.cw,aJ,ak,aD]
  simp only [aM];omega
end
theorem qb (f:bx):size (bx.of [] f.val)=size f:=by cases f;simp only [bx.of,bx.val,bx.kind,bx.bits,bx.high,bx.low,bx.text,bx.more,bx.sub,bx.bytes,bx.kids,size]
theorem tx (f:bx):enc (bx.of [] f.val)=enc f:=by cases f;simp only [bx.of,bx.val,bx.kind,bx.bits,bx.high,bx.low,bx.text,bx.more,bx.sub,bx.bytes,bx.kids,enc]
end Bs
theorem yL (f:bx):0<bx.dk f:=by cases f;simp only [bx.dk];omega
theorem nj:∀l:List bx,l.length≤bx.cw l
 | []=>by simp [bx.cw]
 | f :: r=>by have:=nj r;have:=yL f;simp only [bx.cw,aJ];omega
theorem tt (f:bx):bx.dk (bx.of [] f.val)≤bx.dk f:=by
 cases f;simp only [bx.of,bx.val,bx.kind,bx.bits,bx.high,bx.low,bx.text,bx.more,bx.sub,bx.bytes,bx.kids,bx.dk,aM];omega
theorem nr {f:bx}:∀{l:List bx},f∈l→bx.dk f≤bx.cw l
 | g :: l,h=>by
  simp only [bx.cw]
  rcases aC.1 h with rfl | h
  ·omega
  ·have:=nr h;omega
theorem cB.fx (n:Nat) (l:List bx) (hn:2 * bx.cw l<n) (hb:bx.cw l≤1000000000000):∀(m i:Nat) (s:Nat),i+m=l.length→s+30 * bx.cw (l.drop i)≤40000000000000→cB.l1 n (s:Int) l (l.length:Int) (i:Int)=some [.i .i64 ((s+Bs.dC (l.drop i):Nat):Int)]
 | 0,i,s,hi,hs=>by
  refine cB.fo _ _ _ _ _ ?_
  intro v1 h1 v2 h2 v3 h3 v4 h4 v5 h5 v6 h6
  rw [ab (by omega),af,aW (by omega)];simp [Bs.dC]
 | m+1,i,s,hi,hs=>by
  have hk:=nj l
  refine cB.fo _ _ _ _ _ ?_
  intro v1 h1 v2 h2 v3 h3 v4 h4 v5 h5 v6 h6
  rw [ar] at h1
  have hd:l.drop i=v1 :: l.drop (i+1):=by rw [h1];exact drop_cons (by omega) _
  have hm:v1∈l:=by rw [h1,ai,ah (by omega)];exact List.getElem_mem _
  have hv:=tt v1
  have hz:=Bs.size_le v1
  rw [hd] at hs ⊢
  simp only [bx.cw] at hs
  rw [Bs.qb] at h4
  have e5:v5=((s+(v1.name.length+2+Bs.size v1):Nat):Int):=by
   rw [h5,h4,h3,h2,i64_in (_+2) (by omega),i64_in (_+_+_) (by omega),i64_in _ (by omega)];omega
  have e6:v6=((i+1:Nat):Int):=by rw [h6,i64_in _ (by omega)];omega
  have c:(decide (bx.dk (bx.of [] (bx.val v1))≤1000000000000)&&decide (2 * bx.dk (bx.of [] (bx.val v1))<n))=true:=by
   have:=nr hm
   rw [ae];exact ⟨aa (by omega),aa (by omega)⟩
  rw [aa (by omega),ao,bw (eT (by omega) (by omega)),bw c,e5,e6,cB.fx n l hn hb m (i+1) _ (by omega) (by omega)]
  simp only [Bs.dC]
  congr 4
  omega
theorem cB.goal (n:Nat) (l:List bx) (hp:(decide (bx.cw l≤1000000000000)&&decide (2 * bx.cw l+1<n+1))=true):cB.F n l=some [.i .i64 ((Bs.dC l+5:Nat):Int)]:=by
 rw [ae] at hp
 obtain ⟨h1,h2⟩:=hp
 have h1:=au h1
 have h2:=au h2
 have:=cB.fx n l (by omega) h1 l.length 0 5 (by omega) (by rw [aY];omega)
 rw [aY,Nat.add_comm 5] at this
 rw [cB.fh];exact this
theorem sz_Of.goal (n:Nat) (v:Val) (hp:(decide (bx.dk (bx.of [] v)≤1000000000000)&&decide (2 * bx.dk (bx.of [] v)<n+1))=true):sz_Of.F n v=some [.i .i64 ((Bs.size (bx.of [] v):Nat):Int)]:=by
 rw [ae] at hp
 obtain ⟨h1,h2⟩:=hp
 have h1:=au h1
 have h2:=au h2
 have hz:=Bs.mF v.kids
 have hb:bx.dk (bx.of [] v)=1+v.text.length+v.more.length+v.bytes.length+bx.cw v.kids:=by simp only [bx.of,bx.dk,aM,Nat.add_zero]
 have e:Bs.size (bx.of [] v)=if Bs.gM v.kind then 8 else if v.kind=16 then 4 else if v.kind=8 then 1 else if v.kind=19 then 16 else if Bs.gF v.kind then v.text.length+5 else if v.kind=11 then v.text.length+v.more.length+2 else if v.kind=5 then (if v.sub=2 then v.bytes.length+9 else v.bytes.length+5) else if v.kind=7 then 12 else if v.kind=12 then v.text.length+17 else if v.kind=3∨v.kind=4 then Bs.dC v.kids+5 else if v.kind=15 then v.text.length+9+(Bs.dC v.kids+5) else 0:=by
  simp only [bx.of,Bs.size]
 have cb:(decide (bx.cw v.kids≤1000000000000)&&decide (2 * bx.cw v.kids+1<n))=true:=by
  rw [ae];exact ⟨aa (by omega),aa (by omega)⟩
 have j3:sz_Of.j3 n v.kind (decide (v.kind=3∨v.kind=4)) v=some [.i .i64 ((if v.kind=3∨v.kind=4 then Bs.dC v.kids+5 else if v.kind=15 then v.text.length+9+(Bs.dC v.kids+5) else 0:Nat):Int)]:=by
  refine sz_Of.j3_in _ _ _ _ ?_
  intro v1 e1 v2 e2 v3 e3
  rw [bw cb]
  by_cases c:v.kind=3∨v.kind=4
  ·rw [aa c,ao,aq c,e1]
  rw [ab c,af,al c]
  by_cases c:v.kind=15
  ·rw [aa c,ao,aq c,bw cb,e3,e2,e1,i64_in (_+9) (by omega),i64_in _ (by omega)]
   exact congrArg (fun x=>some [TV.i .i64 x]) (by omega)
  ·rw [ab c,al c];rfl
 have j2:sz_Of.j2 n v.kind (Bs.gF v.kind) v=some [.i .i64 ((if Bs.gF v.kind then v.text.length+5 else if v.kind=11 then v.text.length+v.more.length+2 else if v.kind=5 then (if v.sub=2 then v.bytes.length+9 else v.bytes.length+5) else if v.kind=7 then 12 else if v.kind=12 then v.text.length+17 else if v.kind=3∨v.kind=4 then Bs.dC v.kids+5 else if v.kind=15 then v.text.length+9+(Bs.dC v.kids+5) else 0:Nat):Int)]:=by
  refine sz_Of.lO _ _ _ _ ?_
  intro v1 e1 v2 e2 v3 e3 v4 e4 v5 e5 v6 e6 v7 e7 v8 e8
  cases ht:Bs.gF v.kind with
  | true=>rw [ao,aq rfl,e2,e1,i64_in _ (by omega)];rfl
  | false =>
   rw [af,al (by simp)]
   by_cases c:v.kind=11
   ·rw [aa c,ao,aq c,e4,e3,e1,i64_in (_+(v.more.length:Int)) (by omega),i64_in _ (by omega)];rfl
   rw [ab c,af,al c]
   by_cases c:v.kind=5
   ·rw [aa c,ao,aq c]
    by_cases d:v.sub=2
    ·rw [aa d,ao,aq d,e6,e5,i64_in _ (by omega)];rfl
    ·rw [ab d,af,al d,e7,e5,i64_in _ (by omega)];rfl
   rw [ab c,af,al c]
   by_cases c:v.kind=7
   ·rw [aa c,ao,aq c];rfl
   rw [ab c,af,al c]
   by_cases c:v.kind=12
   ·rw [aa c,ao,aq c,e8,e1,i64_in _ (by omega)];rfl
   rw [ab c,af,al c]
   rw [xc (fun b=>sz_Of.j3 n v.kind b v)]
   exact j3
 rw [sz_Of.fh,xa (fun b=>sz_Of.j1 n v.kind b v),sz_Of.qz,e,show decide (v.kind=1∨v.kind=9∨v.kind=17∨v.kind=18)=Bs.gM v.kind from rfl]
 cases hn:Bs.gM v.kind with
 | true=>rw [ao,aq rfl];rfl
 | false =>
  rw [af,al (by simp)]
  by_cases c:v.kind=16
  ·rw [aa c,ao,aq c];rfl
  rw [ab c,af,al c]
  by_cases c:v.kind=8
  ·rw [aa c,ao,aq c];rfl
  rw [ab c,af,al c]
  by_cases c:v.kind=19
  ·rw [aa c,ao,aq c];rfl
  rw [ab c,af,al c]
  rw [xb (fun b=>sz_Of.j2 n v.kind b v)]
  exact j2
theorem dY.goal (l:eK):dY.F l=some [.b (Bs.may l)]:=by
 refine dY.cR _ ?_
 intro v1 h1 v2 h2 v3 h3 v4 h4 v5 h5
 simp only [Fm,eQ]
 rw [h5,h4,h3,h2,h1]
 unfold Bs.may
 simp only [Bool.decide_and]
 cases decide (1≤l.depth) <;> cases decide (l.depth≤200) <;> cases decide (5≤l.size) <;> cases decide (l.size≤16777216) <;> cases decide (0≤l.out) <;> rfl
end Go.Eng
set_option maxRecDepth 20000
namespace Go.Eng
open Go.IntWalk
theorem xT {n:Nat} (h:n<18446744073709551616):(UInt64.ofInt (n:Int)).toNat=n:=by
 have:=k8 (n:Int)
 rw [fv] at this
 omega
namespace Bs
theorem mG {b x r y:IY} (h:y.length=x.length):jr (b++(x++r)) b.length y=b++(y++r):=by
 unfold jr
 rw [List.take_left,h,←List.drop_drop,List.drop_left,List.drop_left]
theorem fB (s:IY):(fC s).length=s.length+5:=by simp only [fC,ak,bU,aD];omega
theorem gw (s:IY):(ib s).length=s.length+5:=by simp only [ib,ak,bU,aD];omega
end Bs
theorem cO.goal (s:IY) (b:List UInt8) (hp:decide (b.length+s.length≤1099511627776)=true):cO.F s b=some [.ag [.pt],.sl .bs (b++(s++[0]))]:=by
 have h:=au hp
 refine cO.cR _ _ ?_
 intro v1 h1
 rw [bw (od.2 (by rw [ln];omega)),bw (aa (by omega)),bw (aa (by rw [ak];omega)),h1,aB];rfl
theorem eu.goal (s:IY) (b:List UInt8) (hp:decide (b.length+s.length+10≤1099511627776)=true):eu.F s b=some [.ag [.pt],.sl .bs (b++Bs.fC s)]:=by
 have h:=au hp
 refine eu.cR _ _ ?_
 intro v1 h1 v2 h2
 have e1:v1=((s.length+1:Nat):Int):=by rw [h1,i64_in _ (by omega)];omega
 rw [e1,xT (by omega)] at h2
 have h2:v2=b++Bs.ff 4 (s.length+1):=h2
 rw [bw (aa ⟨by omega,by omega,by omega⟩),bw (aa (by rw [h2,ak,Bs.bU];omega)),h2,aB];rfl
theorem bF.fx (n a:Nat) (l:List bx) (hn:2 * bx.cw l<n) (hL:bx.cw l≤1000000000000):∀(m i:Nat) (x:List UInt8),i+m=l.length→a+4≤x.length→x.length+30 * bx.cw (l.drop i)+46≤1000000000000 →
  bF.l1 n (a:Int) l (l.length:Int) (i:Int) x=some [.ag [.pt],.sl .bs (Bs.jr (x++(Bs.dS (l.drop i)++[0])) a (Bs.ff 4 (x.length+(Bs.dS (l.drop i)).length+1 - a)))]
 | 0,i,x,hi,ha,hs=>by
  refine bF.fo _ _ _ _ _ _ ?_
  intro v1 h1 v2 h2 v3 h3 v4 h4 v5 h5 v6 h6 v7 h7 v8 h8
  have e6:v6=x++[0]:=h6
  have l6:v6.length=x.length+1:=by rw [e6];simp
  have e7:v7=((x.length+1 - a:Nat):Int):=by rw [h7,l6,i64_in _ (by omega)];omega
  rw [e7,xT (by omega),ar] at h8
  rw [ab (by omega),af,bw (aa (by omega)),bw (aa ⟨by omega,by omega,by omega,by omega,by omega⟩),h8,aW (by omega),e6]
  simp [Bs.dS]
 | m+1,i,x,hi,ha,hs=>by
  have hk:=nj l
  refine bF.fo _ _ _ _ _ _ ?_
  intro v1 h1 v2 h2 v3 h3 v4 h4 v5 h5 v6 h6 v7 h7 v8 h8
  rw [ar] at h1
  have hd:l.drop i=v1 :: l.drop (i+1):=by rw [h1];exact drop_cons (by omega) _
  have hm:v1∈l:=by rw [h1,ai,ah (by omega)];exact List.getElem_mem _
  have hv:=tt v1
  have hb:=nr hm
  have hz:=Bs.wP v1
  rw [hd] at hs ⊢
  simp only [bx.cw] at hs
  rw [Bs.tx] at h4
  have l2:v2.length=x.length+1:=by rw [h2];simp
  have l3:v3.length=x.length+v1.name.length+2:=by rw [h3,ak,l2];simp;omega
  have l4:v4.length=x.length+v1.name.length+2+(Bs.enc v1).length:=by rw [h4,ak,l3]
  have IF:v1.name.length+1≤bx.dk v1:=by cases v1;simp only [bx.name,bx.dk];omega
  have zL:bx.dk (bx.of [] v1.val)+v1.name.length=bx.dk v1:=by cases v1;simp only [bx.of,bx.val,bx.kind,bx.bits,bx.high,bx.low,bx.text,bx.more,bx.sub,bx.bytes,bx.kids,bx.dk,bx.name,aM];omega
  have e5:v5=((i+1:Nat):Int):=by rw [h5,i64_in _ (by omega)];omega
  have c:(decide (v3.length+30 * bx.dk (bx.of [] (bx.val v1))+30≤1000000000000)&&decide (2 * bx.dk (bx.of [] (bx.val v1))<n))=true:=by
   rw [ae];exact ⟨aa (by omega),aa (by omega)⟩
  rw [aa (by omega),ao,bw (eT (by omega) (by omega)),bw (aa (by omega)),bw (aa (by omega)),bw c,e5,bF.fx n a l hn hL m (i+1) v4 (by omega) (by omega) (by omega)]
  have ex:v4++(Bs.dS (l.drop (i+1))++[0])=x++(Bs.dS (v1 :: l.drop (i+1))++[0]):=by
   rw [h4,h3,h2,Bs.dS]
   simp only [aB,List.cons_append,bf]
  have el:v4.length+(Bs.dS (l.drop (i+1))).length+1=x.length+(Bs.dS (v1 :: l.drop (i+1))).length+1:=by
   rw [l4,Bs.dS]
   simp only [aJ,ak,aM];omega
  rw [ex,el]
theorem bF.goal (n:Nat) (l:List bx) (b:List UInt8) (hp:(decide (b.length+30 * bx.cw l+50≤1000000000000)&&decide (2 * bx.cw l+1<n+1))=true):bF.F n l b=some [.ag [.pt],.sl .bs (b++Bs.iR l)]:=by
 rw [ae] at hp
 obtain ⟨h1,h2⟩:=hp
 have h1:=au h1
 have h2:=au h2
 refine bF.cR _ _ _ ?_
 intro v1 e1
 have e1:v1=b++Bs.ff 4 0:=e1
 have l1:v1.length=b.length+4:=by rw [e1,ak,Bs.bU]
 rw [bw (aa ⟨by omega,by omega,by omega⟩)]
 refine (bF.fx n b.length l (by omega) (by omega) l.length 0 v1 (by omega) (by omega) (by rw [aY];omega)).trans ?_
 rw [aY,l1,e1,aB,Bs.mG (by rw [Bs.bU,Bs.bU])]
 unfold Bs.iR Bs.ib
 rw [show b.length+4+(Bs.dS l).length+1 - b.length=(Bs.dS l).length+5 by omega]
theorem bD.goal (n:Nat) (v:Val) (b:List UInt8) (hp:(decide (b.length+30 * bx.dk (bx.of [] v)+30≤1000000000000)&&decide (2 * bx.dk (bx.of [] v)<n+1))=true):bD.F n v b=some [.ag [.pt],.sl .bs (b++Bs.enc (bx.of [] v))]:=by
 rw [ae] at hp
 obtain ⟨h1,h2⟩:=hp
 have h1:=au h1
 have h2:=au h2
 have hz:=Bs.mr v.kids
 have hb:bx.dk (bx.of [] v)=1+v.text.length+v.more.length+v.bytes.length+bx.cw v.kids:=by simp only [bx.of,bx.dk,aM,Nat.add_zero]
 have e:Bs.enc (bx.of [] v)=if Bs.gM v.kind then Bs.ff 8 v.bits.toNat else if v.kind=16 then Bs.ff 4 v.bits.toNat else if v.kind=8 then Bs.ff 1 v.bits.toNat else if v.kind=19 then Bs.ff 8 v.low.toNat++Bs.ff 8 v.high.toNat else if Bs.gF v.kind then Bs.fC v.text else if v.kind=11 then (v.text++[0])++(v.more++[0]) else if v.kind=5 then Bs.nL v.sub v.bytes else if v.kind=7 then v.bytes else if v.kind=12 then Bs.fC v.text++v.bytes else if v.kind=3∨v.kind=4 then Bs.ib (Bs.dS v.kids) else if v.kind=15 then Bs.nM (Bs.fC v.text++Bs.ib (Bs.dS v.kids)) else []:=by
  simp only [bx.of,Bs.enc]
 have cb:∀x:List UInt8,x.length≤b.length+v.text.length+10→(decide (x.length+30 * bx.cw v.kids+50≤1000000000000)&&decide (2 * bx.cw v.kids+1<n))=true:=fun x hx=>by
  rw [ae];exact ⟨aa (by omega),aa (by omega)⟩
 have j4:bD.j4 n v.kind (decide (v.kind=3∨v.kind=4)) v b=some [.ag [.pt],.sl .bs (b++if v.kind=3∨v.kind=4 then Bs.ib (Bs.dS v.kids) else if v.kind=15 then Bs.nM (Bs.fC v.text++Bs.ib (Bs.dS v.kids)) else [])]:=by
  refine bD.s7 _ _ _ _ _ ?_
  intro v1 e1 v2 e2 v3 e3 v4 e4 v5 e5 v6 e6
  by_cases c:v.kind=3∨v.kind=4
  ·rw [aa c,ao,aq c,bw (cb b (by omega)),e1];rfl
  rw [ab c,af,al c]
  by_cases c:v.kind=15
  ·have e2:v2=b++Bs.ff 4 0:=e2
   have l2:v2.length=b.length+4:=by rw [e2,ak,Bs.bU]
   have l3:v3.length=b.length+v.text.length+9:=by rw [e3,ak,l2,Bs.fB];omega
   have l4:v4.length=b.length+v.text.length+14+(Bs.dS v.kids).length:=by rw [e4,ak,l3];unfold Bs.iR;rw [Bs.gw];omega
   have q5:v5=((v.text.length+14+(Bs.dS v.kids).length:Nat):Int):=by rw [e5,l4,i64_in _ (by omega)];omega
   rw [q5,xT (by omega),ar] at e6
   have q4:v4=b++(Bs.ff 4 0++(Bs.fC v.text++Bs.ib (Bs.dS v.kids))):=by rw [e4,e3,e2];simp only [aB];rfl
   have q6:v6=b++Bs.nM (Bs.fC v.text++Bs.ib (Bs.dS v.kids)):=by
    rw [e6,q4]
    refine (Bs.mG (by show (Bs.ff 4 _).length=_;rw [Bs.bU,Bs.bU])).trans ?_
    unfold Bs.nM
    rw [ak,Bs.fB,Bs.gw]
    have:v.text.length+5+((Bs.dS v.kids).length+5)+4=v.text.length+14+(Bs.dS v.kids).length:=by omega
    rw [this];rfl
   rw [aa c,ao,aq c,bw (aa ⟨by omega,by omega,by omega⟩),bw (aa (by omega)),bw (cb v3 (by omega)),bw (aa ⟨by omega,by omega,by omega,by omega,by omega⟩),q6]
  ·rw [ab c,al c,bm];rfl
 have j2:bD.j2 n v.kind (Bs.gF v.kind) v b=some [.ag [.pt],.sl .bs (b++if Bs.gF v.kind then Bs.fC v.text else if v.kind=11 then (v.text++[0])++(v.more++[0]) else if v.kind=5 then Bs.nL v.sub v.bytes else if v.kind=7 then v.bytes else if v.kind=12 then Bs.fC v.text++v.bytes else if v.kind=3∨v.kind=4 then Bs.ib (Bs.dS v.kids) else if v.kind=15 then Bs.nM (Bs.fC v.text++Bs.ib (Bs.dS v.kids)) else [])]:=by
  refine bD.lO _ _ _ _ _ ?_
  intro v1 e1 v2 e2 v3 e3 v4 e4 v5 e5 v6 e6 v7 e7 v8 e8 v9 e9 v10 kT
  cases ht:Bs.gF v.kind with
  | true=>rw [ao,aq rfl,bw (aa (by omega)),e1]
  | false =>
   rw [af,al (by simp)]
   by_cases c:v.kind=11
   ·have l2:v2.length=b.length+v.text.length+1:=by rw [e2];simp;omega
    rw [aa c,ao,aq c,bw (aa (by omega)),bw (aa (by omega)),e3,e2,aB]
   rw [ab c,af,al c]
   by_cases c:v.kind=5
   ·rw [aa c,ao,aq c]
    rw [e4] at e5 e8 e9
    have u4:(UInt64.ofInt (v.bytes.length:Int)).toNat=v.bytes.length:=xT (by omega)
    have e9:v9=b++Bs.ff 4 v.bytes.length:=by rw [e9,u4];rfl
    have e8:v8=v7++Bs.ff 4 v.bytes.length:=by rw [e8,u4];rfl
    have e6:v6=b++Bs.ff 4 (v.bytes.length+4):=by
     have:v5.toNat=v.bytes.length+4:=by
      rw [e5,UInt64.toNat_add,u4]
      exact Nat.mod_eq_of_lt (by show v.bytes.length+4<18446744073709551616;omega)
     rw [e6,this];rfl
    have l6:v6.length=b.length+4:=by rw [e6,ak,Bs.bU]
    have l7:v7.length=b.length+5:=by rw [e7,ak,l6];rfl
    have l8:v8.length=b.length+9:=by rw [e8,ak,l7,Bs.bU]
    have l9:v9.length=b.length+4:=by rw [e9,ak,Bs.bU]
    have l10:v10.length=b.length+5:=by rw [kT,ak,l9];rfl
    unfold Bs.nL
    by_cases d:v.sub=2
    ·rw [aa d,ao,aq d,bw (aa ⟨by omega,by omega,by omega⟩),bw (aa (by omega)),bw (aa ⟨by omega,by omega,by omega⟩),bD.zx,bw (aa (by omega)),e8,e7,e6]
     simp only [aB,List.cons_append,bf]
    ·rw [ab d,af,al d,bw (aa ⟨by omega,by omega,by omega⟩),bw (aa (by omega)),bD.zx,bw (aa (by omega)),kT,e9]
     simp only [aB,List.cons_append,bf]
   rw [ab c,af,al c]
   by_cases c:v.kind=7
   ·rw [aa c,ao,aq c,bw (aa (by omega))]
   rw [ab c,af,al c]
   by_cases c:v.kind=12
   ·rw [aa c,ao,aq c,bw (aa (by omega)),bw (aa (by rw [e1,ak,Bs.fB];omega)),e1,aB]
   rw [ab c,af,al c]
   rw [xc (fun q=>bD.j4 n v.kind q v b)]
   exact j4
 rw [bD.fh,xa (fun q=>bD.j1 n v.kind q v b),e,show decide (v.kind=1∨v.kind=9∨v.kind=17∨v.kind=18)=Bs.gM v.kind from rfl]
 refine bD.qy _ _ _ _ _ ?_
 intro v1 e1 v2 e2 v3 e3 v4 e4 v5 e5
 have e4:v4=b++Bs.ff 8 v.low.toNat:=e4
 have l4:v4.length=b.length+8:=by rw [e4,ak,Bs.bU]
 cases hn:Bs.gM v.kind with
 | true=>rw [ao,aq rfl,bw (aa ⟨by omega,by omega,by omega⟩),e1];rfl
 | false =>
  rw [af,al (by simp)]
  by_cases c:v.kind=16
  ·rw [aa c,ao,aq c,bw (aa ⟨by omega,by omega,by omega⟩),e2];rfl
  rw [ab c,af,al c]
  by_cases c:v.kind=8
  ·rw [aa c,ao,aq c,bw (aa ⟨by omega,by omega,by omega⟩),e3];rfl
  rw [ab c,af,al c]
  by_cases c:v.kind=19
  ·rw [aa c,ao,aq c,bw (aa ⟨by omega,by omega,by omega⟩),bw (aa ⟨by omega,by omega,by omega⟩),e5,e4,aB];rfl
  rw [ab c,af,al c]
  rw [xb (fun q=>bD.j2 n v.kind q v b)]
  exact j2
theorem cZ.goal (v:Val) (hp:decide (bx.dk (bx.of [] v)≤10000000000)=true):cZ.F v=some [.sl .bs (Bs.encode v).1,.ag (cq.cells ⟨(Bs.encode v).2.1,0,(Bs.encode v).2.2⟩)]:=by
 have h:=au hp
 have hb:bx.dk (bx.of [] v)=1+v.text.length+v.more.length+v.bytes.length+bx.cw v.kids:=by simp only [bx.of,bx.dk,aM,Nat.add_zero]
 have hz:=Bs.mr v.kids
 refine cZ.cR _ ?_
 intro v1 h1 v2 h2 v3 h3 v4 h4
 have e4:v4=Bs.iR v.kids:=h4
 have l4:v4.length=(Bs.dS v.kids).length+5:=by rw [e4];unfold Bs.iR;rw [Bs.gw]
 unfold Bs.encode
 rw [bw (aa (by omega)),←h2]
 by_cases c:v2=0
 ·rw [aa c,aK,af,al (by simp [c])]
  by_cases k:v.kind=3
  ·rw [aa k,aK,af,al (by simp [k]),bw (aa (by omega)),h3]
   by_cases q:16777216<Bs.size (bx.of [] v)
   ·rw [aa (by omega),ao,aq q];rfl
   ·rw [ab (by omega),af,al q,bw (aa (by simp;omega)),bw (aa (by show v4.length≤_;omega))]
    show some [TV.sl .bs v4,_]=_
    rw [e4];rfl
  ·rw [ab k,aQ,ao,aq k];rfl
 ·rw [ab c,aQ,ao,aq c,h1];rfl
end Go.Eng
set_option maxRecDepth 20000
namespace Go.Eng
open Go.IntWalk
theorem FL (n:Int):IntKind.wrap .i32 n=(if n % 4294967296 ≥ 2147483648 then n % 4294967296 - 4294967296 else n % 4294967296):=by
 simp [IntKind.wrap,IntKind.bits,IntKind.signed]
theorem bW.goal (e a:Int):bW.F e a=some [.ag (cq.cells ⟨e,a,[]⟩)]:=bW.fh e a
theorem Bs.oS (b:IY) (p:Nat):Bs.vd b p<4294967296:=by
 unfold Bs.vd
 refine Nat.lt_of_lt_of_le (Bs.lu _) ?_
 have:(256:Nat) ^ ((b.drop p).take 4).length≤256 ^ 4:=Nat.pow_le_pow_right (by omega) (by rw [ay];omega)
 exact this
theorem Bs.ja (b:IY) (p:Nat) : -2147483648≤Bs.cU b p∧Bs.cU b p<2147483648:=by
 have:=Bs.oS b p
 unfold Bs.cU
 split <;> omega
theorem cd.goal (r:bA) (at_:Int) (hp:decide (0≤at_∧at_+4≤(r.b.length:Int)∧r.b.length≤1000000000)=true):cd.F r at_=some [.i .i64 (Bs.cU r.b at_.toNat),.ag (bA.cells r)]:=by
 obtain ⟨h1,h2,h3⟩:=au hp
 refine cd.cR _ _ ?_
 intro v1 e1 v2 e2 v3 e3 v4 e4 v5 e5 v6 e6
 have q1:v1=at_+4:=by rw [e1,i64_in _ (by omega)]
 have q2:v2=(r.b.drop at_.toNat).take 4:=by rw [e2,q1,List.drop_take,show (at_+4).toNat - at_.toNat=4 by omega]
 have l2:v2.length=4:=by rw [q2,ay,aL];omega
 have c:Bs.can ⟨v2,0⟩ 4=true:=aa ⟨by omega,by omega,by show (4:Int)≤(v2.length:Int) - 0;omega⟩
 have nb:Bs.fH ⟨v2,0⟩ 4=v2:=by
  unfold Bs.fH
  rw [aq c]
  show (v2.drop 0).take 4=v2
  rw [aY,List.take_of_length_le (by omega)]
 have eL:=Bs.oS r.b at_.toNat
 have q4:v4.toNat=Bs.vd r.b at_.toNat:=by
  rw [e4,nb,UInt64.toNat_ofNat',q2]
  exact Nat.mod_eq_of_lt (by unfold Bs.vd at eL;omega)
 have hr:=Bs.ja r.b at_.toNat
 have q6:v6=Bs.cU r.b at_.toNat:=by
  rw [e6,q4,FL]
  unfold Bs.cU
  split <;> split <;> omega
 rw [bw (gj (by omega) (by omega) (by omega)),bw (aa (by omega)),bw (aa ⟨by omega,by omega,by show (0:Int)≤0;omega,by show (0:Int)≤(v2.length:Int);omega,by show v2.length≤_;omega⟩),q6,i64_in _ (by omega)]
theorem zU {X:Type} {k a b c d e g:Int} (f:Bool→X):cond (decide (k=a)) (f (decide (k=a))) (cond (decide (k=b)) (f (decide (k=b))) (cond (decide (k=c)) (f (decide (k=c))) (cond (decide (k=d)) (f (decide (k=d))) (cond (decide (k=e)) (f (decide (k=e))) (f (decide (k=g)))))))=f (decide (k=a∨k=b∨k=c∨k=d∨k=e∨k=g)):=by
 by_cases h1:k=a
 ·subst h1;simp
 by_cases h2:k=b
 ·subst h2;simp [h1]
 by_cases h3:k=c
 ·subst h3;simp [h1,h2]
 by_cases h4:k=d
 ·subst h4;simp [h1,h2,h3]
 by_cases h5:k=e
 ·subst h5;simp [h1,h2,h3,h4]
 simp [h1,h2,h3,h4,h5]
theorem bJ.goal (k:Int):bJ.F k=some [.i .i64 ((Bs.fixed k:Nat):Int)]:=by
 rw [bJ.fh,xa (fun q=>bJ.j1 k q),bJ.qz,zU (fun q=>bJ.j2 k q),bJ.jE,show decide (k=1∨k=9∨k=17∨k=18)=Bs.gM k from rfl]
 unfold Bs.fixed
 cases hn:Bs.gM k with
 | true=>rw [aq rfl];rfl
 | false =>
  rw [al (by simp),af]
  have e:decide (k=16∨k=2∨k=13∨k=14∨k=12∨k=15)=decide (k=16∨Bs.gF k=true∨k=12∨k=15):=by
   apply aV.2
   unfold Bs.gF
   rw [decide_eq_true_iff]
   constructor
   ·rintro (h | h | h | h | h | h) <;> simp [h]
   ·rintro (h | (h | h | h) | h | h) <;> simp [h]
  rw [e]
  by_cases c:k=16∨Bs.gF k=true∨k=12∨k=15
  ·rw [aa c,ao,aq c];rfl
  rw [ab c,af,al c]
  by_cases c:k=8
  ·rw [aa c,ao,aq c];rfl
  rw [ab c,af,al c]
  by_cases c:k=19
  ·rw [aa c,ao,aq c];rfl
  rw [ab c,af,al c]
  by_cases c:k=7
  ·rw [aa c,ao,aq c];rfl
  rw [ab c,af,al c]
  by_cases c:k=5
  ·rw [aa c,ao,aq c];rfl
  rw [ab c,af,al c];rfl
namespace Bs
theorem hO {b:IY} {a:Int} (h:(ctext b a).2.2=0):0≤a∧∃k:Nat,Lib.indexByte (b.drop a.toNat) 0=(k:Int)∧a.toNat+k<b.length∧(ctext b a).1=(b.drop a.toNat).take k∧(ctext b a).2.1=a+k+1∧dp.whole ((b.drop a.toNat).take k)=true∧b[a.toNat+k]?=some 0∧∀j,j<k→b[a.toNat+j]?≠some 0:=by
 unfold ctext at h ⊢
 by_cases c:a<0∨(b.length:Int)<a
 ·rw [aq c] at h;cases h
 rw [al c] at h ⊢
 by_cases d:Lib.indexByte (b.drop a.toNat) 0<0
 ·rw [aq d] at h;cases h
 rw [al d] at h ⊢
 obtain ⟨k,k1,k2,k3,k4⟩:=wk d
 rw [k1,ar] at h ⊢
 by_cases e:dp.whole ((b.drop a.toNat).take k)=false
 ·rw [aq e] at h;cases h
 rw [al e]
 rw [aL] at k2
 refine ⟨by omega,k,rfl,by omega,rfl,rfl,by simpa using e,by rw [←List.getElem?_drop];exact k3,fun j hj=>by rw [←List.getElem?_drop];exact k4 j hj⟩
end Bs
theorem dG.goal (r:bA) (q z:Int) (hp:decide (0≤q∧q≤z∧z≤(r.b.length:Int)∧r.b.length≤1000000000)=true):dG.F r q z=some [.s (Bs.gh ([],0) (Bs.ended r.b q.toNat z.toNat)).1,.i .i64 ((Bs.gh ([],0) (Bs.ended r.b q.toNat z.toNat)).2:Int),.ag (cq.cells (Bs.iI (Bs.ended r.b q.toNat z.toNat))),.ag (bA.cells r)]:=by
 obtain ⟨h1,h2,h3,h4⟩:=au hp
 refine dG.cR _ _ _ ?_
 intro v1 e1 v2 e2
 rw [bw (gj (by omega) (by omega) (by omega)),bw (aa (by rw [e1,ay];omega)),e2,e1]
 unfold Bs.ended
 rw [show ((q.toNat:Nat):Int)=q by omega]
 by_cases c:(Bs.ctext (r.b.take z.toNat) q).2.2=0
 ·obtain ⟨_,k,_,_,_,k1,_⟩:=Bs.hO c
  rw [aa c,aK,af,al (by simp [c])]
  simp only [Bs.gh,Bs.iI]
  rw [show (((Bs.ctext (r.b.take z.toNat) q).2.1.toNat:Nat):Int)=(Bs.ctext (r.b.take z.toNat) q).2.1 by omega];rfl
 ·rw [ab c,aQ,ao,aq c]
  simp only [Bs.gh,Bs.iI]
  rw [show ((q.toNat:Nat):Int)=q by omega];rfl
theorem tc (c:Bool):(!(!c) || ((!c)&&(!c)))=true∧(!(!c) || (!c))=true∧(c || (!c))=true:=by cases c <;> decide
theorem dK.goal (r:bA) (q z:Int) (hp:decide (0≤q∧q≤z∧z≤(r.b.length:Int)∧r.b.length≤1000000000)=true):dK.F r q z=some [.s (Bs.gh ([],0) (Bs.text r.b q.toNat z.toNat)).1,.i .i64 ((Bs.gh ([],0) (Bs.text r.b q.toNat z.toNat)).2:Int),.ag (cq.cells (Bs.iI (Bs.text r.b q.toNat z.toNat))),.ag (bA.cells r)]:=by
 obtain ⟨h1,h2,h3,h4⟩:=au hp
 obtain ⟨q,rfl⟩:∃k:Nat,q=(k:Int):=⟨q.toNat,by omega⟩
 obtain ⟨z,rfl⟩:∃k:Nat,z=(k:Int):=⟨z.toNat,by omega⟩
 refine dK.cR _ _ _ ?_
 rw [ar q,ar z]
 intro v1 e1 v2 e2 v3 e3 v4 e4 v5 e5 v6 e6 v7 e7
 have hr:=Bs.ja r.b q
 unfold Bs.text
 rw [i64_in ((z:Int) - q) (by omega)] at e1 ⊢
 by_cases c:z - q<4
 ·rw [aa (show (z:Int) - q<4 by omega),ao,aq c];rfl
 rw [al c]
 generalize Bs.cU r.b q=n at *
 unfold Bs.pU
 rw [ab (show ¬(z:Int) - q<4 by omega),af,bw (aa ⟨by omega,by omega,by omega⟩),bw (tc _).1,bw (tc _).2.1,bw (tc _).1,bw (tc _).2.2]
 rw [i64_in _ (by omega)] at e1
 have q2:v2=decide (n<1∨(z:Int) - q - 4<n):=by
  rw [e2,e1]
  by_cases d:n<1
  ·rw [aa d,aa (show n<1∨(z:Int) - q - 4<n from .inl d)];rfl
  ·rw [ab d,af]
   exact aV.2 (by omega)
 rw [q2]
 by_cases d:n<1∨(z:Int) - q - 4<n
 ·rw [aa d,ao];simp only [aq d];rfl
 rw [ab d,af]
 simp only [al d]
 have q3:v3=((q+4:Nat):Int):=by rw [e3,i64_in _ (by omega)];omega
 have q4:v4=((q+4+n.toNat:Nat):Int):=by rw [e4,q3,i64_in _ (by omega)];omega
 have q5:v5=((q+4+n.toNat - 1:Nat):Int):=by rw [e5,q4,i64_in _ (by omega)];omega
 rw [q5,ar] at e6
 have q7:v7=(r.b.drop (q+4)).take (n.toNat - 1):=by
  rw [e7,q3,q5,ar,ar,List.drop_take,show q+4+n.toNat - 1 - (q+4)=n.toNat - 1 by omega]
 have l7:v7.length≤1099511627776:=by rw [q7,ay,aL];omega
 rw [bw (by rw [q5];exact eT (by omega) (by omega))]
 by_cases g:v6=0
 ·have cc:dV v3 v5 r.b.length=true:=by rw [q3,q5];exact gj (by omega) (by omega) (by omega)
  rw [aa g,aK,af,al (by rw [←e6];simp [g]),bw cc,bw (aa l7),←q7]
  cases hw:dp.whole v7 with
  | false =>
   rw [aQ,ao,aq rfl,q3];rfl
  | true=>rw [aK,af,al (by simp),bw cc,q4];rfl
 ·rw [ab g,aQ,ao,aq (by rw [←e6];exact g),q5];rfl
theorem bR.goal (r:bA) (q z:Int) (hp:decide (0≤q∧q+5≤z∧z≤(r.b.length:Int)∧r.b.length≤1000000000)=true):bR.F r q z=some [.i .i64 (Bs.gh (0,[],0) (Bs.binary r.b q.toNat z.toNat)).1,.sl .bs (Bs.gh (0,[],0) (Bs.binary r.b q.toNat z.toNat)).2.1,.i .i64 ((Bs.gh (0,[],0) (Bs.binary r.b q.toNat z.toNat)).2.2:Int),.ag (cq.cells (Bs.iI (Bs.binary r.b q.toNat z.toNat))),.ag (bA.cells r)]:=by
 obtain ⟨h1,h2,h3,h4⟩:=au hp
 obtain ⟨q,rfl⟩:∃k:Nat,q=(k:Int):=⟨q.toNat,by omega⟩
 obtain ⟨z,rfl⟩:∃k:Nat,z=(k:Int):=⟨z.toNat,by omega⟩
 refine bR.cR _ _ _ ?_
 rw [ar q,ar z]
 intro v1 e1 v2 e2 v3 e3 v4 e4 v5 e5 v6 e6 v7 e7 v8 e8 v9 e9 v10 kT v11 vm
 have hr:=Bs.ja r.b q
 unfold Bs.binary
 generalize Bs.cU r.b q=n at *
 unfold Bs.yV
 rw [i64_in ((z:Int) - q) (by omega),i64_in _ (by omega)] at e1
 have q2:v2=decide (n<0∨(z:Int) - q - 5<n):=by
  rw [e2,e1]
  by_cases d:n<0
  ·rw [aa d,aa (show n<0∨(z:Int) - q - 5<n from .inl d)];rfl
  ·rw [ab d,af]
   exact aV.2 (by omega)
 rw [bw (aa ⟨by omega,by omega,by omega⟩),bw (tc _).1,bw (tc _).2.1,bw (tc _).1,bw (tc _).2.2,q2]
 by_cases d:n<0∨(z:Int) - q - 5<n
 ·rw [aa d,ao];simp only [aq d];rfl
 rw [ab d,af]
 simp only [al d]
 have q3:v3=((q+4:Nat):Int):=by rw [e3,i64_in _ (by omega)];omega
 have q6:v6=((q+5:Nat):Int):=by rw [e6,i64_in _ (by omega)];omega
 have q7:v7=((q+5+n.toNat:Nat):Int):=by rw [e7,q6,i64_in _ (by omega)];omega
 rw [q3,ar] at e4
 have hc:=v4.toNat_lt
 have q5:v5=((v4.toNat:Nat):Int):=by rw [e5,i64_in _ (by omega)]
 rw [q6,ar] at e8
 rw [i64_in _ (by omega)] at e9
 have zq:v11=((q+9:Nat):Int):=by rw [vm,q6,i64_in _ (by omega)];omega
 have j1:∀(a:Nat),q+5≤a→a≤q+5+n.toNat→bR.j1 v5 (a:Int) v7 ⟨0,0,[]⟩ r.b r.at_=some [.i .i64 v5,.sl .bs ((r.b.drop a).take (q+5+n.toNat - a)),.i .i64 v7,.ag (cq.cells ⟨0,0,[]⟩),.ag (bA.cells r)]:=fun a ha IJ=>by
  refine bR.qy _ _ _ _ _ _ ?_
  intro w1 f1
  have g1:w1=(r.b.drop a).take (q+5+n.toNat - a):=by rw [f1,q7,ar,ar,List.drop_take]
  have l1:w1.length≤1099511627776:=by rw [g1,ay,aL];omega
  rw [bw (by rw [q7];exact gj (by omega) (by omega) (by omega)),bw (fQ (by omega) (by omega)),g1];rfl
 rw [bw (by rw [q3];exact eT (by omega) (by omega)),←e4]
 by_cases s:((v4.toNat:Nat):Int)=2
 ·rw [aa (show v5=2 by omega),ao,aq s]
  by_cases c4:n<4
  ·rw [aa c4] at kT ⊢
   have kT:v10=true:=kT
   rw [kT,aq (.inl c4),q6];rfl
  ·rw [ab c4] at kT ⊢
   rw [af,e8,e9] at kT
   have c8:decide (0≤v6∧v6+4≤(r.b.length:Int)∧r.b.length≤1000000000)=true:=aa ⟨by omega,by omega,by omega⟩
   rw [c8,kT]
   by_cases c9:Bs.cU r.b (q+5)=n - 4
   ·rw [aa c9,al (by rintro (w | w);exact c4 w;exact w c9),zq]
    refine Eq.trans (b:=bR.j1 v5 ((q+9:Nat):Int) v7 ⟨0,0,[]⟩ r.b r.at_) rfl ?_
    rw [j1 (q+9) (by omega) (by omega),q5,q7,show q+5+n.toNat - (q+9)=n.toNat - 4 by omega];rfl
   ·rw [ab c9,aq (.inr c9),q6];rfl
 ·rw [ab (show ¬v5=2 by omega),af,al s,q6,j1 (q+5) (by omega) (by omega),q5,q7,show q+5+n.toNat - (q+5)=n.toNat by omega];rfl
end Go.Eng
set_option maxRecDepth 20000
namespace Go.Eng
open Go.IntWalk
namespace Bs
def GX {A:Type} (X:Except E A):Prop:=∀e a,X = .error (e,a)→e≠0
def nO {A:Type} (X:Except E A) (f:A→Nat) (q z:Nat):Prop:=(∀e a,X = .error (e,a)→e≠0∧a≤z)∧∀y,X = .ok y→q≤f y∧f y≤z
theorem nO.ne {A:Type} {X:Except E A} {f:A→Nat} {q z:Nat} (h:nO X f q z):GX X:=fun e a g=>(h.1 e a g).1
theorem dy {A:Type} {f:A→Nat} {q z:Nat} {e:Int} {a:Nat} (h:e≠0) (g:a≤z):nO (.error (e,a):Except E A) f q z:=⟨(fun _ _ i=>by cases i;exact ⟨h,g⟩),(fun _ i=>by cases i)⟩
theorem gG {A:Type} {f:A→Nat} {q z:Nat} {y:A} (h:q≤f y∧f y≤z):nO (.ok y:Except E A) f q z:=⟨(fun _ _ i=>by cases i),(fun _ i=>by cases i;exact h)⟩
theorem jS {b:IY} {q z:Nat} (h1:q≤z) (h2:z≤b.length):nO (ended b q z) (fun y=>y.2) q z:=by
 unfold ended
 by_cases c:(ctext (b.take z) q).2.2=0
 ·obtain ⟨_,k,_,k2,_,k1,_⟩:=hO c
  rw [al (by simp [c])]
  rw [ay] at k2
  refine gG ?_
  show q≤(ctext (b.take z) q).2.1.toNat∧(ctext (b.take z) q).2.1.toNat≤z
  omega
 ·rw [aq c];exact dy c h1
theorem jo {b:IY} {q z:Nat} (h1:q≤z) (h2:z≤b.length):nO (text b q z) (fun y=>y.2) q z:=by
 unfold text
 by_cases c:z - q<4
 ·rw [aq c];exact dy (by decide) h1
 rw [al c];unfold pU
 by_cases d:cU b q<1∨(z:Int) - q - 4<cU b q
 ·rw [aq d];exact dy (by decide) h1
 rw [al d]
 by_cases e:b.getD (q+4+(cU b q).toNat - 1) 0≠0
 ·rw [aq e];exact dy (by decide) (by omega)
 rw [al e]
 by_cases f:dp.whole ((b.drop (q+4)).take ((cU b q).toNat - 1))=false
 ·rw [aq f];exact dy (by decide) (by omega)
 rw [al f]
 exact gG ⟨by show q≤q+4+(cU b q).toNat;omega,by show q+4+(cU b q).toNat≤z;omega⟩
theorem nx {b:IY} {q z:Nat} (h1:q+5≤z) (h2:z≤b.length):nO (binary b q z) (fun y=>y.2.2) q z:=by
 unfold binary yV
 by_cases d:cU b q<0∨(z:Int) - q - 5<cU b q
 ·rw [aq d];exact dy (by decide) (by omega)
 rw [al d]
 by_cases e:((b.getD (q+4) 0).toNat:Int)=2
 ·rw [aq e]
  by_cases f:cU b q<4∨cU b (q+5)≠cU b q - 4
  ·rw [aq f];exact dy (by decide) (by omega)
  ·rw [al f];exact gG ⟨by show q≤q+5+(cU b q).toNat;omega,by show q+5+(cU b q).toNat≤z;omega⟩
 ·rw [al e];exact gG ⟨by show q≤q+5+(cU b q).toNat;omega,by show q+5+(cU b q).toNat≤z;omega⟩
def FJ (dc:IY→Nat→Nat→Int→Except E (List bx × Nat)) (b:IY):Prop:=∀p z fZ,p≤z→z≤b.length→nO (dc b p z fZ) (fun y=>y.2) p z
theorem nX {dc:IY→Nat→Nat→Int→Except E (List bx × Nat)} {b:IY} (hd:FJ dc b) {q z:Nat} (h1:q≤z) (h2:z≤b.length):nO (ew dc b q z).2 (fun y=>y.2) q z:=by
 unfold ew mH
 by_cases d:cU b q<14∨(z:Int) - q<cU b q
 ·rw [aq d];exact dy (by decide) h1
 rw [al d]
 have ht:=@jo b (q+4) (q+(cU b q).toNat) (by omega) (by omega)
 match hx:text b (q+4) (q+(cU b q).toNat) with
 | .error (e,a)=>exact dy (ht.1 e a hx).1 (by have:=(ht.1 e a hx).2;omega)
 | .ok (s,x) =>
  have hy:q+4≤x∧x≤q+(cU b q).toNat:=ht.2 _ hx
  have hr:=hd x (q+(cU b q).toNat) 2 (by omega) (by omega)
  show nO (dc b x (q+(cU b q).toNat) 2) (fun y=>y.2) q z
  exact ⟨fun e a i=>⟨(hr.1 e a i).1,by have:=(hr.1 e a i).2;omega⟩,fun y i=>by have:=hr.2 y i;show q≤y.2∧y.2≤z;have h3:x≤y.2∧y.2≤q+(cU b q).toNat:=this;omega⟩
theorem nO.map {A B:Type} {X:Except E A} {Y:Except E B} {f:A→Nat} {g:B→Nat} {q z:Nat} (hX:nO X f q z) (he:∀e,X = .error e→Y = .error e) (ho:∀y,X = .ok y→∃w,Y = .ok w∧g w=f y):nO Y g q z:=by
 cases X with
 | error e=>rw [he e rfl];exact dy (hX.1 e.1 e.2 rfl).1 (hX.1 e.1 e.2 rfl).2
 | ok y=>obtain ⟨w,h,i⟩:=ho y rfl;rw [h];exact gG (by rw [i];exact hX.2 y rfl)
theorem qP (k:Int):fixed k≤16:=by
 unfold fixed
 repeat' split
 all_goals omega
theorem qp {k:Int}:gM k=true ↔ k=1∨k=9∨k=17∨k=18:=by unfold gM;exact decide_eq_true_iff
theorem ox {k:Int} (h:gM k=true∨k=16∨k=8):1≤fixed k∧fixed k≤8∧(k=8→fixed k=1):=by
 rcases h with h | h | h
 ·rcases qp.1 h with h | h | h | h <;> subst h <;> decide
 ·subst h;decide
 ·subst h;decide
theorem pR {dc:IY→Nat→Nat→Int→Except E (List bx × Nat)} {b:IY} (hd:FJ dc b) {k:Int} {q z:Nat} (h1:q≤z) (h2:z≤b.length):nO (eM dc b k q z) (fun y=>y.2) q z:=by
 unfold eM
 by_cases c:z - q<fixed k
 ·rw [aq c];exact dy (by decide) h1
 rw [al c]
 by_cases c1:gM k∨k=16∨k=8
 ·rw [aq c1]
  by_cases d:k=8∧1<gD (sub b q 1)
  ·rw [aq d];exact dy (by decide) h1
  ·rw [al d];exact gG ⟨Nat.le_add_right _ _,by show q+fixed k≤z;have:=ox c1;omega⟩
 rw [al c1]
 by_cases c2:k=19
 ·rw [aq c2];subst c2;have:fixed 19=16:=by decide
  exact gG ⟨Nat.le_add_right _ _,by show q+16≤z;omega⟩
 rw [al c2]
 by_cases c3:k=7
 ·rw [aq c3];subst c3;have:fixed 7=12:=by decide
  exact gG ⟨Nat.le_add_right _ _,by show q+12≤z;omega⟩
 rw [al c3];unfold xO
 by_cases c4:gF k
 ·rw [aq c4];exact (jo h1 h2).map (fun e i=>by rw [i]) (fun y i=>⟨_,by rw [i],rfl⟩)
 rw [al c4]
 by_cases c5:k=12
 ·rw [aq c5]
  have ht:=jo h1 h2
  match hx:text b q z with
  | .error (e,a)=>exact dy (ht.1 e a hx).1 (ht.1 e a hx).2
  | .ok (s,x) =>
   have hy:q≤x∧x≤z:=ht.2 _ hx
   show nO (if z - x<12 then _ else _) (fun y:Val × Nat=>y.2) q z
   by_cases c6:z - x<12
   ·rw [aq c6];exact dy (by decide) hy.2
   ·rw [al c6];exact gG ⟨by show q≤x+12;omega,by show x+12≤z;omega⟩
 rw [al c5]
 by_cases c6:k=11
 ·rw [aq c6]
  have ht:=jS h1 h2
  match hx:ended b q z with
  | .error (e,a)=>exact dy (ht.1 e a hx).1 (ht.1 e a hx).2
  | .ok (s,x) =>
   have hy:q≤x∧x≤z:=ht.2 _ hx
   have hu:=@jS b x z hy.2 h2
   match hv:ended b x z with
   | .error (e,a)=>show nO (match ended b x z with | .error e=>_ | .ok (m,y)=>_) (fun y:Val × Nat=>y.2) q z;rw [hv];exact dy (hu.1 e a hv).1 (hu.1 e a hv).2
   | .ok (m,y) =>
    have hw:x≤y∧y≤z:=hu.2 _ hv
    show nO (match ended b x z with | .error e=>_ | .ok (m,y)=>_) (fun y:Val × Nat=>y.2) q z;rw [hv];exact gG ⟨by show q≤y;omega,hw.2⟩
 rw [al c6]
 by_cases c7:k=5
 ·rw [aq c7]
  subst c7
  have:fixed 5=5:=by decide
  exact (nx (b:=b) (q:=q) (z:=z) (by omega) h2).map (fun e i=>by rw [i]) (fun y i=>⟨_,by rw [i],rfl⟩)
 rw [al c7];unfold xQ
 by_cases c8:k=3∨k=4
 ·rw [aq c8];exact (hd q z 0 h1 h2).map (fun e i=>by rw [i]) (fun y i=>⟨_,by rw [i],rfl⟩)
 rw [al c8]
 by_cases c9:k=15
 ·rw [aq c9];exact (nX hd h1 h2).map (fun e i=>by rw [i]) (fun y i=>⟨_,by rw [i],rfl⟩)
 rw [al c9];exact gG ⟨Nat.le_refl _,h1⟩
theorem tz {vl:Int→Nat→Nat→Except E (Val × Nat)} {b:IY} {z:Nat} (hz:z<b.length) (hv:∀k q,q≤z→nO (vl k q z) (fun y=>y.2) q z):∀(n:Nat) (a:Nat) (acc:List bx),a≤z→nO (rH vl b z n a acc) (fun y=>y.2) a (z+1)
 | 0,a,acc,ha=>dy (by decide) (by omega)
 | n+1,a,acc,ha=>by
  unfold rH
  by_cases c:a=z
  ·rw [aq c]
   by_cases d:b.getD z 0≠0
   ·rw [aq d];exact dy (by decide) (by omega)
   ·rw [al d];exact gG ⟨by show a≤z+1;omega,Nat.le_refl _⟩
  rw [al c]
  by_cases d:b.getD a 0=0
  ·rw [aq d];exact dy (by decide) (by omega)
  rw [al d]
  by_cases e:Tree.name ((b.getD a 0).toNat:Int)=[]
  ·rw [aq e];exact dy (by decide) (by omega)
  rw [al e]
  by_cases f:(ctext (b.take z) ((a:Int)+1)).2.2=0
  ·show nO (if (ctext (b.take z) ((a:Int)+1)).2.2≠0 then _ else _) (fun y:List bx × Nat=>y.2) a (z+1)
   rw [al (by simp [f])]
   obtain ⟨_,k,_,k2,_,k1,_⟩:=hO f
   rw [ay] at k2
   have hr:=hv ((b.getD a 0).toNat:Int) (ctext (b.take z) ((a:Int)+1)).2.1.toNat (by omega)
   match hx:vl ((b.getD a 0).toNat:Int) (ctext (b.take z) ((a:Int)+1)).2.1.toNat z with
   | .error (e,i)=>exact dy (hr.1 e i hx).1 (by have:=(hr.1 e i hx).2;omega)
   | .ok (v,x) =>
    have hy:(ctext (b.take z) ((a:Int)+1)).2.1.toNat≤x∧x≤z:=hr.2 _ hx
    have hq:=tz hz hv n x (acc++[bx.of (ctext (b.take z) ((a:Int)+1)).1 v]) hy.2
    refine ⟨hq.1,fun y i=>?_⟩
    have h3:x≤y.2∧y.2≤z+1:=hq.2 y i
    show a≤y.2∧y.2≤z+1
    omega
  ·show nO (if (ctext (b.take z) ((a:Int)+1)).2.2≠0 then _ else _) (fun y:List bx × Nat=>y.2) a (z+1)
   rw [aq f];exact dy f (by omega)
theorem jT (b:IY):∀d,FJ (doc d) b
 | 0=>fun p z fZ h1 h2=>dy (by decide) h1
 | d+1=>fun p z fZ h1 h2=>by
  unfold doc
  by_cases c:z - p<4
  ·rw [aq c];exact dy (by decide) h1
  rw [al c]
  generalize cU b p=n
  unfold wS
  by_cases e:n<5∨(z:Int) - p<n∨(fZ=2∧(p:Int)+n≠z)
  ·rw [aq e];exact dy (by decide) h1
  rw [al e]
  by_cases f:fZ=1∧(p:Int)+n<z
  ·rw [aq f];exact dy (by decide) (by omega)
  rw [al f]
  have hr:=@tz (eM (doc d) b) b (p+n.toNat - 1) (by omega) (fun k q hq=>pR (jT b d) hq (by omega)) n.toNat (p+4) [] (by omega)
  exact ⟨fun e a i=>⟨(hr.1 e a i).1,by have:=(hr.1 e a i).2;omega⟩,fun y i=>by have h3:p+4≤y.2∧y.2≤p+n.toNat - 1+1:=hr.2 y i;show p≤y.2∧y.2≤z;omega⟩
end Bs
end Go.Eng
set_option maxRecDepth 20000
namespace Go.Eng
open Go.IntWalk
theorem iW (n:Nat):UInt8.ofInt (n:Int)=UInt8.ofNat n:=by
 apply UInt8.toNat_inj.1
 rw [z8,UInt8.toNat_ofNat']
theorem Bp.goal (k n:Int) (hp:decide (1≤n∧n≤1099511627776)=true):Bp.F k n=some [.i .i64 (k % n)]:=by
 have h:=au hp
 refine Bp.cR _ _ ?_
 intro v1 e1
 have h1:=Int.tmod_lt_of_pos k (show 0<n by omega)
 have h2 : -n<Int.tmod k n:=by
  have:=Int.tmod_lt_of_pos (-k) (show 0<n by omega)
  rw [Int.neg_tmod] at this;omega
 have hv:v1=Int.tmod k n+n:=by rw [e1,i64_in _ (by omega)]
 rw [show (!decide (n=0))=true by simp;omega,eQ,eQ,hv]
 congr 3
 rw [Int.tmod_eq_emod_of_nonneg (by omega),Int.add_emod_right]
 have:=Int.emod_emod_of_dvd k (Int.dvd_refl n)
 rw [Int.tmod_eq_emod]
 split
 ·rw [show (((0:Nat):Int))=0 from rfl,Int.sub_zero];exact Int.emod_emod_of_dvd _ (Int.dvd_refl _)
 ·rw [show (n.natAbs:Int)=n by omega,Int.sub_emod,Int.emod_self,Int.sub_zero,Int.emod_emod_of_dvd _ (Int.dvd_refl _),Int.emod_emod_of_dvd _ (Int.dvd_refl _)]
theorem Jd.goal (k:Int):Jd.F k=some [.b (decide (k=3∨k=4∨k=15))]:=by
 refine Jd.cR _ ?_
 intro v1 h1 v2 h2
 simp only [aU,ba,eQ]
 congr 3
 rw [h2,h1]
 by_cases a:k=3 <;> by_cases b:k=4 <;> by_cases c:k=15 <;> simp [a,b,c]
theorem I0.fx (n:Nat) (v:Val) (hb:bx.cw v.kids<1099511627776) (hn:bx.cw v.kids<n):∀(m i d:Nat),i+m=v.kids.length→d≤1099511627776 →
  I0.l1 n d i v=some [.i .i64 ((max d (Tree.jJ (v.kids.drop i))+1:Nat):Int)]:=by
 have hlen:=bx.oD v.kids
 intro m
 induction m with
 | zero =>
  intro i d hi hd
  refine I0.fo _ _ _ _ ?_
  intro v1 h1 v2 h2 v3 h3 v4 h4 v5 h5
  rw [ab (by omega),af,aW (by omega),h5,i64_in _ (by omega)]
  simp [Tree.jJ]
 | succ m ih =>
  intro i d hi hd
  refine I0.fo _ _ _ _ ?_
  intro v1 h1 v2 h2 v3 h3 v4 h4 v5 h5
  rw [ar] at h2
  have hg:=bx.oE v.kids i (ez.iH .fl) (by omega)
  rw [←h2] at hg
  have hv:=bx.JK v2
  have K4:=Tree.J5 v2
  rw [aa (by omega),ao,bw (eT (by omega) (by omega)),aa (show bx.dk (bx.of [] v2.val)<n by omega),aa (show bx.dk (bx.of [] v2.val)≤1099511627776 by omega),bc,eQ,
   show v4=((i+1:Nat):Int) by rw [h4,i64_in _ (by omega)];omega,h3,Tree.uR,show yq (d:Int) (Tree.depth v2:Int)=((max d (Tree.depth v2):Nat):Int) by unfold yq;split <;> omega,ih _ _ (by omega) (by omega),drop_cons (l:=v.kids) (i:=i) (by omega) (ez.iH .fl),←h2,Tree.jJ,Nat.max_assoc]
theorem I0.goal (n:Nat) (v:Val) (hp:((decide (bx.dk (bx.of [] v)≤1099511627776))&&decide ((bx.dk (bx.of [] v))<n+1))=true):I0.F n v=some [.i .i64 (Tree.depth (bx.of [] v):Int)]:=by
 simp only [ae,aF] at hp
 obtain ⟨KY,hn⟩:=hp
 have BU:bx.cw v.kids<bx.dk (bx.of [] v):=by simp only [bx.of,bx.dk];omega
 have key:=I0.fx n v (by omega) (by omega) v.kids.length 0 0 (by omega) (by omega)
 rw [aY,Nat.zero_max] at key
 rw [I0.fh,Tree.wT]
 by_cases h:v.kind=3∨v.kind=4∨v.kind=15
 ·rw [aq h,aa h,aK,af];exact key
 ·rw [al h,ab h,aQ,ao];rfl
end Go.Eng
set_option maxRecDepth 20000
namespace Go.Eng
namespace Bs
def At (b:IY) (q:Nat) (w:IY):Prop:=(b.drop q).take w.length=w
theorem At.app {b:IY} {q:Nat} {x y:IY}:At b q (x++y) ↔ At b q x∧At b (q+x.length) y:=by
 unfold At
 rw [←List.prefix_iff_eq_take.trans eq_comm,←List.prefix_iff_eq_take.trans eq_comm,←List.prefix_iff_eq_take.trans eq_comm]
 constructor
 ·rintro ⟨t,h⟩
  refine ⟨⟨y++t,by rw [←h,aB]⟩,⟨t,?_⟩⟩
  rw [←List.drop_drop,←h,aB,List.drop_left]
 ·rintro ⟨⟨t,h⟩,⟨u,g⟩⟩
  rw [←List.drop_drop,←h,List.drop_left] at g
  exact ⟨u,by rw [←h,←g,aB]⟩
theorem At.sub {b:IY} {q n:Nat} {w:IY} (h:At b q w) (hn:w.length=n):sub b q n=w:=by subst hn;exact h
theorem kx {b:IY} {q n:Nat} {w:IY} (h:w=sub b q n):At b q w:=by
 subst h;unfold At sub
 rw [ay,aL,List.take_eq_take_iff,aL];omega
theorem gK {b:IY} {q n:Nat} (h:q+n≤b.length):(sub b q n).length=n:=by unfold sub;rw [ay,aL];omega
theorem at_one {b:IY} {i:Nat} {c:UInt8} (h:i<b.length):At b i [c] ↔ b.getD i 0=c:=by
 unfold At
 show List.take 1 (b.drop i)=[c] ↔ _
 rw [List.drop_eq_getElem_cons h,List.take_succ_cons,List.take_zero,ai,ah h,Option.getD_some,bj]
 exact ⟨fun h=>h.1,fun h=>⟨h,rfl⟩⟩
theorem s5:∀w:IY,ff w.length (gD w)=w
 | []=>rfl
 | c :: r=>by
  have hc:=c.toNat_lt
  show UInt8.ofNat ((c.toNat+256 * gD r) % 256) :: ff r.length ((c.toNat+256 * gD r) / 256)=c :: r
  rw [show (c.toNat+256 * gD r) % 256=c.toNat by omega,show (c.toNat+256 * gD r) / 256=gD r by omega,s5 r,UInt8.ofNat_toNat]
theorem s0:∀(n v:Nat),gD (ff n v)=v % 256 ^ n
 | 0,v=>by show 0=v % 1;omega
 | n+1,v=>by
  show (UInt8.ofNat (v % 256)).toNat+256 * gD (ff n (v / 256))=v % 256 ^ (n+1)
  rw [s0 n,UInt8.toNat_ofNat',show 256 ^ (n+1)=256 * 256 ^ n by rw [Nat.pow_succ,Nat.mul_comm],Nat.mod_mul]
  have:v % 256 % 2 ^ 8=v % 256:=Nat.mod_eq_of_lt (by omega)
  omega
theorem o7 {b:IY} {q n v:Nat} (h:At b q (ff n v)) (hv:v<256 ^ n):gD (sub b q n)=v:=by rw [h.sub (bU _ _),s0,Nat.mod_eq_of_lt hv]
theorem pF {b:IY} {q n:Nat} (h:q+n≤b.length):At b q (ff n (gD (sub b q n))):=kx (by
 have:=s5 (sub b q n)
 rwa [gK h] at this)
theorem jb {b:IY} {p v:Nat} (h:p+4≤b.length) (hv:v<2147483648):cU b p=(v:Int) ↔ At b p (ff 4 v):=by
 have hl:=oS b p
 constructor
 ·intro e
  have:vd b p=v:=by unfold cU at e;split at e <;> omega
  rw [←this];exact pF h
 ·intro e
  have:vd b p=v:=o7 e (by omega)
  unfold cU;rw [this,aq hv]
theorem mL {b:IY} {p:Nat} (h:p+4≤b.length) (h0:0≤cU b p):At b p (ff 4 (cU b p).toNat):=(jb h (by have:=ja b p;omega)).1 (by omega)
theorem iK {b:IY} {q z x:Nat} {s:IY} (h1:q≤z) (h2:z≤b.length) (h3:b.length≤1000000000):text b q z = .ok (s,x) ↔ x=q+(s.length+5)∧x≤z∧At b q (fC s)∧dp.whole s=true:=by
 unfold text fC
 constructor
 ·intro h
  by_cases c:z - q<4
  ·rw [aq c] at h;cases h
  rw [al c] at h;unfold pU at h
  by_cases d:cU b q<1∨(z:Int) - q - 4<cU b q
  ·rw [aq d] at h;cases h
  rw [al d] at h
  by_cases e:b.getD (q+4+(cU b q).toNat - 1) 0≠0
  ·rw [aq e] at h;cases h
  rw [al e] at h
  by_cases f:dp.whole ((b.drop (q+4)).take ((cU b q).toNat - 1))=false
  ·rw [aq f] at h;cases h
  rw [al f] at h
  have r4:=mL (b:=b) (p:=q) (by omega) (by omega)
  generalize cU b q=n at *
  have hl:(sub b (q+4) (n.toNat - 1)).length=n.toNat - 1:=gK (by omega)
  obtain ⟨g1,g2⟩:=Prod.mk.injEq .. ▸ Except.ok.inj h
  have g1:sub b (q+4) (n.toNat - 1)=s:=g1
  subst g1
  refine ⟨by omega,by omega,?_,by cases hw:dp.whole (sub b (q+4) (n.toNat - 1)) with
   | false=>exact absurd hw f
   | true=>rfl⟩
  rw [At.app,At.app,bU,hl]
  refine ⟨by rw [show n.toNat - 1+1=n.toNat by omega];exact r4,kx rfl,(at_one (by omega)).2 ?_⟩
  rw [show q+4+(n.toNat - 1)=q+4+n.toNat - 1 by omega];simpa using e
 ·rintro ⟨rfl,g2,g3,g4⟩
  rw [At.app,At.app,bU] at g3
  obtain ⟨g5,g6,g7⟩:=g3
  have e:=(jb (v:=s.length+1) (by omega) (by omega)).2 g5
  rw [al (by omega),e]
  unfold pU
  rw [al (by omega),ar,show q+4+(s.length+1) - 1=q+4+s.length by omega,al (by rw [(at_one (by omega)).1 g7];simp),show s.length+1 - 1=s.length by omega,show (b.drop (q+4)).take s.length=s from g6,al (by simp [g4])]
  rw [show q+4+(s.length+1)=q+(s.length+5) by omega]
theorem pO {s:IY}:dp.zero s=false ↔ ∀c∈s,c≠0:=by
 unfold dp.zero
 rw [List.contains_eq_mem,decide_eq_false_iff_not]
 exact ⟨fun h c hc e=>h (e ▸ hc),fun h e=>h 0 e rfl⟩
theorem gW {b:IY} {q z x:Nat} {s:IY} (h1:q≤z) (h2:z≤b.length):((ctext (b.take z) q).2.2=0∧(ctext (b.take z) q).1=s∧(ctext (b.take z) q).2.1=(x:Int)) ↔ x=q+(s.length+1)∧x≤z∧At b q (s++[0])∧dp.whole s=true∧dp.zero s=false:=by
 constructor
 ·rintro ⟨c,e1,e2⟩
  obtain ⟨_,k,_,k2,k3,k4,k5,k6,k7⟩:=hO c
  rw [ar] at k2 k3 k5 k6 k7
  rw [ay] at k2
  have hs:s=sub b q k:=by rw [←e1,k3,List.drop_take,List.take_take];unfold sub;congr 1;omega
  have hl:s.length=k:=by rw [hs];exact gK (by omega)
  refine ⟨by omega,by omega,?_,by rw [←e1,k3];exact k5,?_⟩
  ·rw [At.app,hl]
   refine ⟨kx hs,(at_one (by omega)).2 ?_⟩
   rw [aH,aq (by omega)] at k6
   rw [ai,k6];rfl
  ·rw [pO]
   intro c hc e
   obtain ⟨j,hj,HK⟩:=List.getElem_of_mem hc
   have:=k7 j (by omega)
   rw [aH,aq (by omega),←List.getElem?_drop] at this
   refine this ?_
   have h5:s[j]?=some 0:=by rw [ah hj,HK,e]
   rw [hs] at h5;unfold sub at h5
   rw [aH,aq (by omega)] at h5;exact h5
 ·rintro ⟨rfl,g2,g3,g4,g5⟩
  rw [At.app] at g3
  obtain ⟨g6,g7⟩:=g3
  have hd:((b.take z).drop q).take s.length=s:=by rw [List.drop_take,List.take_take,show min s.length (z - q)=s.length by omega];exact g6
  have hs:∀j,j<s.length→((b.take z).drop q)[j]?=s[j]?:=fun j hj=>by
   have:=congrArg (fun l=>l[j]?) hd
   rw [←this]
   show _=(List.take s.length _)[j]?
   rw [aH,aq hj]
  have h0:((b.take z).drop q)[s.length]?=some 0:=by
   rw [List.getElem?_drop,aH,aq (by omega)]
   have:=(at_one (by omega)).1 g7
   rw [ai,ah (by omega)] at this
   rw [ah (by omega)]
   exact congrArg some this
  have hx:¬Lib.indexByte ((b.take z).drop q) 0<0:=by
   intro h
   have:=fD 0 ((b.take z).drop q)
   rw [ab (by omega)] at this
   have h6:=az h0
   rw [List.contains_eq_mem,aa h6] at this
   cases this
  obtain ⟨k,k1,k2,k3,k4⟩:=wk hx
  have hk:k=s.length:=by
   refine Nat.le_antisymm (Nat.le_of_not_lt fun h=>k4 s.length h h0) (Nat.le_of_not_lt fun h=>?_)
   rw [hs k h] at k3
   exact pO.1 g5 0 (az k3) rfl
  unfold ctext
  rw [al (by rw [ay];omega),ar,al hx,k1,ar,hk,hd,al (by simp [g4])]
  exact ⟨rfl,rfl,by show (q:Int)+s.length+1=_;omega⟩
theorem py {b:IY} {q z x:Nat} {s:IY}:ended b q z = .ok (s,x) ↔ ((ctext (b.take z) q).2.2=0∧(ctext (b.take z) q).1=s∧(ctext (b.take z) q).2.1=(x:Int)):=by
 unfold ended
 by_cases c:(ctext (b.take z) q).2.2=0
 ·obtain ⟨_,k,_,_,_,k1,_⟩:=hO c
  rw [al (by simp [c])]
  constructor
  ·intro h
   obtain ⟨g1,g2⟩:=Prod.mk.injEq .. ▸ Except.ok.inj h
   exact ⟨c,g1,by have g2:(ctext (b.take z) q).2.1.toNat=x:=g2;omega⟩
  ·rintro ⟨_,rfl,g⟩
   rw [g,ar]
 ·rw [aq c]
  exact ⟨(fun h=>by cases h),fun h=>absurd h.1 c⟩
theorem ny {b:IY} {q z x:Nat} {s:Int} {y:IY} (h1:q+5≤z) (h2:z≤b.length) (h3:b.length≤1000000000):binary b q z = .ok (s,y,x) ↔ x=q+(if s=2 then y.length+9 else y.length+5)∧x≤z∧At b q (nL s y)∧0≤s∧s≤255:=by
 unfold binary yV nL
 have hc:=(b.getD (q+4) 0).toNat_lt
 constructor
 ·intro h
  by_cases d:cU b q<0∨(z:Int) - q - 5<cU b q
  ·rw [aq d] at h;cases h
  rw [al d] at h
  have r4:=mL (b:=b) (p:=q) (by omega) (by omega)
  have r1:At b (q+4) [b.getD (q+4) 0]:=(at_one (by omega)).2 rfl
  by_cases e:((b.getD (q+4) 0).toNat:Int)=2
  ·rw [aq e] at h
   by_cases f:cU b q<4∨cU b (q+5)≠cU b q - 4
   ·rw [aq f] at h;cases h
   rw [al f] at h
   have r5:=mL (b:=b) (p:=q+5) (by omega) (by omega)
   rw [show cU b (q+5)=cU b q - 4 by omega] at r5
   generalize cU b q=n at *
   have hl:(sub b (q+9) (n.toNat - 4)).length=n.toNat - 4:=gK (by omega)
   have h:=Except.ok.inj h
   simp only [Prod.mk.injEq] at h
   obtain ⟨g1,g2,g3⟩:=h
   have g2:sub b (q+9) (n.toNat - 4)=y:=g2
   subst g2
   have hs:s=2:=by omega
   subst hs
   rw [aq rfl,aq rfl,At.app,bU,←List.singleton_append,At.app,aD,At.app,bU,hl]
   have hu:b.getD (q+4) 0=UInt8.ofInt 2:=UInt8.toNat_inj.1 (by show _=2;omega)
   refine ⟨by omega,by omega,⟨by rw [show n.toNat - 4+4=n.toNat by omega];exact r4,hu ▸ r1,by rw [show n.toNat - 4=(n - 4).toNat by omega];exact r5,kx rfl⟩,by omega,by omega⟩
  ·rw [al e] at h
   generalize cU b q=n at *
   have hl:(sub b (q+5) n.toNat).length=n.toNat:=gK (by omega)
   have h:=Except.ok.inj h
   simp only [Prod.mk.injEq] at h
   obtain ⟨g1,g2,g3⟩:=h
   have g2:sub b (q+5) n.toNat=y:=g2
   subst g2
   have hs:¬s=2:=by omega
   rw [al hs,al hs,At.app,bU,←List.singleton_append,At.app,aD,hl]
   have hu:b.getD (q+4) 0=UInt8.ofInt s:=by rw [←g1,iW,UInt8.ofNat_toNat]
   exact ⟨by omega,by omega,⟨r4,hu ▸ r1,kx rfl⟩,by omega,by omega⟩
 ·rintro ⟨rfl,g2,g3,g4,g5⟩
  have hb:∀k:Nat,k=s.toNat→(UInt8.ofInt s).toNat=k:=fun k hk=>by
   obtain ⟨j,rfl⟩:∃j:Nat,s=(j:Int):=⟨s.toNat,by omega⟩
   rw [iW,UInt8.toNat_ofNat',hk,ar];exact Nat.mod_eq_of_lt (by omega)
  by_cases e:s=2
  ·subst e
   rw [aq rfl] at g2 g3 ⊢
   rw [At.app,bU,←List.singleton_append,At.app,aD,At.app,bU] at g3
   obtain ⟨g6,g7,g8,g9⟩:=g3
   have e1:=(jb (v:=y.length+4) (by omega) (by omega)).2 g6
   have e2:=(jb (v:=y.length) (by omega) (by omega)).2 g8
   have e3:=(at_one (by omega)).1 g7
   rw [show q+4+1=q+5 by omega] at e2 g9
   rw [e1,e3,al (by omega),hb 2 rfl,aq (by rfl),e2,al (by omega),ar,show y.length+4 - 4=y.length by omega,show (b.drop (q+9)).take y.length=y from g9,show q+5+(y.length+4)=q+(y.length+9) by omega];rfl
  ·rw [al e] at g2 g3 ⊢
   rw [At.app,bU,←List.singleton_append,At.app,aD] at g3
   obtain ⟨g6,g7,g9⟩:=g3
   have e1:=(jb (v:=y.length) (by omega) (by omega)).2 g6
   have e3:=(at_one (by omega)).1 g7
   rw [e1,e3,al (by omega),hb s.toNat rfl,al (by omega),ar,show (b.drop (q+5)).take y.length=y from g9,show ((s.toNat:Nat):Int)=s by omega,show q+5+y.length=q+(y.length+5) by omega]
end Bs
end Go.Eng
set_option maxRecDepth 20000
namespace Go.Eng
namespace Bs
mutual
def pn:bx→Bool
 | .mk n k b h l t m s y ks=>decide (Tree.oY ⟨k,b,h,l,t,m,s,y,ks⟩ n=0)&&fU ks
def fU:List bx→Bool
 | []=>true
 | f :: r=>pn f&&fU r
end
mutual
theorem Jz:∀(f:bx) (p:List Int),(Tree.hU f p).2=0 ↔ pn f=true
 | .mk n k b h l t m s y ks,p=>by
  unfold Tree.hU pn
  rw [ae,decide_eq_true_iff]
  by_cases c:Tree.oY ⟨k,b,h,l,t,m,s,y,ks⟩ n=0
  ·rw [al (by simp [c]),JE ks];exact ⟨fun h=>⟨c,h⟩,fun h=>h.2⟩
  ·rw [aq c];exact ⟨fun h=>absurd h c,fun h=>absurd h.1 c⟩
theorem JE:∀(l:List bx) (i:Nat) (p:List Int),(Tree.uX l i p).2=0 ↔ fU l=true
 | [],i,p=>by unfold Tree.uX fU;simp
 | f :: r,i,p=>by
  unfold Tree.uX fU
  rw [ae,←Jz f (p++[(i:Int)]),←JE r (i+1) p]
  by_cases c:(Tree.hU f (p++[(i:Int)])).2=0
  ·rw [al (by simp [c])];exact ⟨fun h=>⟨c,h⟩,fun h=>h.2⟩
  ·rw [aq c];exact ⟨fun h=>absurd h c,fun h=>absurd h.1 c⟩
end
theorem dz (v:Val):Tree.own v=0 ↔ Tree.name v.kind≠[]∧Tree.fieldsOK v=true∧Tree.dr v.text (decide (v.kind=11))=true∧Tree.dr v.more (decide (v.kind=11))=true:=by
 unfold Tree.own
 by_cases a:Tree.name v.kind=[]
 ·rw [aq a];exact ⟨fun h=>absurd h (by decide),fun h=>absurd a h.1⟩
 rw [al a]
 cases b:Tree.fieldsOK v with
 | false=>rw [aq rfl];exact ⟨fun h=>absurd h (by decide),fun h=>by cases h.2.1⟩
 | true =>
  rw [al (by simp)]
  cases c:Tree.dr v.text (decide (v.kind=11)) <;> cases d:Tree.dr v.more (decide (v.kind=11)) <;> simp [a]
theorem mj (n:IY) (v:Val):pn (bx.of n v)=true ↔ Tree.own v=0∧dp.whole n=true∧dp.zero n=false∧fU v.kids=true:=by
 show (decide (Tree.oY v n=0)&&fU v.kids)=true ↔ _
 rw [ae,decide_eq_true_iff]
 unfold Tree.oY Tree.dr
 by_cases a:Tree.own v=0
 ·rw [al (by simp [a])]
  cases dp.whole n <;> cases dp.zero n <;> simp [a]
 ·rw [aq a];exact ⟨fun h=>absurd h.1 a,fun h=>absurd h.1 a⟩
def vn (d:Nat) (b:IY) (k:Int) (q z:Nat) (v:Val) (x:Nat):Prop:=v.kind=k∧x=q+size (bx.of [] v)∧x≤z∧At b q (enc (bx.of [] v))∧Tree.own v=0∧fU v.kids=true∧Tree.depth (bx.of [] v)≤d
def Ix (d:Nat) (b:IY) (p z:Nat) (fZ:Int) (ks:List bx) (x:Nat):Prop:=x=p+(dC ks+5)∧x≤z∧(fZ=1∨fZ=2→x=z)∧At b p (iR ks)∧fU ks=true∧Tree.jJ ks+1≤d
abbrev Dc:=IY→Nat→Nat→Int→Except E (List bx × Nat)
theorem mO {A:Type} {c:Prop} [Decidable c] {e:E} {u w:A}:(if c then (.error e:Except E A) else .ok u) = .ok w ↔ ¬c∧u=w:=by
 by_cases h:c
 ·rw [aq h];exact ⟨(fun g=>by cases g),fun g=>absurd h g.1⟩
 ·rw [al h];exact ⟨fun g=>⟨h,Except.ok.inj g⟩,fun g=>by rw [g.2]⟩
theorem jX {dc:Dc} {b:IY} {d q z x:Nat} {v:Val} {k:Int} (hk:k=1∨k=9∨k=17∨k=18∨k=16∨k=8) (h1:q≤z) (h2:z≤b.length):eM dc b k q z = .ok (v,x) ↔ vn d b k q z v x:=by
 have e:eM dc b k q z=if z - q<fixed k then .error (2,q) else if k=8∧1<gD (sub b q 1) then .error (3,q) else .ok ({ cS k with bits:=UInt64.ofNat (gD (sub b q (fixed k))) },q+fixed k):=by
  unfold eM;rw [aq (show gM k∨k=16∨k=8 by rcases hk with h | h | h | h | h | h <;> subst h <;> decide)]
 have ev:∀w:Val,w.kind=k→Tree.own w=0→w={ cS k with bits:=w.bits }∧w.bits.toNat<256 ^ fixed k∧(k=8→w.bits.toNat<2):=by
  intro w hw ho
  obtain ⟨k',b',h',l',t',m',s',y',ka⟩:=w
  have hw:k'=k:=hw
  subst hw
  have hf:=((dz _).1 ho).2.1
  have hb:=b'.toNat_lt
  rcases hk with h | h | h | h | h | h <;> subst h <;> simp [Tree.fieldsOK,Tree.fu,aZ] at hf <;> simp [hf,cS,fixed,gM,gF] <;> omega
 have eo:∀u:UInt64,(k=16→u.toNat<4294967296)→(k=8→u.toNat<2)→Tree.own { cS k with bits:=u }=0:=by
  intro u g1 g2
  have hn:Tree.name k≠[]:=by rcases hk with h | h | h | h | h | h <;> subst h <;> decide
  refine (dz _).2 ⟨hn,?_,?_,?_⟩
  ·rcases hk with h | h | h | h | h | h <;> subst h <;> simp [Tree.fieldsOK,Tree.fu,aZ,cS] <;> simp at g1 g2 <;> omega
  ·rcases hk with h | h | h | h | h | h <;> subst h <;> rfl
  ·rcases hk with h | h | h | h | h | h <;> subst h <;> rfl
 have es:∀w:Val,w.kind=k→size (bx.of [] w)=fixed k∧enc (bx.of [] w)=ff (fixed k) w.bits.toNat∧Tree.depth (bx.of [] w)=0:=by
  intro w hw
  obtain ⟨k',b',h',l',t',m',s',y',ka⟩:=w
  have hw:k'=k:=hw
  subst hw
  rcases hk with h | h | h | h | h | h <;> subst h <;> exact ⟨rfl,rfl,rfl⟩
 have hf:1≤fixed k∧fixed k≤8∧(k=16→fixed k=4)∧(k=8→fixed k=1):=by rcases hk with h | h | h | h | h | h <;> subst h <;> decide
 rw [e]
 constructor
 ·intro h
  by_cases c:z - q<fixed k
  ·rw [aq c] at h;cases h
  rw [al c,mO] at h
  obtain ⟨c2,h⟩:=h
  have hl:=lu (sub b q (fixed k))
  rw [gK (by omega)] at hl
  have hp:256 ^ fixed k≤256 ^ 8:=Nat.pow_le_pow_right (by omega) hf.2.1
  have hu:(UInt64.ofNat (gD (sub b q (fixed k)))).toNat=gD (sub b q (fixed k)):=by rw [UInt64.toNat_ofNat'];exact Nat.mod_eq_of_lt (by omega)
  obtain ⟨rfl,rfl⟩:=Prod.mk.inj h
  obtain ⟨g1,g2,g3⟩:=es { cS k with bits:=UInt64.ofNat (gD (sub b q (fixed k))) } rfl
  refine ⟨rfl,by rw [g1],by omega,?_,eo _ (fun h=>?_) (fun h=>?_),rfl,by omega⟩
  ·rw [g2,hu];exact pF (by omega)
  ·rw [hu];rw [hf.2.2.1 h] at hl ⊢;exact hl
  ·rw [hu,hf.2.2.2 h];exact Nat.lt_of_not_le fun g=>c2 ⟨h,g⟩
 ·rintro ⟨g1,rfl,g3,g4,g5,g6,g7⟩
  obtain ⟨e1,e2,e3⟩:=es v g1
  obtain ⟨e4,e5,e6⟩:=ev v g1 g5
  rw [e1] at g3 ⊢
  rw [e2] at g4
  have hl:=o7 g4 e5
  rw [al (by omega),al (fun h=>by have:=e6 h.1;rw [hf.2.2.2 h.1] at hl;omega),hl,UInt64.ofNat_toNat,←e4]
theorem y8 {dc:Dc} {b:IY} {d q z x:Nat} {v:Val} (h1:q≤z) (h2:z≤b.length):eM dc b 19 q z = .ok (v,x) ↔ vn d b 19 q z v x:=by
 have e:eM dc b 19 q z=if z - q<16 then .error (2,q) else .ok ({ cS 19 with low:=UInt64.ofNat (gD (sub b q 8)),high:=UInt64.ofNat (gD (sub b (q+8) 8)) },q+16):=rfl
 rw [e,mO]
 constructor
 ·rintro ⟨c,h⟩
  obtain ⟨rfl,rfl⟩:=Prod.mk.inj h
  have hu:∀p,p+8≤b.length→(UInt64.ofNat (gD (sub b p 8))).toNat=gD (sub b p 8):=fun p hp=>by
   have:=lu (sub b p 8)
   rw [gK hp] at this
   rw [UInt64.toNat_ofNat'];exact Nat.mod_eq_of_lt this
  refine ⟨rfl,rfl,by omega,?_,?_,rfl,Nat.zero_le _⟩
  ·show At b q (ff 8 (UInt64.ofNat (gD (sub b q 8))).toNat++ff 8 (UInt64.ofNat (gD (sub b (q+8) 8))).toNat)
   rw [At.app,bU,hu q (by omega),hu (q+8) (by omega)]
   exact ⟨pF (by omega),pF (by omega)⟩
  ·refine (dz _).2 ⟨show Tree.name 19≠[] by decide,by simp [Tree.fieldsOK,Tree.fu,cS],by rfl,by rfl⟩
 ·rintro ⟨g1,rfl,g3,g4,g5,g6,g7⟩
  obtain ⟨k',b',h',l',t',m',s',y',ka⟩:=v
  have g1:k'=19:=g1
  subst g1
  have g3:q+16≤z:=g3
  have g4:At b q (ff 8 l'.toNat++ff 8 h'.toNat):=g4
  rw [At.app,bU] at g4
  have hf:=((dz _).1 g5).2.1
  simp [Tree.fieldsOK,Tree.fu] at hf
  refine ⟨by omega,?_⟩
  rw [o7 g4.1 l'.toNat_lt,o7 g4.2 h'.toNat_lt,UInt64.ofNat_toNat,UInt64.ofNat_toNat]
  simp [hf,cS];rfl
theorem By {dc:Dc} {b:IY} {d q z x:Nat} {v:Val} (h1:q≤z) (h2:z≤b.length):eM dc b 7 q z = .ok (v,x) ↔ vn d b 7 q z v x:=by
 have e:eM dc b 7 q z=if z - q<12 then .error (2,q) else .ok ({ cS 7 with bytes:=sub b q 12 },q+12):=rfl
 rw [e,mO]
 constructor
 ·rintro ⟨c,h⟩
  obtain ⟨rfl,rfl⟩:=Prod.mk.inj h
  have hl:(sub b q 12).length=12:=gK (by omega)
  refine ⟨rfl,rfl,by omega,kx rfl,?_,rfl,Nat.zero_le _⟩
  refine (dz _).2 ⟨show Tree.name 7≠[] by decide,by simp [Tree.fieldsOK,Tree.fu,cS,hl],by rfl,by rfl⟩
 ·rintro ⟨g1,rfl,g3,g4,g5,g6,g7⟩
  obtain ⟨k',b',h',l',t',m',s',y',ka⟩:=v
  have g1:k'=7:=g1
  subst g1
  have g3:q+12≤z:=g3
  have g4:At b q y':=g4
  have hf:=((dz _).1 g5).2.1
  simp [Tree.fieldsOK,Tree.fu] at hf
  refine ⟨by omega,?_⟩
  rw [g4.sub (by simp [hf])]
  simp [hf,cS];rfl
theorem nB {dc:Dc} {b:IY} {d q z x:Nat} {v:Val} {k:Int} (hk:k=2∨k=13∨k=14) (h1:q≤z) (h2:z≤b.length) (h3:b.length≤1000000000):eM dc b k q z = .ok (v,x) ↔ vn d b k q z v x:=by
 have e:eM dc b k q z=if z - q<4 then .error (2,q) else match text b q z with
  | .error e => .error e
  | .ok (s,x) => .ok ({ cS k with text:=s },x):=by rcases hk with h | h | h <;> subst h <;> rfl
 have eo:∀s:IY,Tree.own { cS k with text:=s }=0 ↔ dp.whole s=true:=by
  intro s
  rw [dz]
  have w0:dp.whole []=true:=rfl
  have hn:Tree.name k≠[]:=by rcases hk with h | h | h <;> subst h <;> decide
  rcases hk with h | h | h <;> subst h <;> simp [Tree.fieldsOK,Tree.fu,cS,Tree.dr,w0,hn]
 have es:∀w:Val,w.kind=k→size (bx.of [] w)=w.text.length+5∧enc (bx.of [] w)=fC w.text∧Tree.depth (bx.of [] w)=0:=by
  intro w hw
  obtain ⟨k',b',h',l',t',m',s',y',ka⟩:=w
  have hw:k'=k:=hw
  subst hw
  rcases hk with h | h | h <;> subst h <;> exact ⟨rfl,rfl,rfl⟩
 rw [e]
 constructor
 ·intro h
  by_cases c:z - q<4
  ·rw [aq c] at h;cases h
  rw [al c] at h
  cases ht:text b q z with
  | error e=>rw [ht] at h;cases h
  | ok y =>
   obtain ⟨s,x'⟩:=y
   rw [ht] at h
   obtain ⟨rfl,rfl⟩:=Prod.mk.inj (Except.ok.inj h)
   obtain ⟨g1,g2,g3,g4⟩:=(iK h1 h2 h3).1 ht
   obtain ⟨e1,e2,e3⟩:=es { cS k with text:=s } rfl
   exact ⟨rfl,by rw [e1];exact g1,g2,by rw [e2];exact g3,(eo s).2 g4,rfl,by omega⟩
 ·rintro ⟨g1,rfl,g3,g4,g5,g6,g7⟩
  obtain ⟨e1,e2,e3⟩:=es v g1
  rw [e1] at g3 ⊢
  rw [e2] at g4
  have ev:v={ cS k with text:=v.text }:=by
   obtain ⟨k',b',h',l',t',m',s',y',ka⟩:=v
   have g1:k'=k:=g1
   subst g1
   have hf:=((dz _).1 g5).2.1
   rcases hk with h | h | h <;> subst h <;> simp [Tree.fieldsOK,Tree.fu] at hf <;> simp [hf,cS]
  rw [ev] at g5
  rw [al (by omega),(iK (s:=v.text) h1 h2 h3).2 ⟨rfl,g3,g4,(eo _).1 g5⟩]
  exact congrArg (fun w=>Except.ok (w,q+(v.text.length+5))) ev.symm
theorem kW {dc:Dc} {b:IY} {d q z x:Nat} {v:Val} {k:Int} (hk:k=6∨k=10∨k=127∨k=255) (h1:q≤z):eM dc b k q z = .ok (v,x) ↔ vn d b k q z v x:=by
 have e:eM dc b k q z = .ok (cS k,q):=by
  have:fixed k=0:=by rcases hk with h | h | h | h <;> subst h <;> rfl
  unfold eM;rw [this,al (by omega)]
  rcases hk with h | h | h | h <;> subst h <;> rfl
 have es:∀w:Val,w.kind=k→size (bx.of [] w)=0∧enc (bx.of [] w)=[]∧Tree.depth (bx.of [] w)=0:=by
  intro w hw
  obtain ⟨k',b',h',l',t',m',s',y',ka⟩:=w
  have hw:k'=k:=hw
  subst hw
  rcases hk with h | h | h | h <;> subst h <;> exact ⟨rfl,rfl,rfl⟩
 rw [e]
 constructor
 ·intro h
  obtain ⟨rfl,rfl⟩:=Prod.mk.inj (Except.ok.inj h)
  obtain ⟨e1,e2,e3⟩:=es (cS k) rfl
  refine ⟨rfl,by rw [e1];rfl,h1,by rw [e2];rfl,?_,rfl,by omega⟩
  rcases hk with h | h | h | h <;> subst h <;> decide
 ·rintro ⟨g1,rfl,g3,g4,g5,g6,g7⟩
  rw [(es v g1).1]
  obtain ⟨k',b',h',l',t',m',s',y',ka⟩:=v
  have g1:k'=k:=g1
  subst g1
  have hf:=((dz _).1 g5).2.1
  rcases hk with h | h | h | h <;> subst h <;> simp [Tree.fieldsOK,Tree.fu] at hf <;> simp [hf,cS]
end Bs
end Go.Eng
set_option maxRecDepth 20000
namespace Go.Eng
namespace Bs
theorem y7 {dc:Dc} {b:IY} {d q z x:Nat} {v:Val} (h1:q≤z) (h2:z≤b.length) (h3:b.length≤1000000000):eM dc b 12 q z = .ok (v,x) ↔ vn d b 12 q z v x:=by
 have e:eM dc b 12 q z=if z - q<4 then .error (2,q) else match text b q z with
  | .error e => .error e
  | .ok (s,x)=>if z - x<12 then .error (2,x) else .ok ({ cS 12 with text:=s,bytes:=sub b x 12 },x+12):=rfl
 have eo:∀s y:IY,Tree.own { cS 12 with text:=s,bytes:=y }=0 ↔ dp.whole s=true∧y.length=12:=by
  intro s y
  rw [dz]
  have w0:dp.whole []=true:=rfl
  have hn:Tree.name 12≠[]:=by decide
  simp [Tree.fieldsOK,Tree.fu,cS,Tree.dr,w0,hn,and_comm]
 rw [e]
 constructor
 ·intro h
  by_cases c:z - q<4
  ·rw [aq c] at h;cases h
  rw [al c] at h
  cases ht:text b q z with
  | error e=>rw [ht] at h;cases h
  | ok y =>
   obtain ⟨s,x'⟩:=y
   rw [ht] at h
   obtain ⟨c2,h⟩:=mO.1 h
   obtain ⟨rfl,rfl⟩:=Prod.mk.inj h
   obtain ⟨rfl,g2,g3,g4⟩:=(iK h1 h2 h3).1 ht
   have hl:(sub b (q+(s.length+5)) 12).length=12:=gK (by omega)
   refine ⟨rfl,?_,by omega,?_,(eo s _).2 ⟨g4,hl⟩,rfl,Nat.zero_le _⟩
   ·show _=q+(s.length+17);omega
   ·show At b q (fC s++sub b (q+(s.length+5)) 12)
    rw [At.app,fB];exact ⟨g3,kx rfl⟩
 ·rintro ⟨g1,rfl,g3,g4,g5,g6,g7⟩
  obtain ⟨k',b',h',l',t',m',s',y',ka⟩:=v
  have g1:k'=12:=g1
  subst g1
  have g3:q+(t'.length+17)≤z:=g3
  have g4:At b q (fC t'++y'):=g4
  rw [At.app,fB] at g4
  have hf:=((dz _).1 g5).2.1
  have hw:=((dz _).1 g5).2.2.1
  simp [Tree.fieldsOK,Tree.fu] at hf
  simp [Tree.dr] at hw
  rw [al (by omega),(iK (s:=t') h1 h2 h3).2 ⟨rfl,by omega,g4.1,hw⟩]
  show (if z - (q+(t'.length+5))<12 then _ else _)=_
  rw [al (by omega),g4.2.sub (by simp [hf])]
  simp [hf,cS];rfl
theorem Bx {dc:Dc} {b:IY} {d q z x:Nat} {v:Val} (h1:q≤z) (h2:z≤b.length):eM dc b 11 q z = .ok (v,x) ↔ vn d b 11 q z v x:=by
 have e:eM dc b 11 q z=if z - q<0 then .error (2,q) else match ended b q z with
  | .error e => .error e
  | .ok (s,x)=>match ended b x z with
   | .error e => .error e
   | .ok (m,y) => .ok ({ cS 11 with text:=s,more:=m },y):=rfl
 have eo:∀s m:IY,Tree.own { cS 11 with text:=s,more:=m }=0 ↔ (dp.whole s=true∧dp.zero s=false)∧(dp.whole m=true∧dp.zero m=false):=by
  intro s m
  rw [dz]
  have hn:Tree.name 11≠[]:=by decide
  simp [Tree.fieldsOK,Tree.fu,cS,Tree.dr,hn]
 rw [e,al (by omega)]
 constructor
 ·intro h
  cases ht:ended b q z with
  | error e=>rw [ht] at h;cases h
  | ok y =>
   obtain ⟨s,x'⟩:=y
   rw [ht] at h
   obtain ⟨rfl,g2,g3,g4⟩:=(gW h1 h2).1 (py.1 ht)
   have h:(match ended b (q+(s.length+1)) z with
    | .error e => .error e
    | .ok (m,y) => .ok ({ cS 11 with text:=s,more:=m },y))=Except.ok (v,x):=h
   cases hu:ended b (q+(s.length+1)) z with
   | error e=>rw [hu] at h;cases h
   | ok y =>
    obtain ⟨m,y'⟩:=y
    rw [hu] at h
    obtain ⟨rfl,rfl⟩:=Prod.mk.inj (Except.ok.inj h)
    obtain ⟨rfl,i2,i3,i4⟩:=(gW g2 h2).1 (py.1 hu)
    refine ⟨rfl,?_,i2,?_,(eo s m).2 ⟨g4,i4⟩,rfl,Nat.zero_le _⟩
    ·show _=q+(s.length+m.length+2);omega
    ·show At b q ((s++[0])++(m++[0]))
     rw [At.app]
     refine ⟨g3,?_⟩
     rw [ak,aD];exact i3
 ·rintro ⟨g1,rfl,g3,g4,g5,g6,g7⟩
  obtain ⟨k',b',h',l',t',m',s',y',ka⟩:=v
  have g1:k'=11:=g1
  subst g1
  have g3:q+(t'.length+m'.length+2)≤z:=g3
  have g4:At b q ((t'++[0])++(m'++[0])):=g4
  rw [At.app,ak,aD] at g4
  have hf:=((dz _).1 g5).2.1
  have hw:=((dz _).1 g5).2.2
  simp [Tree.fieldsOK,Tree.fu] at hf
  simp [Tree.dr] at hw
  rw [py.2 ((gW (s:=t') h1 h2).2 ⟨rfl,by omega,g4.1,hw.1⟩)]
  show (match ended b (q+(t'.length+1)) z with | .error e=>_ | .ok (m,y)=>_)=_
  rw [py.2 ((gW (s:=m') (q:=q+(t'.length+1)) (by omega) h2).2 ⟨rfl,by omega,g4.2,hw.2⟩)]
  show Except.ok _=Except.ok _
  rw [show q+(t'.length+1)+(m'.length+1)=q+(t'.length+m'.length+2) by omega]
  simp [hf,cS];rfl
theorem y9 {dc:Dc} {b:IY} {d q z x:Nat} {v:Val} (h1:q≤z) (h2:z≤b.length) (h3:b.length≤1000000000):eM dc b 5 q z = .ok (v,x) ↔ vn d b 5 q z v x:=by
 have e:eM dc b 5 q z=if z - q<5 then .error (2,q) else match binary b q z with
  | .error e => .error e
  | .ok (s,y,x) => .ok ({ cS 5 with sub:=s,bytes:=y },x):=rfl
 have eo:∀(s:Int) (y:IY),Tree.own { cS 5 with sub:=s,bytes:=y }=0 ↔ 0≤s∧s≤255:=by
  intro s y
  rw [dz]
  have w0:dp.whole []=true:=rfl
  have hn:Tree.name 5≠[]:=by decide
  simp [Tree.fieldsOK,Tree.fu,cS,Tree.dr,w0,hn]
 rw [e]
 by_cases c:z - q<5
 ·rw [aq c]
  refine ⟨(fun h=>by cases h),?_⟩
  rintro ⟨g1,rfl,g3,g4,g5,g6,g7⟩
  obtain ⟨k',b',h',l',t',m',s',y',ka⟩:=v
  have g1:k'=5:=g1
  subst g1
  have g3:q+(if s'=2 then y'.length+9 else y'.length+5)≤z:=g3
  split at g3 <;> omega
 rw [al c]
 constructor
 ·intro h
  cases ht:binary b q z with
  | error e=>rw [ht] at h;cases h
  | ok y =>
   obtain ⟨s,y,x'⟩:=y
   rw [ht] at h
   obtain ⟨rfl,rfl⟩:=Prod.mk.inj (Except.ok.inj h)
   obtain ⟨g1,g2,g3,g4⟩:=(ny (by omega) h2 h3).1 ht
   exact ⟨rfl,g1,g2,g3,(eo s y).2 g4,rfl,Nat.zero_le _⟩
 ·rintro ⟨g1,rfl,g3,g4,g5,g6,g7⟩
  obtain ⟨k',b',h',l',t',m',s',y',ka⟩:=v
  have g1:k'=5:=g1
  subst g1
  have hf:=((dz _).1 g5).2.1
  simp [Tree.fieldsOK,Tree.fu] at hf
  rw [(ny (s:=s') (y:=y') (by omega) h2 h3).2 ⟨rfl,g3,g4,by omega,by omega⟩]
  simp [hf,cS];rfl
def zk (dc:Dc) (d:Nat) (b:IY):Prop:=∀p z fZ ks x,p≤z→z≤b.length→(dc b p z fZ = .ok (ks,x) ↔ Ix d b p z fZ ks x)
theorem tG {dc:Dc} {b:IY} {d q z x:Nat} {v:Val} {k:Int} (hk:k=3∨k=4) (hd:zk dc d b) (h1:q≤z) (h2:z≤b.length):eM dc b k q z = .ok (v,x) ↔ vn d b k q z v x:=by
 have e:eM dc b k q z=if z - q<0 then .error (2,q) else match dc b q z 0 with
  | .error e => .error e
  | .ok (l,x) => .ok ({ cS k with kids:=l },x):=by rcases hk with h | h <;> subst h <;> rfl
 have eo:∀l,Tree.own { cS k with kids:=l }=0:=by
  intro l
  have hn:Tree.name k≠[]:=by rcases hk with h | h <;> subst h <;> decide
  refine (dz _).2 ⟨hn,?_,?_,?_⟩
  ·rcases hk with h | h <;> subst h <;> simp [Tree.fieldsOK,Tree.fu,cS]
  ·rcases hk with h | h <;> subst h <;> rfl
  ·rcases hk with h | h <;> subst h <;> rfl
 have es:∀w:Val,w.kind=k→size (bx.of [] w)=dC w.kids+5∧enc (bx.of [] w)=iR w.kids∧Tree.depth (bx.of [] w)=Tree.jJ w.kids+1:=by
  intro w hw
  obtain ⟨k',b',h',l',t',m',s',y',ka⟩:=w
  have hw:k'=k:=hw
  subst hw
  rcases hk with h | h <;> subst h <;> exact ⟨rfl,rfl,rfl⟩
 rw [e,al (by omega)]
 constructor
 ·intro h
  cases ht:dc b q z 0 with
  | error e=>rw [ht] at h;cases h
  | ok y =>
   obtain ⟨l,x'⟩:=y
   rw [ht] at h
   obtain ⟨rfl,rfl⟩:=Prod.mk.inj (Except.ok.inj h)
   obtain ⟨g1,g2,g3,g4,g5,g6⟩:=(hd q z 0 l x' h1 h2).1 ht
   obtain ⟨e1,e2,e3⟩:=es { cS k with kids:=l } rfl
   exact ⟨rfl,by rw [e1];exact g1,g2,by rw [e2];exact g4,eo l,g5,by rw [e3];exact g6⟩
 ·rintro ⟨g1,rfl,g3,g4,g5,g6,g7⟩
  obtain ⟨e1,e2,e3⟩:=es v g1
  rw [e1] at g3 ⊢
  rw [e2] at g4
  rw [e3] at g7
  rw [(hd q z 0 v.kids (q+(dC v.kids+5)) h1 h2).2 ⟨rfl,g3,by omega,g4,g6,g7⟩]
  have ev:v={ cS k with kids:=v.kids }:=by
   obtain ⟨k',b',h',l',t',m',s',y',ka⟩:=v
   have g1:k'=k:=g1
   subst g1
   have hf:=((dz _).1 g5).2.1
   rcases hk with h | h <;> subst h <;> simp [Tree.fieldsOK,Tree.fu] at hf <;> simp [hf,cS]
  exact congrArg (fun w=>Except.ok (w,q+(dC v.kids+5))) ev.symm
theorem nn (l:List bx):(iR l).length=(dS l).length+5:=gw _
theorem vb {dc:Dc} {b:IY} {d q z x:Nat} {v:Val} (hd:zk dc d b) (hL:∀l,fU l=true→(dS l).length=dC l) (h1:q≤z) (h2:z≤b.length) (h3:b.length≤1000000000):eM dc b 15 q z = .ok (v,x) ↔ vn d b 15 q z v x:=by
 have e:eM dc b 15 q z=if z - q<4 then .error (2,q) else match (ew dc b q z).2 with
  | .error e => .error e
  | .ok (l,x) => .ok ({ cS 15 with text:=(ew dc b q z).1,kids:=l },x):=rfl
 have eo:∀(s:IY) l,Tree.own { cS 15 with text:=s,kids:=l }=0 ↔ dp.whole s=true:=by
  intro s l
  rw [dz]
  have w0:dp.whole []=true:=rfl
  have hn:Tree.name 15≠[]:=by decide
  simp [Tree.fieldsOK,Tree.fu,cS,Tree.dr,w0,hn]
 rw [e]
 constructor
 ·intro h
  by_cases c:z - q<4
  ·rw [aq c] at h;cases h
  rw [al c] at h
  unfold ew mH at h
  by_cases c2:cU b q<14∨(z:Int) - q<cU b q
  ·rw [aq c2] at h;cases h
  rw [al c2] at h
  have r4:=mL (b:=b) (p:=q) (by omega) (by omega)
  generalize cU b q=n at *
  cases ht:text b (q+4) (q+n.toNat) with
  | error e=>rw [ht] at h;cases h
  | ok y =>
   obtain ⟨s,y⟩:=y
   rw [ht] at h
   obtain ⟨g1,g2,g3,g4⟩:=(iK (by omega) (by omega) h3).1 ht
   have h:(match dc b y (q+n.toNat) 2 with
    | .error e => .error e
    | .ok (l,x) => .ok ({ cS 15 with text:=s,kids:=l },x))=Except.ok (v,x):=h
   cases hu:dc b y (q+n.toNat) 2 with
   | error e=>rw [hu] at h;cases h
   | ok w =>
    obtain ⟨l,x'⟩:=w
    rw [hu] at h
    obtain ⟨rfl,rfl⟩:=Prod.mk.inj (Except.ok.inj h)
    obtain ⟨i1,i2,i3,i4,i5,i6⟩:=(hd y (q+n.toNat) 2 l x' g2 (by omega)).1 hu
    have i3:=i3 (.inr rfl)
    have hl:=hL l i5
    refine ⟨rfl,?_,by omega,?_,(eo s l).2 g4,i5,i6⟩
    ·show _=q+(s.length+9+(dC l+5));omega
    ·show At b q (ff 4 ((fC s++ib (dS l)).length+4)++(fC s++ib (dS l)))
     rw [At.app,bU,At.app,ak,fB,gw,show s.length+5+((dS l).length+5)+4=n.toNat by omega]
     exact ⟨r4,g3,by rw [←g1];exact i4⟩
 ·rintro ⟨g1,rfl,g3,g4,g5,g6,g7⟩
  obtain ⟨k',b',h',l',t',m',s',y',ka⟩:=v
  have g1:k'=15:=g1
  subst g1
  have g3:q+(t'.length+9+(dC ka+5))≤z:=g3
  have g6:fU ka=true:=g6
  have g4:At b q (ff 4 ((fC t'++ib (dS ka)).length+4)++(fC t'++ib (dS ka))):=g4
  have hl:=hL ka g6
  rw [At.app,bU,At.app,ak,fB,gw,hl] at g4
  obtain ⟨i1,i2,i3⟩:=g4
  have hf:=((dz _).1 g5).2.1
  have hw:=((dz _).1 g5).2.2.1
  simp [Tree.fieldsOK,Tree.fu] at hf
  simp [Tree.dr] at hw
  have e1:=(jb (v:=t'.length+5+(dC ka+5)+4) (by omega) (by omega)).2 i1
  have es:ew dc b q z=(t',.ok (ka,q+(t'.length+9+(dC ka+5)))):=by
   unfold ew mH
   rw [e1,al (by omega),ar,(iK (s:=t') (q:=q+4) (by omega) (by omega) h3).2 ⟨rfl,by omega,i2,hw⟩]
   show (t',dc b (q+4+(t'.length+5)) (q+(t'.length+5+(dC ka+5)+4)) 2)=_
   rw [(hd (q+4+(t'.length+5)) (q+(t'.length+5+(dC ka+5)+4)) 2 ka (q+(t'.length+9+(dC ka+5))) (by omega) (by omega)).2 ⟨by omega,by omega,fun _=>by omega,i3,g6,g7⟩]
  rw [al (by omega),es]
  simp [hf,cS];rfl
theorem mX {k:Int} (h:Tree.name k≠[]):k∈Tree.kinds:=Classical.byContradiction fun g=>h (Tree.um k g)
theorem vo {dc:Dc} {b:IY} {d:Nat} (hd:zk dc d b) (hL:∀l,fU l=true→(dS l).length=dC l) {q z x:Nat} {v:Val} {k:Int} (hk:Tree.name k≠[]) (h1:q≤z) (h2:z≤b.length) (h3:b.length≤1000000000):eM dc b k q z = .ok (v,x) ↔ vn d b k q z v x:=by
 have h:=mX hk
 simp only [Tree.kinds,aC,List.not_mem_nil,or_false] at h
 rcases h with h | h | h | h | h | h | h | h | h | h | h | h | h | h | h | h | h | h | h | h | h
 ·exact jX (.inl h) h1 h2
 ·exact nB (.inl h) h1 h2 h3
 ·exact tG (.inl h) hd h1 h2
 ·exact tG (.inr h) hd h1 h2
 ·subst h;exact y9 h1 h2 h3
 ·exact kW (.inl h) h1
 ·subst h;exact By h1 h2
 ·exact jX (.inr (.inr (.inr (.inr (.inr h))))) h1 h2
 ·exact jX (.inr (.inl h)) h1 h2
 ·exact kW (.inr (.inl h)) h1
 ·subst h;exact Bx h1 h2
 ·subst h;exact y7 h1 h2 h3
 ·exact nB (.inr (.inl h)) h1 h2 h3
 ·exact nB (.inr (.inr h)) h1 h2 h3
 ·subst h;exact vb hd hL h1 h2 h3
 ·exact jX (.inr (.inr (.inr (.inr (.inl h))))) h1 h2
 ·exact jX (.inr (.inr (.inl h))) h1 h2
 ·exact jX (.inr (.inr (.inr (.inl h)))) h1 h2
 ·subst h;exact y8 h1 h2
 ·exact kW (.inr (.inr (.inl h))) h1
 ·exact kW (.inr (.inr (.inr h))) h1
end Bs
end Go.Eng
set_option maxRecDepth 20000
namespace Go.Eng
namespace Bs
mutual
theorem pz:∀f:bx,pn f=true→(enc f).length=size f
 | .mk n k b h l t m s y ks,hg=>by
  obtain ⟨ho,_,_,BU⟩:=(mj n ⟨k,b,h,l,t,m,s,y,ks⟩).1 hg
  have hy:k=7∨k=12→y.length=12:=by
   have hf:=((dz _).1 ho).2.1
   rintro (g | g) <;> subst g <;> simp [Tree.fieldsOK,Tree.fu] at hf <;> simp [hf]
  have hl:=gu ks BU
  unfold enc size
  by_cases c:gM k=true
  ·rw [aq c,aq c];exact bU _ _
  rw [al c,al c]
  by_cases c:k=16
  ·rw [aq c,aq c];exact bU _ _
  rw [al c,al c]
  by_cases c:k=8
  ·rw [aq c,aq c];exact bU _ _
  rw [al c,al c]
  by_cases c:k=19
  ·rw [aq c,aq c,ak,bU,bU]
  rw [al c,al c]
  by_cases c:gF k=true
  ·rw [aq c,aq c];exact fB _
  rw [al c,al c]
  by_cases c:k=11
  ·rw [aq c,aq c];simp only [ak,aD];omega
  rw [al c,al c]
  by_cases c:k=5
  ·rw [aq c,aq c];unfold nL;split <;> simp only [ak,aJ,bU] <;> omega
  rw [al c,al c]
  by_cases c:k=7
  ·rw [aq c,aq c];exact hy (.inl c)
  rw [al c,al c]
  by_cases c:k=12
  ·rw [aq c,aq c,ak,fB,hy (.inr c)]
  rw [al c,al c]
  by_cases c:k=3∨k=4
  ·rw [aq c,aq c,gw,hl]
  rw [al c,al c]
  by_cases c:k=15
  ·rw [aq c,aq c];unfold nM;rw [ak,bU,ak,fB,gw,hl];omega
  rw [al c,al c];rfl
theorem gu:∀l:List bx,fU l=true→(dS l).length=dC l
 | [],_=>rfl
 | f :: r,hg=>by
  have hg:(pn f&&fU r)=true:=hg
  rw [ae] at hg
  unfold dS dC
  have:=pz f hg.1
  have:=gu r hg.2
  simp only [aJ,ak,aM];omega
end
theorem sd (f:bx):bx.of f.name f.val=f:=by cases f;rfl
theorem Bg (n:IY) (v:Val):enc (bx.of n v)=enc (bx.of [] v):=by cases v;simp only [bx.of,enc]
theorem xW (n:IY) (v:Val):size (bx.of n v)=size (bx.of [] v):=by cases v;simp only [bx.of,size]
theorem wT (n:IY) (v:Val):Tree.depth (bx.of n v)=Tree.depth (bx.of [] v):=by cases v;simp only [bx.of,Tree.depth]
theorem Dg {k:Int} (h:Tree.name k≠[]):((UInt8.ofInt k).toNat:Int)=k∧UInt8.ofInt k≠0:=by
 have:∀k∈Tree.kinds,((UInt8.ofInt k).toNat:Int)=k∧UInt8.ofInt k≠0:=by decide
 exact this k (mX h)
theorem GD {b:IY} {p:Nat} {c:UInt8} {s e r:IY}:At b p ([c]++((s++[0])++e++r)) ↔ At b p [c]∧At b (p+1) (s++[0])∧At b (p+1+(s.length+1)) e∧At b (p+1+(s.length+1)+e.length) r:=by
 rw [At.app,At.app,At.app]
 simp only [ak,aJ,aM,Nat.zero_add,and_assoc,Nat.add_assoc]
theorem mu {vl:Int→Nat→Nat→Except E (Val × Nat)} {b:IY} {d z:Nat} (hz:z<b.length) (hv:∀k q v x,Tree.name k≠[]→q≤z→(vl k q z = .ok (v,x) ↔ vn d b k q z v x)) :
  ∀(n at_:Nat) (acc l:List bx) (y:Nat),at_≤z→z - at_<n→(rH vl b z n at_ acc = .ok (l,y) ↔ y=z+1∧b.getD z 0=0∧∃r,l=acc++r∧z=at_+(dS r).length∧At b at_ (dS r)∧fU r=true∧Tree.jJ r≤d)
 | 0,at_,acc,l,y,h1,h2=>by omega
 | n+1,at_,acc,l,y,h1,h2=>by
  unfold rH
  by_cases c:at_=z
  ·rw [aq c,mO]
   constructor
   ·rintro ⟨g1,g2⟩
    obtain ⟨rfl,rfl⟩:=Prod.mk.inj g2
    exact ⟨rfl,by simpa using g1,[],by simp,by simp [dS,c],rfl,rfl,Nat.zero_le _⟩
   ·rintro ⟨rfl,g2,r,rfl,g4,g5,g6,g7⟩
    have:r=[]:=by
     cases r with
     | nil=>rfl
     | cons f r=>simp only [dS,aJ] at g4;omega
    subst this
    exact ⟨by simpa using g2,by simp⟩
  rw [al c]
  have CY:((at_:Int)+1)=((at_+1:Nat):Int):=by omega
  show (if b.getD at_ 0=0 then _ else if Tree.name ((b.getD at_ 0).toNat:Int)=[] then _ else if (ctext (b.take z) ((at_:Int)+1)).2.2≠0 then _ else match vl ((b.getD at_ 0).toNat:Int) (ctext (b.take z) ((at_:Int)+1)).2.1.toNat z with
   | .error e => .error e
   | .ok (v,x)=>rH vl b z n x (acc++[bx.of (ctext (b.take z) ((at_:Int)+1)).1 v]))=Except.ok (l,y) ↔ _
  rw [CY]
  constructor
  ·intro h
   by_cases c1:b.getD at_ 0=0
   ·rw [aq c1] at h;cases h
   rw [al c1] at h
   by_cases c2:Tree.name ((b.getD at_ 0).toNat:Int)=[]
   ·rw [aq c2] at h;cases h
   rw [al c2] at h
   by_cases c3:(ctext (b.take z) ((at_+1:Nat):Int)).2.2≠0
   ·rw [aq c3] at h;cases h
   rw [al c3] at h
   have c3:(ctext (b.take z) ((at_+1:Nat):Int)).2.2=0:=Classical.byContradiction c3
   have IC:0≤(ctext (b.take z) ((at_+1:Nat):Int)).2.1:=by
    obtain ⟨_,k,_,_,_,k1,_⟩:=hO c3;omega
   obtain ⟨g1,g2,g3,g4,g5⟩:=(gW (s:=(ctext (b.take z) ((at_+1:Nat):Int)).1) (x:=(ctext (b.take z) ((at_+1:Nat):Int)).2.1.toNat) (by omega) (by omega)).1 ⟨c3,rfl,by omega⟩
   generalize (ctext (b.take z) ((at_+1:Nat):Int)).1=s at *
   generalize (ctext (b.take z) ((at_+1:Nat):Int)).2.1.toNat=x0 at *
   cases hx:vl ((b.getD at_ 0).toNat:Int) x0 z with
   | error e=>rw [hx] at h;cases h
   | ok w =>
    obtain ⟨v,x⟩:=w
    rw [hx] at h
    obtain ⟨i1,i2,i3,i4,i5,i6,i7⟩:=(hv _ x0 v x c2 g2).1 hx
    obtain ⟨j1,j2,r,j3,j4,j5,j6,j7⟩:=(mu hz hv n x _ l y i3 (by omega)).1 h
    have hg:pn (bx.of s v)=true:=(mj s v).2 ⟨i5,g4,g5,i6⟩
    have hl:=pz (bx.of s v) hg
    rw [xW] at hl
    refine ⟨j1,j2,bx.of s v :: r,by rw [j3,aB];rfl,?_,?_,?_,?_⟩
    ·simp only [dS,aJ,ak]
     rw [hl,show (bx.of s v).name=s from rfl];simp only [aM];omega
    ·show At b at_ ([UInt8.ofInt v.kind]++((s++[0])++enc (bx.of s v)++dS r))
     rw [GD,hl]
     refine ⟨(at_one (by omega)).2 ?_,g3,?_,?_⟩
     ·rw [i1,iW,UInt8.ofNat_toNat]
     ·rw [←g1,Bg];exact i4
     ·rw [show at_+1+(s.length+1)+size (bx.of [] v)=x by omega];exact j5
    ·show (pn (bx.of s v)&&fU r)=true
     rw [hg,j6];rfl
    ·show max (Tree.depth (bx.of s v)) (Tree.jJ r)≤d
     rw [wT];omega
  ·rintro ⟨rfl,g2,r,rfl,g4,g5,g6,g7⟩
   cases r with
   | nil=>simp only [dS,aM] at g4;omega
   | cons f r =>
    have g6:(pn f&&fU r)=true:=g6
    rw [ae] at g6
    have g7:max (Tree.depth f) (Tree.jJ r)≤d:=g7
    have hl:=pz f g6.1
    have hs:(bx.of f.name f.val).kind=f.kind:=by rw [sd]
    have g5:At b at_ ([UInt8.ofInt f.kind]++((f.name++[0])++enc f++dS r)):=g5
    have g4:z=at_+(UInt8.ofInt f.kind :: ((f.name++[0])++enc f++dS r)).length:=g4
    rw [GD,hl] at g5
    simp only [aJ,ak,aM] at g4
    have uD:=g6.1
    rw [←sd f,mj] at uD
    obtain ⟨o1,o2,o3,o4⟩:=uD
    have o2:dp.whole f.name=true:=o2
    have o3:dp.zero f.name=false:=o3
    have hn:Tree.name f.kind≠[]:=((dz _).1 o1).1
    obtain ⟨k1,k2⟩:=Dg hn
    obtain ⟨p1,p2,p3,p4⟩:=g5
    have e1:=(at_one (by omega)).1 p1
    obtain ⟨m1,m2,m3⟩:=(gW (b:=b) (q:=at_+1) (z:=z) (x:=at_+1+(f.name.length+1)) (by omega) (by omega)).2 ⟨rfl,by omega,p2,o2,o3⟩
    rw [e1,al k2,k1,al hn,m1,al (by simp),m2,m3,ar]
    have kb:size (bx.of [] f.val)=size f:=qb f
    rw [(hv f.kind (at_+1+(f.name.length+1)) f.val (at_+1+(f.name.length+1)+size (bx.of [] f.val)) hn (by omega)).2 ⟨rfl,rfl,by omega,by rw [tx];exact p3,o1,o4,by rw [Tree.uR];omega⟩]
    show rH vl b z n (at_+1+(f.name.length+1)+size (bx.of [] f.val)) (acc++[bx.of f.name f.val])=_
    rw [sd]
    refine (mu hz hv n _ _ _ _ (by omega) (by omega)).2 ⟨rfl,g2,r,by rw [aB];rfl,by omega,?_,g6.2,by omega⟩
    rw [kb];exact p4
theorem tB {b:IY} (h3:b.length≤1000000000):∀d,zk (doc d) d b
 | 0,p,z,fZ,ks,x,h1,h2=>by
  constructor
  ·intro h;cases h
  ·rintro ⟨_,_,_,_,_,h⟩;omega
 | d+1,p,z,fZ,ks,x,h1,h2=>by
  have hd:=tB h3 d
  have hv:=fun (w:Nat) (hw:w≤b.length) k q v x (hk:Tree.name k≠[]) (hq:q≤w)=>@vo (doc d) b d hd gu q w x v k hk hq hw h3
  unfold doc
  constructor
  ·intro h
   by_cases c:z - p<4
   ·rw [aq c] at h;cases h
   rw [al c] at h
   unfold wS at h
   by_cases c1:cU b p<5∨(z:Int) - p<cU b p∨(fZ=2∧(p:Int)+cU b p≠z)
   ·rw [aq c1] at h;cases h
   rw [al c1] at h
   by_cases c2:fZ=1∧(p:Int)+cU b p<z
   ·rw [aq c2] at h;cases h
   rw [al c2] at h
   have r4:=mL (b:=b) (p:=p) (by omega) (by omega)
   generalize cU b p=n at *
   obtain ⟨g1,g2,r,g3,g4,g5,g6,g7⟩:=(mu (d:=d) (by omega) (hv (p+n.toNat - 1) (by omega)) n.toNat (p+4) [] ks x (by omega) (by omega)).1 h
   rw [bf] at g3
   subst g3
   have hl:=gu ks g6
   refine ⟨by omega,by omega,fun _=>by omega,?_,g6,by omega⟩
   show At b p (ff 4 ((dS ks).length+5)++(dS ks++[0]))
   rw [At.app,At.app,bU,show (dS ks).length+5=n.toNat by omega]
   refine ⟨r4,g5,(at_one (by omega)).2 ?_⟩
   rw [show p+4+(dS ks).length=p+n.toNat - 1 by omega];exact g2
  ·rintro ⟨rfl,g2,g3,g4,g5,g6⟩
   have hl:=gu ks g5
   have g4:At b p (ff 4 ((dS ks).length+5)++(dS ks++[0])):=g4
   rw [At.app,At.app,bU,hl] at g4
   obtain ⟨i1,i2,i3⟩:=g4
   have e1:=(jb (v:=dC ks+5) (by omega) (by omega)).2 i1
   rw [al (by omega),e1]
   unfold wS
   rw [al (by rintro (h | h | h);omega;omega;exact h.2 (by have:=g3 (.inr h.1);omega)),al (fun h=>by have:=g3 (.inl h.1);omega),ar]
   refine (mu (d:=d) (by omega) (hv _ (by omega)) _ _ _ _ _ (by omega) (by omega)).2 ⟨by omega,?_,ks,rfl,by omega,i2,g5,by omega⟩
   have:=(at_one (by omega)).1 i3
   rw [show p+(dC ks+5) - 1=p+4+dC ks by omega];exact this
theorem so {b:IY} {l:eK} {ks:List bx} (h3:b.length≤1000000000):decode b l = .ok ks ↔ may l=true∧(b.length:Int)≤l.size∧b=iR ks∧fU ks=true∧(Tree.jJ ks:Int)+1≤l.depth:=by
 unfold decode
 cases hm:may l with
 | false=>rw [aq rfl];exact ⟨(fun h=>by cases h),fun h=>by cases h.1⟩
 | true =>
  have hd:1≤l.depth:=(au hm).1
  rw [al (by simp)]
  by_cases c:l.size<(b.length:Int)
  ·rw [aq c];exact ⟨(fun h=>by cases h),fun h=>by omega⟩
  rw [al c]
  have hi:=fun x=>tB h3 l.depth.toNat 0 b.length 1 ks x (Nat.zero_le _) (Nat.le_refl _)
  constructor
  ·intro h
   cases hx:doc l.depth.toNat b 0 b.length 1 with
   | error e=>rw [hx] at h;cases h
   | ok w =>
    obtain ⟨ka,x⟩:=w
    rw [hx] at h
    have h:ka=ks:=Except.ok.inj h
    subst h
    obtain ⟨g1,g2,g3,g4,g5,g6⟩:=(hi x).1 hx
    have g3:=g3 (.inl rfl)
    have hl:=gu ka g5
    have EX:=nn ka
    refine ⟨rfl,by omega,?_,g5,by omega⟩
    have g4:(b.drop 0).take (iR ka).length=iR ka:=g4
    rw [aY,List.take_of_length_le (by omega)] at g4
    exact g4
  ·rintro ⟨_,g2,g3,g4,g5⟩
   have hl:=gu ks g4
   have EX:=nn ks
   have hb:b.length=dC ks+5:=by rw [g3,EX,hl]
   rw [(hi b.length).2 ⟨by omega,Nat.le_refl _,fun _=>rfl,by show (b.drop 0).take (iR ks).length=iR ks;rw [←g3,aY,List.take_length],g4,by omega⟩]
end Bs
end Go.Eng
set_option maxRecDepth 20000
namespace Go.Eng
open Go.IntWalk
namespace Bs
mutual
theorem uY:∀f:bx,pn f=true→bx.dk f≤size f+f.name.length+2
 | .mk n k b h l t m s y ks,hg=>by
  obtain ⟨ho,_,_,BU⟩:=(mj n ⟨k,b,h,l,t,m,s,y,ks⟩).1 hg
  have hl:=jL ks BU
  have hn:=mX ((dz _).1 ho).1
  have hf:=((dz _).1 ho).2.1
  simp only [Tree.kinds,aC,List.not_mem_nil,or_false] at hn
  have hb:bx.dk (.mk n k b h l t m s y ks)=1+n.length+t.length+m.length+y.length+bx.cw ks:=rfl
  have hz:size (.mk n k b h l t m s y ks)=_:=size.eq_1 n k b h l t m s y ks
  have hm:(bx.mk n k b h l t m s y ks).name=n:=rfl
  rw [hb,hz,hm]
  rcases hn with g | g | g | g | g | g | g | g | g | g | g | g | g | g | g | g | g | g | g | g | g <;> subst g <;> simp [Tree.fieldsOK,Tree.fu] at hf <;> simp [gM,gF,hf] <;> (try split) <;> (try simp [hf,bx.cw] at hl ⊢) <;> omega
theorem jL:∀l:List bx,fU l=true→bx.cw l≤dC l
 | [],_=>Nat.le_refl _
 | f :: r,hg=>by
  have hg:(pn f&&fU r)=true:=hg
  rw [ae] at hg
  have h1:=uY f hg.1
  have h2:=jL r hg.2
  show bx.dk f+bx.cw r≤f.name.length+2+size f+dC r
  omega
end
def JG (ks:List bx):Val:=⟨3,0,0,0,[],[],0,[],ks⟩
theorem Kd (ks:List bx):Tree.own (JG ks)=0:=by
 refine (dz _).2 ⟨show Tree.name 3≠[] by decide,?_,by rfl,by rfl⟩
 simp [Tree.fieldsOK,Tree.fu,JG]
theorem J1 (ks:List bx):pn (bx.of [] (JG ks))=true ↔ fU ks=true:=by
 rw [mj]
 exact ⟨fun h=>h.2.2.2,fun h=>⟨Kd ks,by rfl,by rfl,h⟩⟩
theorem Ke (ks:List bx):(Tree.hU (bx.of [] (JG ks)) []).2=0 ↔ fU ks=true:=(Jz _ _).trans (J1 ks)
theorem JB {v:Val} {b:IY}:((encode v).2.1=0∧(encode v).1=b) ↔ ∃ks,v=JG ks∧fU ks=true∧dC ks+5≤16777216∧b=iR ks:=by
 unfold encode
 constructor
 ·rintro ⟨h1,h2⟩
  by_cases c:(Tree.hU (bx.of [] v) []).2≠0
  ·rw [aq c] at h1;exact absurd h1 c
  rw [al c] at h1 h2
  by_cases c2:v.kind≠3
  ·rw [aq c2] at h1;cases h1
  rw [al c2] at h1 h2
  by_cases c3:16777216<size (bx.of [] v)
  ·rw [aq c3] at h1;cases h1
  rw [al c3] at h2
  have hk:v.kind=3:=Classical.byContradiction c2
  have hg:=(Jz _ _).1 (Classical.byContradiction c)
  obtain ⟨k',b',h',l',t',m',s',y',ka⟩:=v
  have hk:k'=3:=hk
  subst hk
  obtain ⟨ho,_,_,BU⟩:=(mj _ _).1 hg
  have hf:=((dz _).1 ho).2.1
  simp [Tree.fieldsOK,Tree.fu] at hf
  have hs:size (bx.of [] ⟨3,b',h',l',t',m',s',y',ka⟩)=dC ka+5:=rfl
  exact ⟨ka,by simp [JG,hf],BU,by omega,h2.symm⟩
 ·rintro ⟨ks,rfl,g1,g2,rfl⟩
  have hs:size (bx.of [] (JG ks))=dC ks+5:=rfl
  rw [al (fun h=>h ((Ke ks).2 g1)),al (fun h=>h rfl),al (by omega)]
  exact ⟨rfl,rfl⟩
theorem sj {ks:List bx} (h:fU ks=true):(iR ks).length=dC ks+5:=by rw [nn,gu ks h]
theorem uS {b:IY} {l:eK} {e:Int} {a:Nat} (h:decode b l = .error (e,a)):e≠0∧a≤b.length:=by
 unfold decode at h
 by_cases c:may l=false
 ·rw [aq c] at h;cases h;exact ⟨by decide,Nat.zero_le _⟩
 rw [al c] at h
 by_cases c2:l.size<(b.length:Int)
 ·rw [aq c2] at h;cases h;exact ⟨by decide,Nat.zero_le _⟩
 rw [al c2] at h
 have hr:=jT b l.depth.toNat 0 b.length 1 (Nat.zero_le _) (Nat.le_refl _)
 cases hx:doc l.depth.toNat b 0 b.length 1 with
 | error p=>rw [hx] at h;cases h;exact hr.1 e a hx
 | ok w=>rw [hx] at h;cases h
end Bs
end Go.Eng
set_option maxRecDepth 20000
namespace Go.Eng
open Bs
namespace Gt
def cat:List (List bx)→IY
 | []=>[]
 | d :: r=>iR d++cat r
def outs (a:Int):List (List bx)→List Out
 | []=>[]
 | d :: r=>⟨a,iR d,[],0,0,[]⟩ :: outs (a+((iR d).length:Int)) r
structure Kz (l:eK) (d:List bx):Prop where
 pn:fU d=true
 depth:(Tree.jJ d:Int)+1≤l.depth
 size:(dC d:Int)+5≤l.size
 out:(dC d:Int)+5≤l.out
theorem Jk:∀a b:List (List bx),cat (a++b)=cat a++cat b
 | [],_=>rfl
 | d :: r,b=>by show iR d++cat (r++b)=(iR d++cat r)++cat b;rw [Jk r b,aB]
theorem Jp:∀(x y:List (List bx)) (a:Int),outs a (x++y)=outs a x++outs (a+((cat x).length:Int)) y
 | [],y,a=>by show outs a y=outs (a+((0:Nat):Int)) y;rw [show a+((0:Nat):Int)=a by omega]
 | d :: r,y,a=>by
  show _ :: outs _ (r++y)=_ :: (outs _ r++outs (a+((iR d++cat r).length:Int)) y)
  rw [Jp r y,ak,show a+((iR d).length:Int)+((cat r).length:Int)=a+(((iR d).length+(cat r).length:Nat):Int) by omega]
theorem Jj:∀(x:List (List bx)) (a:Int),(outs a x).length=x.length
 | [],_=>rfl
 | _ :: r,a=>congrArg (· + 1) (Jj r _)
theorem JH {l:eK} (h:may l=true):l.size≤16777216:=(au h).2.2.2.1
theorem JT {l:eK} {d:List bx} (hm:may l=true) (h:Kz l d):trans l (iR d)=(iR d,⟨0,0,[]⟩):=by
 have hz:=JH hm
 have hs:=sj h.pn
 have h2:=h.size
 have h3:=h.out
 have e1:=(so (b:=iR d) (l:=l) (ks:=d) (by omega)).2 ⟨hm,by omega,rfl,h.pn,h.depth⟩
 have e2:=(JB (v:=JG d) (b:=iR d)).2 ⟨d,rfl,h.pn,by omega,rfl⟩
 unfold trans
 rw [e1]
 show (if (0:Int)≠0 then _ else write l (JG d))=_
 rw [al (fun h=>h rfl)]
 unfold write
 rw [hm,al (by decide),e2.1,e2.2,al (fun h=>h rfl),al (by omega)]
theorem vv {l:eK} {b:IY} (h:b.length≤1000000):0≤(trans l b).2.at_∧(trans l b).2.at_≤1000000:=by
 have hw:∀v,(write l v).2.at_=0:=fun v=>by unfold write;split;rfl;split;rfl;split <;> rfl
 unfold trans
 cases hd:Bs.decode b l with
 | error p =>
  obtain ⟨e,a⟩:=p
  obtain ⟨g1,g2⟩:=uS hd
  rw [aq (show (iI (.error (e,a):Except E (List bx))).err≠0 from g1)]
  show (0:Int)≤(a:Int)∧(a:Int)≤1000000
  omega
 | ok ks =>
  rw [al (show ¬(iI (.ok ks:Except E (List bx))).err≠0 from fun h=>h rfl),hw]
  omega
theorem Kb {h t:IY} (c:4≤h.length):cU h 0=cU (h++t) 0:=by
 unfold cU vd
 rw [aY,aY,List.take_append_of_le_length c]
theorem JO {d:List bx} {t:IY} (h:fU d=true) (hz:dC d+5≤16777216):cU (iR d++t) 0=((iR d).length:Int):=by
 have hs:=sj h
 have hl:=nn d
 refine (jb (by rw [ak];omega) (by omega)).2 ?_
 show ((iR d++t).drop 0).take (ff 4 (iR d).length).length=ff 4 (iR d).length
 rw [aY,bU,List.take_append_of_le_length (by omega),hl]
 show (ff 4 ((dS d).length+5)++(dS d++[0])).take 4=_
 rw [List.take_append_of_le_length (by rw [bU];omega),List.take_of_length_le (by rw [bU];omega)]
theorem JA {l:eK} (hm:may l=true):∀(n:Nat) (a:Int) (h t:IY) (acc:List Out) (ds:List (List bx)),h.length<n→h++t=cat ds→(∀d∈ds,Kz l d) →
  ∃d1 d2 h',ds=d1++d2∧h=cat d1++h'∧fA l n a h acc=(acc++outs a d1,a+((cat d1).length:Int),h',false)∧((d2=[]∧h'=[])∨∃d r,d2=d :: r∧h'.length<(iR d).length)
 | 0,_,_,_,_,_,hn,_,_=>absurd hn (Nat.not_lt_zero _)
 | n+1,a,h,t,acc,[],hn,he,_=>by
  obtain ⟨rfl,rfl⟩:=List.append_eq_nil_iff.1 (show h++t=[] from he)
  refine ⟨[],[],[],rfl,rfl,?_,.inl ⟨rfl,rfl⟩⟩
  rw [fA,aq (by decide)]
  show _=(acc++[],a+((0:Nat):Int),_,_)
  rw [bm,show a+((0:Nat):Int)=a by omega]
 | n+1,a,h,t,acc,d :: r,hn,he,hd=>by
  have he:h++t=iR d++cat r:=he
  have k:=hd d (List.mem_cons_self ..)
  have hz:=JH hm
  have hs:=sj k.pn
  have k2:=k.size
  by_cases c:h.length<(iR d).length
  ·refine ⟨[],d :: r,h,rfl,rfl,?_,.inr ⟨d,r,rfl,c⟩⟩
   show _=(acc++[],a+((0:Nat):Int),_,_)
   rw [bm,show a+((0:Nat):Int)=a by omega,fA]
   by_cases c1:h.length<4
   ·rw [aq c1]
   rw [al c1,Kb (t:=t) (by omega),he,JO k.pn (by omega),al (by omega),al (by omega),aq (by omega)]
  ·obtain ⟨h1,e1,e2⟩:∃h1,h=iR d++h1∧h1++t=cat r:=by
    rcases List.append_eq_append_iff.1 he with ⟨x,e1,e2⟩ | ⟨x,e1,e2⟩
    ·have:=congrArg List.length e1
     rw [ak] at this
     have:x=[]:=List.length_eq_zero_iff.1 (by omega)
     subst this
     exact ⟨[],by rw [e1,bm,bm],by rw [e2];rfl⟩
    ·exact ⟨x,e1,e2.symm⟩
   obtain ⟨d1,d2,h',i1,i2,i3,i4⟩:=JA hm n (a+((iR d).length:Int)) h1 t (acc++[⟨a,iR d,[],0,0,[]⟩]) r (by rw [e1,ak] at hn;omega) e2 (fun x hx=>hd x (List.mem_cons_of_mem _ hx))
   refine ⟨d :: d1,d2,h',by rw [i1];rfl,by rw [e1,i2];exact (aB ..).symm,?_,i4⟩
   have hr:cU h 0=((iR d).length:Int):=by rw [e1];exact JO k.pn (by omega)
   have hl:h.length=(iR d).length+h1.length:=by rw [e1,ak]
   rw [fA,al (by omega),hr,al (by omega),al (by omega),al (by omega),ar]
   rw [show h.take (iR d).length=iR d by rw [e1];exact List.take_left ..,show h.drop (iR d).length=h1 by rw [e1];exact List.drop_left ..,JT hm k]
   show fA l n _ h1 (acc++[⟨a,iR d,[],0,0,[]⟩])=_
   rw [i3]
   show ((acc++[_])++outs _ d1,_,_,_)=(acc++_ :: outs _ d1,a+((iR d++cat d1).length:Int),_,_)
   rw [aB,ak,show a+((iR d).length:Int)+((cat d1).length:Int)=a+(((iR d).length+(cat d1).length:Nat):Int) by omega]
   rfl
theorem JF {g:bS} (hg:g.bT=false) (hm:may (yr g)=true) {h x t:IY} {ds:List (List bx)} (he:(h++x)++t=cat ds) (hd:∀d∈ds,Kz (yr g) d) :
  ∃d1 d2 h',ds=d1++d2∧h++x=cat d1++h'∧feed g x h=(outs g.at_ d1,⟨g.fk,g.depth,g.size,g.out,g.at_+((cat d1).length:Int),false⟩,h')∧((d2=[]∧h'=[])∨∃d r,d2=d :: r∧h'.length<(iR d).length):=by
 obtain ⟨d1,d2,h',i1,i2,i3,i4⟩:=JA hm (h.length+x.length+1) g.at_ (h++x) t [] ds (by rw [ak];omega) he hd
 refine ⟨d1,d2,h',i1,i2,?_,i4⟩
 unfold feed
 rw [hg,al (by decide),i3]
 rfl
theorem J4 {g:bS} (hg:g.bT=false) (hm:may (yr g)=true) {h x:IY} {ds:List (List bx)} (he:h++x=cat ds) (hd:∀d∈ds,Kz (yr g) d) :
  feed g x h=(outs g.at_ ds,⟨g.fk,g.depth,g.size,g.out,g.at_+((cat ds).length:Int),false⟩,[]):=by
 obtain ⟨d1,d2,h',i1,i2,i3,i4⟩:=JF hg hm (t:=[]) (by rw [bm];exact he) hd
 have e:cat d2=h':=by
  rw [i1,Jk,i2] at he
  exact (List.append_cancel_left he).symm
 rcases i4 with ⟨rfl,rfl⟩ | ⟨d,r,rfl,k⟩
 ·rw [bm] at i1;subst i1;exact i3
 ·have:(iR d++cat r).length=h'.length:=congrArg List.length e
  rw [ak] at this
  omega
end Gt
end Go.Eng
set_option maxRecDepth 20000
namespace Go.Eng
open Go.IntWalk
theorem yi {a b c:Nat} (d:Nat) (ha:a<256) (hb:b<256) (hc:c<256):((a ||| b * 2 ^ 8) ||| c * 2 ^ 16) ||| d * 2 ^ 24=a+256 * (b+256 * (c+256 * d)):=by
 rw [Nat.or_comm a,lk (by omega),Nat.or_comm _ (c * 2 ^ 16),lk (by omega),Nat.or_comm _ (d * 2 ^ 24),lk (by omega)]
 omega
theorem jP {n:Nat} (h:n<4294967296):(UInt32.ofInt (n:Int)).toNat=n:=by
 have:=nS (n:Int)
 rw [wrap_u32'] at this
 omega
theorem la {a:UInt32} {n:Nat} (h:a.toNat * 2 ^ n<4294967296):(lL a n).toNat=a.toNat * 2 ^ n:=by
 unfold lL
 rw [UInt32.toNat_ofNat']
 exact Nat.mod_eq_of_lt h
theorem Bs.vO {b:IY} {p:Nat} (h:p+4≤b.length):Bs.vd b p=(b.getD p 0).toNat+256 * ((b.getD (p+1) 0).toNat+256 * ((b.getD (p+2) 0).toNat+256 * (b.getD (p+3) 0).toNat)):=by
 unfold Bs.vd
 rw [drop_cons (by omega) 0,drop_cons (by omega) 0,drop_cons (by omega) 0,drop_cons (by omega) 0]
 rfl
theorem cY.goal (b:List UInt8) (at_:Int) (hp:decide (b.length≤1000000000)=true):cY.F b at_=some [.i .i64 (Gt.iP b at_).1,.b (Gt.iP b at_).2]:=by
 have hl:=au hp
 refine cY.cR _ _ ?_
 intro v1 h1 v2 h2 v3 h3 v4 h4 v5 h5 v6 h6 v7 h7 v8 h8 v9 h9 v10 iU v11 h11 v12 vi jY tj nR zM rB AX tM B4 zm Da zl C9
 simp only [aU,ba,bc,eQ]
 have q1:v1=(b.length:Int) - 4:=by rw [h1,i64_in _ (by omega)]
 unfold Gt.iP
 by_cases c:0≤at_∧at_+4≤(b.length:Int)
 ·obtain ⟨c1,c2⟩:=c
  have q5:v5=at_+1:=by rw [h5,i64_in _ (by omega)]
  have q9:v9=at_+2:=by rw [h9,i64_in _ (by omega)]
  have Cn:jY=at_+3:=by rw [tj,i64_in _ (by omega)]
  have b3:=v3.toNat_lt;have b6:=v6.toNat_lt;have IQ:=v10.toNat_lt;have IP:=nR.toNat_lt
  have q4:v4.toNat=v3.toNat:=by rw [h4,jP (by omega)]
  have q7:v7.toNat=v6.toNat:=by rw [h7,jP (by omega)]
  have zq:v11.toNat=v10.toNat:=by rw [h11,jP (by omega)]
  have Ha:rB.toNat=nR.toNat:=by rw [AX,jP (by omega)]
  have q8:v8.toNat=v6.toNat * 2 ^ 8:=by rw [h8,show ((8:UInt64)).toNat=8 from rfl,la (by omega),q7]
  have Hc:v12.toNat=v10.toNat * 2 ^ 16:=by rw [vi,show ((16:UInt64)).toNat=16 from rfl,la (by omega),zq]
  have G9:tM.toNat=nR.toNat * 2 ^ 24:=by rw [B4,show ((24:UInt64)).toNat=24 from rfl,la (by omega),Ha]
  have G8:zm.toNat=Bs.vd b at_.toNat:=by
   rw [Da,UInt32.toNat_or,UInt32.toNat_or,UInt32.toNat_or,q4,q8,Hc,G9,yi _ (by omega) (by omega) (by omega),Bs.vO (by omega),h3,h6,iU,zM,q5,q9,Cn,show (at_+1).toNat=at_.toNat+1 by omega,show (at_+2).toNat=at_.toNat+2 by omega,show (at_+3).toNat=at_.toNat+3 by omega]
  have eL:=Bs.oS b at_.toNat
  have G7:zl=Bs.cU b at_.toNat:=by
   rw [C9,G8,FL]
   unfold Bs.cU
   split <;> split <;> omega
  have hr:=Bs.ja b at_.toNat
  have q2:v2=false:=by rw [h2,ab (by omega),af,ab (by omega)]
  rw [q2,af,bw (eT (by omega) (by omega)),bw (eT (by omega) (by omega)),bw (eT (by omega) (by omega)),bw (eT (by omega) (by omega)),aq ⟨c1,c2⟩,G7,i64_in _ (by omega)]
 ·have q2:v2=true:=by
   rw [h2]
   by_cases d:at_<0
   ·rw [aa d];rfl
   ·rw [ab d,af];exact aa (by omega)
  rw [q2,ao,al c]
theorem dZ.goal (f:Int) (l:eK):dZ.F f l=some [.b (decide (1≤f∧f≤5)&&Bs.may l)]:=by
 refine dZ.cR _ _ ?_
 intro v1 h1
 simp only [aU,eQ]
 have q1:v1=decide (1≤f∧f≤5):=by
  rw [h1]
  by_cases c:1≤f
  ·rw [aa c,ao];exact aV.2 ⟨fun h=>⟨c,h⟩,fun h=>h.2⟩
  ·rw [ab c,af];exact (ab (fun h=>c h.1)).symm
 rw [q1]
 cases decide (1≤f∧f≤5) <;> rfl
theorem Au (l:eK):(decide ((1:Int)≤1∧(1:Int)≤5)&&Bs.may l)=Bs.may l:=by rw [aa ⟨by decide,by decide⟩,Bool.true_and]
theorem ei.goal (f:Int) (l:eK) (b:List UInt8) (hp:decide (f=1∧b.length≤1000000000)=true):ei.F f l b=some [.ag (Val.cells (Bs.nN (Bs.decode b l))),.ag (cq.cells (Bs.iI (Bs.decode b l)))]:=by
 obtain ⟨rfl,hl⟩:=au hp
 refine ei.cR _ _ _ ?_
 intro v1 h1 v2 h2
 rw [Au] at h1
 rw [h1]
 cases hm:Bs.may l with
 | false =>
  have e:Bs.decode b l = .error (1,0):=by unfold Bs.decode;rw [aq hm]
  rw [e];rfl
 | true=>rw [aK,af,aa rfl,ao,bw (aa hl)]
theorem eh.goal (f:Int) (v:Val) (hp:decide (f=1∧bx.dk (bx.of [] v)≤10000000000)=true):eh.F f v=some [.sl .bs (Bs.encode v).1,.ag (cq.cells ⟨(Bs.encode v).2.1,0,(Bs.encode v).2.2⟩)]:=by
 obtain ⟨rfl,hl⟩:=au hp
 refine eh.cR _ _ ?_
 intro v1 h1
 rw [aa rfl,ao,bw (aa hl),h1]
theorem dE.goal (f:Int) (l:eK) (v:Val) (hp:decide (f=1∧bx.dk (bx.of [] v)≤10000000000)=true):dE.F f l v=some [.sl .bs (Gt.write l v).1,.sl .mh [],.ag (cq.cells (Gt.write l v).2)]:=by
 obtain ⟨rfl,hl⟩:=au hp
 refine dE.cR _ _ _ ?_
 intro v1 h1 v2 h2 v3 h3
 rw [Au] at h1
 rw [h1]
 unfold Gt.write
 cases hm:Bs.may l with
 | false=>rw [aq rfl];rfl
 | true =>
  rw [aK,af,bw (aa ⟨rfl,hl⟩),al (by decide),h2]
  by_cases c:(Bs.encode v).2.1=0
  ·rw [al (fun h=>h c),show decide (cq.err ⟨(Bs.encode v).2.1,0,(Bs.encode v).2.2⟩=0)=true from aa c,aK,af]
   by_cases d:l.out<((Bs.encode v).1.length:Int)
   ·rw [aq d,h3,aa d];rfl
   ·rw [al d,h3,ab d];rfl
  ·rw [aq c,show decide (cq.err ⟨(Bs.encode v).2.1,0,(Bs.encode v).2.2⟩=0)=false from ab c];rfl
theorem Bs.wU {b:IY} {l:eK} (h:b.length≤1000000000):bx.dk (bx.of [] (Bs.nN (Bs.decode b l)))≤1000000001:=by
 cases hd:Bs.decode b l with
 | error p=>exact Nat.le_trans (show (1:Nat)+0+0+0+0+0≤1 by omega) (by omega)
 | ok ks =>
  obtain ⟨_,_,g3,g4,_⟩:=(Bs.so h).1 hd
  have hs:=Bs.sj g4
  rw [←g3] at hs
  have hb:=Bs.jL ks g4
  show 1+0+0+0+0+bx.cw ks≤_
  omega
theorem bY.goal (f t:Int) (l:eK) (b:List UInt8) (hp:decide (f=1∧t=1∧b.length≤1000000000)=true):bY.F f t l b=some [.sl .bs (Gt.trans l b).1,.sl .mh [],.ag (cq.cells (Gt.trans l b).2)]:=by
 obtain ⟨rfl,rfl,hl⟩:=au hp
 refine bY.cR _ _ _ _ ?_
 intro v1 h1 v2 h2 v3 h3 v4 h4 v5 h5
 rw [Au] at h1 h2
 simp only [aU,ba,bc,eQ]
 rw [h1,h2]
 unfold Gt.trans
 cases hm:Bs.may l with
 | false =>
  have e:Bs.decode b l = .error (1,0):=by unfold Bs.decode;rw [aq hm]
  rw [e];rfl
 | true =>
  have hb:=Bs.wU (l:=l) hl
  rw [aK,af,af,bw (aa ⟨trivial,hl⟩),h3]
  by_cases c:cq.err (Bs.iI (Bs.decode b l))=0
  ·rw [al (fun h=>h c),aa c,aK,af,bw (aa ⟨trivial,by omega⟩),h4,h5]
  ·rw [aq c,ab c];rfl
theorem eU.goal (t:Int) (l:eK) (hp:(decide (1≤t∧t≤5)&&Bs.may l)=true):eU.F t l=some [.ag [.i .i64 t,.i .i64 l.depth,.i .i64 l.size,.i .i64 l.out,.i .i64 0,.pt,.b false],.i .i64 0,.sl .bs []]:=by
 rw [ae] at hp
 obtain ⟨h1,h2⟩:=hp
 obtain ⟨h1,h3⟩:=au h1
 refine eU.cR _ _ ?_
 intro v1 e1
 simp only [aU,ba,bc,eQ]
 have q1:v1=false:=by rw [e1,ab (by omega),af,ab (by omega)]
 rw [q1,h2];rfl
theorem dI.goal (g:bS) (e:Int):dI.F g e=some [.ag (Out.cells (Gt.j0 e g.at_)),.ag [.i .i64 (Gt.dT g).fk,.i .i64 (Gt.dT g).depth,.i .i64 (Gt.dT g).size,.i .i64 (Gt.dT g).out,.i .i64 (Gt.dT g).at_,.pt,.b (Gt.dT g).bT],.sl .bs []]:=dI.fh g e
theorem eV.goal (g:bS) (b:List UInt8):eV.F g b=some [.sl .ou (Gt.end_ g b).1,.ag [.i .i64 (Gt.end_ g b).2.1.fk,.i .i64 (Gt.end_ g b).2.1.depth,.i .i64 (Gt.end_ g b).2.1.size,.i .i64 (Gt.end_ g b).2.1.out,.i .i64 (Gt.end_ g b).2.1.at_,.pt,.b (Gt.end_ g b).2.1.bT],.sl .bs (Gt.end_ g b).2.2]:=by
 refine eV.cR _ _ ?_
 intro v1 h1 v2 h2
 simp only [aU,ba,bc,eQ]
 unfold Gt.end_
 by_cases c:g.bT=true∨b=[]
 ·have q1:v1=true:=by
   rw [h1]
   rcases c with c | c
   ·rw [c];rfl
   ·subst c;cases g.bT <;> rfl
  rw [q1,aq c];rfl
 ·have q1:v1=false:=by
   rw [h1,show g.bT=false by cases h:g.bT with | false=>rfl | true=>exact absurd (.inl h) c,af]
   refine ab fun h=>c (.inr (List.length_eq_zero_iff.1 (by omega)))
  rw [q1,al c,h2];rfl
theorem bI.zO (t d s o a:Int) (h:IY) (acc:List Out) (hh:h.length≤1000000):bI.g1 t d s o a h false acc=some [.sl .ou acc,.ag [.i .i64 t,.i .i64 d,.i .i64 s,.i .i64 o,.i .i64 a,.pt,.b false],.sl .bs h]:=by
 rw [bI.lP,bw (fQ (by omega) (by omega))]
theorem bI.tp (d s o:Int):∀(n:Nat) (z:Out) (a:Int) (h:IY) (acc:List Out),h.length<n→h.length≤1000000→0≤a→a+(h.length:Int)≤1000002000000→acc.length+h.length≤1000000 →
  bI.g3 z 1 d s o a h false acc=some [.sl .ou (Gt.fA ⟨d,s,o⟩ n a h acc).1,.ag [.i .i64 1,.i .i64 d,.i .i64 s,.i .i64 o,.i .i64 (Gt.fA ⟨d,s,o⟩ n a h acc).2.1,.pt,.b (Gt.fA ⟨d,s,o⟩ n a h acc).2.2.2],.sl .bs (Gt.fA ⟨d,s,o⟩ n a h acc).2.2.1]
 | 0,_,_,_,_,hn,_,_,_,_=>absurd hn (Nat.not_lt_zero _)
 | n+1,z,a,h,acc,hn,hh,h0,ha,hc=>by
  refine bI.ot _ _ _ _ _ _ _ _ _ ?_
  intro v1 h1 v2 h2 v3 h3 v4 h4 v5 h5 v6 h6 v7 h7 v8 h8 v9 h9 v10 iU v11 h11 v12 vi jY tj
  rw [bw (aa (by omega)),Gt.fA]
  by_cases c1:h.length<4
  ·rw [h2,aq c1,show (Gt.iP h 0).2=false by unfold Gt.iP;rw [al (by omega)],aQ,ao,bI.zO _ _ _ _ _ _ _ hh]
  have e:Gt.iP h 0=(Bs.cU h 0,true):=by unfold Gt.iP;rw [aq (by omega)];rfl
  rw [e] at h1 h2
  have h1:v1=Bs.cU h 0:=h1
  have h2:v2=true:=h2
  have C2:∀w:Out,eO (acc.length + [w].length) 96=true:=fun w=>fQ (by rw [aD];omega) (by rw [aD];omega)
  rw [h2,al c1,aK,af,←h1]
  by_cases c2:v1<5
  ·rw [aq c2,aa c2,ao,bw (C2 _),h3,h4,h5,h6,h7,h8,h9];rfl
  rw [al c2,ab c2,af]
  by_cases c3:s<v1
  ·rw [aq c3,aa c3,ao,bw (C2 _),h3,h4,h5,h6,h7,h8,iU];rfl
  rw [al c3,ab c3,af]
  by_cases c4:(h.length:Int)<v1
  ·rw [aq c4,aa c4,ao,bI.zO _ _ _ _ _ _ _ hh]
  rw [al c4,ab c4,af,bw (gj (by omega) (by omega) (by omega)),bw (aa ⟨rfl,rfl,by rw [ay];omega⟩)]
  have hd:(h.drop v1.toNat).length=h.length - v1.toNat:=aL
  have step:∀w:Out,bI.j2 v1 w 1 d s o a h false acc=some [.sl .ou (Gt.fA ⟨d,s,o⟩ n (a+v1) (h.drop v1.toNat) (acc++[w])).1,.ag [.i .i64 1,.i .i64 d,.i .i64 s,.i .i64 o,.i .i64 (Gt.fA ⟨d,s,o⟩ n (a+v1) (h.drop v1.toNat) (acc++[w])).2.1,.pt,.b (Gt.fA ⟨d,s,o⟩ n (a+v1) (h.drop v1.toNat) (acc++[w])).2.2.2],.sl .bs (Gt.fA ⟨d,s,o⟩ n (a+v1) (h.drop v1.toNat) (acc++[w])).2.2.1]:=fun w=>by
   rw [bI.jE,bw (C2 _),bw (gj (by omega) (by omega) (by omega)),i64_in _ (by omega)]
   exact bI.tp d s o n w (a+v1) (h.drop v1.toNat) (acc++[w]) (by omega) (by omega) (by omega) (by omega) (by rw [ak,aD];omega)
  rw [step,step]
  have II:0≤v12.at_∧v12.at_≤1000000:=by rw [vi];exact Gt.vv (by rw [ay];omega)
  have Cn:jY=v12.at_+a:=by rw [tj,i64_in _ (by omega)]
  have yO:Gt.trans ⟨d,s,o⟩ (h.take v1.toNat)=(v11,v12):=by rw [h11,vi]
  rw [yO]
  unfold Gt.vS
  by_cases c5:v12.err=0
  ·rw [aq c5,aa c5,aK,af]
  ·rw [al c5,ab c5,aQ,ao,Cn]
theorem bI.goal (g:bS) (x b:List UInt8) (hp:decide (g.fk=1∧0≤g.at_∧g.at_≤1000000000000∧x.length+b.length≤1000000)=true):bI.F g x b=some [.sl .ou (Gt.feed g x b).1,.ag [.i .i64 (Gt.feed g x b).2.1.fk,.i .i64 (Gt.feed g x b).2.1.depth,.i .i64 (Gt.feed g x b).2.1.size,.i .i64 (Gt.feed g x b).2.1.out,.i .i64 (Gt.feed g x b).2.1.at_,.pt,.b (Gt.feed g x b).2.1.bT],.sl .bs (Gt.feed g x b).2.2]:=by
 obtain ⟨k1,k2,k3,k4⟩:=au hp
 refine bI.cR _ _ _ ?_
 intro v1 h1 v2 h2 v3 h3 v4 h4 v5 h5 v6 h6 v7 h7 v8 h8
 obtain ⟨t,d,s,o,a,st⟩:=g
 have k1:t=1:=k1
 subst k1
 have k2:0≤a:=k2
 have k3:a≤1000000000000:=k3
 cases st with
 | true=>rfl
 | false =>
  have hl:(b++x).length=b.length+x.length:=ak
  have g3:=bI.tp d s o (b.length+x.length+1) default a (b++x) [] (by omega) (by omega) k2 (by omega) (by show 0+_≤_;omega)
  show cond false _ _=_
  rw [af,bw (fQ (by omega) (by omega)),bw (aa (by omega))]
  refine Eq.trans ?_ g3
  symm
  refine bI.ot _ _ _ _ _ _ _ _ _ ?_
  intro w1 e1 w2 e2 w3 e3 w4 e4 w5 e5 w6 e6 w7 e7 w8 e8 w9 e9 G3 kT FM vm G2 yO G1 Bh
  have n1:w1=v1:=e1.trans h1.symm
  have n2:w2=v2:=e2.trans h2.symm
  subst n1;subst n2
  have Hh:FM=v6:=by rw [vm,h6,h5]
  have FV:G2=v7:=by rw [yO,h7,h5]
  have Hg:G1=v8:=by rw [Bh,h8,FV]
  rw [bw (aa (by omega)),e3,e4,e5,e6,e7,e8,e9,kT,Hh,FV,Hg,h3,h4,h5]
  rfl
end Go.Eng
set_option maxRecDepth 20000
namespace Go.Eng
open Go.IntWalk
theorem Jc.goal:Jc.F=some [.ag (eK.cells ⟨200,65536,262144⟩)]:=Jc.fh
theorem I2.fx (n:Nat) (hn:n≤8):∀(m i:Nat) (x:UInt64) (acc:List UInt8),i+m=n→acc.length=i→I2.l1 x (n:Int) (i:Int) acc=some [.sl .bs (acc++Bs.ff m x.toNat)]
 | 0,i,x,acc,hi,ha=>by
  refine I2.fo _ _ _ _ ?_
  intro v1 h1 v2 h2 v3 h3
  simp only [aU,eQ]
  have q1:v1=false:=by rw [h1,ab (by omega)];rfl
  rw [q1,af]
  show _=some [TV.sl .bs (acc++[])]
  rw [bm]
 | m+1,i,x,acc,hi,ha=>by
  refine I2.fo _ _ _ _ ?_
  intro v1 h1 v2 h2 v3 h3
  simp only [aU,eQ]
  have q1:v1=true:=by rw [h1,aa (by omega),ao];exact aa (by omega)
  have q2:v2=UInt8.ofNat (x.toNat % 256):=by
   apply UInt8.toNat_inj.1
   rw [h2,z8,UInt8.toNat_ofNat'];exact (Nat.mod_mod _ _).symm
  have q3:v3=((i+1:Nat):Int):=by rw [h3,i64_in _ (by omega)];omega
  have qx:(x / 256).toNat=x.toNat / 256:=by rw [UInt64.toNat_div];rfl
  rw [q1,ao,bw (fQ (by rw [aD];omega) (by rw [aD];omega)),bw (by decide),q3,I2.fx n hn m (i+1) (x / 256) (acc++[v2]) (by omega) (by rw [ak,aD];omega),qx,q2,aB]
  rfl
theorem I2.goal (v:UInt64) (n:Int) (hp:decide (0≤n∧n≤8)=true):I2.F v n=some [.sl .bs (Bs.ff n.toNat v.toNat)]:=by
 obtain ⟨h1,h2⟩:=au hp
 obtain ⟨k,rfl⟩:∃k:Nat,n=(k:Int):=⟨n.toNat,by omega⟩
 rw [I2.fh]
 exact I2.fx k (by omega) k 0 v [] (by omega) rfl
theorem sy.Ki (n:Nat) (v:Val) (hn:bx.dk (bx.of [] v)<n+1) (hb:bx.dk (bx.of [] v)≤100000):∀(m i:Nat) (s:Nat),i+m=v.kids.length→s+30 * bx.cw (v.kids.drop i)≤40000000→sy.l5 n (s:Int) (i:Int) v=some [.i .i64 ((if v.kind=15 then s+Bs.dC (v.kids.drop i)+v.text.length+9 else s+Bs.dC (v.kids.drop i):Nat):Int)]
 | 0,i,s,hi,hs=>by
  have wC:bx.dk (bx.of [] v)=1+v.text.length+v.more.length+v.bytes.length+bx.cw v.kids:=by simp only [bx.of,bx.dk,aM,Nat.add_zero]
  refine sy.Kj _ _ _ _ ?_
  intro v1 h1 v2 h2 v3 h3 v4 h4 v5 h5 v6 h6 v7 h7 v8 h8
  rw [h1,ab (by omega),af,aW (by omega)]
  by_cases c:v.kind=15
  ·rw [aa c,ao,aq c,sy.Km,h8,h7,i64_in (_+(v.text.length:Int)) (by omega),i64_in _ (by omega)]
   simp [Bs.dC]
  ·rw [ab c,af,al c,sy.Km];simp [Bs.dC]
 | m+1,i,s,hi,hs=>by
  have hk:=nj v.kids
  have wC:bx.dk (bx.of [] v)=1+v.text.length+v.more.length+v.bytes.length+bx.cw v.kids:=by simp only [bx.of,bx.dk,aM,Nat.add_zero]
  refine sy.Kj _ _ _ _ ?_
  intro v1 h1 v2 h2 v3 h3 v4 h4 v5 h5 v6 h6 v7 h7 v8 h8
  rw [ar] at h2
  have hd:v.kids.drop i=v2 :: v.kids.drop (i+1):=by rw [h2];exact drop_cons (by omega) _
  have hm:v2∈v.kids:=by rw [h2,ai,ah (by omega)];exact List.getElem_mem _
  have hv:=tt v2
  have hz:=Bs.size_le v2
  have Gn:=nr hm
  rw [hd] at hs ⊢
  simp only [bx.cw] at hs
  rw [Bs.qb] at h5
  have e4:v4=((s+v2.name.length+2:Nat):Int):=by rw [h4,h3,i64_in ((s:Int)+(v2.name.length:Int)) (by omega),i64_in _ (by omega)];omega
  have e6:v6=((i+1:Nat):Int):=by rw [h6,i64_in _ (by omega)];omega
  have e5:IntKind.i64.wrap (v4+v5)=((s+(v2.name.length+2+Bs.size v2):Nat):Int):=by rw [e4,h5,i64_in _ (by omega)];omega
  have c:(decide (bx.dk (bx.of [] (bx.val v2))≤100000)&&decide (bx.dk (bx.of [] (bx.val v2))<n))=true:=by
   rw [ae];exact ⟨aa (by omega),aa (by omega)⟩
  rw [h1,aa (by omega),ao,bw (eT (by omega) (by omega)),bw (eT (by omega) (by omega)),bw c,e5,e6,sy.Ki n v hn hb m (i+1) _ (by omega) (by omega)]
  simp only [Bs.dC,Nat.add_assoc]
theorem sy.goal (n:Nat) (v:Val) (hp:(decide (bx.dk (bx.of [] v)≤100000)&&decide (bx.dk (bx.of [] v)<n+1))=true):sy.F n v=some [.i .i64 ((Bs.size (bx.of [] v):Nat):Int)]:=by
 rw [ae] at hp
 obtain ⟨h1,h2⟩:=hp
 have h1:=au h1
 have h2:=au h2
 have hb:bx.dk (bx.of [] v)=1+v.text.length+v.more.length+v.bytes.length+bx.cw v.kids:=by simp only [bx.of,bx.dk,aM,Nat.add_zero]
 have e:Bs.size (bx.of [] v)=if Bs.gM v.kind then 8 else if v.kind=16 then 4 else if v.kind=8 then 1 else if v.kind=19 then 16 else if Bs.gF v.kind then v.text.length+5 else if v.kind=11 then v.text.length+v.more.length+2 else if v.kind=5 then (if v.sub=2 then v.bytes.length+9 else v.bytes.length+5) else if v.kind=7 then 12 else if v.kind=12 then v.text.length+17 else if v.kind=3∨v.kind=4 then Bs.dC v.kids+5 else if v.kind=15 then v.text.length+9+(Bs.dC v.kids+5) else 0:=by
  simp only [bx.of,Bs.size]
 have l5:=sy.Ki n v h2 h1 v.kids.length 0 5 (by omega) (by rw [aY];omega)
 rw [aY] at l5
 have j4:sy.j4 n (decide (v.kind=3∨v.kind=4∨v.kind=15)) v=some [.i .i64 ((if v.kind=3∨v.kind=4 then Bs.dC v.kids+5 else if v.kind=15 then v.text.length+9+(Bs.dC v.kids+5) else 0:Nat):Int)]:=by
  rw [sy.Cw]
  by_cases c:v.kind=3∨v.kind=4
  ·rw [aa (by omega),ao,aq c]
   refine l5.trans ?_
   rw [al (by omega),Nat.add_comm]
  rw [al c]
  by_cases c:v.kind=15
  ·rw [aa (by omega),ao,aq c]
   refine l5.trans ?_
   rw [aq c]
   exact congrArg (fun x=>some [TV.i .i64 x]) (by omega)
  ·rw [ab (by omega),al c];rfl
 have j2:sy.j2 n v.kind (Bs.gF v.kind) v=some [.i .i64 ((if Bs.gF v.kind then v.text.length+5 else if v.kind=11 then v.text.length+v.more.length+2 else if v.kind=5 then (if v.sub=2 then v.bytes.length+9 else v.bytes.length+5) else if v.kind=7 then 12 else if v.kind=12 then v.text.length+17 else if v.kind=3∨v.kind=4 then Bs.dC v.kids+5 else if v.kind=15 then v.text.length+9+(Bs.dC v.kids+5) else 0:Nat):Int)]:=by
  refine sy.lO _ _ _ _ ?_
  intro v1 e1 v2 e2 v3 e3 v4 e4 v5 e5 v6 e6 v7 e7 v8 e8
  cases ht:Bs.gF v.kind with
  | true=>rw [ao,aq rfl,e2,e1,i64_in _ (by omega)];rfl
  | false =>
   rw [af,al (by simp)]
   by_cases c:v.kind=11
   ·rw [aa c,ao,aq c,e4,e3,e1,i64_in (_+(v.more.length:Int)) (by omega),i64_in _ (by omega)];rfl
   rw [ab c,af,al c]
   by_cases c:v.kind=5
   ·rw [aa c,ao,aq c]
    by_cases d:v.sub=2
    ·rw [aa d,ao,aq d,sy.zx,e7,e6,e5,i64_in ((v.bytes.length:Int)+5) (by omega),i64_in _ (by omega)]
     exact congrArg (fun x=>some [TV.i .i64 x]) (by omega)
    ·rw [ab d,af,al d,sy.zx,e6,e5,i64_in _ (by omega)];rfl
   rw [ab c,af,al c]
   by_cases c:v.kind=7
   ·rw [aa c,ao,aq c];rfl
   rw [ab c,af,al c]
   by_cases c:v.kind=12
   ·rw [aa c,ao,aq c,e8,e1,i64_in _ (by omega)];rfl
   rw [ab c,af,al c]
   rw [xb (fun b=>sy.j4 n b v)]
   exact j4
 rw [sy.fh,xa (fun b=>sy.j1 n v.kind b v),sy.qz,e,show decide (v.kind=1∨v.kind=9∨v.kind=17∨v.kind=18)=Bs.gM v.kind from rfl]
 cases hn:Bs.gM v.kind with
 | true=>rw [ao,aq rfl];rfl
 | false =>
  rw [af,al (by simp)]
  by_cases c:v.kind=16
  ·rw [aa c,ao,aq c];rfl
  rw [ab c,af,al c]
  by_cases c:v.kind=8
  ·rw [aa c,ao,aq c];rfl
  rw [ab c,af,al c]
  by_cases c:v.kind=19
  ·rw [aa c,ao,aq c];rfl
  rw [ab c,af,al c]
  rw [xb (fun b=>sy.j2 n v.kind b v)]
  exact j2
theorem Jh.goal (s:IY) (hp:decide (s.length≤1000000)=true):Jh.F s=some [.sl .bs (Bs.fC s)]:=by
 have h:=au hp
 refine Jh.cR _ ?_
 intro v1 h1 v2 h2 v3 h3
 have e1:v1=((s.length+1:Nat):Int):=by rw [h1,i64_in _ (by omega)];omega
 rw [e1,xT (by omega)] at h2
 have h2:v2=Bs.ff 4 (s.length+1):=h2
 have l2:v2.length=4:=by rw [h2,Bs.bU]
 have l4:(v2++s).length=4+s.length:=by rw [ak,l2]
 rw [bw (by decide),bw (fQ (by omega) (by omega)),bw (fQ (by rw [aD];omega) (by rw [aD];omega)),h3,h2,aB];rfl
theorem I8.fx (n:Nat) (l:List bx) (hn:2 * bx.cw l<n) (hL:bx.cw l≤100000):∀(m i:Nat) (x:List UInt8),i+m=l.length→x.length+30 * bx.cw (l.drop i)≤4000000→I8.l1 n l (i:Int) x=some [.sl .bs (Bs.ib (x++Bs.dS (l.drop i)))]
 | 0,i,x,hi,hs=>by
  refine I8.fo _ _ _ _ ?_
  intro v1 h1 v2 h2 v3 h3 v4 h4 v5 h5 v6 h6 v7 h7 v8 h8 v9 h9
  have e7:v7=((x.length+5:Nat):Int):=by rw [h7,i64_in _ (by omega)];omega
  rw [e7,xT (by omega)] at h8
  have h8:v8=Bs.ff 4 (x.length+5):=h8
  have l8:v8.length=4:=by rw [h8,Bs.bU]
  have l9:(v8++x).length=4+x.length:=by rw [ak,l8]
  rw [ab (by omega),af,bw (by decide),bw (fQ (by omega) (by omega)),bw (fQ (by rw [aD];omega) (by rw [aD];omega)),h9,h8,aW (by omega),aB]
  show _=some [TV.sl .bs (Bs.ib (x++[]))]
  rw [bm];rfl
 | m+1,i,x,hi,hs=>by
  have hk:=nj l
  refine I8.fo _ _ _ _ ?_
  intro v1 h1 v2 h2 v3 h3 v4 h4 v5 h5 v6 h6 v7 h7 v8 h8 v9 h9
  rw [ar] at h1
  have hd:l.drop i=v1 :: l.drop (i+1):=by rw [h1];exact drop_cons (by omega) _
  have hm:v1∈l:=by rw [h1,ai,ah (by omega)];exact List.getElem_mem _
  have hv:=tt v1
  have hb:=nr hm
  have hz:=Bs.wP v1
  rw [hd] at hs ⊢
  simp only [bx.cw] at hs
  rw [Bs.tx] at h5
  have l2:(x++v2).length=x.length+1:=by rw [h2];simp
  have K3:v2.length=1:=by rw [h2];rfl
  have l3:v3.length=x.length+1+v1.name.length:=by rw [h3,ak,l2]
  have l4:v4.length=x.length+v1.name.length+2:=by rw [h4,ak,l3,aD];omega
  have l5:(v4++v5).length=x.length+v1.name.length+2+(Bs.enc v1).length:=by rw [ak,l4,h5]
  have K2:v5.length=(Bs.enc v1).length:=by rw [h5]
  have e6:v6=((i+1:Nat):Int):=by rw [h6,i64_in _ (by omega)];omega
  have c:(decide (bx.dk (bx.of [] (bx.val v1))≤100000)&&decide (2 * bx.dk (bx.of [] (bx.val v1))<n))=true:=by
   rw [ae];exact ⟨aa (by omega),aa (by omega)⟩
  have ix:dj (i:Int) l.length=true:=eT (by omega) (by omega)
  rw [aa (by omega),ao,bw ix,bw (fQ (by omega) (by omega)),bw ix,bw (fQ (by omega) (by omega)),bw (fQ (by rw [aD];omega) (by rw [aD];omega)),bw ix,bw c,bw (fQ (by omega) (by omega)),e6,I8.fx n l hn hL m (i+1) (v4++v5) (by omega) (by omega)]
  have ex:(v4++v5)++Bs.dS (l.drop (i+1))=x++Bs.dS (v1 :: l.drop (i+1)):=by
   rw [h5,h4,h3,h2,Bs.dS]
   simp only [aB,List.cons_append,bf]
  rw [ex]
theorem I8.goal (n:Nat) (l:List bx) (hp:(decide (bx.cw l≤100000)&&decide (2 * bx.cw l+1<n+1))=true):I8.F n l=some [.sl .bs (Bs.iR l)]:=by
 rw [ae] at hp
 obtain ⟨h1,h2⟩:=hp
 have h1:=au h1
 have h2:=au h2
 rw [I8.fh]
 refine (I8.fx n l (by omega) h1 l.length 0 [] (by omega) (by rw [aY];show 0+_≤_;omega)).trans ?_
 rw [aY];rfl
theorem IZ.goal (n:Nat) (v:Val) (hp:(decide (bx.dk (bx.of [] v)≤100000)&&decide (2 * bx.dk (bx.of [] v)<n+1))=true):IZ.F n v=some [.sl .bs (Bs.enc (bx.of [] v))]:=by
 rw [ae] at hp
 obtain ⟨h1,h2⟩:=hp
 have h1:=au h1
 have h2:=au h2
 have hz:=Bs.mr v.kids
 have hb:bx.dk (bx.of [] v)=1+v.text.length+v.more.length+v.bytes.length+bx.cw v.kids:=by simp only [bx.of,bx.dk,aM,Nat.add_zero]
 have e:Bs.enc (bx.of [] v)=if Bs.gM v.kind then Bs.ff 8 v.bits.toNat else if v.kind=16 then Bs.ff 4 v.bits.toNat else if v.kind=8 then Bs.ff 1 v.bits.toNat else if v.kind=19 then Bs.ff 8 v.low.toNat++Bs.ff 8 v.high.toNat else if Bs.gF v.kind then Bs.fC v.text else if v.kind=11 then (v.text++[0])++(v.more++[0]) else if v.kind=5 then Bs.nL v.sub v.bytes else if v.kind=7 then v.bytes else if v.kind=12 then Bs.fC v.text++v.bytes else if v.kind=3∨v.kind=4 then Bs.ib (Bs.dS v.kids) else if v.kind=15 then Bs.nM (Bs.fC v.text++Bs.ib (Bs.dS v.kids)) else []:=by
  simp only [bx.of,Bs.enc]
 have cb:(decide (bx.cw v.kids≤100000)&&decide (2 * bx.cw v.kids+1<n))=true:=by
  rw [ae];exact ⟨aa (by omega),aa (by omega)⟩
 have ct:decide (v.text.length≤1000000)=true:=aa (by omega)
 have lD:(Bs.iR v.kids).length=(Bs.dS v.kids).length+5:=by unfold Bs.iR;exact Bs.gw _
 have j4:IZ.j4 n v.kind (decide (v.kind=3∨v.kind=4)) v=some [.sl .bs (if v.kind=3∨v.kind=4 then Bs.ib (Bs.dS v.kids) else if v.kind=15 then Bs.nM (Bs.fC v.text++Bs.ib (Bs.dS v.kids)) else [])]:=by
  refine IZ.s7 _ _ _ _ ?_
  intro v1 e1 v2 e2 v3 e3
  by_cases c:v.kind=3∨v.kind=4
  ·rw [aa c,ao,aq c,bw cb];rfl
  rw [ab c,af,al c]
  by_cases c:v.kind=15
  ·have l1:v1.length=v.text.length+5+((Bs.dS v.kids).length+5):=by rw [e1,ak,Bs.fB,lD]
   have q2:v2=((v1.length+4:Nat):Int):=by rw [e2,i64_in _ (by omega)];omega
   rw [q2,xT (by omega)] at e3
   have e3:v3=Bs.ff 4 (v1.length+4):=e3
   have l3:v3.length=4:=by rw [e3,Bs.bU]
   rw [aa c,ao,aq c,bw ct,bw cb,bw (fQ (by rw [Bs.fB,lD];omega) (by rw [Bs.fB,lD];omega)),bw (by decide),bw (fQ (by omega) (by omega)),e3,e1];rfl
  ·rw [ab c,al c];rfl
 have j3:∀y:List UInt8,y.length≤200000→IZ.j3 n y v=some [.sl .bs (Bs.ff 4 y.length++(UInt8.ofInt v.sub :: y))]:=fun y hy=>by
  refine IZ.j3_in _ _ _ ?_
  intro v1 e1 v2 e2 v3 e3
  rw [e1,xT (by omega)] at e2
  have e2:v2=Bs.ff 4 y.length:=e2
  have l2:v2.length=4:=by rw [e2,Bs.bU]
  have l3:v3.length=1:=by rw [e3];rfl
  have l4:(v2++v3).length=5:=by rw [ak,l2,l3]
  rw [bw (by decide),bw (fQ (by omega) (by omega)),bw (fQ (by omega) (by omega)),e2,e3,aB];rfl
 have j2:IZ.j2 n v.kind (Bs.gF v.kind) v=some [.sl .bs (if Bs.gF v.kind then Bs.fC v.text else if v.kind=11 then (v.text++[0])++(v.more++[0]) else if v.kind=5 then Bs.nL v.sub v.bytes else if v.kind=7 then v.bytes else if v.kind=12 then Bs.fC v.text++v.bytes else if v.kind=3∨v.kind=4 then Bs.ib (Bs.dS v.kids) else if v.kind=15 then Bs.nM (Bs.fC v.text++Bs.ib (Bs.dS v.kids)) else [])]:=by
  refine IZ.lO _ _ _ _ ?_
  intro v1 e1 v2 e2 v3 e3 v4 e4 v5 e5 v6 e6
  cases ht:Bs.gF v.kind with
  | true=>rw [ao,aq rfl,bw ct]
  | false =>
   rw [af,al (by simp)]
   by_cases c:v.kind=11
   ·have l1:v1.length=v.text.length+1:=by rw [e1];simp
    have l2:(v1++v.more).length=v.text.length+1+v.more.length:=by rw [ak,l1]
    rw [aa c,ao,aq c,bw (yY (by omega)),bw (fQ (by rw [aD];omega) (by rw [aD];omega)),bw (fQ (by omega) (by omega)),bw (fQ (by rw [aD];omega) (by rw [aD];omega)),e2,e1]
    simp only [aB]
   rw [ab c,af,al c]
   by_cases c:v.kind=5
   ·rw [aa c,ao,aq c]
    rw [e3,xT (by omega)] at e4
    have e4:v4=Bs.ff 4 v.bytes.length:=e4
    have l4:v4.length=4:=by rw [e4,Bs.bU]
    have l5:(v4++v.bytes).length=v.bytes.length+4:=by rw [ak,l4];omega
    unfold Bs.nL
    by_cases d:v.sub=2
    ·rw [aa d,ao,aq d,bw (by decide),bw (fQ (by omega) (by omega)),j3 _ (by omega),l5,e4]
    ·rw [ab d,af,al d,j3 _ (by omega)]
   rw [ab c,af,al c]
   by_cases c:v.kind=7
   ·rw [aa c,ao,aq c,bw (fQ (by rw [aM];omega) (by rw [aM];omega)),e5];rfl
   rw [ab c,af,al c]
   by_cases c:v.kind=12
   ·rw [aa c,ao,aq c,bw ct,bw (fQ (by rw [Bs.fB];omega) (by rw [Bs.fB];omega)),e6]
   rw [ab c,af,al c]
   rw [xc (fun q=>IZ.j4 n v.kind q v)]
   exact j4
 rw [IZ.fh,xa (fun q=>IZ.j1 n v.kind q v),e,show decide (v.kind=1∨v.kind=9∨v.kind=17∨v.kind=18)=Bs.gM v.kind from rfl]
 refine IZ.qy _ _ _ _ ?_
 intro v1 e1 v2 e2 v3 e3 v4 e4 v5 e5
 cases hn:Bs.gM v.kind with
 | true=>rw [ao,aq rfl,bw (by decide),e1];rfl
 | false =>
  rw [af,al (by simp)]
  by_cases c:v.kind=16
  ·rw [aa c,ao,aq c,bw (by decide),e2];rfl
  rw [ab c,af,al c]
  by_cases c:v.kind=8
  ·rw [aa c,ao,aq c,bw (by decide),e3];rfl
  rw [ab c,af,al c]
  by_cases c:v.kind=19
  ·have l4:v4.length=8:=by rw [e4,Bs.bU];rfl
   have l5:v5.length=8:=by rw [e5,Bs.bU];rfl
   rw [aa c,ao,aq c,bw (by decide),bw (by decide),bw (fQ (by omega) (by omega)),e5,e4];rfl
  rw [ab c,af,al c]
  rw [xb (fun q=>IZ.j2 n v.kind q v)]
  exact j2
theorem Je.goal (v:Val) (hp:decide (bx.dk (bx.of [] v)≤100000)=true):Je.F v=some [.sl .bs (Bs.encode v).1,.ag (cq.cells ⟨(Bs.encode v).2.1,0,(Bs.encode v).2.2⟩)]:=by
 have h:=au hp
 have hb:bx.dk (bx.of [] v)=1+v.text.length+v.more.length+v.bytes.length+bx.cw v.kids:=by simp only [bx.of,bx.dk,aM,Nat.add_zero]
 refine Je.cR _ ?_
 intro v1 h1 v2 h2 v3 h3
 rw [bw (aa (by omega)),h1,h2,h3]
 unfold Bs.encode
 by_cases c:(Tree.hU (bx.of [] v) []).2=0
 ·rw [aa c,aK,af,al (fun h=>h c)]
  by_cases d:v.kind=3
  ·rw [aa d,aK,af,al (fun h=>h d),bw (aa h)]
   by_cases f:16777216<Bs.size (bx.of [] v)
   ·rw [aa (by omega),aq f];rfl
   ·rw [ab (by omega),af,al f,bw (aa (by omega))];rfl
  ·rw [ab d,aq d];rfl
 ·rw [ab c,aq c];rfl
end Go.Eng
set_option maxRecDepth 20000
namespace Go.Eng
open Go.IntWalk
abbrev Bs.told (Y:Except Bs.E (Val × Nat)) (b:IY) (a:Int):OT:=some [.ag (Val.cells (Bs.gh (Bs.cS 0,0) Y).1),.i .i64 ((Bs.gh (Bs.cS 0,0) Y).2:Int),.ag (cq.cells (Bs.iI Y)),.ag (bA.cells ⟨b,a⟩)]
theorem ri (n:Nat) {A:Type} {X:Except Bs.E A} (Y:Except Bs.E (Val × Nat)) (hX:Bs.GX X) (f:A→Val × Nat) (he:∀e,X = .error e→Y = .error e) (ho:∀y,X = .ok y→Y = .ok (f y)) {x0:Int} {x1:Val} (h:∀y,X = .ok y→x0=((f y).2:Int)∧x1=(f y).1) {x2:cq} (h2:x2=Bs.iI X) (b:IY) (a:Int):bt.j2 n x0 x1 x2 b a=Bs.told Y b a:=by
 rw [bt.jE,h2]
 cases X with
 | error e =>
  obtain ⟨e1,e2⟩:=e
  rw [he _ rfl,ab (show ¬cq.err (Bs.iI (.error (e1,e2):Except Bs.E A))=0 from hX e1 e2 rfl)];rfl
 | ok y =>
  obtain ⟨g1,g2⟩:=h y rfl
  rw [ho y rfl,aa (show cq.err (Bs.iI (.ok y:Except Bs.E A))=0 from rfl),g1,g2];rfl
theorem rh (n:Nat) (v:Val) (x:Nat) (b:IY) (a:Int):bt.j2 n x v ⟨0,0,[]⟩ b a=Bs.told (.ok (v,x)) b a:=bt.jE ..
theorem sw (n:Nat) (v:Val) (x:Int) {e:Int} (h:e≠0) (q:Nat) (b:IY) (a:Int):bt.j2 n x v ⟨e,q,[]⟩ b a=Bs.told (.error (e,q)) b a:=by
 rw [bt.jE,ab (show ¬cq.err ⟨e,q,[]⟩=0 from h)];rfl
theorem Bs.xe {w:IY} {n:Int} {f:Nat} (h:n=f) (h1:1≤f) (h8:f≤8) (hl:f≤w.length):Bs.can ⟨w,0⟩ n=true:=by
 subst h;exact aa ⟨by omega,by omega,by show (f:Int)≤(w.length:Int) - 0;omega⟩
theorem Dh (n:Nat) {b:IY} {a d:Int} {q z y:Nat} (k:Int) (h1:q≤z) (h2:z≤b.length) (h3:b.length≤1000000000) (hd:0≤d∧d≤1000∧a≤1000∧d<a) (hn:3 * (a - d).toNat+1<n+1)
  (hz:¬z - q<Bs.fixed k) (hy:¬k=15→y=q) :
  bt.j5 n q z d y k (decide (k=3∨k=4)) (Bs.cS k) ⟨0,0,[]⟩ b a=Bs.told (Bs.xQ (Bs.doc (a - (d+1)).toNat) b k q z) b a:=by
 have hr:=Bs.jT b (a - (d+1)).toNat
 refine bt.Cv _ _ _ _ _ _ _ _ _ _ _ ?_
 intro v1 e1 v2 e2 v3 e3 v4 e4 v5 e5 v6 e6 v7 e7 v8 e8
 have q1:v1=d+1:=by rw [e1,i64_in _ (by omega)]
 rw [ar,ar] at e2 e3 e4 e5 e6 e7 e8
 have e0:=Bs.xQ.eq_1 (Bs.doc (a - (d+1)).toNat) b k q z
 by_cases c8:k=3∨k=4
 ·rw [aa c8,ao,bw (by
   rw [ae]
   exact ⟨aa ⟨by omega,by omega,by show (z:Int)≤(b.length:Int);omega,h3,by omega,by omega,hd.2.2.1⟩,aa (by show 3 * (a - v1).toNat+2<n;omega)⟩)]
  rw [aq c8] at e0
  rw [show (bA.mk b a).at_ - v1=a - (d+1) by rw [q1]] at e2 e3 e4
  refine ri n _ (hr q z 0 h1 h2).ne (fun y=>({ Bs.cS k with kids:=y.1 },y.2)) ?_ ?_ ?_ e4 b a
  ·intro e i;rw [e0,i]
  ·intro y i;rw [e0,i]
  ·intro y i
   have i:Bs.doc (a - (d+1)).toNat (bA.mk b a).b q z 0 = .ok y:=i
   rw [i] at e2 e3
   exact ⟨e3,by rw [e2];rfl⟩
 rw [ab c8,af]
 rw [al c8] at e0
 by_cases c9:k=15
 ·have hf:Bs.fixed k=4:=by rw [c9];decide
  rw [aa c9,ao,bw (by
   rw [ae]
   exact ⟨aa ⟨by omega,by omega,by show (z:Int)≤(b.length:Int);omega,h3,by omega,by omega,hd.2.2.1,hd.2.2.2⟩,aa (by show 3 * (a - d).toNat<n;omega)⟩)]
  rw [aq c9] at e0
  refine ri n _ (Bs.nX hr h1 h2).ne (fun y=>({ Bs.cS k with text:=(Bs.ew (Bs.doc (a - (d+1)).toNat) b q z).1,kids:=y.1 },y.2)) ?_ ?_ ?_ e8 b a
  ·intro e i;rw [e0,i]
  ·intro y i;rw [e0,i]
  ·intro y i
   have i:(Bs.ew (Bs.doc ((bA.mk b a).at_ - (d+1)).toNat) (bA.mk b a).b q z).2 = .ok y:=i
   rw [i] at e6 e7
   exact ⟨e7,by rw [e5,e6];rfl⟩
 rw [ab c9,af,e0,al c9,hy c9]
 exact rh n _ q b a
theorem Di (n:Nat) {b:IY} {a:Int} {z x:Nat} (v:Val) (h1:x+12≤z) (h2:z≤b.length) (h3:b.length≤1000000000):bt.j4 n x v ⟨0,0,[]⟩ b a=Bs.told (.ok ({ v with bytes:=Bs.sub b x 12 },x+12)) b a:=by
 refine bt.s7 _ _ _ _ _ _ ?_
 intro v1 e1 v2 e2
 have q1:v1=((x+12:Nat):Int):=by rw [e1,i64_in _ (by omega)];omega
 have q2:v2=Bs.sub b x 12:=by rw [e2,q1,ar,ar,List.drop_take,show x+12 - x=12 by omega];rfl
 have l2:v2.length≤12:=by rw [q2];unfold Bs.sub;rw [ay];omega
 rw [show decide (cq.err ⟨0,0,[]⟩=0)=true from rfl,ao,bw (by rw [q1];exact gj (by omega) (by omega) (by omega)),bw (fQ (by omega) (by omega)),q2,q1]
 exact rh n _ (x+12) b a
theorem xf (n:Nat) {b:IY} {a x:Int} (v:Val) {e:Int} (h:e≠0) (q:Nat):bt.j4 n x v ⟨e,q,[]⟩ b a=Bs.told (.error (e,q)) b a:=by
 refine bt.s7 _ _ _ _ _ _ ?_
 intro v1 e1 v2 e2
 rw [ab (show ¬cq.err ⟨e,q,[]⟩=0 from h),af];exact sw n _ _ h q b a
theorem Dj (n:Nat) {b:IY} {a d:Int} {q z y:Nat} (k:Int) (h1:q≤z) (h2:z≤b.length) (h3:b.length≤1000000000) (hd:0≤d∧d≤1000∧a≤1000∧d<a) (hn:3 * (a - d).toNat+1<n+1)
  (hz:¬z - q<Bs.fixed k) (hy:¬Bs.gF k=true→¬k=12→¬k=5→¬k=15→y=q) :
  bt.j3 n q z d y k (decide (k=2∨k=13∨k=14)) (Bs.cS k) ⟨0,0,[]⟩ b a=Bs.told (Bs.xO (Bs.doc (a - (d+1)).toNat) b k q z) b a:=by
 have ht:=@Bs.jo b q z h1 h2
 have hu:=@Bs.jS b q z h1 h2
 refine bt.j3_in _ _ _ _ _ _ _ _ _ _ _ ?_
 intro v1 e1 v2 e2 v3 e3 v4 e4 v5 e5 v6 e6 v7 e7 v8 e8 v9 e9 v10 kT v11 vm v12 yO jY Bh nR D1
 rw [ar,ar] at e1 e2 e3 e5 e6 e7 vm yO Bh D1
 have e0:=Bs.xO.eq_1 (Bs.doc (a - (d+1)).toNat) b k q z
 have hb:decide (0≤(q:Int)∧(q:Int)≤(z:Int)∧(z:Int)≤(b.length:Int)∧b.length≤1000000000)=true:=aa ⟨by omega,by omega,by omega,h3⟩
 rw [show decide (k=2∨k=13∨k=14)=Bs.gF k from rfl]
 by_cases c4:Bs.gF k=true
 ·rw [c4,ao,bw hb]
  rw [aq c4] at e0
  refine ri n _ ht.ne (fun y=>({ Bs.cS k with text:=y.1 },y.2)) ?_ ?_ ?_ e3 b a
  ·intro e i;rw [e0,i]
  ·intro y i;rw [e0,i]
  ·intro y i
   rw [show Bs.text (bA.mk b a).b q z = .ok y from i] at e1 e2
   exact ⟨e2,by rw [e1];rfl⟩
 have Ig:Bs.gF k=false:=by simpa using c4
 rw [Ig,af]
 rw [al c4] at e0
 by_cases c5:k=12
 ·rw [aa c5,ao,bw hb,bw (by cases decide (cq.err v3=0) <;> rfl),bw (by cases decide (cq.err v3=0) <;> rfl),bw (by cases decide (cq.err v3=0) <;> rfl)]
  rw [aq c5] at e0
  match hx:Bs.text b q z with
  | .error (e,i) =>
   rw [show Bs.text (bA.mk b a).b q z=_ from hx] at e1 e2 e3
   have gf:=(ht.1 e i hx).1
   have q3:v3=⟨e,i,[]⟩:=e3
   rw [e0,hx,e4,q3,ab (show ¬cq.err ⟨e,i,[]⟩=0 from gf),af,af]
   exact xf n _ gf i
  | .ok (s,x) =>
   rw [show Bs.text (bA.mk b a).b q z=_ from hx] at e1 e2 e3
   have hy:q≤x∧x≤z:=ht.2 _ hx
   have q3:v3=⟨0,0,[]⟩:=e3
   have q2:v2=(x:Int):=e2
   have q1:v1=s:=e1
   rw [e0,hx,e4,q3,q2,q1,show decide (cq.err ⟨0,0,[]⟩=0)=true from rfl,ao,i64_in _ (by omega)]
   show _=Bs.told (if z - x<12 then _ else _) b a
   by_cases c:z - x<12
   ·rw [aa (show (z:Int) - x<12 by omega),ao,aq c]
    exact xf n _ (by decide) x
   ·rw [ab (show ¬(z:Int) - x<12 by omega),af,al c]
    exact Di n _ (z:=z) (by omega) h2 h3
 rw [ab c5,af]
 rw [al c5] at e0
 by_cases c6:k=11
 ·rw [aa c6,ao,bw hb]
  rw [aq c6] at e0
  match hx:Bs.ended b q z with
  | .error (e,i) =>
   rw [show Bs.ended (bA.mk b a).b q z=_ from hx] at e5 e6 e7
   have gf:=(hu.1 e i hx).1
   have q7:v7=⟨e,i,[]⟩:=e7
   rw [e0,hx,q7,ab (show ¬cq.err ⟨e,i,[]⟩=0 from gf),af]
   exact sw n _ _ gf i b a
  | .ok (s,x) =>
   rw [show Bs.ended (bA.mk b a).b q z=_ from hx] at e5 e6 e7
   have hy:q≤x∧x≤z:=hu.2 _ hx
   have q7:v7=⟨0,0,[]⟩:=e7
   have q6:v6=(x:Int):=e6
   have q5:v5=s:=e5
   rw [q6,ar,ar] at e8 e9 kT
   rw [e0,hx,q7,show decide (cq.err ⟨0,0,[]⟩=0)=true from rfl,ao,q6,bw (aa ⟨by omega,by omega,by show (z:Int)≤(b.length:Int);omega,h3⟩)]
   refine ri n _ (@Bs.jS b x z hy.2 h2).ne (fun y=>({ Bs.cS k with text:=s,more:=y.1 },y.2)) ?_ ?_ ?_ kT b a
   ·intro e i
    show (match Bs.ended b x z with | .error e=>_ | .ok (m,y)=>_)=_
    rw [i]
   ·intro y i
    show (match Bs.ended b x z with | .error e=>_ | .ok (m,y)=>_)=_
    rw [i]
   ·intro y i
    rw [show Bs.ended (bA.mk b a).b x z = .ok y from i] at e8 e9
    exact ⟨e9,by rw [e8,q5];rfl⟩
 rw [ab c6,af]
 rw [al c6] at e0
 by_cases c7:k=5
 ·have hf:Bs.fixed k=5:=by rw [c7];decide
  rw [aa c7,ao,bw (aa ⟨by omega,by omega,by show (z:Int)≤(b.length:Int);omega,h3⟩)]
  rw [aq c7] at e0
  refine ri n _ (@Bs.nx b q z (by omega) h2).ne (fun y=>({ Bs.cS k with sub:=y.1,bytes:=y.2.1 },y.2.2)) ?_ ?_ ?_ D1 b a
  ·intro e i;rw [e0,i]
  ·intro y i;rw [e0,i]
  ·intro y i
   rw [show Bs.binary (bA.mk b a).b q z = .ok y from i] at vm yO Bh
   exact ⟨Bh,by rw [vm,yO];rfl⟩
 rw [ab c7,af,xc (fun p=>bt.j5 n q z d y k p (Bs.cS k) ⟨0,0,[]⟩ b a)]
 rw [e0,al c7]
 exact Dh n k h1 h2 h3 hd hn hz (fun h=>hy c4 c5 c7 h)
theorem Bs.uj {w:IY} {n:Int} {f:Nat} (h:n=f) (h1:1≤f) (h8:f≤8) (hl:f=w.length):Bs.fH ⟨w,0⟩ n=w:=by
 unfold Bs.fH
 rw [aq (Bs.xe h h1 h8 (by omega))]
 show (w.drop 0).take n.toNat=w
 rw [aY,h,ar,List.take_of_length_le (by omega)]
theorem Dk (n:Nat) {b:IY} {a d:Int} {q z:Nat} (k:Int) (h1:q≤z) (h2:z≤b.length) (h3:b.length≤1000000000) (hd:0≤d∧d≤1000∧a≤1000∧d<a) (hn:3 * (a - d).toNat+1<n+1)
  (hz:¬z - q<Bs.fixed k) :
  bt.j1 n k q z d (q+Bs.fixed k:Nat) (Bs.fixed k:Nat) k (decide (k=1∨k=9∨k=17∨k=18∨k=16∨k=8)) (Bs.cS k) ⟨0,0,[]⟩ (Bs.sub b q (Bs.fixed k)) 0 b a=Bs.told (Bs.eM (Bs.doc (a - (d+1)).toNat) b k q z) b a:=by
 have e0:=Bs.eM.eq_1 (Bs.doc (a - (d+1)).toNat) b k q z
 rw [al hz] at e0
 have lw:(Bs.sub b q (Bs.fixed k)).length=Bs.fixed k:=by unfold Bs.sub;rw [ay,aL];omega
 have f16:=Bs.qP k
 refine bt.qy _ _ _ _ _ _ _ _ _ _ _ _ _ _ _ ?_
 intro v1 e1 v2 e2 v3 e3 v4 e4 v5 e5 v6 e6 v7 e7 v8 e8 v9 e9 v10 kT v11 vm
 have ed:decide (k=1∨k=9∨k=17∨k=18∨k=16∨k=8)=decide (Bs.gM k=true∨k=16∨k=8):=aV.2 (by
  rw [Bs.qp]
  constructor
  ·rintro (h | h | h | h | h | h) <;> simp [h]
  ·rintro ((h | h | h | h) | h | h) <;> simp [h])
 rw [ed]
 by_cases c1:Bs.gM k=true∨k=16∨k=8
 ·have hf:=Bs.ox c1
  rw [aq c1] at e0
  rw [Bs.uj rfl hf.1 hf.2.1 lw.symm] at e2
  rw [aa c1,ao,bw (aa ⟨by omega,by omega,Int.le_refl _,by show (0:Int)≤((Bs.sub b q (Bs.fixed k)).length:Int);omega,by show (Bs.sub b q (Bs.fixed k)).length≤_;omega⟩),bw (by cases decide (k=8) <;> rfl),bw (by cases decide (k=8) <;> rfl),bw (by cases decide (k=8) <;> rfl)]
  have q4:v4=decide (k=8∧1<Bs.gD (Bs.sub b q 1)):=by
   rw [e4]
   by_cases c:k=8
   ·have hl:=Bs.lu (Bs.sub b q (Bs.fixed k))
    rw [lw,hf.2.2 c] at hl
    rw [aa c,ao,e2]
    refine aV.2 ⟨fun h=>⟨c,?_⟩,fun h=>?_⟩
    ·have:=aZ.1 h
     rw [UInt64.toNat_ofNat',hf.2.2 c,Nat.mod_eq_of_lt (by omega)] at this
     exact this
    ·refine aZ.2 ?_
     rw [UInt64.toNat_ofNat',hf.2.2 c,Nat.mod_eq_of_lt (by omega)]
     exact h.2
   ·rw [ab c,af,ab (fun h=>c h.1)]
  rw [q4]
  by_cases c:k=8∧1<Bs.gD (Bs.sub b q 1)
  ·rw [aa c,ao,e0,aq c]
   exact sw n _ _ (by decide) q b a
  ·rw [ab c,af,e0,al c,e2]
   exact rh n _ _ b a
 rw [ab c1,af]
 rw [al c1] at e0
 by_cases c2:k=19
 ·have hf:Bs.fixed k=16:=by rw [c2];decide
  rw [hf] at lw e5 e6 e7 ⊢
  have cn:Bs.can ⟨Bs.sub b q 16,0⟩ 8=true:=Bs.xe (f:=8) rfl (by omega) (by omega) (by omega)
  have q5:v5=⟨Bs.sub b q 16,8⟩:=by rw [e5];unfold Bs.jA;rw [aq cn];rfl
  have cm:Bs.can ⟨Bs.sub b q 16,8⟩ 8=true:=aa ⟨by omega,by omega,by show (8:Int)≤((Bs.sub b q 16).length:Int) - 8;omega⟩
  have q6:v6=UInt64.ofNat (Bs.gD (Bs.sub b q 8)):=by
   rw [e6];unfold Bs.fH;rw [aq cn]
   show UInt64.ofNat (Bs.gD (((Bs.sub b q 16).drop 0).take 8))=_
   rw [aY];unfold Bs.sub;rw [List.take_take];rfl
  have q8:v8=UInt64.ofNat (Bs.gD (Bs.sub b (q+8) 8)):=by
   rw [e8,q5];unfold Bs.fH;rw [aq cm]
   show UInt64.ofNat (Bs.gD (((Bs.sub b q 16).drop 8).take 8))=_
   unfold Bs.sub;rw [List.drop_take,List.drop_drop,List.take_take];rfl
  rw [aa c2,ao,bw (aa ⟨by omega,by omega,Int.le_refl _,by show (0:Int)≤((Bs.sub b q 16).length:Int);omega,by show (Bs.sub b q 16).length≤_;omega⟩),q5,bw (aa ⟨by omega,by omega,by show (0:Int)≤8;omega,by show (8:Int)≤((Bs.sub b q 16).length:Int);omega,by show (Bs.sub b q 16).length≤_;omega⟩),e0,aq c2,q6,q8]
  exact rh n _ _ b a
 rw [ab c2,af]
 rw [al c2] at e0
 by_cases c3:k=7
 ·have hf:Bs.fixed k=12:=by rw [c3];decide
  rw [hf] at lw kT ⊢
  have cn:Bs.qY ⟨Bs.sub b q 12,0⟩ 12=true:=aa ⟨by omega,by show (12:Int)≤((Bs.sub b q 12).length:Int) - 0;omega⟩
  have Co:v10=Bs.sub b q 12:=by
   rw [kT];unfold Bs.pW;rw [aq (show Bs.qY ⟨Bs.sub b q 12,0⟩ ((12:Nat):Int)=true from cn)]
   show ((Bs.sub b q 12).drop 0).take 12=_
   rw [aY,List.take_of_length_le (by omega)]
  rw [aa c3,ao,bw (aa ⟨by omega,Int.le_refl _,by show (0:Int)≤((Bs.sub b q 12).length:Int);omega,by show (Bs.sub b q 12).length≤_;omega⟩),e0,aq c3,Co]
  exact rh n _ _ b a
 rw [ab c3,af,e0,al c3,xb (fun p=>bt.j3 n q z d (q+Bs.fixed k:Nat) k p (Bs.cS k) ⟨0,0,[]⟩ b a)]
 refine Dj n k h1 h2 h3 hd hn hz (fun c4 c5 c7 c9=>?_)
 have:Bs.fixed k=0:=by
  unfold Bs.fixed
  rw [al (fun h=>c1 (.inl h)),al (by rintro (h | h | h | h);exact c1 (.inr (.inl h));exact c4 h;exact c5 h;exact c9 h),al (fun h=>c1 (.inr (.inr h))),al c2,al c3,al c7]
 omega
theorem bt.goal (n:Nat) (r:bA) (k q z d:Int) (hp:((decide (0≤q∧q≤z∧z≤((r.b).length:Int)∧(r.b).length≤1000000000∧0≤d∧d≤1000∧r.at_≤1000∧d<r.at_))&&decide ((3 * (r.at_ - d).toNat+1)<n+1))=true):bt.F n r k q z d=Bs.told (Bs.eM (Bs.doc (r.at_ - (d+1)).toNat) r.b k q.toNat z.toNat) r.b r.at_:=by
 rw [ae] at hp
 obtain ⟨h1,h2,h3,h4,h5,h6,h7,h8⟩:=au hp.1
 have hn:=au hp.2
 obtain ⟨q,rfl⟩:∃k:Nat,q=(k:Int):=⟨q.toNat,by omega⟩
 obtain ⟨z,rfl⟩:∃k:Nat,z=(k:Int):=⟨z.toNat,by omega⟩
 refine bt.cR _ _ _ _ _ _ ?_
 rw [ar q,ar z]
 intro v1 e1 v2 e2
 have f16:=Bs.qP k
 rw [i64_in ((z:Int) - q) (by omega)]
 by_cases c:z - q<Bs.fixed k
 ·rw [aa (show (z:Int) - q<(Bs.fixed k:Nat) by omega),ao];unfold Bs.eM;rw [aq c];rfl
 have q1:v1=((q+Bs.fixed k:Nat):Int):=by rw [e1,i64_in _ (by omega)];omega
 have q2:v2=Bs.sub r.b q (Bs.fixed k):=by rw [e2,q1,ar,List.drop_take,show q+Bs.fixed k - q=Bs.fixed k by omega];rfl
 have l2:v2.length≤1099511627776:=by rw [q2];unfold Bs.sub;rw [ay];omega
 rw [ab (show ¬(z:Int) - q<(Bs.fixed k:Nat) by omega),af,bw (by rw [q1];exact gj (by omega) (by omega) (by omega)),bw (aa l2),q1,q2]
 exact (zU (fun p=>bt.j1 n k q z d (q+Bs.fixed k:Nat) (Bs.fixed k:Nat) k p (Bs.cS k) ⟨0,0,[]⟩ (Bs.sub r.b q (Bs.fixed k)) 0 r.b r.at_)).trans (Dk n k (by omega) (by omega) h4 ⟨h5,h6,h7,h8⟩ hn c)
end Go.Eng
set_option maxRecDepth 20000
namespace Go.Eng
open Go.IntWalk
abbrev Bs.pT (s:List TV) (Y:Except Bs.E (List bx × Nat)) (b:IY) (a:Int):OT:=some (s++[.sl .fl (Bs.gh ([],0) Y).1,.i .i64 ((Bs.gh ([],0) Y).2:Int),.ag (cq.cells (Bs.iI Y)),.ag (bA.cells ⟨b,a⟩)])
theorem da.goal (n:Nat) (r:bA) (q z d:Int) (hp:((decide (0≤q∧q+4≤z∧z≤((r.b).length:Int)∧(r.b).length≤1000000000∧0≤d∧d≤1000∧r.at_≤1000∧d<r.at_))&&decide ((3 * (r.at_ - d).toNat)<n+1))=true):da.F n r q z d=Bs.pT [.s (Bs.ew (Bs.doc (r.at_ - (d+1)).toNat) r.b q.toNat z.toNat).1] (Bs.ew (Bs.doc (r.at_ - (d+1)).toNat) r.b q.toNat z.toNat).2 r.b r.at_:=by
 rw [ae] at hp
 obtain ⟨h1,h2,h3,h4,h5,h6,h7,h8⟩:=au hp.1
 have hn:=au hp.2
 obtain ⟨q,rfl⟩:∃k:Nat,q=(k:Int):=⟨q.toNat,by omega⟩
 obtain ⟨z,rfl⟩:∃k:Nat,z=(k:Int):=⟨z.toNat,by omega⟩
 refine da.cR _ _ _ _ _ ?_
 rw [ar q,ar z]
 intro v1 e1 v2 e2 v3 e3 v4 e4 v5 e5 v6 e6 v7 e7 v8 e8 v9 e9 v10 kT
 have hr:=Bs.ja r.b q
 have IH:=Bs.jT r.b (r.at_ - (d+1)).toNat
 unfold Bs.ew
 generalize Bs.cU r.b q=m at *
 unfold Bs.mH
 rw [i64_in ((z:Int) - q) (by omega)] at e1
 have q1:v1=decide (m<14∨(z:Int) - q<m):=by
  rw [e1]
  by_cases c:m<14
  ·rw [aa c,aa (show m<14∨(z:Int) - q<m from .inl c)];rfl
  ·rw [ab c,af];exact aV.2 (by omega)
 rw [bw (aa ⟨by omega,by omega,h4⟩),bw (tc _).1,bw (tc _).1,bw (tc _).2.2,q1]
 by_cases c:m<14∨(z:Int) - q<m
 ·rw [aa c,ao,aq c];rfl
 rw [ab c,af,al c]
 have q2:v2=((q+4:Nat):Int):=by rw [e2,i64_in _ (by omega)];omega
 have q3:v3=((q+m.toNat:Nat):Int):=by rw [e3,i64_in _ (by omega)];omega
 have q7:v7=d+1:=by rw [e7,i64_in _ (by omega)]
 rw [q2,q3,ar,ar] at e4 e5 e6
 have ht:=@Bs.jo r.b (q+4) (q+m.toNat) (by omega) (by omega)
 rw [q2,q3,bw (aa ⟨by omega,by omega,by omega,h4⟩)]
 match hx:Bs.text r.b (q+4) (q+m.toNat) with
 | .error (e,i) =>
  rw [hx] at e6
  have q6:v6=⟨e,i,[]⟩:=e6
  rw [q6,ab (show ¬cq.err ⟨e,i,[]⟩=0 from (ht.1 e i hx).1)];rfl
 | .ok (s,x) =>
  have hy:q+4≤x∧x≤q+m.toNat:=ht.2 _ hx
  rw [hx] at e4 e5 e6
  have q6:v6=⟨0,0,[]⟩:=e6
  have q5:v5=(x:Int):=e5
  have q4:v4=s:=e4
  rw [q5,q3,q7,ar,ar] at e8 e9 kT
  rw [q6,show decide (cq.err ⟨0,0,[]⟩=0)=true from rfl,aK,af,q5,q7,bw (by
   rw [ae]
   exact ⟨aa ⟨by omega,by omega,by omega,h4,by omega,by omega,h7⟩,aa (by omega)⟩),e8,e9,kT,q4];rfl
theorem Dl (n:Nat) {b:IY} {a:Int} {z x:Nat} (f:cq) (acc:List bx) (h:z<b.length) (hx:x=z+1):bz.g1 n (x:Int) (z:Int) f b a acc=Bs.pT [] (if b.getD z 0≠0 then .error (3,z) else .ok (acc,z+1)) b a:=by
 refine bz.De _ _ _ _ _ _ _ ?_
 intro v1 e1
 rw [ar] at e1
 rw [bw (eT (by omega) (by omega)),←e1]
 by_cases c:v1=0
 ·rw [aa c,al (by simp [c]),hx];rfl
 ·rw [ab c,aq c];rfl
theorem zV (m:Nat) {b:IY} {a d:Int} {z:Nat} (hz:z<b.length) (h3:b.length≤1000000000) (hd:0≤d∧d≤1000∧a≤1000∧d<a) (hn:3 * (a - d).toNat+1<m):∀(n at_:Nat) (f:cq) (v:Val) (acc:List bx),at_≤z→z - at_<n→acc.length≤at_ →
  bz.g2 m d (z+1:Nat) at_ f v b a acc=Bs.pT [] (Bs.rH (Bs.eM (Bs.doc (a - (d+1)).toNat) b) b z n at_ acc) b a
 | 0,at_,f,v,acc,h1,h2,hl=>by omega
 | n+1,at_,f,v,acc,h1,h2,hl=>by
  have hv:=fun k q hq=>@Bs.pR (Bs.doc (a - (d+1)).toNat) b (Bs.jT b _) k q z hq (by omega)
  refine bz.zN _ _ _ _ _ _ _ _ _ ?_
  intro v1 e1 v2 e2 v3 e3 v4 e4 v5 e5 v6 e6 v7 e7 v8 e8 v9 e9 v10 kT v11 vm
  have q1:v1=(z:Int):=by rw [e1,i64_in _ (by omega)];omega
  have q4:v4=(at_:Int)+1:=by rw [e4,i64_in _ (by omega)]
  rw [ar] at e2
  have hb:=v2.toNat_lt
  have q3:v3=(v2.toNat:Int):=by rw [e3,i64_in _ (by omega)]
  rw [q1,ar,q4] at e5 e6 e7
  unfold Bs.rH
  rw [q1]
  by_cases c:at_=z
  ·rw [aa (show (at_:Int)=z by omega),ao,aq c,c]
   exact Dl m f acc hz rfl
  rw [ab (show ¬(at_:Int)=z by omega),af,al c,bw (eT (by omega) (by omega)),←e2]
  by_cases c2:v2=0
  ·rw [aa c2,ao,aq c2];rfl
  rw [ab c2,af,al c2,bw (eT (by omega) (by omega)),q3]
  by_cases c3:Tree.name (v2.toNat:Int)=[]
  ·rw [aa c3,ao,aq c3];rfl
  rw [ab c3,af,al c3,bw (gj (by omega) (by omega) (by omega)),bw (aa (by rw [ar,ay];omega)),q4]
  show _=Bs.pT [] (if (Bs.ctext (b.take z) ((at_:Int)+1)).2.2≠0 then _ else _) b a
  rw [←e7]
  by_cases c4:v7=0
  ·rw [aa c4,aK,af,al (by simp [c4])]
   rw [e7] at c4
   obtain ⟨_,k,_,k2,_,k1,_⟩:=Bs.hO c4
   rw [ay] at k2
   rw [←e6] at k1 ⊢
   rw [←e5]
   have hr:=hv (v2.toNat:Int) v6.toNat (by omega)
   rw [q1,ar,q3] at e8 e9 kT
   rw [bw (by
    rw [ae]
    exact ⟨aa ⟨by omega,by omega,by show (z:Int)≤(b.length:Int);omega,h3,hd.1,hd.2.1,hd.2.2.1,hd.2.2.2⟩,aa hn⟩)]
   match hx:Bs.eM (Bs.doc (a - (d+1)).toNat) b (v2.toNat:Int) v6.toNat z with
   | .error (e,i) =>
    rw [show Bs.eM (Bs.doc ((bA.mk b a).at_ - (d+1)).toNat) (bA.mk b a).b (v2.toNat:Int) v6.toNat z=_ from hx] at kT
    have Co:v10=⟨e,i,[]⟩:=kT
    rw [Co,ab (show ¬cq.err ⟨e,i,[]⟩=0 from (hr.1 e i hx).1)];rfl
   | .ok (w,x) =>
    rw [show Bs.eM (Bs.doc ((bA.mk b a).at_ - (d+1)).toNat) (bA.mk b a).b (v2.toNat:Int) v6.toNat z=_ from hx] at e8 e9 kT
    have Co:v10=⟨0,0,[]⟩:=kT
    have q9:v9=(x:Int):=e9
    have q8:v8=w:=e8
    have hy:v6.toNat≤x∧x≤z:=hr.2 _ hx
    have zq:v11=[bx.of v5 w]:=by rw [vm,q8];rfl
    rw [Co,show decide (cq.err ⟨0,0,[]⟩=0)=true from rfl,aK,af,zq,bw (fQ (by show (acc.length+1) * 136≤_;omega) (by show acc.length+1≤_;omega)),q9,q8]
    exact zV m hz h3 hd hn n x _ w (acc++[bx.of v5 w]) hy.2 (by omega) (by rw [ak];show acc.length+1≤x;omega)
  ·rw [ab c4,aQ,ao,aq c4];rfl
theorem bz.goal (n:Nat) (r:bA) (p z d fZ:Int) (hp:((decide (0≤p∧p≤z∧z≤((r.b).length:Int)∧(r.b).length≤1000000000∧0≤d∧d≤1000∧r.at_≤1000))&&decide ((3 * (r.at_ - d).toNat+2)<n+1))=true):bz.F n r p z d fZ=Bs.pT [] (Bs.doc (r.at_ - d).toNat r.b p.toNat z.toNat fZ) r.b r.at_:=by
 rw [ae] at hp
 obtain ⟨h1,h2,h3,h4,h5,h6,h7⟩:=au hp.1
 have hn:=au hp.2
 obtain ⟨p,rfl⟩:∃k:Nat,p=(k:Int):=⟨p.toNat,by omega⟩
 obtain ⟨z,rfl⟩:∃k:Nat,z=(k:Int):=⟨z.toNat,by omega⟩
 refine bz.cR _ _ _ _ _ _ ?_
 rw [ar p,ar z]
 intro v1 e1 v2 e2 v3 e3 v4 e4 v5 e5 v6 e6 v7 e7 v8 e8 v9 e9 v10 kT v11 vm v12 yO jY Bh nR D1 rB Ie tM Ic
 by_cases c:r.at_≤d
 ·rw [aa c,ao,show (r.at_ - d).toNat=0 by omega];rfl
 rw [ab c,af,show Bs.doc (r.at_ - d).toNat=Bs.doc ((r.at_ - (d+1)).toNat+1) by rw [show (r.at_ - d).toNat=(r.at_ - (d+1)).toNat+1 by omega]]
 rw [Bs.doc.eq_2,i64_in ((z:Int) - p) (by omega)]
 rw [i64_in ((z:Int) - p) (by omega)] at e3
 by_cases c1:z - p<4
 ·rw [aa (show (z:Int) - p<4 by omega),ao,aq c1];rfl
 rw [ab (show ¬(z:Int) - p<4 by omega),af,al c1]
 have hr:=Bs.ja r.b p
 generalize Bs.cU r.b p=m at *
 unfold Bs.wS
 rw [i64_in _ (by omega)] at e1
 have q3:v3=decide (m<5∨(z:Int) - p<m):=by
  rw [e3]
  by_cases c:m<5
  ·rw [aa c,aa (show m<5∨(z:Int) - p<m from .inl c)];rfl
  ·rw [ab c,af];exact aV.2 (by omega)
 rw [bw (aa ⟨by omega,by omega,h4⟩),bw (tc _).1,bw (tc _).1,bw (tc _).2.2,bw (by cases v3 <;> rfl),bw (by cases v3 <;> rfl),bw (by cases v4 <;> rfl),bw (by rw [e4];cases v3 <;> cases decide (fZ=2) <;> rfl),bw (by cases v3 <;> rfl)]
 have G6:cond v3 true v5=decide (m<5∨(z:Int) - p<m∨(fZ=2∧(p:Int)+m≠z)):=by
  rw [q3,e5,e1]
  by_cases c:m<5∨(z:Int) - p<m
  ·rw [aa c,ao,aa (show m<5∨(z:Int) - p<m∨(fZ=2∧(p:Int)+m≠z) by omega)]
  ·rw [ab c,af]
   by_cases c2:fZ=2
   ·rw [aa c2,ao,←decide_not];exact aV.2 ⟨fun h => .inr (.inr ⟨c2,h⟩),fun h=>by omega⟩
   ·rw [ab c2,af,ab (show ¬(m<5∨(z:Int) - p<m∨(fZ=2∧(p:Int)+m≠z)) by omega)]
 rw [G6]
 by_cases c2:m<5∨(z:Int) - p<m∨(fZ=2∧(p:Int)+m≠z)
 ·rw [aa c2,ao,aq c2];rfl
 rw [ab c2,af,al c2,bw (by cases decide (fZ=1) <;> rfl),bw (by cases decide (fZ=1) <;> rfl)]
 have q6:v6=decide (fZ=1∧(p:Int)+m<z):=by
  rw [e6,e1]
  by_cases c:fZ=1
  ·rw [aa c,ao];exact aV.2 ⟨fun h=>⟨c,h⟩,fun h=>h.2⟩
  ·rw [ab c,af,ab (fun h=>c h.1)]
 rw [q6]
 have q1:v1=((p+m.toNat:Nat):Int):=by omega
 by_cases c3:fZ=1∧(p:Int)+m<z
 ·rw [aa c3,ao,aq c3,q1];rfl
 rw [ab c3,af,al c3]
 have q2:v2=((p+4:Nat):Int):=by rw [e2,i64_in _ (by omega)];omega
 refine Eq.trans (Eq.symm (bz.zN n d v1 v2 ⟨0,0,[]⟩ (Bs.cS 0) r.b r.at_ [] ?_)) ?_
 ·intro w1 f1 w2 f2 w3 f3 w4 f4 w5 f5 w6 f6 w7 f7 w8 f8 w9 f9 G3 f10 FM f11
  subst f11 f10 f9 f8 f7 f6 f5 f4 f3 f2 f1 Ic Ie D1 Bh yO vm kT e9 e8 e7
  obtain ⟨rb,ra⟩:=r
  rw [bf,aM,Nat.zero_add]
  rfl
 ·rw [q1,q2,show p+m.toNat=(p+m.toNat - 1)+1 by omega]
  exact zV n (by omega) h4 ⟨h5,h6,h7,by omega⟩ (by omega) m.toNat (p+4) _ _ [] (by omega) (by omega) (Nat.zero_le _)
theorem db.goal (b:IY) (l:eK) (hp:decide (b.length≤1000000000)=true):db.F b l=some [.ag (Val.cells (Bs.nN (Bs.decode b l))),.ag (cq.cells (Bs.iI (Bs.decode b l)))]:=by
 have h1:=au hp
 refine db.cR _ _ ?_
 intro v1 e1 v2 e2 v3 e3
 unfold Bs.decode
 cases hm:Bs.may l with
 | false=>rw [aQ,ao,aq rfl];rfl
 | true =>
  have hd:1≤l.depth∧l.depth≤200:=by
   have:=au hm
   exact ⟨this.1,this.2.1⟩
  rw [aK,af,al (by simp)]
  by_cases c:l.size<(b.length:Int)
  ·rw [aa c,ao,aq c];rfl
  rw [ab c,af,al c,bw (aa ⟨by omega,by omega,Int.le_refl _,h1,by omega,by omega,by show l.depth≤1000;omega⟩)]
  rw [show ((bA.mk b l.depth).at_ - 0).toNat=l.depth.toNat by show (l.depth - 0).toNat=_;rw [Int.sub_zero],ar] at e1 e3
  have hr:=Bs.jT b l.depth.toNat 0 b.length 1 (by omega) (by omega)
  match hx:Bs.doc l.depth.toNat b 0 b.length 1 with
  | .error (e,i) =>
   rw [show Bs.doc l.depth.toNat (bA.mk b l.depth).b (0:Int).toNat b.length 1=_ from hx] at e3
   have q3:v3=⟨e,i,[]⟩:=e3
   rw [q3,ab (show ¬cq.err ⟨e,i,[]⟩=0 from (hr.1 e i hx).1)];rfl
  | .ok (ks,x) =>
   rw [show Bs.doc l.depth.toNat (bA.mk b l.depth).b (0:Int).toNat b.length 1=_ from hx] at e1 e3
   have q3:v3=⟨0,0,[]⟩:=e3
   rw [q3,show decide (cq.err ⟨0,0,[]⟩=0)=true from rfl,e1];rfl
end Go.Eng
set_option maxRecDepth 20000
namespace Go.Eng
open Go.IntWalk
theorem I6.fx (dC:List Int) (hl:dC.length≤10) (hs:∀s∈dC,0≤s):∀(m i:Nat) (left:Int),i+m=dC.length→left≤1200→I6.l1 left dC i=some [.i .i64 (DB.room left (dC.drop i))]:=by
 intro m
 induction m with
 | zero =>
  intro i left hi hle
  refine I6.fo _ _ _ ?_
  intro v1 h1 v2 h2 v3 h3
  rw [ab (by omega),af,aW (by omega)];rfl
 | succ m ih =>
  intro i left hi hle
  refine I6.fo _ _ _ ?_
  intro v1 h1 v2 h2 v3 h3
  rw [ar] at h1
  have h0:0≤v1:=hs v1 (by rw [h1,ai,ah (show i<dC.length by omega)];simp)
  rw [aa (by omega),ao,show dj (i:Int) dC.length=true from eT (by omega) (by omega),drop_cons (l:=dC) (i:=i) (by omega) 0,←h1,DB.room]
  simp only [bc,Bool.and_true,aU,ba,eQ]
  by_cases a:left<0∨left<v1
  ·rw [aq a,show v2=true by rw [h2];by_cases b:left<0 <;> simp [b];omega];rfl
  ·rw [al a,show v2=false by rw [h2];by_cases b:left<0 <;> simp [b] <;> omega,af,show v3=((i+1:Nat):Int) by rw [h3,i64_in _ (by omega)];omega,i64_in _ (by omega),ih _ _ (by omega) (by omega)]
theorem I6.goal (left:Int) (dC:List Int) (hp:(decide (left≤1200∧dC.length≤10)&&dC.all (fun s=>decide (0≤s)))=true):I6.F left dC=some [.i .i64 (DB.room left dC)]:=by
 simp only [ae,aF,aw] at hp
 rw [I6.fh]
 exact I6.fx dC hp.1.2 hp.2 dC.length 0 left (by omega) hp.1.1
theorem DB.Kh (left a:Int) (ha:0≤a) (hl:left≤1200):DB.room left [a]≤1200∧(DB.room left [a]=-1∨(DB.room left [a]=left - a∧0≤left - a)):=by
 simp only [DB.room];split <;> omega
theorem DB.Kg (left a b c d:Int) (ha:0≤a) (hb:0≤b) (hc:0≤c) (hd:0≤d) (hl:left≤1200) :
  DB.room left [a,b,c,d]≤1200∧(DB.room left [a,b,c,d]=-1∨(DB.room left [a,b,c,d]=left - a - b - c - d∧0≤left - a - b - c - d)):=by
 simp only [DB.room]
 split
 ·omega
 ·split
  ·omega
  ·split
   ·omega
   ·split <;> omega
mutual
theorem DB.Jx:∀(f:bx) (left:Int),left≤1200→DB.value left f≤1200∧(0≤DB.value left f→(bx.dk f:Int) - f.name.length≤left - DB.value left f)
 | .mk n k b h l t m s y ks,left,hl=>by
  have h1:=DB.Kg left 2 t.length m.length y.length (by omega) (by omega) (by omega) (by omega) hl
  have h2:=DB.JC ks (DB.room left [2,(t.length:Int),(m.length:Int),(y.length:Int)]) h1.1
  simp only [DB.value,bx.dk,bx.name]
  refine ⟨h2.1,fun h0=>?_⟩
  rcases h1.2 with e | ⟨e,e0⟩
  ·have:=h2.2.2 (by omega);omega
  ·have:=h2.2.1 h0;omega
theorem DB.JC:∀(ks:List bx) (left:Int),left≤1200→DB.values left ks≤1200∧(0≤DB.values left ks→(bx.cw ks:Int)≤left - DB.values left ks)∧(left<0→DB.values left ks<0)
 | [],left,hl=>by simp only [DB.values,bx.cw];omega
 | f :: r,left,hl=>by
  simp only [DB.values,bx.cw]
  by_cases h:left<0
  ·rw [aq h];omega
  ·rw [al h]
   have h1:=DB.Kh left f.name.length (by omega) hl
   have h2:=DB.Jx f (DB.room left [(f.name.length:Int)]) h1.1
   have h3:=DB.JC r (DB.value (DB.room left [(f.name.length:Int)]) f) h2.1
   refine ⟨h3.1,fun h0=>?_,fun h0=>by omega⟩
   have h4:=h3.2.1 h0
   have h5:0≤DB.value (DB.room left [(f.name.length:Int)]) f:=by
    by_cases h6:DB.value (DB.room left [(f.name.length:Int)]) f<0
    ·have:=h3.2.2 h6;omega
    ·omega
   have h7:=h2.2 h5
   have hb:(f.name.length:Int)≤bx.dk f:=by cases f;simp only [bx.name,bx.dk];omega
   rcases h1.2 with e | ⟨e,e0⟩
   ·omega
   ·omega
end
theorem DB.JL (v:Val) (h:0≤DB.value 1200 (bx.of [] v)):bx.dk (bx.of [] v)≤1200:=by
 have:=(DB.Jx (bx.of [] v) 1200 (by omega)).2 h
 have hn:(bx.of [] v).name=[]:=rfl
 rw [hn] at this
 simp at this;omega
theorem DB.JR (left:Int) (f:bx):DB.value left (bx.of [] f.val)=DB.value left f:=by cases f;rfl
theorem DB.JW (f:bx) (left:Int) (hl:left≤1200) (h0:0≤DB.value left f):DB.value left f+1≤left:=by
 have:=(DB.Jx f left hl).2 h0
 have hb:(f.name.length:Int)+1≤bx.dk f:=by cases f;simp only [bx.name,bx.dk];omega
 omega
theorem Bo.fx (n:Nat) (v:Val) (hn:bx.cw v.kids<n):∀(m i:Nat) (left:Int),i+m=v.kids.length→(i:Int)+left≤1200 →
  Bo.l1 n left i v=some [.i .i64 (DB.values left (v.kids.drop i))]:=by
 intro m
 induction m with
 | zero =>
  intro i left hi hle
  refine Bo.fo _ _ _ _ ?_
  intro v1 h1 v2 h2 v3 h3 v4 h4 v5 h5 v6 h6 v7 h7
  simp only [aU,eQ]
  rw [show v2=false by rw [h2,ab (by omega)];rfl,af,aW (by omega)];rfl
 | succ m ih =>
  intro i left hi hle
  refine Bo.fo _ _ _ _ ?_
  intro v1 h1 v2 h2 v3 h3 v4 h4 v5 h5 v6 h6 v7 h7
  rw [ar] at h3
  have hg:=bx.oE v.kids i (ez.iH .fl) (by omega)
  rw [←h3] at hg
  have hv:=bx.JK v3
  have r1:=DB.Kh left v4 (by omega) (by omega)
  rw [←h5] at r1
  have r2:=DB.JW v3 v5 r1.1
  rw [DB.JR] at h6
  simp only [aU,eQ]
  rw [drop_cons (l:=v.kids) (i:=i) (by omega) (ez.iH .fl),←h3,DB.values]
  by_cases h:left<0
  ·rw [aq h,show v2=false by rw [h2,ab (show ¬0≤left by omega)];simp];rfl
  ·have r3:(i:Int)+1+v6≤1200:=by
    rw [h6]
    by_cases hx:0≤DB.value v5 v3
    ·have:=r2 hx;omega
    ·omega
   rw [al h,show v2=true by rw [h2,aa (by omega),aa (by omega)];rfl,ao,bw (eT (by omega) (by omega)),bw (by simp;omega),bw (eT (by omega) (by omega)),aa r1.1,aa (by omega),bc,eQ,
    show v7=((i+1:Nat):Int) by rw [h7,i64_in _ (by omega)];omega,ih _ _ (by omega) (by omega),h6,h5,h4]
theorem Bo.goal (n:Nat) (left:Int) (v:Val) (hp:((decide (left≤1200))&&decide ((bx.dk (bx.of [] v))<n+1))=true):Bo.F n left v=some [.i .i64 (DB.value left (bx.of [] v))]:=by
 simp only [ae,aF] at hp
 obtain ⟨hl,hn⟩:=hp
 have BU:bx.cw v.kids<bx.dk (bx.of [] v):=by simp only [bx.of,bx.dk];omega
 refine Bo.cR n left v ?_
 intro v1 h1 v2 h2 v3 h3 v4 h4
 have r:=DB.Kg left 2 v1 v2 v3 (by omega) (by omega) (by omega) (by omega) hl
 rw [←h4] at r
 rw [bw (by rw [h4];simp;omega)]
 have key:=Bo.fx n v (by omega) v.kids.length 0 (DB.room left v4) (by omega) (by omega)
 rw [aY] at key
 refine key.trans ?_
 rw [h4,h1,h2,h3]
 rfl
theorem Jf.goal (v:Val):Jf.F v=some [.b (decide (0≤DB.value 1200 (bx.of [] v)))]:=by
 refine Jf.cR v ?_
 intro v1 h1
 rw [bw (by decide),h1]
end Go.Eng
set_option maxRecDepth 20000
namespace Go.Eng
open Go.Proofs
variable {ee:Errs}
theorem bX.ok:bE PG (cnGl ee) 177 (bX.c,bX.sg):=meets bP all_nil bX.h (fits fun ins=>by unfold bX.c;split;exact bX.goal _ _;trivial)
theorem dB.ok:bE PG (cnGl ee) 133 (dB.c,dB.sg):=meets bP (all_cons bX.ok all_nil) dB.h (fits fun ins=>by unfold dB.c;split;exact dB.goal _ _;trivial)
theorem eR.ok:bE PG (cnGl ee) 176 (eR.c,eR.sg):=meets bP all_nil eR.h (fits fun ins=>by unfold eR.c;split;exact eR.goal _;trivial)
theorem bB.ok:bE PG (cnGl ee) 132 (bB.c,bB.sg):=meets bP (all_cons eR.ok all_nil) bB.h (fits fun ins=>by unfold bB.c;split;exact bB.goal _ _;trivial)
theorem bK.ok:bE PG (cnGl ee) 100 (bK.c,bK.sg):=meets bP (all_cons bB.ok all_nil) bK.h (fits fun ins=>by unfold bK.c;split;exact bK.goal _;trivial)
theorem utf_Check.ok:bE PG (cnGl ee) 69 (utf_Check.c,utf_Check.sg):=meets bP (all_cons bK.ok all_nil) utf_Check.h (fits fun ins=>by unfold utf_Check.c;split;exact utf_Check.goal _;trivial)
theorem cH.ok:bE PG (cnGl ee) 46 (cH.c,cH.sg):=meets bP all_nil cH.h (fits fun ins=>by unfold cH.c;split;exact cH.goal _;trivial)
theorem bq.ok:bE PG (cnGl ee) 57 (bq.c,bq.sg):=meets bP all_nil bq.h (fits fun ins=>by unfold bq.c;split;exact bq.goal (.mk _ _ _ _ _ _ _ _ _);trivial)
theorem dA.ok:bE PG (cnGl ee) 102 (dA.c,dA.sg):=meets bP (all_cons dB.ok all_nil) dA.h (fits fun ins=>by unfold dA.c;split;exact dA.goal _ _;trivial)
theorem cr.ok:bE PG (cnGl ee) 79 (cr.c,cr.sg):=meets bP (all_cons dA.ok all_nil) cr.h (fits fun ins=>by unfold cr.c;split;exact cr.goal _ _;trivial)
theorem df.ok:bE PG (cnGl ee) 56 (df.c,df.sg):=meets bP all_nil df.h (fits fun ins=>by unfold df.c;split;exact df.goal _;trivial)
theorem cE.ok:bE PG (cnGl ee) 58 (cE.c,cE.sg):=meets bP (all_cons utf_Check.ok (all_cons cr.ok all_nil)) cE.h (fits fun ins=>by unfold cE.c;split;exact cE.goal _ _;trivial)
theorem Ac.Ao:∀n:Nat,(bE PG (cnGl ee) 32 (bH.cn n,bH.sg)):=by
 intro n
 induction n with
 | zero=>exact fG (by intro ti fk h;unfold bH.cn at h;split at h;exact absurd (aO.1 h.1).2 (by simp);exact h.elim)
 | succ n ih =>
  have AD:=ih
  exact meets bP (all_cons AD (all_cons cH.ok (all_cons df.ok (all_cons bq.ok (all_cons cE.ok all_nil))))) bH.h (fits fun ins=>by unfold bH.cn;split;exact bH.goal _ (.mk _ _ _ _ _ _ _ _ _) _ _;trivial)
theorem bH.ok:bE PG (cnGl ee) 32 (bH.c,bH.sg):=jq fun ti fk h=>by
 unfold bH.c at h
 split at h
 ·obtain ⟨hp,rfl⟩:=h;exact ⟨bH.cn (_+1),(Ac.Ao _),aO.2 ⟨hp,aa (Nat.lt_succ_self _)⟩,rfl⟩
 ·exact h.elim
theorem cF.ok:bE PG (cnGl ee) 12 (cF.c,cF.sg):=meets bP (all_cons bH.ok all_nil) cF.h (fits fun ins=>by unfold cF.c;split;exact cF.goal (.mk _ _ _ _ _ _ _ _ _);trivial)
theorem I6.ok:bE PG (cnGl ee) 43 (I6.c,I6.sg):=meets bP all_nil I6.h (fits fun ins=>by unfold I6.c;split;exact I6.goal _ _;trivial)
theorem Ky.Ao:∀n:Nat,(bE PG (cnGl ee) 23 (Bo.cn n,Bo.sg)):=by
 intro n
 induction n with
 | zero=>exact fG (by intro ti fk h;unfold Bo.cn at h;split at h;exact absurd (aO.1 h.1).2 (by simp);exact h.elim)
 | succ n ih =>
  have AD:=ih
  exact meets bP (all_cons AD (all_cons I6.ok all_nil)) Bo.h (fits fun ins=>by unfold Bo.cn;split;exact Bo.goal _ _ (.mk _ _ _ _ _ _ _ _ _);trivial)
theorem Bo.ok:bE PG (cnGl ee) 23 (Bo.c,Bo.sg):=jq fun ti fk h=>by
 unfold Bo.c at h
 split at h
 ·obtain ⟨hp,rfl⟩:=h;exact ⟨Bo.cn (_+1),(Ky.Ao _),aO.2 ⟨hp,aa (Nat.lt_succ_self _)⟩,rfl⟩
 ·exact h.elim
theorem Jf.ok:bE PG (cnGl ee) 7 (Jf.c,Jf.sg):=meets bP (all_cons Bo.ok all_nil) Jf.h (fits fun ins=>by unfold Jf.c;split;exact Jf.goal (.mk _ _ _ _ _ _ _ _ _);trivial)
theorem Bp.ok:bE PG (cnGl ee) 21 (Bp.c,Bp.sg):=meets bP all_nil Bp.h (fits fun ins=>by unfold Bp.c;split;exact Bp.goal _ _;trivial)
theorem zp.ok:bE PG (cnGl ee) 134 (zp.c,zp.sg):=meets bP all_nil zp.h (fits fun ins=>by unfold zp.c;split;exact zp.goal;trivial)
theorem I4.ok:bE PG (cnGl ee) 103 (I4.c,I4.sg):=meets bP (all_cons zp.ok all_nil) I4.h (fits fun ins=>by unfold I4.c;split;exact I4.goal _;trivial)
theorem IW.ok:bE PG (cnGl ee) 104 (IW.c,IW.sg):=meets bP all_nil IW.h (fits fun ins=>by unfold IW.c;split;exact IW.goal _;trivial)
theorem I1.ok:bE PG (cnGl ee) 181 (I1.c,I1.sg):=meets bP all_nil I1.h (fits fun ins=>by unfold I1.c;split;exact I1.goal _ _;trivial)
theorem I3.ok:bE PG (cnGl ee) 135 (I3.c,I3.sg):=meets bP (all_cons I1.ok all_nil) I3.h (fits fun ins=>by unfold I3.c;split;exact I3.goal _;trivial)
theorem I9.ok:bE PG (cnGl ee) 105 (I9.c,I9.sg):=meets bP (all_cons I3.ok all_nil) I9.h (fits fun ins=>by unfold I9.c;split;exact I9.goal _;trivial)
theorem I5.ok:bE PG (cnGl ee) 106 (I5.c,I5.sg):=meets bP all_nil I5.h (fits fun ins=>by unfold I5.c;split;exact I5.goal _;trivial)
theorem Jg.ok:bE PG (cnGl ee) 80 (Jg.c,Jg.sg):=meets bP (all_cons I4.ok (all_cons IW.ok (all_cons I9.ok (all_cons I5.ok all_nil)))) Jg.h (fits fun ins=>by unfold Jg.c;split;exact Jg.goal (.mk _ _ _ _ _ _ _ _ _);trivial)
theorem Ja.ok:bE PG (cnGl ee) 81 (Ja.c,Ja.sg):=meets bP (all_cons I9.ok (all_cons I5.ok all_nil)) Ja.h (fits fun ins=>by unfold Ja.c;split;exact Ja.goal _;trivial)
theorem I7.ok:bE PG (cnGl ee) 82 (I7.c,I7.sg):=meets bP all_nil I7.h (fits fun ins=>by unfold I7.c;split;exact I7.goal _ _;trivial)
theorem Ks.Ao:∀n:Nat,(bE PG (cnGl ee) 59 (IX.cn n,IX.sg)):=by
 intro n
 induction n with
 | zero=>exact fG (by intro ti fk h;unfold IX.cn at h;split at h;exact absurd (aO.1 h.1).2 (by simp);exact h.elim)
 | succ n ih =>
  have AD:=ih
  exact meets bP (all_cons AD (all_cons Jg.ok (all_cons Ja.ok (all_cons I7.ok all_nil)))) IX.h (fits fun ins=>by unfold IX.cn;split;exact IX.goal _ (.mk _ _ _ _ _ _ _ _ _) _ _;trivial)
theorem IX.ok:bE PG (cnGl ee) 59 (IX.c,IX.sg):=jq fun ti fk h=>by
 unfold IX.c at h
 split at h
 ·obtain ⟨hp,rfl⟩:=h;exact ⟨IX.cn (_+1),(Ks.Ao _),aO.2 ⟨hp,aa (Nat.lt_succ_self _)⟩,rfl⟩
 ·exact h.elim
theorem Jb.ok:bE PG (cnGl ee) 37 (Jb.c,Jb.sg):=meets bP (all_cons IX.ok all_nil) Jb.h (fits fun ins=>by unfold Jb.c;split;exact Jb.goal (.mk _ _ _ _ _ _ _ _ _);trivial)
theorem Jd.ok:bE PG (cnGl ee) 36 (Jd.c,Jd.sg):=meets bP all_nil Jd.h (fits fun ins=>by unfold Jd.c;split;exact Jd.goal _;trivial)
theorem Kr.Ao:∀n:Nat,(bE PG (cnGl ee) 18 (I0.cn n,I0.sg)):=by
 intro n
 induction n with
 | zero=>exact fG (by intro ti fk h;unfold I0.cn at h;split at h;exact absurd (aO.1 h.1).2 (by simp);exact h.elim)
 | succ n ih =>
  have AD:=ih
  exact meets bP (all_cons AD (all_cons Jd.ok all_nil)) I0.h (fits fun ins=>by unfold I0.cn;split;exact I0.goal _ (.mk _ _ _ _ _ _ _ _ _);trivial)
theorem I0.ok:bE PG (cnGl ee) 18 (I0.c,I0.sg):=jq fun ti fk h=>by
 unfold I0.c at h
 split at h
 ·obtain ⟨hp,rfl⟩:=h;exact ⟨I0.cn (_+1),(Kr.Ao _),aO.2 ⟨hp,aa (Nat.lt_succ_self _)⟩,rfl⟩
 ·exact h.elim
theorem cI.ok:bE PG (cnGl ee) 76 (cI.c,cI.sg):=meets bP all_nil cI.h (fits fun ins=>by unfold cI.c;split;exact cI.goal _;trivial)
theorem bQ.ok:bE PG (cnGl ee) 35 (bQ.c,bQ.sg):=meets bP all_nil bQ.h (fits fun ins=>by unfold bQ.c;split;exact bQ.goal _;trivial)
theorem eH.ok:bE PG (cnGl ee) 66 (eH.c,eH.sg):=meets bP (all_cons bQ.ok all_nil) eH.h (fits fun ins=>by unfold eH.c;split;exact eH.goal _;trivial)
theorem dJ.ok:bE PG (cnGl ee) 101 (dJ.c,dJ.sg):=meets bP all_nil dJ.h (fits fun ins=>by unfold dJ.c;split;exact dJ.goal (.mk _ _);trivial)
theorem er.ok:bE PG (cnGl ee) 98 (er.c,er.sg):=meets bP (all_cons dJ.ok all_nil) er.h (fits fun ins=>by unfold er.c;split;exact er.goal (.mk _ _) _;trivial)
theorem cT.ok:bE PG (cnGl ee) 67 (cT.c,cT.sg):=meets bP (all_cons er.ok all_nil) cT.h (fits fun ins=>by unfold cT.c;split;exact cT.goal (.mk _ _) _;trivial)
theorem et.ok:bE PG (cnGl ee) 71 (et.c,et.sg):=meets bP (all_cons bQ.ok (all_cons dJ.ok all_nil)) et.h (fits fun ins=>by unfold et.c;split;exact et.goal (.mk _ _) _;trivial)
theorem eW.ok:bE PG (cnGl ee) 27 (eW.c,eW.sg):=meets bP all_nil eW.h (fits fun ins=>by unfold eW.c;split;exact eW.goal;trivial)
theorem dt.ok:bE PG (cnGl ee) 52 (dt.c,dt.sg):=meets bP all_nil dt.h (fits fun ins=>by unfold dt.c;split;exact dt.goal _ _;trivial)
theorem eF.ok:bE PG (cnGl ee) 77 (eF.c,eF.sg):=meets bP all_nil eF.h (fits fun ins=>by unfold eF.c;split;exact eF.goal _ _;trivial)
theorem cK.ok:bE PG (cnGl ee) 51 (cK.c,cK.sg):=meets bP (all_cons cI.ok all_nil) cK.h (fits fun ins=>by unfold cK.c;split;exact cK.goal _ _ _;trivial)
theorem cQ.ok:bE PG (cnGl ee) 55 (cQ.c,cQ.sg):=meets bP (all_cons cI.ok all_nil) cQ.h (fits fun ins=>by unfold cQ.c;split;exact cQ.goal _ _ _ _;trivial)
theorem eG.ok:bE PG (cnGl ee) 50 (eG.c,eG.sg):=meets bP all_nil eG.h (fits fun ins=>by unfold eG.c;split;exact eG.goal _;trivial)
theorem dF.ok:bE PG (cnGl ee) 29 (dF.c,dF.sg):=meets bP (all_cons bQ.ok all_nil) dF.h (fits fun ins=>by unfold dF.c;split;exact dF.goal (.mk _);trivial)
theorem bZ.ok:bE PG (cnGl ee) 68 (bZ.c,bZ.sg):=meets bP all_nil bZ.h (fits fun ins=>by unfold bZ.c;split;exact bZ.goal _ _;trivial)
theorem cG.ok:bE PG (cnGl ee) 47 (cG.c,cG.sg):=meets bP (all_cons bZ.ok (all_cons utf_Check.ok all_nil)) cG.h (fits fun ins=>by unfold cG.c;split;exact cG.goal _ _;trivial)
theorem size.Ao:∀n:Nat,(bE PG (cnGl ee) 49 (cB.cn n,cB.sg))∧(bE PG (cnGl ee) 26 (sz_Of.cn n,sz_Of.sg)):=by
 intro n
 induction n with
 | zero=>exact ⟨fG (by intro ti fk h;unfold cB.cn at h;split at h;exact absurd (aO.1 h.1).2 (by simp);exact h.elim),fG (by intro ti fk h;unfold sz_Of.cn at h;split at h;exact absurd (aO.1 h.1).2 (by simp);exact h.elim)⟩
 | succ n ih =>
  obtain ⟨AD,CB⟩:=ih
  exact ⟨meets bP (all_cons CB all_nil) cB.h (fits fun ins=>by unfold cB.cn;split;exact cB.goal _ _;trivial),meets bP (all_cons AD all_nil) sz_Of.h (fits fun ins=>by unfold sz_Of.cn;split;exact sz_Of.goal _ (.mk _ _ _ _ _ _ _ _ _);trivial)⟩
theorem sz_Of.ok:bE PG (cnGl ee) 26 (sz_Of.c,sz_Of.sg):=jq fun ti fk h=>by
 unfold sz_Of.c at h
 split at h
 ·obtain ⟨hp,rfl⟩:=h;exact ⟨sz_Of.cn (_+1),(size.Ao _).2,aO.2 ⟨hp,aa (Nat.lt_succ_self _)⟩,rfl⟩
 ·exact h.elim
theorem dY.ok:bE PG (cnGl ee) 24 (dY.c,dY.sg):=meets bP all_nil dY.h (fits fun ins=>by unfold dY.c;split;exact dY.goal (.mk _ _ _);trivial)
theorem cO.ok:bE PG (cnGl ee) 53 (cO.c,cO.sg):=meets bP (all_cons dt.ok (all_cons eF.ok all_nil)) cO.h (fits fun ins=>by unfold cO.c;split;exact cO.goal _ _;trivial)
theorem eu.ok:bE PG (cnGl ee) 78 (eu.c,eu.sg):=meets bP (all_cons cK.ok (all_cons cO.ok all_nil)) eu.h (fits fun ins=>by unfold eu.c;split;exact eu.goal _ _;trivial)
theorem Fp.Ao:∀n:Nat,(bE PG (cnGl ee) 28 (bF.cn n,bF.sg))∧(bE PG (cnGl ee) 54 (bD.cn n,bD.sg)):=by
 intro n
 induction n with
 | zero=>exact ⟨fG (by intro ti fk h;unfold bF.cn at h;split at h;exact absurd (aO.1 h.1).2 (by simp);exact h.elim),fG (by intro ti fk h;unfold bD.cn at h;split at h;exact absurd (aO.1 h.1).2 (by simp);exact h.elim)⟩
 | succ n ih =>
  obtain ⟨AD,CB⟩:=ih
  exact ⟨meets bP (all_cons eG.ok (all_cons cK.ok (all_cons dt.ok (all_cons cO.ok (all_cons CB (all_cons cQ.ok all_nil)))))) bF.h (fits fun ins=>by unfold bF.cn;split;exact bF.goal _ _ _;trivial),meets bP (all_cons AD (all_cons eG.ok (all_cons cK.ok (all_cons dt.ok (all_cons cO.ok (all_cons cQ.ok (all_cons eF.ok (all_cons eu.ok all_nil)))))))) bD.h (fits fun ins=>by unfold bD.cn;split;exact bD.goal _ (.mk _ _ _ _ _ _ _ _ _) _;trivial)⟩
theorem bF.ok:bE PG (cnGl ee) 28 (bF.c,bF.sg):=jq fun ti fk h=>by
 unfold bF.c at h
 split at h
 ·obtain ⟨hp,rfl⟩:=h;exact ⟨bF.cn (_+1),(Fp.Ao _).1,aO.2 ⟨hp,aa (Nat.lt_succ_self _)⟩,rfl⟩
 ·exact h.elim
theorem cZ.ok:bE PG (cnGl ee) 9 (cZ.c,cZ.sg):=meets bP (all_cons cF.ok (all_cons sz_Of.ok (all_cons eW.ok (all_cons bF.ok (all_cons dF.ok all_nil))))) cZ.h (fits fun ins=>by unfold cZ.c;split;exact cZ.goal (.mk _ _ _ _ _ _ _ _ _);trivial)
theorem bW.ok:bE PG (cnGl ee) 44 (bW.c,bW.sg):=meets bP all_nil bW.h (fits fun ins=>by unfold bW.c;split;exact bW.goal _ _;trivial)
theorem cd.ok:bE PG (cnGl ee) 45 (cd.c,cd.sg):=meets bP (all_cons eH.ok (all_cons cT.ok all_nil)) cd.h (fits fun ins=>by unfold cd.c;split;exact cd.goal (.mk _ _) _;trivial)
theorem bJ.ok:bE PG (cnGl ee) 70 (bJ.c,bJ.sg):=meets bP all_nil bJ.h (fits fun ins=>by unfold bJ.c;split;exact bJ.goal _;trivial)
theorem dG.ok:bE PG (cnGl ee) 73 (dG.c,dG.sg):=meets bP (all_cons bW.ok (all_cons cG.ok all_nil)) dG.h (fits fun ins=>by unfold dG.c;split;exact dG.goal (.mk _ _) _ _;trivial)
theorem dK.ok:bE PG (cnGl ee) 72 (dK.c,dK.sg):=meets bP (all_cons bW.ok (all_cons cd.ok (all_cons utf_Check.ok all_nil))) dK.h (fits fun ins=>by unfold dK.c;split;exact dK.goal (.mk _ _) _ _;trivial)
theorem bR.ok:bE PG (cnGl ee) 74 (bR.c,bR.sg):=meets bP (all_cons bQ.ok (all_cons bW.ok (all_cons cd.ok all_nil))) bR.h (fits fun ins=>by unfold bR.c;split;exact bR.goal (.mk _ _) _ _;trivial)
theorem bin.Ao:∀n:Nat,(bE PG (cnGl ee) 75 (da.cn n,da.sg))∧(bE PG (cnGl ee) 48 (bt.cn n,bt.sg))∧(bE PG (cnGl ee) 25 (bz.cn n,bz.sg)):=by
 intro n
 induction n with
 | zero=>exact ⟨fG (by intro ti fk h;unfold da.cn at h;split at h;exact absurd (aO.1 h.1).2 (by simp);exact h.elim),fG (by intro ti fk h;unfold bt.cn at h;split at h;exact absurd (aO.1 h.1).2 (by simp);exact h.elim),fG (by intro ti fk h;unfold bz.cn at h;split at h;exact absurd (aO.1 h.1).2 (by simp);exact h.elim)⟩
 | succ n ih =>
  obtain ⟨AD,CB,FX⟩:=ih
  exact ⟨meets bP (all_cons FX (all_cons bW.ok (all_cons cd.ok (all_cons dK.ok all_nil)))) da.h (fits fun ins=>by unfold da.cn;split;exact da.goal _ (.mk _ _) _ _ _;trivial),meets bP (all_cons FX (all_cons bQ.ok (all_cons bW.ok (all_cons eH.ok (all_cons cT.ok (all_cons bJ.ok (all_cons et.ok (all_cons dK.ok (all_cons dG.ok (all_cons bR.ok (all_cons AD all_nil))))))))))) bt.h (fits fun ins=>by unfold bt.cn;split;exact bt.goal _ (.mk _ _) _ _ _ _;trivial),meets bP (all_cons bW.ok (all_cons cd.ok (all_cons cH.ok (all_cons cG.ok (all_cons CB all_nil))))) bz.h (fits fun ins=>by unfold bz.cn;split;exact bz.goal _ (.mk _ _) _ _ _ _;trivial)⟩
theorem bz.ok:bE PG (cnGl ee) 25 (bz.c,bz.sg):=jq fun ti fk h=>by
 unfold bz.c at h
 split at h
 ·obtain ⟨hp,rfl⟩:=h;exact ⟨bz.cn (_+1),(bin.Ao _).2.2,aO.2 ⟨hp,aa (Nat.lt_succ_self _)⟩,rfl⟩
 ·exact h.elim
theorem db.ok:bE PG (cnGl ee) 8 (db.c,db.sg):=meets bP (all_cons dY.ok (all_cons bz.ok all_nil)) db.h (fits fun ins=>by unfold db.c;split;exact db.goal _ (.mk _ _ _);trivial)
theorem Jc.ok:bE PG (cnGl ee) 20 (Jc.c,Jc.sg):=meets bP all_nil Jc.h (fits fun ins=>by unfold Jc.c;split;exact Jc.goal;trivial)
theorem cY.ok:bE PG (cnGl ee) 33 (cY.c,cY.sg):=meets bP all_nil cY.h (fits fun ins=>by unfold cY.c;split;exact cY.goal _ _;trivial)
theorem dZ.ok:bE PG (cnGl ee) 40 (dZ.c,dZ.sg):=meets bP (all_cons dY.ok all_nil) dZ.h (fits fun ins=>by unfold dZ.c;split;exact dZ.goal _ (.mk _ _ _);trivial)
theorem ei.ok:bE PG (cnGl ee) 41 (ei.c,ei.sg):=meets bP (all_cons db.ok (all_cons dZ.ok all_nil)) ei.h (fits fun ins=>by unfold ei.c;split;exact ei.goal _ (.mk _ _ _) _;trivial)
theorem eh.ok:bE PG (cnGl ee) 64 (eh.c,eh.sg):=meets bP (all_cons cZ.ok all_nil) eh.h (fits fun ins=>by unfold eh.c;split;exact eh.goal _ (.mk _ _ _ _ _ _ _ _ _);trivial)
theorem dE.ok:bE PG (cnGl ee) 42 (dE.c,dE.sg):=meets bP (all_cons dZ.ok (all_cons eh.ok all_nil)) dE.h (fits fun ins=>by unfold dE.c;split;exact dE.goal _ (.mk _ _ _) (.mk _ _ _ _ _ _ _ _ _);trivial)
theorem bY.ok:bE PG (cnGl ee) 22 (bY.c,bY.sg):=meets bP (all_cons dZ.ok (all_cons ei.ok (all_cons dE.ok all_nil))) bY.h (fits fun ins=>by unfold bY.c;split;exact bY.goal _ _ (.mk _ _ _) _;trivial)
theorem eU.ok:bE PG (cnGl ee) 14 (eU.c,eU.sg):=meets bP (all_cons dY.ok all_nil) eU.h (fits fun ins=>by unfold eU.c;split;exact eU.goal _ (.mk _ _ _);trivial)
theorem dI.ok:bE PG (cnGl ee) 34 (dI.c,dI.sg):=meets bP all_nil dI.h (fits fun ins=>by unfold dI.c;split;exact dI.goal (.mk _ _ _ _ _ _) _;trivial)
theorem bI.ok:bE PG (cnGl ee) 16 (bI.c,bI.sg):=meets bP (all_cons bY.ok (all_cons cY.ok (all_cons dI.ok (all_cons bQ.ok all_nil)))) bI.h (fits fun ins=>by unfold bI.c;split;exact bI.goal (.mk _ _ _ _ _ _) _ _;trivial)
theorem eV.ok:bE PG (cnGl ee) 17 (eV.c,eV.sg):=meets bP (all_cons dI.ok all_nil) eV.h (fits fun ins=>by unfold eV.c;split;exact eV.goal (.mk _ _ _ _ _ _) _;trivial)
theorem I2.ok:bE PG (cnGl ee) 61 (I2.c,I2.sg):=meets bP all_nil I2.h (fits fun ins=>by unfold I2.c;split;exact I2.goal _ _;trivial)
theorem Kc.Ao:∀n:Nat,(bE PG (cnGl ee) 38 (sy.cn n,sy.sg)):=by
 intro n
 induction n with
 | zero=>exact fG (by intro ti fk h;unfold sy.cn at h;split at h;exact absurd (aO.1 h.1).2 (by simp);exact h.elim)
 | succ n ih =>
  have AD:=ih
  exact meets bP (all_cons AD all_nil) sy.h (fits fun ins=>by unfold sy.cn;split;exact sy.goal _ (.mk _ _ _ _ _ _ _ _ _);trivial)
theorem sy.ok:bE PG (cnGl ee) 38 (sy.c,sy.sg):=jq fun ti fk h=>by
 unfold sy.c at h
 split at h
 ·obtain ⟨hp,rfl⟩:=h;exact ⟨sy.cn (_+1),(Kc.Ao _),aO.2 ⟨hp,aa (Nat.lt_succ_self _)⟩,rfl⟩
 ·exact h.elim
theorem Jh.ok:bE PG (cnGl ee) 83 (Jh.c,Jh.sg):=meets bP (all_cons I2.ok all_nil) Jh.h (fits fun ins=>by unfold Jh.c;split;exact Jh.goal _;trivial)
theorem KV.Ao:∀n:Nat,(bE PG (cnGl ee) 39 (I8.cn n,I8.sg))∧(bE PG (cnGl ee) 60 (IZ.cn n,IZ.sg)):=by
 intro n
 induction n with
 | zero=>exact ⟨fG (by intro ti fk h;unfold I8.cn at h;split at h;exact absurd (aO.1 h.1).2 (by simp);exact h.elim),fG (by intro ti fk h;unfold IZ.cn at h;split at h;exact absurd (aO.1 h.1).2 (by simp);exact h.elim)⟩
 | succ n ih =>
  obtain ⟨AD,CB⟩:=ih
  exact ⟨meets bP (all_cons CB (all_cons I2.ok all_nil)) I8.h (fits fun ins=>by unfold I8.cn;split;exact I8.goal _ _;trivial),meets bP (all_cons AD (all_cons I2.ok (all_cons Jh.ok all_nil))) IZ.h (fits fun ins=>by unfold IZ.cn;split;exact IZ.goal _ (.mk _ _ _ _ _ _ _ _ _);trivial)⟩
theorem I8.ok:bE PG (cnGl ee) 39 (I8.c,I8.sg):=jq fun ti fk h=>by
 unfold I8.c at h
 split at h
 ·obtain ⟨hp,rfl⟩:=h;exact ⟨I8.cn (_+1),(KV.Ao _).1,aO.2 ⟨hp,aa (Nat.lt_succ_self _)⟩,rfl⟩
 ·exact h.elim
theorem Je.ok:bE PG (cnGl ee) 19 (Je.c,Je.sg):=meets bP (all_cons Jb.ok (all_cons sy.ok (all_cons I8.ok all_nil))) Je.h (fits fun ins=>by unfold Je.c;split;exact Je.goal (.mk _ _ _ _ _ _ _ _ _);trivial)
end Go.Eng
set_option maxRecDepth 100000
namespace Go.Eng
open Go.Proofs
noncomputable section
@[reducible] def zW:ze:=[(22,.bs,1),(26,.fl,136),(32,.is,8),(49,.ou,96),(57,.mh,24),(135,.ml,64),(141,.il,80),(190,.ss,16),(301,.ws,2),(415,.qd,64)]
@[reducible] def Dn:Zs:=[(24,[(.i .i64 (0:Int)),(.i .i64 (0:Int)),(.i .i64 (0:Int))]),(28,[(.i .i64 (0:Int)),(.u64 (0:UInt64)),(.u64 (0:UInt64)),(.u64 (0:UInt64)),(.s ([]:IY)),(.s ([]:IY)),(.i .i64 (0:Int)),(.nl .bs),(.nl .fl)]),(34,[(.i .i64 (0:Int)),(.i .i64 (0:Int)),(.nl .is)]),(59,[(.i .i64 (0:Int)),(.nl .bs),(.nl .mh),(.i .i64 (0:Int)),(.i .i64 (0:Int)),(.nl .is)]),(67,[(.nl .bs),(.i .i64 (0:Int))]),(76,[(.s ([]:IY)),(.i .i64 (0:Int)),(.u64 (0:UInt64)),(.u64 (0:UInt64)),(.u64 (0:UInt64)),(.s ([]:IY)),(.s ([]:IY)),(.i .i64 (0:Int)),(.nl .bs),(.nl .fl)]),(79,[(.i .i64 (0:Int)),(.i .i64 (0:Int)),(.i .i64 (0:Int)),(.i .i64 (0:Int)),(.i .i64 (0:Int)),(.nl .bs),(.b false)]),(99,[(.nl .bs)]),(118,[(.s ([]:IY)),(.s ([]:IY)),(.s ([]:IY)),(.s ([]:IY)),(.s ([]:IY)),(.s ([]:IY)),(.s ([]:IY)),(.s ([]:IY)),(.s ([]:IY)),(.s ([]:IY)),(.s ([]:IY)),(.s ([]:IY)),(.s ([]:IY)),(.s ([]:IY)),(.s ([]:IY)),(.s ([]:IY)),(.s ([]:IY)),(.s ([]:IY)),(.s ([]:IY)),(.s ([]:IY))]),(137,[(.i .i64 (0:Int)),(.s ([]:IY)),(.nl .ml)]),(143,[(.i .i64 (0:Int)),(.u64 (0:UInt64)),(.nl .bs),(.s ([]:IY)),(.nl .il)]),(156,[(.nl .bs),(.i .i64 (0:Int))]),(164,[(.s ([]:IY)),(.i .i64 (0:Int)),(.i .i64 (0:Int))]),(166,[(.i .i64 (0:Int)),(.i .i64 (0:Int)),(.i .i64 (0:Int)),(.s ([]:IY))]),(197,[(.s ([]:IY)),(.i .i64 (0:Int)),(.s ([]:IY)),(.nl .ml)]),(245,[(.c .nilFunc),(.c .nilFunc),(.c .nilFunc),(.c .nilFunc)]),(247,[(.i .i64 (0:Int)),(.u64 (0:UInt64)),(.u64 (0:UInt64)),(.u64 (0:UInt64)),(.s ([]:IY)),(.s ([]:IY)),(.i .i64 (0:Int)),(.nl .bs),(.nl .fl),(.i .i64 (0:Int)),(.u64 (0:UInt64)),(.u64 (0:UInt64)),(.u64 (0:UInt64)),(.s ([]:IY)),(.s ([]:IY)),(.i .i64 (0:Int)),(.nl .bs),(.nl .fl),(.i .i64 (0:Int)),(.u64 (0:UInt64)),(.u64 (0:UInt64)),(.u64 (0:UInt64)),(.s ([]:IY)),(.s ([]:IY)),(.i .i64 (0:Int)),(.nl .bs),(.nl .fl),(.i .i64 (0:Int)),(.u64 (0:UInt64)),(.u64 (0:UInt64)),(.u64 (0:UInt64)),(.s ([]:IY)),(.s ([]:IY)),(.i .i64 (0:Int)),(.nl .bs),(.nl .fl)]),(268,[(.s ([]:IY)),(.s ([]:IY)),(.s ([]:IY)),(.s ([]:IY)),(.s ([]:IY)),(.s ([]:IY))]),(269,[(.s ([]:IY)),(.s ([]:IY)),(.s ([]:IY))]),(319,[(.u64 (0:UInt64)),(.u64 (0:UInt64))]),(418,[(.c (.complex .f64 ((0,0):Cx).1 ((0,0):Cx).2)),(.c (.complex .f64 ((0,0):Cx).1 ((0,0):Cx).2)),(.c (.complex .f64 ((0,0):Cx).1 ((0,0):Cx).2)),(.c (.complex .f64 ((0,0):Cx).1 ((0,0):Cx).2))])]
def Bv:zh:=[(6,({},(.o,[]))),
 (8,({ bC:=2 },(.o,[]))),
 (9,({ bC:=2 },(.o,[]))),
 (10,({},(.o,[]))),
 (12,({ bC:=2 },(.o,[]))),
 (13,({},(.o,[147]))),
 (14,({ bC:=2,kd := .nw (some 5) },(.o,[]))),
 (15,({ kd := .wr 0 5 true },(.o,[]))),
 (16,({ kd := .wr 0 5 true },(.s .o (.sc [(1,[(0,.ptr 1000000 0),(5,.cM 800000),(1000000,.cl []),(800000,.pv)]),(0,[(0,.ptr 1000000 0),(5,.cM 800000),(6,.ptr 136 0),(136,.cl []),(1000000,.cl []),(800000,.pv)])] (.s .o (.s .o (.s .o (.s .o (.s .o (.s .o (.s .o (.s .o (.s .o (.s .o (.s .o (.s .o (.s .o (.s .o (.j [(0,.ptr 1000000 0),(5,.cM 800000),(6,.ptr 136 0),(7,.no),(136,.cl []),(1000000,.cl []),(800000,.pv)] .o .o)))))))))))))))),[]))),
 (20,({},(.o,[]))),
 (22,({ bC:=3 },(.o,[]))),
 (24,({},(.o,[]))),
 (25,({ md:=[.rf],bC:=3 },(.s .o (.sc [(0,[(0,.ptr 1000000 0),(10,.cM 800000),(11,.no),(12,.ptr 165 0),(13,.no),(165,.cl []),(1000000,.cl []),(800000,.pv)]),(1,[(0,.ptr 1000000 0),(3,.no),(10,.cM 800000),(11,.no),(12,.ptr 165 0),(13,.no),(17,.ptr 170 0),(165,.cl []),(170,.cl []),(1000000,.cl []),(800000,.pv)])] .o),[]))),
 (26,({},(.s .o (.s (.s .o (.b (.j [(1,.ptr 72 0),(4,.no),(5,.no),(72,.cl [])] .o (.s .o (.s .o (.s .o (.s .o (.s .o (.s .o (.s .o (.j [(1,.ptr 72 0),(4,.no),(16,.no),(72,.cl [])] .o (.s .o (.s .o (.s .o (.s .o (.s .o (.s .o (.s .o (.s .o (.s .o (.j [(1,.ptr 72 0),(4,.no),(55,.no),(72,.cl [])] .o .o))))))))))))))))))))) .o),[]))),
 (27,({ kd := .nw (some 0) },(.o,[]))),
 (28,({ bC:=0,kd := .wr 0 0 true },(.s .o (.s .o (.s (.s .o (.b (.l [(0,.ptr 1000000 0),(4,.no),(11,.no),(12,.no),(13,.no),(1000000,.cl [(0,800000)]),(800000,.pv)] .o))) .o)),[]))),
 (29,({ md:=[.rf] },(.o,[]))),
 (30,({},(.s .o (.s .o (.s .o (.s (.s .o (.b (.l (sc [3,20,21,22]) .o))) .o))),[]))),
 (31,({},(.o,[]))),
 (32,({ md:=[.pl,.pl,.sm],bC:=2 },(.s .o (.s .o (.s .o (.s (.s .o (.b (.l [(2,.cM 1000002),(50,.no),(51,.no),(52,.no),(1000002,.pv)] .o))) .o))),[139]))),
 (33,({ bC:=2 },(.o,[]))),
 (34,({ kd := .wr 0 5 false },(.o,[]))),
 (40,({},(.o,[]))),
 (41,({ bC:=2 },(.o,[]))),
 (42,({ bC:=3 },(.o,[]))),
 (44,({},(.o,[]))),
 (45,({ md:=[.rf] },(.o,[]))),
 (46,({},(.o,[]))),
 (47,({ bC:=3 },(.o,[]))),
 (48,({ md:=[.rf],bC:=3 },(.s .o (.s .o (.s .o (.s .o (.s .o (.s .o (.j [(10,.ptr 219 0),(11,.no),(12,.ptr 221 0),(219,.cl []),(221,.cl []),(1000000,.cl [])] (.s .o (.b (.j [(0,.ptr 1000000 0),(1,.no),(2,.no),(3,.no),(4,.no),(10,.ptr 219 0),(11,.no),(12,.ptr 221 0),(13,.no),(14,.ptr 245 0),(40,.no),(41,.no),(219,.cl []),(221,.cl []),(245,.cl []),(1000000,.cl [])] .o (.s .o (.s .o (.s .o (.s .o (.s .o (.j [(0,.ptr 1000000 0),(2,.no),(3,.no),(4,.no),(10,.ptr 219 0),(11,.no),(12,.ptr 221 0),(40,.no),(87,.no),(219,.cl []),(221,.cl []),(1000000,.cl [])] .o (.s .o (.s .o (.s (.s .o (.j [(0,.ptr 1000000 0),(10,.ptr 219 0),(11,.no),(12,.ptr 221 0),(219,.cl []),(221,.cl []),(1000000,.cl [])] .o .o)) (.s .o (.s .o (.s .o (.s .o (.j [(0,.ptr 1000000 0),(2,.no),(3,.no),(4,.no),(10,.ptr 219 0),(11,.no),(12,.ptr 221 0),(40,.no),(173,.no),(219,.cl []),(221,.cl []),(1000000,.cl [])] .o .o))))))))))))))))) .o)))))),[]))),
 (49,({},(.s .o (.s .o (.s (.s .o (.b (.l (sc [3,6,7,8]) .o))) .o)),[]))),
 (50,({ kd := .wr 0 0 true },(.o,[]))),
 (51,({ bC:=0,kd := .wr 0 0 true },(.s .o (.b (.l [(0,.ptr 1000000 0),(1,.no),(2,.no),(6,.no),(1000000,.cl [(0,800000)]),(800000,.pv)] .o)),[]))),
 (52,({ bC:=0,kd := .wr 0 0 true },(.o,[]))),
 (53,({ bC:=0,kd := .wr 0 0 true },(.o,[]))),
 (54,({ bC:=0,kd := .wr 0 0 true },(.s .o (.s .o (.b (.j [(0,.ptr 1000000 0),(3,.ptr 136 0),(7,.no),(8,.no),(136,.cl []),(1000000,.cl [(0,800000)]),(800000,.pv)] .o (.s .o (.s .o (.s .o (.s .o (.s .o (.s .o (.s .o (.j [(0,.ptr 1000000 0),(3,.ptr 136 0),(7,.no),(39,.no),(136,.cl []),(1000000,.cl [(0,800000)]),(800000,.pv)] .o (.s .o (.s .o (.s .o (.s .o (.s (.s .o (.j [(0,.ptr 1000000 0),(3,.ptr 136 0),(136,.cl []),(1000000,.cl [(0,800000)]),(800000,.pv)] .o .o)) (.s .o (.s .o (.s .o (.s .o (.j [(0,.ptr 1000000 0),(3,.ptr 136 0),(7,.no),(104,.no),(136,.cl []),(1000000,.cl [(0,800000)]),(800000,.pv)] .o .o))))))))))))))))))))),[]))),
 (55,({ kd := .wr 0 0 true },(.s .o (.s .o (.s (.s .o (.b (.l [(0,.ptr 1000000 0),(1,.no),(2,.no),(28,.no),(29,.no),(1000000,.cl [(0,800000)]),(800000,.pv)] .o))) .o)),[]))),
 (57,({},(.s .o (.s .o (.j [(1,.ptr 116 0),(3,.no),(116,.cl [])] (.s .o (.b (.j [(1,.ptr 116 0),(3,.no),(5,.no),(6,.no),(116,.cl [])] .o (.s .o (.s .o (.s .o (.s .o (.s .o (.s .o (.s .o (.j [(1,.ptr 116 0),(3,.no),(5,.no),(28,.no),(116,.cl [])] .o (.s .o (.s .o (.s .o (.s .o (.s .o (.s .o (.s .o (.s .o (.s .o (.j [(1,.ptr 116 0),(3,.no),(5,.no),(64,.no),(116,.cl [])] .o .o))))))))))))))))))))) .o)),[]))),
 (58,({},(.o,[]))),
 (62,({ bC:=2 },(.o,[]))),
 (63,({ bC:=2 },(.o,[]))),
 (64,({ bC:=2 },(.o,[]))),
 (65,({},(.o,[]))),
 (66,({ kd := .nw none },(.o,[]))),
 (67,({ md:=[.rf],bC:=2 },(.s .o (.s .o (.s .o (.s (.s .o (.b (.l [(7,.no),(8,.no),(17,.no),(18,.no),(19,.no),(1000000,.cl [])] .o))) .o))),[]))),
 (68,({},(.o,[]))),
 (69,({ bC:=2 },(.o,[]))),
 (70,({},(.s .o (.s (.s .o (.b (.j (sc [3,4]) .o (.s .o (.j (sc [3,9]) .o .o))))) .o),[]))),
 (71,({ md:=[.rf],bC:=2 },(.o,[87]))),
 (72,({ md:=[.rf],bC:=3 },(.o,[]))),
 (73,({ md:=[.rf],bC:=3 },(.o,[]))),
 (74,({ md:=[.rf],bC:=4 },(.s .o (.s .o (.s .o (.s .o (.j [(0,.ptr 1000000 0),(9,.ptr 80 0),(11,.no),(12,.no),(13,.no),(80,.cl []),(1000000,.cl [])] .o .o)))),[193,264]))),
 (75,({ md:=[.rf],bC:=4 },(.o,[]))),
 (76,({},(.o,[]))),
 (77,({ bC:=0,kd := .wr 0 0 true },(.o,[]))),
 (78,({ bC:=0,kd := .wr 0 0 true },(.o,[]))),
 (79,({},(.o,[]))),
 (84,({ bC:=2 },(.o,[]))),
 (85,({ bC:=2 },(.o,[]))),
 (86,({ bC:=2 },(.o,[]))),
 (87,({ bC:=2 },(.o,[]))),
 (90,({ bC:=2 },(.o,[]))),
 (91,({ bC:=2 },(.o,[]))),
 (92,({ bC:=2 },(.o,[]))),
 (93,({ bC:=2 },(.o,[]))),
 (96,({ bC:=2 },(.o,[]))),
 (97,({},(.s .o (.s .o (.s .o (.s (.s .o (.b (.l [(1,.ptr 76 0),(2,.ptr 77 0),(17,.no),(18,.no),(19,.no),(76,.cl [(8,800000)]),(77,.cl [(8,800001)]),(800000,.pv),(800001,.pv)] .o))) (.s .o (.j [(1,.ptr 76 0),(2,.ptr 77 0),(6,.no),(7,.no),(76,.cl [(8,800000)]),(77,.cl [(8,800001)]),(800000,.pv),(800001,.pv)] .o (.j [(1,.ptr 76 0),(2,.ptr 77 0),(76,.cl [(8,800000)]),(77,.cl [(8,800001)]),(800000,.pv),(800001,.pv)] .o .o)))))),[]))),
 (98,({ md:=[.rf],bC:=2 },(.o,[97]))),
 (100,({ bC:=2 },(.s .o (.j (sc [2,3]) (.b (.l (sc [0,2,3]) .o)) .o),[]))),
 (101,({ md:=[.rf] },(.o,[]))),
 (102,({},(.o,[]))),
 (107,({ md:=[.rf],bC:=2 },(.o,[]))),
 (108,({ md:=[.rf],bC:=2 },(.s .o (.s (.s .o (.b (.s .o (.s .o (.s .o (.s .o (.s .o (.s .o (.s .o (.s .o (.s .o (.s .o (.j [(0,.ptr 1000000 0),(2,.no),(4,.ptr 79 0),(6,.ptr 81 0),(7,.ptr 82 0),(36,.no),(79,.cl []),(81,.cl []),(82,.cl []),(1000000,.cl [])] .o .o))))))))))))) .o),[]))),
 (109,({},(.s .o (.s .o (.s (.s .o (.b (.l [(1,.ptr 105 0),(47,.no),(48,.no),(49,.no),(105,.cl [])] .o))) (.s .o (.s .o (.s (.s .o (.b (.l (sc [87,88,89]) .o))) .o))))),[]))),
 (110,({ md:=[.pl,.sm],bC:=2,own:=[0] },(.s .o (.s .o (.s (.s .o (.b (.l [(1,.cM 1000001),(5,.ptr 54 0),(6,.cM 800000),(12,.no),(13,.no),(14,.no),(54,.cl []),(800000,.pv),(1000001,.pv)] .o))) .o)),[71]))),
 (111,({ bC:=2 },(.o,[]))),
 (112,({ md:=[.rf],bC:=2 },(.s .o (.s .o (.s .o (.s .o (.s .o (.s .o (.s .o (.s .o (.s .o (.s .o (.s .o (.s (.s .o (.b (.s .o (.s .o (.s .o (.s .o (.j [(0,.ptr 1000000 0),(1,.no),(4,.ptr 139 0),(5,.ptr 140 0),(6,.no),(9,.no),(11,.no),(89,.no),(100,.no),(139,.cl []),(140,.cl []),(1000000,.cl [])] .o .o))))))) .o))))))))))),[]))),
 (113,({ md:=[.rf] },(.o,[]))),
 (114,({},(.s .o (.s .o (.s .o (.s .o (.s (.s .o (.b (.l (sc [29,30,31]) .o))) .o)))),[]))),
 (115,({ md:=[.sm] },(.o,[]))),
 (116,({ md:=[.pl,.pl,.sm],bC:=2,raw:=true },(.s .o (.s (.s .o (.b (.l [(1,.no),(2,.cM 1000002),(3,.ptr 73 0),(6,.ptr 76 0),(7,.ptr 77 0),(8,.no),(73,.cl [(8,800000)]),(76,.cl [(8,800001)]),(77,.cl []),(800000,.pv),(800001,.pv),(1000002,.pv)] .o))) .o),[105,117]))),
 (122,({ bC:=2 },(.o,[]))),
 (123,({ bC:=2 },(.o,[]))),
 (124,({ bC:=2 },(.o,[]))),
 (125,({},(.s .o (.s .o (.s (.s .o (.b (.l [(2,.ptr 28 0),(3,.ptr 29 0),(7,.no),(8,.no),(9,.no),(28,.cl [(4,800000)]),(29,.cl [(4,800001)]),(800000,.pv),(800001,.pv)] .o))) .o)),[]))),
 (126,({ bC:=0,kd := .wr 0 0 true },(.s .o (.s .o (.j [(0,.ptr 1000000 0),(3,.ptr 95 0),(95,.cl []),(1000000,.cl [(0,800000)]),(800000,.pv)] .o (.s .o (.b (.l [(0,.ptr 1000000 0),(82,.no),(83,.no),(84,.no),(1000000,.cl [(0,800000)]),(800000,.pv)] .o))))),[]))),
 (129,({ md:=[.gv,.pl,.pl,.sm],bC:=2,own:=[0] },(.s .o (.s .o (.j [(0,.cM 800000),(3,.cM 1000003),(5,.ptr 72 0),(6,.ptr 73 0),(72,.cl []),(73,.cl []),(800000,.pv),(1000003,.pv)] .o (.s (.s .o (.b (.l [(0,.cM 800000),(3,.cM 1000003),(6,.ptr 73 0),(30,.no),(31,.no),(32,.no),(73,.cl []),(800000,.pv),(1000003,.pv)] .o))) .o))),[126]))),
 (130,({ bC:=2 },(.o,[]))),
 (132,({ bC:=2 },(.s .o (.sc [(0,(sc [])),(1,(sc [0,1,4,7,8,9]))] (.s .o (.s .o (.s .o (.j (sc [0,1,4,7,8]) .o .o))))),[]))),
 (133,({},(.o,[]))),
 (136,({ bC:=2 },(.s .o (.s .o (.s (.b (.l [(0,.no),(1,.no),(4,.ptr 109 0),(5,.ptr 110 0),(109,.cl []),(110,.cl [])] .o)) .o)),[]))),
 (137,({ md:=[.rf],bC:=2 },(.s .o (.s .o (.s .o (.s .o (.s .o (.j [(7,.ptr 94 0),(11,.ptr 98 0),(94,.cl []),(98,.cl []),(1000000,.cl [])] (.b (.l [(0,.ptr 1000000 0),(1,.no),(2,.no),(7,.ptr 94 0),(8,.cM 800000),(9,.no),(10,.ptr 97 0),(11,.ptr 98 0),(94,.cl []),(97,.cl []),(98,.cl []),(1000000,.cl []),(800000,.pv)] (.s .o (.b (.s .o (.j [(0,.ptr 1000000 0),(1,.no),(2,.no),(7,.ptr 94 0),(8,.cM 800000),(9,.no),(10,.ptr 97 0),(11,.ptr 98 0),(12,.ptr 99 0),(94,.cl []),(97,.cl []),(98,.cl []),(99,.cl []),(1000000,.cl []),(800000,.pv)] .o .o)))))) .o))))),[]))),
 (138,({},(.o,[]))),
 (139,({},(.s .o (.s .o (.j (sc [0,3,4]) .o (.s .o (.s .o (.s .o (.j (sc [0,3,4]) .o (.j (sc [0,3,4]) (.s .o (.s (.s .o (.s .o (.j (sc [0,3,4]) .o .o))) .o)) .o))))))),[]))),
 (140,({},(.o,[]))),
 (141,({ md:=[.pl,.sm] },(.o,[]))),
 (142,({ md:=[.pl,.sm],bC:=2 },(.s .o (.s (.s .o (.b (.s .o (.s .o (.s .o (.s .o (.s .o (.s .o (.s .o (.s .o (.s .o (.s .o (.s .o (.s (.s .o (.s (.s .o (.b (.l [(4,.ptr 151 0),(5,.ptr 152 0),(8,.cM 800000),(9,.ptr 156 0),(68,.no),(69,.no),(151,.cl []),(152,.cl []),(156,.cl []),(800000,.pv),(1000001,.pv)] .o))) .o)) .o)))))))))))))) (.s .o (.s .o (.s (.s .o (.b (.l [(1,.cM 1000001),(2,.ptr 149 0),(4,.ptr 151 0),(5,.ptr 152 0),(130,.no),(131,.no),(149,.cl []),(151,.cl []),(152,.cl []),(1000001,.pv)] .o))) .o)))),[]))),
 (143,({ md:=[.rf],bC:=2 },(.o,[]))),
 (144,({ md:=[.rf],bC:=2 },(.o,[]))),
 (145,({},(.o,[]))),
 (146,({ md:=[.rf],bC:=2 },(.o,[]))),
 (147,({ md:=[.rf],bC:=2,raw:=true },(.s .o (.s (.b (.l [(0,.ptr 1000000 0),(2,.no),(3,.no),(4,.no),(6,.ptr 48 0),(10,.ptr 52 0),(11,.ptr 53 0),(48,.cl [(4,800000)]),(52,.cl [(4,800001)]),(53,.cl []),(1000000,.cl []),(800000,.pv),(800001,.pv)] (.s .o (.s (.b (.s .o (.b (.l [(0,.ptr 1000000 0),(2,.no),(3,.no),(4,.no),(6,.ptr 48 0),(10,.ptr 52 0),(11,.ptr 53 0),(18,.no),(19,.no),(48,.cl [(4,800000)]),(52,.cl [(4,800001)]),(53,.cl []),(1000000,.cl []),(800000,.pv),(800001,.pv)] .o)))) .o)))) .o),[]))),
 (148,({},(.s .o (.s .o (.s .o (.j [(1,.ptr 66 0),(3,.no),(4,.no),(66,.cl [])] (.s .o (.b (.j [(1,.ptr 66 0),(3,.no),(4,.no),(9,.no),(10,.no),(66,.cl [])] .o .o))) .o))),[]))),
 (149,({ md:=[.pl,.sm],bC:=2 },(.s .o (.j [(1,.cM 1000001),(4,.ptr 127 0),(5,.ptr 128 0),(127,.cl [(8,800000)]),(128,.cl []),(800000,.pv),(1000001,.pv)] (.s .o (.b (.s .o (.s .o (.s .o (.s .o (.s .o (.s .o (.s .o (.s .o (.j [(1,.cM 1000001),(2,.ptr 125 0),(4,.ptr 127 0),(5,.ptr 128 0),(14,.no),(46,.no),(125,.cl []),(127,.cl [(8,800000)]),(128,.cl []),(800000,.pv),(1000001,.pv)] .o (.s .o (.s .o (.s .o (.s .o (.s (.s .o (.s (.s .o (.b (.l [(1,.cM 1000001),(4,.ptr 127 0),(5,.ptr 128 0),(8,.ptr 131 0),(80,.no),(81,.no),(82,.no),(127,.cl [(8,800000)]),(128,.cl []),(131,.cl [(8,800001)]),(800000,.pv),(800001,.pv),(1000001,.pv)] .o))) .o)) .o)))))))))))))))) .o),[215]))),
 (151,({ md:=[.rf],bC:=2 },(.s .o (.s .o (.s .o (.s (.s .o (.b (.l [(7,.no),(8,.no),(17,.no),(18,.no),(19,.no),(1000000,.cl [])] .o))) .o))),[]))),
 (160,({ own:=[1002] },(.s .o (.s .o (.s (.s .o (.b (.l [(2,.ptr 28 0),(3,.ptr 29 0),(7,.no),(8,.no),(9,.no),(28,.cl [(2,800000)]),(29,.cl [(2,800001)]),(800000,.pv),(800001,.pv)] .o))) .o)),[51]))),
 (161,({ md:=[.gv],own:=[0] },(.s .o (.s .o (.s .o (.j [(0,.cM 1000000),(3,.ptr 76 0),(5,.no),(6,.no),(76,.cl []),(1000000,.pv)] .o (.s .o (.s (.s .o (.b (.l [(0,.cM 800000),(3,.ptr 76 0),(6,.no),(43,.no),(44,.no),(45,.no),(76,.cl []),(800000,.pv)] (.s .o (.s .o (.s (.b (.s .o (.j [(0,.cM 800000),(3,.ptr 76 0),(6,.no),(8,.ptr 81 0),(43,.no),(44,.no),(45,.no),(76,.cl []),(81,.cl []),(800000,.pv)] .o (.j [(0,.cM 800000),(3,.ptr 76 0),(6,.no),(8,.ptr 81 0),(43,.no),(44,.no),(45,.no),(76,.cl []),(81,.cl []),(800000,.pv)] .o .o)))) .o)))))) .o))))),[]))),
 (162,({ own:=[1002] },(.s .o (.s .o (.s (.s .o (.b (.l [(2,.ptr 28 0),(3,.ptr 29 0),(7,.no),(8,.no),(9,.no),(28,.cl [(2,800000)]),(29,.cl [(2,800001)]),(800000,.pv),(800001,.pv)] .o))) .o)),[51]))),
 (163,({},(.o,[]))),
 (164,({},(.s .o (.j [(1,.ptr 82 0),(2,.ptr 83 0),(82,.cl []),(83,.cl [(4,800000)]),(800000,.pv)] (.s .o (.b (.s .o (.s .o (.s .o (.s .o (.s .o (.s .o (.s .o (.s (.s .o (.s (.s .o (.s (.s .o (.b (.l [(2,.ptr 83 0),(3,.ptr 84 0),(30,.no),(31,.no),(32,.no),(83,.cl [(4,800000)]),(84,.cl []),(800000,.pv)] .o))) .o)) .o)) .o)))))))))) .o),[]))),
 (165,({ bC:=0,kd := .wr 0 0 true },(.s .o (.j [(0,.ptr 1000000 0),(2,.no),(6,.no),(1000000,.cl [(0,800000)]),(800000,.pv)] .o .o),[]))),
 (166,({ bC:=0,kd := .wr 0 0 true },(.s .o (.b (.l [(0,.ptr 1000000 0),(1,.no),(2,.no),(6,.no),(1000000,.cl [(0,800000)]),(800000,.pv)] .o)),[]))),
 (170,({},(.o,[]))),
 (171,({ bC:=4 },(.o,[]))),
 (172,({},(.s .o (.s .o (.s .o (.j (sc [4,7]) .o .o))),[]))),
 (173,({ bC:=2 },(.o,[]))),
 (175,({},(.o,[]))),
 (176,({},(.o,[]))),
 (177,({},(.o,[]))),
 (179,({},(.o,[]))),
 (180,({},(.s .o (.s .o (.s .o (.s .o (.s (.s .o (.b (.l (sc [0,1,5,6,7,8,9]) .o))) (.s .o (.s (.s .o (.b (.l (sc [0,1,5,6,7,8,10]) .o))) .o)))))),[]))),
 (182,({ bC:=2 },(.o,[]))),
 (183,({ bC:=2 },(.s .o (.s (.s .o (.b (.l (sc [0,8,9]) .o))) (.s (.s .o (.b (.l (sc [0,19,20]) .o))) .o)),[]))),
 (184,({ bC:=2 },(.s .o (.sc [(0,[(1,.no),(4,.ptr 179 0),(5,.ptr 180 0),(179,.cl []),(180,.cl [])]),(2,[(0,.no),(1,.no),(4,.ptr 179 0),(5,.ptr 180 0),(6,.cM 800000),(12,.no),(179,.cl []),(180,.cl []),(800000,.pv)]),(3,[(0,.no),(1,.no),(4,.ptr 179 0),(5,.ptr 180 0),(6,.cM 800000),(12,.no),(179,.cl []),(180,.cl []),(800000,.pv)]),(1,[(0,.no),(1,.no),(4,.ptr 179 0),(5,.ptr 180 0),(6,.cM 800000),(12,.no),(179,.cl []),(180,.cl []),(800000,.pv)])] (.s .o (.s .o (.s .o (.s .o (.s .o (.s .o (.s .o (.s .o (.s .o (.s .o (.s .o (.s .o (.s .o (.s .o (.s .o (.s .o (.s .o (.s .o (.s .o (.s .o (.s .o (.s .o (.s .o (.s .o (.j [(0,.no),(1,.no),(4,.ptr 179 0),(5,.ptr 180 0),(6,.cM 800000),(8,.no),(9,.no),(12,.no),(179,.cl []),(180,.cl []),(800000,.pv)] (.s .o (.s (.s .o (.j [(0,.no),(1,.no),(4,.ptr 179 0),(5,.ptr 180 0),(6,.cM 800000),(8,.no),(10,.no),(11,.no),(12,.no),(179,.cl []),(180,.cl []),(800000,.pv)] .o .o)) .o)) .o)))))))))))))))))))))))))),[]))),
 (185,({ bC:=2 },(.s .o (.s .o (.s (.b (.l [(0,.no),(1,.no),(4,.ptr 51 0),(5,.ptr 52 0),(6,.no),(51,.cl []),(52,.cl [])] .o)) .o)),[]))),
 (186,({ md:=[.rf],bC:=2 },(.o,[]))),
 (187,({},(.o,[]))),
 (188,({},(.s .o (.s (.b (.l (sc [0,1]) .o)) .o),[]))),
 (189,({ bC:=2 },(.o,[]))),
 (190,({},(.o,[]))),
 (191,({ bC:=2 },(.o,[]))),
 (192,({},(.o,[]))),
 (193,({ bC:=3 },(.o,[]))),
 (194,({ bC:=2 },(.o,[]))),
 (195,({ bC:=2 },(.o,[295,296]))),
 (196,({ bC:=2 },(.s .o (.s .o (.s .o (.j [(2,.ptr 123 0),(123,.cl [])] .o .o))),[276,277,332,333]))),
 (197,({ bC:=2 },(.o,[188,189]))),
 (198,({ bC:=2 },(.o,[]))),
 (199,({ md:=[.pl,.sm],bC:=2 },(.s .o (.s .o (.j [(1,.cM 1000001),(4,.ptr 73 0),(5,.ptr 74 0),(73,.cl []),(74,.cl []),(1000001,.pv)] .o .o)),[110,131]))),
 (202,({},(.s .o (.s (.s .o (.b (.s .o (.s .o (.s .o (.s (.s .o (.s .o (.s .o (.s (.s .o (.b (.l [(2,.ptr 97 0),(3,.ptr 98 0),(44,.no),(45,.no),(97,.cl [(2,800000)]),(98,.cl [(2,800001)]),(800000,.pv),(800001,.pv)] .o))) .o)))) .o)))))) .o),[]))),
 (203,({ md:=[.gv],own:=[0] },(.o,[]))),
 (204,({},(.s .o (.j [(1,.ptr 129 0),(2,.ptr 130 0),(129,.cl []),(130,.cl [(2,800000)]),(800000,.pv)] (.s .o (.b (.s .o (.s .o (.s .o (.s .o (.s .o (.s .o (.s .o (.s .o (.s .o (.s .o (.s .o (.s (.s .o (.s .o (.s .o (.s (.s .o (.b (.l [(2,.ptr 130 0),(7,.ptr 135 0),(88,.no),(89,.no),(130,.cl [(2,800000)]),(135,.cl [(2,800001)]),(800000,.pv),(800001,.pv)] .o))) .o)))) .o)))))))))))))) .o),[]))),
 (205,({},(.s .o (.s (.s .o (.b (.l (sc [5,6,7]) .o))) .o),[]))),
 (206,({},(.o,[]))),
 (207,({},(.o,[]))),
 (208,({},(.o,[]))),
 (209,({},(.o,[]))),
 (210,({},(.s .o (.s (.s .o (.b (.s .o (.s .o (.s .o (.s .o (.s .o (.s .o (.j [(1,.ptr 80 0),(2,.ptr 81 0),(4,.no),(26,.no),(80,.cl []),(81,.cl [])] .o (.s .o (.s .o (.s .o (.s .o (.s .o (.j [(1,.ptr 80 0),(2,.ptr 81 0),(4,.no),(53,.no),(80,.cl []),(81,.cl [])] .o .o))))))))))))))) .o),[]))),
 (215,({ bC:=3 },(.s .o (.s .o (.s .o (.s .o (.s .o (.j (sc [0,9,10]) .o (.s .o (.s (.b (.l (sc [0,3,9,10]) .o)) (.s .o (.b (.l (sc [0,3,9,10,11]) .o)))))))))),[]))),
 (216,({},(.s .o (.s .o (.s .o (.s .o (.j (sc [1,6]) .o .o)))),[]))),
 (217,({},(.o,[]))),
 (222,({ bC:=2 },(.s .o (.s .o (.s (.s .o (.b (.l (sc [0,4,5]) .o))) (.s .o (.s (.s .o (.b (.l (sc [4,6,7,8]) (.s .o (.s (.b (.j (sc [4,6,7,8]) .o .o)) .o))))) .o)))),[]))),
 (223,({},(.o,[]))),
 (224,({ bC:=2 },(.s .o (.j (sc [4,5]) (.b (.l (sc [0,1,4,5]) .o)) .o),[]))),
 (225,({},(.o,[]))),
 (226,({},(.o,[]))),
 (227,({},(.o,[]))),
 (228,({ bC:=2 },(.s .o (.s .o (.s .o (.s .o (.s .o (.j (sc [4,5,6]) .o (.s .o (.s .o (.s .o (.j (sc [11]) .o .o))))))))),[]))),
 (229,({},(.o,[]))),
 (230,({},(.o,[]))),
 (231,({},(.s .o (.s .o (.s (.s .o (.b (.l (sc [1,19,20,21]) .o))) .o)),[]))),
 (232,({ bC:=2 },(.o,[]))),
 (233,({ bC:=2 },(.o,[]))),
 (234,({ bC:=3 },(.s .o (.s .o (.s .o (.s .o (.s .o (.s .o (.s .o (.s .o (.s .o (.s .o (.j (sc [5,10,11,12,13,14]) .o (.s .o (.s .o (.j (sc [5,11,15]) .o .o))))))))))))),[]))),
 (235,({ bC:=2 },(.s .o (.s .o (.j (sc [0,4,5]) .o (.s .o (.s .o (.s .o (.s .o (.s .o (.s .o (.s .o (.s .o (.s .o (.s .o (.s (.s .o (.b (.l (sc [4,6,8,11,12,14,16,17]) .o))) .o))))))))))))),[]))),
 (236,({ bC:=2 },(.o,[]))),
 (237,({},(.s .o (.s .o (.s (.s .o (.b (.l (sc [3,6,7,8]) .o))) .o)),[]))),
 (238,({ bC:=2 },(.o,[]))),
 (239,({ bC:=2 },(.s .o (.sc [(0,(sc [])),(2,[(0,.no),(4,.cM 800000),(5,.no),(6,.no),(7,.no),(800000,.pv)]),(1,[(0,.no),(4,.cM 800000),(5,.no),(6,.no),(7,.no),(800000,.pv)])] (.s .o (.s .o (.s .o (.s .o (.s .o (.s .o (.s .o (.s .o (.s .o (.j [(0,.no),(4,.cM 800000),(5,.no),(6,.no),(7,.no),(800000,.pv)] .o .o))))))))))),[]))),
 (240,({ bC:=2 },(.s .o (.s .o (.s .o (.s (.s .o (.b (.l [(0,.no),(4,.cM 800000),(5,.no),(800000,.pv)] .o))) .o))),[]))),
 (241,({},(.s .o (.s (.s .o (.b (.l (sc [0,3]) .o))) .o),[]))),
 (242,({},(.o,[]))),
 (243,({ bC:=2 },(.s .o (.s .o (.s .o (.s .o (.j [(4,.ptr 215 0),(6,.ptr 217 0),(7,.no),(215,.cl []),(217,.cl [])] (.s .o (.b (.s .o (.s .o (.s .o (.s .o (.j [(3,.ptr 214 0),(4,.ptr 215 0),(6,.ptr 217 0),(7,.no),(23,.no),(74,.no),(214,.cl []),(215,.cl []),(217,.cl [])] .o (.s .o (.s .o (.s .o (.s .o (.s .o (.j [(3,.ptr 214 0),(4,.ptr 215 0),(6,.ptr 217 0),(7,.no),(23,.no),(144,.no),(214,.cl []),(215,.cl []),(217,.cl [])] .o (.s .o (.s .o (.s .o (.s .o (.s (.s .o (.s .o (.s (.s .o (.b (.l [(4,.ptr 215 0),(6,.ptr 217 0),(7,.no),(174,.no),(175,.no),(176,.no),(215,.cl []),(217,.cl [])] (.s .o (.s .o (.j [(4,.ptr 215 0),(6,.ptr 217 0),(7,.no),(174,.no),(175,.no),(176,.no),(215,.cl []),(217,.cl [])] .o .o)))))) .o))) (.j [(3,.ptr 214 0),(4,.ptr 215 0),(6,.ptr 217 0),(7,.no),(198,.no),(214,.cl []),(215,.cl []),(217,.cl [])] .o .o))))))))))))))))))) .o)))),[]))),
 (247,({ bC:=3 },(.o,[]))),
 (248,({},(.o,[]))),
 (249,({},(.o,[]))),
 (250,({},(.o,[]))),
 (251,({},(.o,[]))),
 (252,({ bC:=2 },(.o,[]))),
 (253,({},(.o,[]))),
 (254,({ bC:=2 },(.s .o (.s .o (.s .o (.s (.s .o (.b (.l [(0,.no),(4,.cM 800000),(13,.no),(14,.no),(800000,.pv)] (.s .o (.s .o (.j [(0,.no),(4,.cM 800000),(13,.no),(14,.no),(800000,.pv)] .o .o)))))) .o))),[]))),
 (255,({},(.o,[]))),
 (256,({ bC:=2 },(.s .o (.s .o (.s .o (.s .o (.s (.b (.l (sc [4,5,6]) .o)) (.s .o (.s .o (.s (.b (.l (sc [5,6,7,8]) .o)) (.s .o (.s .o (.j (sc [10]) .o .o)))))))))),[]))),
 (257,({ own:=[1002] },(.o,[19]))),
 (258,({},(.o,[]))),
 (259,({},(.s .o (.s .o (.s (.s .o (.b (.l [(1,.ptr 27 0),(2,.ptr 28 0),(3,.cM 800000),(4,.no),(27,.cl []),(28,.cl []),(800000,.pv)] (.s .o (.s (.b (.s .o (.j [(1,.ptr 27 0),(2,.ptr 28 0),(3,.cM 800000),(4,.no),(5,.no),(27,.cl []),(28,.cl []),(800000,.pv)] .o .o))) .o))))) .o)),[]))),
 (262,({},(.s .o (.s .o (.s (.b (.l [(0,.no),(3,.cM 800000),(800000,.pv)] .o)) .o)),[]))),
 (263,({},(.o,[]))),
 (264,({},(.o,[]))),
 (265,({},(.o,[]))),
 (266,({ bC:=3 },(.o,[]))),
 (274,({ bC:=2 },(.o,[]))),
 (275,({ bC:=2 },(.o,[]))),
 (277,({},(.s .o (.s .o (.s .o (.s (.s .o (.b (.l (sc [0,3,4,9,10]) .o))) .o))),[]))),
 (278,({ bC:=2 },(.s .o (.s .o (.s .o (.s .o (.s .o (.s .o (.s .o (.s .o (.s .o (.s .o (.j (sc [7,9]) .o .o)))))))))),[]))),
 (279,({ bC:=5 },(.s .o (.s .o (.j (sc [2,5,7]) .o (.j (sc [2,5,7]) (.s .o (.s .o (.s (.s .o (.s .o (.s .o (.j (sc [2,5,7,9,10]) .o (.s .o (.s (.s .o (.b (.l (sc [2,5,7,9,10,61,62]) .o))) .o)))))) .o))) .o))),[]))),
 (282,({ bC:=2 },(.s .o (.s .o (.s .o (.s (.s .o (.b (.l [(0,.no),(2,.ptr 72 0),(4,.ptr 74 0),(30,.no),(31,.no),(72,.cl []),(74,.cl [])] .o))) .o))),[]))),
 (283,({ bC:=3 },(.s .o (.s .o (.s .o (.j [(4,.ptr 38 0),(6,.no),(38,.cl [])] .o .o))),[]))),
 (284,({ bC:=2 },(.s .o (.s .o (.s (.s .o (.b (.l [(3,.no),(4,.no),(12,.no),(19,.cM 800000),(20,.no),(21,.no),(800000,.pv)] .o))) .o)),[]))),
 (285,({},(.s .o (.s (.s .o (.b (.j (sc [0,5,6]) .o .o))) .o),[]))),
 (286,({},(.o,[]))),
 (287,({},(.o,[]))),
 (288,({},(.o,[]))),
 (289,({ bC:=3 },(.o,[]))),
 (290,({},(.s .o (.s .o (.s (.s .o (.b (.l [(0,.no),(3,.cM 800000),(4,.no),(800000,.pv)] .o))) .o)),[]))),
 (291,({},(.o,[]))),
 (292,({},(.s .o (.s .o (.s .o (.j (sc [6,9]) .o .o))),[]))),
 (293,({},(.s .o (.s .o (.s (.b (.l [(0,.no),(3,.cM 800000),(800000,.pv)] .o)) (.j [(3,.cM 800000),(800000,.pv)] .o .o))),[]))),
 (294,({},(.s .o (.s .o (.s (.s .o (.b (.l [(3,.cM 800000),(10,.no),(11,.no),(12,.no),(800000,.pv)] .o))) .o)),[]))),
 (295,({},(.s .o (.s .o (.s (.b (.l (sc [1,5]) .o)) .o)),[]))),
 (296,({},(.o,[]))),
 (297,({ own:=[0] },(.s .o (.s .o (.s .o (.s (.s .o (.b (.l [(1,.no),(5,.cM 800000),(800000,.pv),(6,.no),(9,.no),(10,.no),(11,.no)] .o))) (.j [(5,.cM 800000),(800000,.pv)] .o .o)))),[]))),
 (298,({},(.s .o (.j (sc [0,2]) .o .o),[]))),
 (299,({ bC:=2 },(.o,[]))),
 (300,({},(.o,[]))),
 (301,({ bC:=3 },(.o,[]))),
 (302,({ bC:=3 },(.o,[]))),
 (303,({},(.s .o (.s .o (.j (sc [0,1]) .o (.s .o (.s .o (.s (.s .o (.b (.l [(1,.no),(5,.cM 800000),(6,.no),(26,.no),(27,.no),(800000,.pv)] (.s .o (.s .o (.s (.b (.s .o (.s .o (.j [(1,.no),(5,.cM 800000),(6,.no),(7,.no),(26,.no),(27,.no),(800000,.pv)] .o .o)))) .o)))))) (.j [(5,.cM 800000),(800000,.pv)] .o .o)))))),[]))),
 (304,({ bC:=2 },(.o,[]))),
 (313,({},(.o,[]))),
 (314,({},(.o,[]))),
 (317,({ bC:=2 },(.o,[]))),
 (319,({},(.o,[]))),
 (321,({ md:=[.rf] },(.o,[]))),
 (323,({ bC:=2 },(.s .o (.s .o (.s .o (.s (.s .o (.b (.l (sc [0,4,24,25]) .o))) .o))),[]))),
 (324,({ bC:=2 },(.s .o (.s .o (.s .o (.s (.b (.l (sc [0,1,6]) .o)) .o))),[]))),
 (325,({},(.s .o (.s .o (.s .o (.s .o (.s .o (.s (.s .o (.b (.l [(7,.cM 800000),(800000,.pv),(8,.no),(27,.no),(28,.no),(29,.no)] .o))) (.s (.b (.l [(7,.cM 800000),(800000,.pv),(8,.no)] .o)) .o)))))),[]))),
 (326,({ bC:=2 },(.s .o (.s .o (.s .o (.j (sc [6,7]) .o .o))),[]))),
 (327,({},(.s .o (.s (.b (.l (sc [0,1]) .o)) .o),[]))),
 (329,({},(.s .o (.j (sc [0]) (.b (.l (sc [0,1]) .o)) .o),[]))),
 (330,({},(.s .o (.s (.b (.l (sc [0,1]) .o)) .o),[]))),
 (332,({},(.s .o (.j (sc [0]) (.b (.l (sc [0,1]) (.s .o (.b (.s .o (.j (sc [0,1,5,6]) .o .o)))))) .o),[]))),
 (333,({ bC:=2 },(.o,[]))),
 (334,({ bC:=2 },(.o,[]))),
 (335,({},(.o,[]))),
 (336,({},(.o,[]))),
 (337,({},(.o,[]))),
 (338,({},(.o,[]))),
 (339,({ bC:=4 },(.s .o (.s .o (.s .o (.s .o (.s .o (.j [(0,.no),(5,.no),(6,.ptr 58 0),(58,.cl [])] .o .o))))),[]))),
 (340,({},(.s .o (.s .o (.s .o (.s (.b (.s .o (.s .o (.s .o (.s (.j (sc [0,1,5]) .o .o) .o))))) (.s .o (.j (sc [6,7]) .o .o))))),[]))),
 (341,({},(.s .o (.s .o (.s (.b (.l [(1,.ptr 53 0),(3,.no),(53,.cl [])] .o)) (.j (sc [3]) .o .o))),[]))),
 (342,({},(.s .o (.s .o (.s (.s .o (.b (.l (sc [0,1,5]) .o))) .o)),[]))),
 (343,({ own:=[0] },(.o,[]))),
 (344,({ bC:=2 },(.s .o (.s .o (.s .o (.s (.s .o (.b (.l [(0,.no),(1,.no),(6,.cM 800000),(7,.no),(8,.no),(800000,.pv)] .o))) .o))),[]))),
 (345,({ md:=[.gv],bC:=2 },(.s .o (.s .o (.s .o (.s .o (.s (.s .o (.b (.l [(0,.cM 800000),(1,.no),(4,.cM 800001),(6,.no),(7,.no),(800000,.pv),(800001,.pv)] (.s .o (.s (.b (.s .o (.s .o (.j [(0,.cM 800000),(1,.no),(4,.cM 800001),(6,.no),(7,.no),(9,.no),(800000,.pv),(800001,.pv)] (.b (.l [(0,.cM 800000),(1,.no),(4,.cM 800001),(6,.no),(7,.no),(9,.no),(10,.no),(800000,.pv),(800001,.pv)] .o)) (.s .o (.s (.s .o (.b (.l [(0,.cM 800000),(1,.no),(4,.cM 800001),(6,.no),(7,.no),(9,.no),(11,.no),(12,.no),(107,.no),(108,.no),(800000,.pv),(800001,.pv)] .o))) (.s .o (.s .o (.j [(0,.cM 800000),(1,.no),(4,.cM 800001),(6,.no),(7,.no),(9,.no),(800000,.pv),(800001,.pv)] (.s .o (.s (.s .o (.s .o (.s (.s .o (.b (.l [(0,.cM 800000),(1,.no),(4,.cM 800001),(6,.no),(7,.no),(9,.no),(17,.no),(169,.no),(170,.no),(800000,.pv),(800001,.pv)] .o))) .o))) .o)) .o))))))))) .o))))) .o)))),[]))),
 (346,({},(.s .o (.s (.b (.l (sc [0]) .o)) .o),[]))),
 (347,({},(.s .o (.s .o (.s (.s .o (.b (.l [(0,.no),(1,.no),(5,.cM 800000),(11,.no),(12,.no),(13,.no),(800000,.pv)] (.s .o (.s .o (.j [(0,.no),(1,.no),(5,.cM 800000),(11,.no),(12,.no),(13,.no),(800000,.pv)] .o .o)))))) .o)),[]))),
 (348,({},(.s .o (.s .o (.s .o (.s (.b (.l [(0,.no),(3,.cM 800000),(800000,.pv)] (.s .o (.b (.s .o (.s .o (.j [(3,.cM 800000),(4,.no),(6,.no),(800000,.pv)] .o .o))))))) .o))),[]))),
 (349,({ bC:=2 },(.o,[]))),
 (350,({ bC:=2 },(.o,[]))),
 (353,({},(.o,[]))),
 (354,({},(.s .o (.j (sc [0,2]) .o (.j (sc [0,2]) .o (.j (sc [0,2]) .o .o))),[]))),
 (355,({},(.o,[]))),
 (356,({},(.o,[]))),
 (357,({},(.o,[]))),
 (358,({},(.o,[]))),
 (359,({},(.s .o (.s .o (.s .o (.s (.s .o (.b (.l [(1,.no),(7,.cM 800000),(800000,.pv),(8,.no),(16,.no),(17,.no),(18,.no)] .o))) (.j [(7,.cM 800000),(800000,.pv)] .o .o)))),[]))),
 (360,({ bC:=2 },(.s .o (.s .o (.s .o (.s .o (.s .o (.s (.s .o (.b (.l [(0,.no),(1,.no),(6,.cM 800000),(8,.no),(48,.no),(49,.no),(50,.no),(800000,.pv)] (.s .o (.s .o (.s (.b (.s .o (.s .o (.b (.l [(0,.no),(1,.no),(6,.cM 800000),(8,.no),(9,.no),(10,.ptr 126 0),(48,.no),(49,.no),(50,.no),(55,.no),(56,.no),(57,.no),(126,.cl []),(800000,.pv)] (.s .o (.s .o (.s (.b (.s .o (.s .o (.s (.s .o (.b (.l [(0,.no),(1,.no),(6,.cM 800000),(8,.no),(9,.no),(10,.ptr 126 0),(11,.no),(12,.ptr 128 0),(13,.ptr 129 0),(48,.no),(49,.no),(50,.no),(55,.no),(56,.no),(57,.no),(62,.no),(126,.cl []),(128,.cl []),(129,.cl []),(800000,.pv)] .o))) (.s .o (.s .o (.b (.l [(0,.no),(1,.no),(6,.cM 800000),(8,.no),(9,.no),(10,.ptr 126 0),(11,.no),(15,.ptr 131 0),(48,.no),(49,.no),(50,.no),(55,.no),(56,.no),(57,.no),(80,.no),(126,.cl []),(131,.cl []),(800000,.pv)] .o)))))))) .o)))))))) .o)))))) .o))))),[]))),
 (361,({},(.s .o (.s .o (.s (.s .o (.b (.l [(3,.cM 800000),(9,.no),(10,.no),(11,.no),(800000,.pv)] .o))) .o)),[]))),
 (362,({ bC:=2 },(.s .o (.j (sc [0,1]) .o .o),[]))),
 (363,({ bC:=2 },(.s .o (.s .o (.j (sc [1,2,8]) .o .o)),[]))),
 (364,({ bC:=2 },(.o,[]))),
 (365,({},(.o,[]))),
 (366,({ bC:=2 },(.s .o (.s .o (.s .o (.s .o (.s .o (.s .o (.s .o (.j (sc [0,4,5]) (.s .o (.b (.l (sc [0,4,5,6]) .o))) (.j (sc [0,4,5]) .o .o)))))))),[]))),
 (367,({},(.o,[]))),
 (369,({ bC:=3 },(.o,[]))),
 (370,({},(.o,[]))),
 (371,({ md:=[.sl],bC:=0 },(.s .o (.b (.l [(0,.cM 1000000),(2,.no),(3,.no),(1000000,.pv)] .o)),[]))),
 (375,({},(.o,[]))),
 (376,({},(.o,[]))),
 (377,({},(.s .o (.s (.s .o (.b (.l (sc [0,5,6,7]) .o))) .o),[]))),
 (378,({},(.s .o (.s .o (.s (.s .o (.b (.l [(0,.no),(3,.cM 800000),(800000,.pv),(4,.no)] (.s .o (.s (.b (.s .o (.j [(0,.no),(3,.cM 800000),(800000,.pv),(4,.no),(5,.ptr 41 0),(41,.cl [])] .o .o))) .o))))) .o)),[]))),
 (379,({},(.o,[]))),
 (380,({ bC:=2 },(.s .o (.s .o (.s .o (.s (.s .o (.b (.l [(2,.ptr 53 0),(4,.ptr 55 0),(16,.no),(17,.no),(53,.cl []),(55,.cl [])] .o))) .o))),[]))),
 (381,({ bC:=3 },(.o,[]))),
 (382,({ bC:=2 },(.s .o (.s .o (.s .o (.s (.s .o (.b (.l (sc [4,15,16,17]) .o))) .o))),[]))),
 (383,({ bC:=2 },(.o,[]))),
 (384,({},(.o,[]))),
 (385,({ bC:=2 },(.s .o (.j (sc [0,1,2]) .o (.j (sc [0,1,2]) .o (.s .o (.s .o (.s .o (.s .o (.s .o (.s .o (.s .o (.s .o (.s .o (.s .o (.s .o (.j (sc [2,8,9,10,11,13,14,15]) (.b (.l (sc [2,8,9,10,11,13,14,15,16]) .o)) (.s .o (.s .o (.s .o (.j (sc [2,8,14,15,17,18]) (.b (.l (sc [2,8,9,10,14,15,16,17,18]) .o)) .o)))))))))))))))))),[]))),
 (387,({},(.o,[]))),
 (388,({},(.o,[]))),
 (389,({},(.o,[]))),
 (390,({},(.s .o (.s .o (.s (.s .o (.b (.l (sc [3,6,7]) .o))) .o)),[]))),
 (391,({},(.s .o (.s .o (.s (.s .o (.b (.l [(1,.no),(2,.ptr 34 0),(4,.ptr 36 0),(5,.ptr 37 0),(9,.no),(34,.cl []),(36,.cl []),(37,.cl [])] (.s .o (.s .o (.s (.b (.s .o (.s .o (.b (.l [(1,.no),(2,.ptr 34 0),(4,.ptr 36 0),(5,.ptr 37 0),(6,.no),(9,.no),(12,.no),(13,.no),(34,.cl []),(36,.cl []),(37,.cl [])] .o))))) .o)))))) .o)),[]))),
 (393,({},(.o,[]))),
 (394,({},(.o,[]))),
 (395,({},(.o,[]))),
 (396,({},(.o,[]))),
 (399,({},(.o,[]))),
 (400,({},(.o,[]))),
 (401,({},(.o,[])))]
def sB:List (Nat × (eE × cg)):=[(131,(fun ins=>match ins with | [.s [49]] => .ok [.i .i64 1,.b true] | _ => .err,{ bC:=2 })),(220,(fun ins=>match ins with | [.i .i64 1,.i .i64 10] => .ok [.s [49]] | _ => .err,{})),(35,(bQ.c,bQ.sg)),(56,(df.c,df.sg))]
def Dp (d:Nat):cz:=tX PG 300 zW Dn sB Bv d
end
theorem Fq:PG.follows .mixedOrders=true∧nT PG zW=true∧tL PG Dn=true:=⟨by kernel_rfl,by kernel_rfl,by kernel_rfl⟩
end Go.Eng
namespace Go.Proofs
open Go.Shelf
def Tryz.o8:Go.Shelf.Ren:=⟨fun | 173=>220 | 246=>273 | 283=>313 | 284=>314 | 285=>315 | 286=>316 | 129=>354 | 317=>353 | 318=>355 | 319=>356 | 320=>357 | 337=>375 | 338=>376 | n=>n,fun | 2=>2 | 3=>3 | 9=>9 | 4=>4 | 171=>352 | 0=>0 | 53=>25 | 37=>22 | 5=>5 | 173=>354 | 212=>391 | 51=>107 | 20=>20 | 213=>392 | 46=>108 | 232=>425 | 233=>426 | n=>n,fun | 17=>3 | 18=>4 | 19=>5 | n=>n⟩
theorem Tryz.wg:Go.Proofs.LaysM.n173 Tryz.prog Tryz.o8:={
 mixed:=by kernel_rfl
 f129:=Tryz.func354.trans (congrArg some (by kernel_rfl))
 f173:=Tryz.func220.trans (congrArg some (by kernel_rfl))
 f246:=Tryz.func273.trans (congrArg some (by kernel_rfl))
 f283:=Tryz.func313.trans (congrArg some (by kernel_rfl))
 f284:=Tryz.func314.trans (congrArg some (by kernel_rfl))
 f285:=Tryz.func315.trans (congrArg some (by kernel_rfl))
 f286:=Tryz.func316.trans (congrArg some (by kernel_rfl))
 f317:=Tryz.func353.trans (congrArg some (by kernel_rfl))
 f318:=Tryz.func355.trans (congrArg some (by kernel_rfl))
 f319:=Tryz.func356.trans (congrArg some (by kernel_rfl))
 f320:=Tryz.func357.trans (congrArg some (by kernel_rfl))
 f337:=Tryz.func375.trans (congrArg some (by kernel_rfl))
 f338:=Tryz.func376.trans (congrArg some (by kernel_rfl))
 t0:=Tryz.underlying0
 a0:=Tryz.isAgg0
 z0:=Tryz.sizeOf0
 v0:=Tryz.zeroValue0
 t2:=Tryz.underlying2
 a2:=Tryz.isAgg2
 z2:=Tryz.sizeOf2
 v2:=Tryz.zeroValue2
 t3:=Tryz.underlying3
 a3:=Tryz.isAgg3
 z3:=Tryz.sizeOf3
 v3:=Tryz.zeroValue3
 t4:=Tryz.underlying4
 a4:=Tryz.isAgg4
 z4:=Tryz.sizeOf4
 v4:=Tryz.zeroValue4
 t5:=Tryz.underlying5
 a5:=Tryz.isAgg5
 z5:=Tryz.sizeOf5
 v5:=Tryz.zeroValue5
 t9:=Tryz.underlying9
 a9:=Tryz.isAgg9
 z9:=Tryz.sizeOf9
 v9:=Tryz.zeroValue9
 t20:=Tryz.underlying20
 a20:=Tryz.isAgg20
 z20:=Tryz.sizeOf20
 v20:=Tryz.zeroValue20
 t37:=Tryz.underlying22
 a37:=Tryz.isAgg22
 z37:=Tryz.sizeOf22
 v37:=Tryz.zeroValue22
 t46:=Tryz.underlying108
 a46:=Tryz.isAgg108
 z46:=Tryz.sizeOf108
 v46:=Tryz.zeroValue108
 t51:=Tryz.underlying107
 a51:=Tryz.isAgg107
 z51:=Tryz.sizeOf107
 v51:=Tryz.zeroValue107
 t53:=Tryz.underlying25
 a53:=Tryz.isAgg25
 z53:=Tryz.sizeOf25
 v53:=Tryz.zeroValue25
 t171:=Tryz.underlying352
 a171:=Tryz.isAgg352
 z171:=Tryz.sizeOf352
 v171:=Tryz.zeroValue352
 t173:=Tryz.underlying354
 a173:=Tryz.isAgg354
 z173:=Tryz.sizeOf354
 v173:=Tryz.zeroValue354
 t212:=Tryz.underlying391
 a212:=Tryz.isAgg391
 z212:=Tryz.sizeOf391
 v212:=Tryz.zeroValue391
 t213:=Tryz.underlying392
 a213:=Tryz.isAgg392
 z213:=Tryz.sizeOf392
 t232:=Tryz.underlying425
 a232:=Tryz.isAgg425
 z232:=Tryz.sizeOf425
 v232:=Tryz.zeroValue425
 t233:=Tryz.underlying426
 a233:=Tryz.isAgg426
 z233:=Tryz.sizeOf426
 v233:=Tryz.zeroValue426
 g17:=by kernel_rfl
 g18:=by kernel_rfl
 g19:=by kernel_rfl
 i0:=by kernel_rfl
 i2:=by kernel_rfl
 i3:=by kernel_rfl
 i4:=by kernel_rfl
 i5:=by kernel_rfl
 i9:=by kernel_rfl
 i20:=by kernel_rfl
 i37:=by kernel_rfl
 i46:=by kernel_rfl
 i51:=by kernel_rfl
 i53:=by kernel_rfl
 i171:=by kernel_rfl
 i173:=by kernel_rfl
 i212:=by kernel_rfl
 i232:=by kernel_rfl
 i233:=by kernel_rfl
 m17:=by kernel_rfl
 m18:=by kernel_rfl
 m19:=by kernel_rfl }
def Tryz.o9:Go.Shelf.Ren:=⟨fun | 174=>174 | 247=>218 | 245=>219 | 287=>268 | 279=>269 | 280=>270 | 281=>271 | 282=>272 | 321=>309 | 322=>310 | 316=>311 | 171=>190 | 205=>312 | 243=>229 | 246=>273 | 283=>313 | 284=>314 | 285=>315 | 286=>316 | 129=>354 | 317=>353 | 318=>355 | 319=>356 | 320=>357 | 337=>375 | 338=>376 | n=>n,fun | 9=>9 | 3=>3 | 2=>2 | 75=>229 | 85=>230 | 4=>4 | 167=>307 | 5=>5 | 53=>25 | 175=>308 | 46=>108 | 168=>310 | 37=>22 | 0=>0 | 210=>350 | 21=>21 | 127=>386 | 145=>389 | 143=>387 | 171=>352 | 173=>354 | 212=>391 | 51=>107 | 20=>20 | 213=>392 | 232=>425 | 233=>426 | 80=>347 | n=>n,fun | 15=>1 | 16=>2 | 17=>3 | 18=>4 | 19=>5 | n=>n⟩
theorem Tryz.wh:Go.Proofs.LaysC.n174 Tryz.prog Tryz.o9:={
 mixed:=by kernel_rfl
 f129:=Tryz.func354.trans (congrArg some (by kernel_rfl))
 f171:=Tryz.func190.trans (congrArg some (by kernel_rfl))
 f174:=Tryz.func174.trans (congrArg some (by kernel_rfl))
 f205:=Tryz.func312.trans (congrArg some (by kernel_rfl))
 f243:=Tryz.func229.trans (congrArg some (by kernel_rfl))
 f245:=Tryz.func219.trans (congrArg some (by kernel_rfl))
 f246:=Tryz.func273.trans (congrArg some (by kernel_rfl))
 f247:=Tryz.func218.trans (congrArg some (by kernel_rfl))
 f279:=Tryz.func269.trans (congrArg some (by kernel_rfl))
 f280:=Tryz.func270.trans (congrArg some (by kernel_rfl))
 f281:=Tryz.func271.trans (congrArg some (by kernel_rfl))
 f282:=Tryz.func272.trans (congrArg some (by kernel_rfl))
 f283:=Tryz.func313.trans (congrArg some (by kernel_rfl))
 f284:=Tryz.func314.trans (congrArg some (by kernel_rfl))
 f285:=Tryz.func315.trans (congrArg some (by kernel_rfl))
 f286:=Tryz.func316.trans (congrArg some (by kernel_rfl))
 f287:=Tryz.func268.trans (congrArg some (by kernel_rfl))
 f316:=Tryz.func311.trans (congrArg some (by kernel_rfl))
 f317:=Tryz.func353.trans (congrArg some (by kernel_rfl))
 f318:=Tryz.func355.trans (congrArg some (by kernel_rfl))
 f319:=Tryz.func356.trans (congrArg some (by kernel_rfl))
 f320:=Tryz.func357.trans (congrArg some (by kernel_rfl))
 f321:=Tryz.func309.trans (congrArg some (by kernel_rfl))
 f322:=Tryz.func310.trans (congrArg some (by kernel_rfl))
 f337:=Tryz.func375.trans (congrArg some (by kernel_rfl))
 f338:=Tryz.func376.trans (congrArg some (by kernel_rfl))
 t0:=Tryz.underlying0
 a0:=Tryz.isAgg0
 z0:=Tryz.sizeOf0
 v0:=Tryz.zeroValue0
 t2:=Tryz.underlying2
 a2:=Tryz.isAgg2
 z2:=Tryz.sizeOf2
 v2:=Tryz.zeroValue2
 t3:=Tryz.underlying3
 a3:=Tryz.isAgg3
 z3:=Tryz.sizeOf3
 v3:=Tryz.zeroValue3
 t4:=Tryz.underlying4
 a4:=Tryz.isAgg4
 z4:=Tryz.sizeOf4
 v4:=Tryz.zeroValue4
 t5:=Tryz.underlying5
 a5:=Tryz.isAgg5
 z5:=Tryz.sizeOf5
 v5:=Tryz.zeroValue5
 t9:=Tryz.underlying9
 a9:=Tryz.isAgg9
 z9:=Tryz.sizeOf9
 v9:=Tryz.zeroValue9
 t20:=Tryz.underlying20
 a20:=Tryz.isAgg20
 z20:=Tryz.sizeOf20
 v20:=Tryz.zeroValue20
 t21:=Tryz.underlying21
 a21:=Tryz.isAgg21
 z21:=Tryz.sizeOf21
 v21:=Tryz.zeroValue21
 t37:=Tryz.underlying22
 a37:=Tryz.isAgg22
 z37:=Tryz.sizeOf22
 v37:=Tryz.zeroValue22
 t46:=Tryz.underlying108
 a46:=Tryz.isAgg108
 z46:=Tryz.sizeOf108
 v46:=Tryz.zeroValue108
 t51:=Tryz.underlying107
 a51:=Tryz.isAgg107
 z51:=Tryz.sizeOf107
 v51:=Tryz.zeroValue107
 t53:=Tryz.underlying25
 a53:=Tryz.isAgg25
 z53:=Tryz.sizeOf25
 v53:=Tryz.zeroValue25
 t75:=Tryz.underlying229
 a75:=Tryz.isAgg229
 z75:=Tryz.sizeOf229
 v75:=Tryz.zeroValue229
 t85:=Tryz.underlying230
 a85:=Tryz.isAgg230
 z85:=Tryz.sizeOf230
 v85:=Tryz.zeroValue230
 t127:=Tryz.underlying386
 a127:=Tryz.isAgg386
 z127:=Tryz.sizeOf386
 v127:=Tryz.zeroValue386
 t143:=Tryz.underlying387
 a143:=Tryz.isAgg387
 z143:=Tryz.sizeOf387
 v143:=Tryz.zeroValue387
 t145:=Tryz.underlying389
 a145:=Tryz.isAgg389
 z145:=Tryz.sizeOf389
 v145:=Tryz.zeroValue389
 t167:=Tryz.underlying307
 a167:=Tryz.isAgg307
 z167:=Tryz.sizeOf307
 v167:=Tryz.zeroValue307
 t168:=Tryz.underlying310
 a168:=Tryz.isAgg310
 z168:=Tryz.sizeOf310
 v168:=Tryz.zeroValue310
 t171:=Tryz.underlying352
 a171:=Tryz.isAgg352
 z171:=Tryz.sizeOf352
 v171:=Tryz.zeroValue352
 t173:=Tryz.underlying354
 a173:=Tryz.isAgg354
 z173:=Tryz.sizeOf354
 v173:=Tryz.zeroValue354
 t175:=Tryz.underlying308
 a175:=Tryz.isAgg308
 z175:=Tryz.sizeOf308
 v175:=Tryz.zeroValue308
 t210:=Tryz.underlying350
 a210:=Tryz.isAgg350
 z210:=Tryz.sizeOf350
 v210:=Tryz.zeroValue350
 t212:=Tryz.underlying391
 a212:=Tryz.isAgg391
 z212:=Tryz.sizeOf391
 v212:=Tryz.zeroValue391
 t213:=Tryz.underlying392
 a213:=Tryz.isAgg392
 z213:=Tryz.sizeOf392
 t232:=Tryz.underlying425
 a232:=Tryz.isAgg425
 z232:=Tryz.sizeOf425
 v232:=Tryz.zeroValue425
 t233:=Tryz.underlying426
 a233:=Tryz.isAgg426
 z233:=Tryz.sizeOf426
 v233:=Tryz.zeroValue426
 g15:=by kernel_rfl
 g16:=by kernel_rfl
 g17:=by kernel_rfl
 g18:=by kernel_rfl
 g19:=by kernel_rfl
 t80:=Tryz.underlying347
 a80:=Tryz.isAgg347
 z80:=Tryz.sizeOf347
 v80:=Tryz.zeroValue347
 i0:=by kernel_rfl
 i2:=by kernel_rfl
 i3:=by kernel_rfl
 i4:=by kernel_rfl
 i5:=by kernel_rfl
 i9:=by kernel_rfl
 i20:=by kernel_rfl
 i21:=by kernel_rfl
 i37:=by kernel_rfl
 i46:=by kernel_rfl
 i51:=by kernel_rfl
 i53:=by kernel_rfl
 i75:=by kernel_rfl
 i80:=by kernel_rfl
 i85:=by kernel_rfl
 i127:=by kernel_rfl
 i143:=by kernel_rfl
 i145:=by kernel_rfl
 i167:=by kernel_rfl
 i168:=by kernel_rfl
 i171:=by kernel_rfl
 i173:=by kernel_rfl
 i175:=by kernel_rfl
 i210:=by kernel_rfl
 i212:=by kernel_rfl
 i232:=by kernel_rfl
 i233:=by kernel_rfl
 m15:=by kernel_rfl
 m16:=by kernel_rfl
 m17:=by kernel_rfl
 m18:=by kernel_rfl
 m19:=by kernel_rfl
 c0:=by kernel_rfl
 c2:=by kernel_rfl
 c3:=by kernel_rfl
 c4:=by kernel_rfl
 c5:=by kernel_rfl
 c9:=by kernel_rfl
 c20:=by kernel_rfl
 c21:=by kernel_rfl
 c37:=by kernel_rfl
 c46:=by kernel_rfl
 c51:=by kernel_rfl
 c53:=by kernel_rfl
 c75:=by kernel_rfl
 c80:=by kernel_rfl
 c85:=by kernel_rfl
 c127:=by kernel_rfl
 c143:=by kernel_rfl
 c145:=by kernel_rfl
 c167:=by kernel_rfl
 c168:=by kernel_rfl
 c171:=by kernel_rfl
 c173:=by kernel_rfl
 c175:=by kernel_rfl
 c210:=by kernel_rfl
 c212:=by kernel_rfl
 c213:=by kernel_rfl
 c232:=by kernel_rfl
 c233:=by kernel_rfl }
end Go.Proofs
namespace Go.Eng
open Go.RowKit Go.Proofs Go.Sort
variable {ee:Errs}
set_option maxRecDepth 100000
set_option maxHeartbeats 1000000
theorem yg {w:World} {R:Reach} (hG:GlOK (cnGl ee) R w):Lib.TabIs Tryz.prog w "internal/strconv.uint64pow10" .u64 Lib.pow10Tab:=by
 have e:(cnGl ee) 3=some (pX .u64 (Lib.pow10Tab.headD 0 :: Lib.pow10Tab.tail)):=rfl
 exact Ad hG e (by kernel_rfl)
theorem Fj:Lib.decDigits 1=[49]:=by rw [Lib.decDigits,dif_pos (by decide)];rfl
theorem Cz:Lib.itoa 1=[49]:=by
 unfold Lib.itoa
 rw [al (by decide)];exact Fj
theorem Al:Lib.parseIntB 64 [49] = .ok 1:=by kernel_rfl
theorem xu {R:Reach} {w:World} (hG:GlOK (cnGl ee) R w):Calls Tryz.prog 220 #[.int .i64 1,.int .i64 10] w fun e w'=>e = .returned (.string ⟨⟨[49]⟩⟩)∧Below w.heap.size w w':=by
 refine (Any.strconv_FormatInt_10 Tryz.wg 1 (by decide) (by decide) w (yg hG)).mono ?_
 rintro e w' ⟨rfl,q,os,rfl⟩
 exact ⟨by rw [Cz],sz _ _ _⟩
theorem xq {w W1 W2:World} (h1:Below w.heap.size w W1) (h2:Below W1.heap.size W1 W2):Below w.heap.size w W2 :=
 ⟨h2.os.trans h1.os,h2.tape.trans h1.tape,h2.output.trans h1.output,by have:=h1.size;have:=h2.size;omega,fun k hk=>(h2.block k (by have:=h1.size;omega)).trans (h1.block k hk)⟩
theorem uF {R:Reach} {w w':World} (hR:∀b o,R b o→b<w.heap.size) (h:Below w.heap.size w w') (hG:GlOK (cnGl ee) R w):GlOK (cnGl ee) R w':=hG.cj (lF (io:=fun _=>False) hR h).cj
theorem yZ {R:Reach} {w:World} (hG:GlOK (cnGl ee) R w):Calls Tryz.prog 175 #[.int .i64 1] w fun e w'=>e = .returned (.string ⟨⟨[49]⟩⟩)∧Below w.heap.size w w':=by
 go_enter Tryz.func175,Tryz.ntmps175
 go_wp2_with (go_at_call 220;refine (xu hG).mono ?_;rintro e w' ⟨rfl,hb⟩)
 go_ret
 exact ⟨rfl,hb⟩
theorem xt {R:Reach} {w:World} (hR:∀b o,R b o→b<w.heap.size) (hG:GlOK (cnGl ee) R w) :
  Calls Tryz.prog 131 #[.string ⟨⟨[49]⟩⟩] w fun e w'=>e = .returned (.tuple #[.int .i64 1,.bool true])∧Below w.heap.size w w':=by
 go_enter Tryz.func131,Tryz.ntmps131
 go_wp2_with (go_at_call 174;refine (Any.strconv_ParseInt_10_at64_ok Tryz.wh ⟨⟨[49]⟩⟩ (by decide) 1 Al w).mono ?_;rintro e W1 ⟨rfl,hW⟩)
 have xK:Below w.heap.size w W1:=by
  rcases hW with rfl | ⟨t,rfl⟩
  ·exact Below.refl _ _
  ·exact Go.Joins.below_bytesWorld _ _ _ _ (Nat.le_refl _)
 have H3:=uF hR xK hG
 go_at_call 175
 refine (yZ H3).mono ?_
 rintro e W2 ⟨rfl,zL⟩
 have hb:=xq xK zL
 go_wp2
 go_ret2
 exact ⟨rfl,hb⟩
theorem u6:bE PG (cnGl ee) 220 (fun ins=>match ins with | [.i .i64 1,.i .i64 10] => .ok [.s [49]] | _ => .err,{}):=rK (by kernel_rfl) fun ti fk w R xs hc ha hR hG=>by
 split at hc
 ·obtain rfl:fk=[.s [49]]:=hc
  obtain rfl:=mI ha rfl
  refine (xu hG).mono ?_
  rintro e w' ⟨rfl,hb⟩
  exact ⟨_,rfl,hb,fun R w'=>Ck Ci⟩
 ·exact hc.elim
theorem rq:bE PG (cnGl ee) 131 (fun ins=>match ins with | [.s [49]] => .ok [.i .i64 1,.b true] | _ => .err,{ bC:=2 }):=p7 (n:=2) (by kernel_rfl) (by decide) fun ti fk w R xs hc ha hR hG=>by
 split at hc
 ·obtain rfl:fk=[.i .i64 1,.b true]:=hc
  obtain rfl:=mI ha rfl
  refine (xt hR hG).mono ?_
  rintro e w' ⟨rfl,hb⟩
  exact ⟨_,rfl,rfl,hb,fun R w' => .cons Cj (.cons (.sc rfl) .nil)⟩
 ·exact hc.elim
end Go.Eng
set_option maxRecDepth 100000
namespace Go.Eng
open Go.Proofs
variable {ee:Errs}
theorem y0:∀p∈sB,bE PG (cnGl ee) p.1 p.2:=by
 intro p hp
 simp only [sB,aC,List.not_mem_nil,or_false] at hp
 rcases hp with rfl | rfl | rfl | rfl
 ·exact rq
 ·exact u6
 ·exact bQ.ok
 ·exact df.ok
end Go.Eng
set_option maxRecDepth 100000
namespace Go.Eng
open Go.Proofs
noncomputable section
def eP.sg:cg:={}
def eP.c:eE:=fun l=>match l with
 | [] => .ok [(.b (true))]
 | _ => .err
end
end Go.Eng
set_option maxRecDepth 100000
namespace Go.Eng
open Go.Proofs
variable {ee:Errs}
theorem u7:((Dp 40).fs 13).1 [] = .ok [.b true]:=by kernel_rfl
theorem y6:(Dp 40).fs 13=(((Dp 40).fs 13).1,eP.sg):=by kernel_rfl
theorem eP.ok:bE PG (cnGl ee) 13 (eP.c,eP.sg):=jq fun ti fk h=>by
 unfold eP.c at h
 split at h
 ·obtain rfl:fk=[.b true]:=h
  have tj:bE PG (cnGl ee) 13 ((Dp 40).fs 13):=runs Fq y0 13
  rw [y6] at tj
  refine ⟨((Dp 40).fs 13).1,tj,?_⟩
  rw [u7];rfl
 ·exact h.elim
end Go.Eng
set_option maxRecDepth 100000
namespace Go.Eng
open Go.Proofs
noncomputable section
def GateDocs.sg:cg:={}
def GateDocs.c:eE:=fun l=>match l with
 | [.sl .vl l,.sl .is Jl] => .ok [(.b (true))]
 | _ => .err
def GateDocs.E:cz:=dH fJ zs [(7,(Jf.c,Jf.sg)),(13,(eP.c,eP.sg)),(14,(eU.c,eU.sg)),(16,(bI.c,bI.sg)),(17,(eV.c,eV.sg)),(18,(I0.c,I0.sg)),(19,(Je.c,Je.sg)),(20,(Jc.c,Jc.sg)),(21,(Bp.c,Bp.sg))]
def GateDocs.h:Hint := .s .o (.s .o (.s .o (.s .o (.s .o (.s (.s .o (.b (.l [(0,.no),(1,.no),(5,.cM 800000),(6,.cM 800001),(7,.no),(800000,.pv),(800001,.pv)] .o))) (.s .o (.s .o (.s .o (.s .o (.s (.s .o (.b (.l [(1,.no),(5,.cM 800000),(800000,.lv),(6,.cM 800001),(10,.ptr 239 0),(12,.cM 800002),(13,.no),(14,.no),(239,.cl [(5,800003)]),(800001,.pv),(800002,.pv),(800003,.pv)] .o))) (.s .o (.s .o (.s .o (.s (.s .o (.b (.l [(6,.cM 800001),(12,.cM 800002),(13,.no),(16,.no),(800001,.pv),(800002,.pv)] .o))) .o))))))))))))))
def GateDocs.F (l:List Val) (Jl:List Int):OT:=dD PG GateDocs.E 5 GateDocs.sg GateDocs.h [(.sl .vl l),(.sl .is Jl)]
def GateDocs.l1 (x0:List Val) (x1:List Int) (x2:Int) (x3:List UInt8) (x4:List IY):OT:=j9 PG GateDocs.E 5 GateDocs.sg GateDocs.h 351 [(.sl .vl x0),(.sl .is x1),.pt,.pt,(.i .i64 x2),(.sl .bs x3),(.sl .J7 x4)]
def GateDocs.l2 (x0:List Int) (x1:List UInt8) (x2:Int) (x3:Int) (x4:Int) (x5:Int) (x6:Int) (x7:Int) (x8:Int) (x9:Bool) (ia:List IY) (x11:List Out) (xE:List UInt8):OT:=j9 PG GateDocs.E 5 GateDocs.sg GateDocs.h 11263 [(.sl .is x0),.pt,(.sl .bs x1),.pt,.pt,.pt,(.i .i64 x2),(.i .i64 x3),(.ag [(.i .i64 x4),(.i .i64 x5),(.i .i64 x6),(.i .i64 x7),(.i .i64 x8),.pt,(.b x9)]),(.sl .J7 ia),(.sl .ou x11),(.sl .bs xE)]
def GateDocs.l3 (x0:Int) (x1:Int) (x2:List IY) (x3:List Out):OT:=j9 PG GateDocs.E 5 GateDocs.sg GateDocs.h 180223 [.pt,.pt,(.i .i64 x0),(.i .i64 x1),(.sl .J7 x2),(.sl .ou x3)]
theorem GateDocs.fo (x0:List Val) (x1:List Int) (x2:Int) (x3:List UInt8) (x4:List IY) {ρ:OT} (K:∀(v1:Val) (h1:v1=(List.getD x0 (x2).toNat (ez.iH .vl))) (v2:Bool) (h2:v2=(!(!(decide (0≤DB.value 1200 (bx.of [] v1)))))) (v3:Int) (h3:v3=((Tree.depth (bx.of [] v1):Int))) (v4:Bool) (h4:v4=(cond (!(decide (0≤DB.value 1200 (bx.of [] v1)))) true (decide ((200:Int)<v3)))) (v5:cq) (h5:v5=((cq.mk (Bs.encode v1).2.1 0 (Bs.encode v1).2.2))) (v6:List IY) (h6:v6=([((Bs.encode v1).1)]:List IY)) (v7:Int) (h7:v7=(IntKind.i64.wrap (x2+(1:Int)))) (v8:Int) (h8:v8=(eK.depth ((eK.mk 200 65536 262144)))) (v9:Int) (h9:v9=(eK.size ((eK.mk 200 65536 262144)))) (v10:Int) (iU:v10=(eK.out ((eK.mk 200 65536 262144)))) (v11:Bool) (h11:v11=(!(!decide ((0)=(0:Int))))) (v12:Bool) (vi:v12=(cond (!decide ((0)=(0:Int))) true false)),cond (decide (x2<((x0).length:Int)))
  (ck (dj x2 (x0).length) (ck (!v2 || ((v2&&v2)&&(dj x2 (x0).length))) (ck (!v2 || v2) (ck (!v2 || (v2&&(decide (bx.dk (bx.of [] v1)≤1099511627776)))) (ck (!v2 || v2) (ck ((!(decide (0≤DB.value 1200 (bx.of [] v1)))) || v2) (cond v4
  (some [(.b true)])
  (ck (dj x2 (x0).length) (ck (decide (bx.dk (bx.of [] v1)≤100000)) (cond (!decide ((cq.err v5)=(0:Int)))
  (some [(.b true)])
  (ck (eO ((x3).length+(((Bs.encode v1).1)).length) 1) (ck (eO ((x4).length+(v6).length) 24) (GateDocs.l1 x0 x1 v7 (x3++((Bs.encode v1).1)) (x4++v6))))))))))))))
  (ck (decide (1≤((1:Int))∧((1:Int))≤5)&&Bs.may ((eK.mk 200 65536 262144))) (ck (!v11 || v11) (ck ((!decide ((0)=(0:Int))) || v11) (cond v12
  (some [(.b false)])
  (GateDocs.l2 x1 x3 (0:Int) (0:Int) ((1:Int)) v8 v9 v10 0 false x4 ([]:List Out) (([]:List UInt8)))))))=ρ):GateDocs.l1 x0 x1 x2 x3 x4=ρ:=((gn _ _ _ _ _ _ _).trans (by kernel_rfl)).trans (K _ rfl _ rfl _ rfl _ rfl _ rfl _ rfl _ rfl _ rfl _ rfl _ rfl _ rfl _ rfl)
theorem GateDocs.Jv (x0:List Int) (x1:List UInt8) (x2:Int) (x3:Int) (x4:Int) (x5:Int) (x6:Int) (x7:Int) (x8:Int) (x9:Bool) (ia:List IY) (x11:List Out) (xE:List UInt8) {ρ:OT} (K:∀(v1:Int) (h1:v1=(List.getD x0 (x3).toNat (0:Int))) (v2:Int) (h2:v2=(IntKind.i64.wrap (((x1).length:Int) - x2))) (v3:Int) (h3:v3=(IntKind.i64.wrap (v2+(1:Int)))) (v4:Int) (h4:v4=(IntKind.i64.wrap (x2+(v1 % v3)))) (v5:List UInt8) (h5:v5=(List.drop (x2).toNat (List.take (v4).toNat x1))) (v6:List UInt8) (h6:v6=((Gt.feed (bS.mk x4 x5 x6 x7 x8 x9) v5 xE).2.2)) (v7:Int) (h7:v7=(bS.fk ((Gt.feed (bS.mk x4 x5 x6 x7 x8 x9) v5 xE).2.1))) (v8:Int) (h8:v8=(bS.depth ((Gt.feed (bS.mk x4 x5 x6 x7 x8 x9) v5 xE).2.1))) (v9:Int) (h9:v9=(bS.size ((Gt.feed (bS.mk x4 x5 x6 x7 x8 x9) v5 xE).2.1))) (v10:Int) (iU:v10=(bS.out ((Gt.feed (bS.mk x4 x5 x6 x7 x8 x9) v5 xE).2.1))) (v11:Int) (h11:v11=(bS.at_ ((Gt.feed (bS.mk x4 x5 x6 x7 x8 x9) v5 xE).2.1))) (v12:Bool) (vi:v12=(bS.bT ((Gt.feed (bS.mk x4 x5 x6 x7 x8 x9) v5 xE).2.1))) (jY:List Out) (tj:jY=((Gt.feed (bS.mk x4 x5 x6 x7 x8 x9) v5 xE).1)) (nR:Int) (zM:nR=(IntKind.i64.wrap (x3+(1:Int)))) (rB:List UInt8) (AX:rB=((Gt.feed (bS.mk x4 x5 x6 x7 x8 x9) ((List.drop (x2).toNat x1)) xE).2.2)) (tM:Int) (B4:tM=(bS.fk ((Gt.feed (bS.mk x4 x5 x6 x7 x8 x9) ((List.drop (x2).toNat x1)) xE).2.1))) (zm:Int) (Da:zm=(bS.depth ((Gt.feed (bS.mk x4 x5 x6 x7 x8 x9) ((List.drop (x2).toNat x1)) xE).2.1))) (zl:Int) (C9:zl=(bS.size ((Gt.feed (bS.mk x4 x5 x6 x7 x8 x9) ((List.drop (x2).toNat x1)) xE).2.1))) (Ee:Int) (Gw:Ee=(bS.out ((Gt.feed (bS.mk x4 x5 x6 x7 x8 x9) ((List.drop (x2).toNat x1)) xE).2.1))) (v20:Int) (Gu:v20=(bS.at_ ((Gt.feed (bS.mk x4 x5 x6 x7 x8 x9) ((List.drop (x2).toNat x1)) xE).2.1))) (v21:Bool) (Gs:v21=(bS.bT ((Gt.feed (bS.mk x4 x5 x6 x7 x8 x9) ((List.drop (x2).toNat x1)) xE).2.1))) (Ed:List Out) (Gr:Ed=((Gt.feed (bS.mk x4 x5 x6 x7 x8 x9) ((List.drop (x2).toNat x1)) xE).1)) (JY:List UInt8) (KG:JY=((Gt.end_ (bS.mk tM zm zl Ee v20 v21) rB).2.2)) (v24:Int) (H7:v24=(bS.fk ((Gt.end_ (bS.mk tM zm zl Ee v20 v21) rB).2.1))) (JS:Int) (KC:JS=(bS.depth ((Gt.end_ (bS.mk tM zm zl Ee v20 v21) rB).2.1))) (Jn:Int) (KB:Jn=(bS.size ((Gt.end_ (bS.mk tM zm zl Ee v20 v21) rB).2.1))) (JX:Int) (KF:JX=(bS.out ((Gt.end_ (bS.mk tM zm zl Ee v20 v21) rB).2.1))) (v28:Int) (KA:v28=(bS.at_ ((Gt.end_ (bS.mk tM zm zl Ee v20 v21) rB).2.1))) (J6:Bool) (Kw:J6=(bS.bT ((Gt.end_ (bS.mk tM zm zl Ee v20 v21) rB).2.1))) (v30:List Out) (Kv:v30=((Gt.end_ (bS.mk tM zm zl Ee v20 v21) rB).1)) (v31:Int) (Ku:v31=((((x11++Ed)++v30)).length:Int)),cond (decide (x3<((x0).length:Int)))
  (ck (dj x3 (x0).length) (ck (decide (1≤v3∧v3≤1099511627776)) (ck (dV x2 v4 (x1).length) (ck (decide (bS.fk (bS.mk x4 x5 x6 x7 x8 x9)=1∧0≤bS.at_ (bS.mk x4 x5 x6 x7 x8 x9)∧bS.at_ (bS.mk x4 x5 x6 x7 x8 x9)≤1000000000000∧(v5).length+(xE).length≤1000000)) (ck (eO ((x11).length+(jY).length) 96) (GateDocs.l2 x0 x1 v4 nR v7 v8 v9 v10 v11 v12 ia (x11++jY) v6))))))
  (ck (dV x2 (x1).length (x1).length) (ck (decide (bS.fk (bS.mk x4 x5 x6 x7 x8 x9)=1∧0≤bS.at_ (bS.mk x4 x5 x6 x7 x8 x9)∧bS.at_ (bS.mk x4 x5 x6 x7 x8 x9)≤1000000000000∧(((List.drop (x2).toNat x1))).length+(xE).length≤1000000)) (ck (eO ((x11).length+(Ed).length) 96) (ck (eO (((x11++Ed)).length+(v30).length) 96) (cond (!decide (v31=((ia).length:Int)))
  (some [(.b false)])
  (GateDocs.l3 (0:Int) (0:Int) ia ((x11++Ed)++v30)))))))=ρ):GateDocs.l2 x0 x1 x2 x3 x4 x5 x6 x7 x8 x9 ia x11 xE=ρ:=((gn _ _ _ _ _ _ _).trans (by kernel_rfl)).trans (K _ rfl _ rfl _ rfl _ rfl _ rfl _ rfl _ rfl _ rfl _ rfl _ rfl _ rfl _ rfl _ rfl _ rfl _ rfl _ rfl _ rfl _ rfl _ rfl _ rfl _ rfl _ rfl _ rfl _ rfl _ rfl _ rfl _ rfl _ rfl _ rfl _ rfl _ rfl)
theorem GateDocs.Kl (x0:Int) (x1:Int) (x2:List IY) (x3:List Out) {ρ:OT} (K:∀(v1:Int) (h1:v1=(Out.at_ (List.getD x3 ((x1).toNat) (ez.iH .ou)))) (v2:Int) (h2:v2=(Out.err (List.getD x3 ((x1).toNat) (ez.iH .ou)))) (v3:Bool) (h3:v3=(cond (!decide (v1=x0)) true (!decide (v2=(0:Int))))) (v4:List UInt8) (h4:v4=(Out.bytes (List.getD x3 ((x1).toNat) (ez.iH .ou)))) (v5:List UInt8) (h5:v5=(List.getD x2 ((x1).toNat) ([]:List UInt8))) (v6:Bool) (h6:v6=(cond v3 true (!decide (v4=v5)))) (v7:List (List Int)) (h7:v7=(Out.Eu (List.getD x3 ((x1).toNat) (ez.iH .ou)))) (v8:Bool) (h8:v8=(cond v6 true (decide ((0:Int)<((v7).length:Int))))) (v9:Int) (h9:v9=(IntKind.i64.wrap (x0+((v5).length:Int)))) (v10:Int) (iU:v10=(IntKind.i64.wrap (x1+(1:Int)))),cond (decide (x1<((x3).length:Int)))
  (ck (dj x1 (x3).length) (ck (decide ((x1).toNat<(x3).length)) (ck (!(!(!decide (v1=x0))) || (((!(!decide (v1=x0)))&&(!(!decide (v1=x0))))&&(dj x1 (x3).length))) (ck (!(!(!decide (v1=x0))) || (!(!decide (v1=x0)))) (ck (!(!(!decide (v1=x0))) || (!(!decide (v1=x0)))) (ck (!(!(!decide (v1=x0))) || ((!(!decide (v1=x0)))&&(decide ((x1).toNat<(x3).length)))) (ck (!(!(!decide (v1=x0))) || (!(!decide (v1=x0)))) (ck ((!decide (v1=x0)) || (!(!decide (v1=x0)))) (ck (!(!v3) || (((!v3)&&(!v3))&&(dj x1 (x3).length))) (ck (!(!v3) || (!v3)) (ck (!(!v3) || ((!v3)&&(decide ((x1).toNat<(x3).length)))) (ck (!(!v3) || (!v3)) (ck (!(!v3) || (((!v3)&&(!v3))&&(dj x1 (x2).length))) (ck (!(!v3) || ((!v3)&&(decide ((x1).toNat<(x2).length)))) (ck (!(!v3) || (!v3)) (ck (!(!v3) || ((!v3)&&(!v3))) (ck (v3 || (!v3)) (ck (!(!v6) || (((!v6)&&(!v6))&&(dj x1 (x3).length))) (ck (!(!v6) || (!v6)) (ck (!(!v6) || ((!v6)&&(decide ((x1).toNat<(x3).length)))) (ck (!(!v6) || (!v6)) (ck (!(!v6) || (!v6)) (ck (v6 || (!v6)) (cond v8
  (some [(.b false)])
  (ck (dj x1 (x2).length) (ck (decide ((x1).toNat<(x2).length)) (GateDocs.l3 v9 v10 x2 x3)))))))))))))))))))))))))))
  (some [(.b true)])=ρ):GateDocs.l3 x0 x1 x2 x3=ρ:=((gn _ _ _ _ _ _ _).trans (by kernel_rfl)).trans (K _ rfl _ rfl _ rfl _ rfl _ rfl _ rfl _ rfl _ rfl _ rfl _ rfl)
theorem GateDocs.cR (l:List Val) (Jl:List Int) {ρ:OT} (K:∀(v1:Bool) (h1:v1=(cond (decide ((6:Int)<((l).length:Int))) true (decide ((30:Int)<((Jl).length:Int))))),cond (!(true))
  (some [(.b false)])
  (ck (!(!(decide ((6:Int)<((l).length:Int)))) || (!(decide ((6:Int)<((l).length:Int))))) (ck (!(!(decide ((6:Int)<((l).length:Int)))) || (!(decide ((6:Int)<((l).length:Int))))) (ck ((decide ((6:Int)<((l).length:Int))) || (!(decide ((6:Int)<((l).length:Int))))) (cond v1
  (some [(.b true)])
  (GateDocs.l1 l Jl (0:Int) ([]:List UInt8) ([]:List IY))))))=ρ):GateDocs.F l Jl=ρ:=Eq.trans (by kernel_rfl) (K _ rfl)
end
end Go.Eng
set_option maxRecDepth 20000
namespace Go.Eng
open Go.IntWalk
def KI:eK:=⟨200,65536,262144⟩
theorem JQ:Bs.may KI=true:=by decide
namespace Gt
theorem JZ (x y:List (List bx)) (d:List bx) (a:Int):(outs a (x++d :: y)).getD x.length (ez.iH .ou)=⟨a+((cat x).length:Int),Bs.iR d,[],0,0,[]⟩:=by
 rw [Jp,ai,aT (by rw [Jj];omega),Jj,Nat.sub_self];rfl
end Gt
theorem GateDocs.Kk (ds:List (List bx)) (hl:ds.length≤6) (hb:(Gt.cat ds).length≤1000000):∀(rest done:List (List bx)),ds=done++rest→GateDocs.l3 ((Gt.cat done).length:Int) (done.length:Int) (ds.map Bs.iR) (Gt.outs 0 ds)=some [.b true]
 | [],done,h=>by
  refine GateDocs.Kl _ _ _ _ ?_
  intro v1 h1 v2 h2 v3 h3 v4 h4 v5 h5 v6 h6 v7 h7 v8 h8 v9 h9 v10 iU
  rw [Gt.Jj,h,bm,ab (by omega),af]
 | d :: r,done,h=>by
  refine GateDocs.Kl _ _ _ _ ?_
  intro v1 h1 v2 h2 v3 h3 v4 h4 v5 h5 v6 h6 v7 h7 v8 h8 v9 h9 v10 iU
  have KS:ds.length=done.length+(r.length+1):=by rw [h,ak,aJ]
  have hg:(Gt.outs 0 ds).getD done.length (ez.iH .ou)=⟨0+((Gt.cat done).length:Int),Bs.iR d,[],0,0,[]⟩:=by rw [h];exact Gt.JZ _ _ _ _
  rw [ar,hg] at h1 h2 h4 h7
  have q1:v1=((Gt.cat done).length:Int):=by rw [h1];show (0:Int)+_=_;omega
  have q2:v2=0:=h2
  have q4:v4=Bs.iR d:=h4
  have q7:v7=[]:=h7
  have q5:v5=Bs.iR d:=by
   rw [h5,ar,h,List.map_append,ai,aT (by rw [bn];omega),bn,Nat.sub_self];rfl
  have hc:(Gt.cat ds).length=(Gt.cat done).length+((Bs.iR d).length+(Gt.cat r).length):=by
   rw [h,Gt.Jk,ak];show _+(Bs.iR d++Gt.cat r).length=_;rw [ak]
  have q9:v9=((Gt.cat (done++[d])).length:Int):=by
   rw [h9,q5,i64_in _ (by omega),Gt.Jk,ak]
   show _=(((Gt.cat done).length+(Bs.iR d++[]).length:Nat):Int)
   rw [bm];omega
  have Co:v10=((done++[d]).length:Int):=by rw [iU,i64_in _ (by omega),ak,aD];omega
  have q3:v3=false:=by rw [h3,aa q1,aa q2];rfl
  have q6:v6=false:=by rw [h6,q3,q4,q5,aa rfl];rfl
  have q8:v8=false:=by rw [h8,q6,q7];rfl
  have ho:=Gt.Jj ds 0
  have hm:(ds.map Bs.iR).length=ds.length:=bn ..
  have i1:dj (done.length:Int) (Gt.outs 0 ds).length=true:=eT (by omega) (by omega)
  have i2:dj (done.length:Int) (ds.map Bs.iR).length=true:=eT (by omega) (by omega)
  have i3:decide ((done.length:Int).toNat<(Gt.outs 0 ds).length)=true:=aa (by omega)
  have i4:decide ((done.length:Int).toNat<(ds.map Bs.iR).length)=true:=aa (by omega)
  rw [aa (by omega),ao,aa q1,q3,q6,q8,i1,i2,i3,i4,q9,Co]
  simp only [aK,aQ,Bool.or_false,Bool.false_or,Bool.or_true,Bool.true_or,bc,eQ,af]
  exact GateDocs.Kk ds hl hb r (done++[d]) (by rw [h,aB];rfl)
theorem GateDocs.JJ (Jl:List Int) (KM:Jl.length≤30) (ds:List (List bx)) (hl:ds.length≤6) (hb:(Gt.cat ds).length≤300000) (hd:∀d∈ds,Gt.Kz KI d):∀(m i at_:Nat) (done rest:List (List bx)) (held:IY),i+m=Jl.length→ds=done++rest→held++(Gt.cat ds).drop at_=Gt.cat rest→at_≤(Gt.cat ds).length →
  GateDocs.l2 Jl (Gt.cat ds) (at_:Int) (i:Int) 1 200 65536 262144 ((Gt.cat done).length:Int) false (ds.map Bs.iR) (Gt.outs 0 done) held=some [.b true]:=by
 intro m
 induction m with
 | zero =>
  intro i at_ done rest held hi h he ha
  refine GateDocs.Jv _ _ _ _ _ _ _ _ _ _ _ _ _ ?_
  intro v1 h1 v2 h2 v3 h3 v4 h4 v5 h5 v6 h6 v7 h7 v8 h8 v9 h9 v10 iU v11 h11 v12 vi jY tj nR zM rB AX tM B4 zm Da zl C9 Ee Gw v20 Gu v21 Gs Ed Gr JY KG v24 H7 JS KC Jn KB JX KF v28 KA J6 Kw v30 Kv v31 Ku
  have hc:(Gt.cat ds).length=(Gt.cat done).length+(Gt.cat rest).length:=by rw [h,Gt.Jk,ak]
  have KS:ds.length=done.length+rest.length:=by rw [h,ak]
  have hle:held.length+((Gt.cat ds).drop at_).length=(Gt.cat rest).length:=by rw [←he,ak]
  have hf:=Gt.J4 (g:=⟨1,200,65536,262144,((Gt.cat done).length:Int),false⟩) rfl JQ he (fun d hx=>hd d (by rw [h];exact List.mem_append_right _ hx))
  rw [ar,hf] at AX B4 Da C9 Gw Gu Gs Gr
  have Ha:rB=[]:=AX
  have KR:Ed=Gt.outs ((Gt.cat done).length:Int) rest:=Gr
  have KQ:v30=[]:=by rw [Kv,Ha];unfold Gt.end_;rw [aq (.inr rfl)]
  have e:Gt.outs 0 ds=Gt.outs 0 done++Ed:=by rw [KR,h,Gt.Jp,Int.zero_add]
  have ho:=Gt.Jj done 0
  have hr:=Gt.Jj rest ((Gt.cat done).length:Int)
  rw [←KR] at hr
  have KW:v31=((ds.map Bs.iR).length:Int):=by rw [Ku,KQ,bm,←e,Gt.Jj,bn]
  rw [ab (by omega),af,bw (gj (by omega) (by omega) (by omega)),ar,bw (aa ⟨rfl,by show (0:Int)≤((Gt.cat done).length:Int);omega,by show ((Gt.cat done).length:Int)≤_;omega,by omega⟩),
   bw (fQ (by omega) (by omega)),KQ,bw (fQ (by rw [ak,aM];omega) (by rw [ak,aM];omega)),aa KW,aK,af,bm,←e]
  exact GateDocs.Kk ds hl (by omega) ds [] rfl
 | succ m ih =>
  intro i at_ done rest held hi h he ha
  refine GateDocs.Jv _ _ _ _ _ _ _ _ _ _ _ _ _ ?_
  intro v1 h1 v2 h2 v3 h3 v4 h4 v5 h5 v6 h6 v7 h7 v8 h8 v9 h9 v10 iU v11 h11 v12 vi jY tj nR zM rB AX tM B4 zm Da zl C9 Ee Gw v20 Gu v21 Gs Ed Gr JY KG v24 H7 JS KC Jn KB JX KF v28 KA J6 Kw v30 Kv v31 Ku
  have hc:(Gt.cat ds).length=(Gt.cat done).length+(Gt.cat rest).length:=by rw [h,Gt.Jk,ak]
  have KS:ds.length=done.length+rest.length:=by rw [h,ak]
  have hle:held.length+((Gt.cat ds).drop at_).length=(Gt.cat rest).length:=by rw [←he,ak]
  have q2:v2=((Gt.cat ds).length:Int) - at_:=by rw [h2,i64_in _ (by omega)]
  have q3:v3=((Gt.cat ds).length:Int) - at_+1:=by rw [h3,q2,i64_in _ (by omega)]
  have m1:0≤v1 % v3:=Int.emod_nonneg _ (by omega)
  have m2:v1 % v3<v3:=Int.emod_lt_of_pos _ (by omega)
  obtain ⟨k,hk⟩:∃k:Nat,v1 % v3=(k:Int):=⟨(v1 % v3).toNat,by omega⟩
  have q4:v4=((at_+k:Nat):Int):=by rw [h4,hk,i64_in _ (by omega)];omega
  have e5:v5++(Gt.cat ds).drop (at_+k)=(Gt.cat ds).drop at_:=by
   rw [h5,q4,ar,ar]
   conv=>rhs;rw [←List.take_append_drop (at_+k) (Gt.cat ds)]
   rw [List.drop_append_of_le_length (by rw [ay];omega)]
  have l5:v5.length+((Gt.cat ds).drop (at_+k)).length=((Gt.cat ds).drop at_).length:=by rw [←e5,ak]
  obtain ⟨d1,d2,h',i1,i2,i3,i4⟩:=Gt.JF (g:=⟨1,200,65536,262144,((Gt.cat done).length:Int),false⟩) (h:=held) (x:=v5) (t:=(Gt.cat ds).drop (at_+k)) (ds:=rest) rfl JQ (by rw [aB,e5];exact he) (fun d hx=>hd d (by rw [h];exact List.mem_append_right _ hx))
  rw [i3] at h6 h7 h8 h9 iU h11 vi tj
  have q6:v6=h':=h6
  have q7:v7=1:=h7
  have q8:v8=200:=h8
  have q9:v9=65536:=h9
  have Co:v10=262144:=iU
  have zq:v11=((Gt.cat (done++d1)).length:Int):=by
   rw [h11,Gt.Jk,ak]
   show ((Gt.cat done).length:Int)+((Gt.cat d1).length:Int)=_
   omega
  have Hc:v12=false:=vi
  have Cn:jY=Gt.outs ((Gt.cat done).length:Int) d1:=tj
  have Hb:nR=((i+1:Nat):Int):=by rw [zM,i64_in _ (by omega)];omega
  have ho:=Gt.Jj done 0
  have hr:=Gt.Jj d1 ((Gt.cat done).length:Int)
  rw [←Cn] at hr
  have hd1:rest.length=d1.length+d2.length:=by rw [i1,ak]
  rw [aa (by omega),ao,bw (eT (by omega) (by omega)),bw (aa ⟨by omega,by omega⟩),bw (gj (by omega) (by omega) (by omega)),bw (aa ⟨rfl,by show (0:Int)≤((Gt.cat done).length:Int);omega,by show ((Gt.cat done).length:Int)≤_;omega,by omega⟩),
   bw (fQ (by omega) (by omega)),q4,Hb,q7,q8,q9,Co,zq,Hc,q6,Cn,show Gt.outs 0 done++Gt.outs ((Gt.cat done).length:Int) d1=Gt.outs 0 (done++d1) by rw [Gt.Jp,Int.zero_add]]
  refine ih (i+1) (at_+k) (done++d1) d2 h' (by omega) (by rw [h,i1,aB]) ?_ (by omega)
  have e6:(held++v5)++(Gt.cat ds).drop (at_+k)=Gt.cat rest:=by rw [aB,e5];exact he
  rw [i2,i1,Gt.Jk,aB] at e6
  exact List.append_cancel_left e6
theorem GateDocs.fx (Jl:List Int) (KM:Jl.length≤30) (l:List Val) (hl:l.length≤6):∀(m i:Nat) (ds:List (List bx)),i+m=l.length→ds.length=i→(Gt.cat ds).length≤i * 40000→(∀d∈ds,Gt.Kz KI d) →
  GateDocs.l1 l Jl (i:Int) (Gt.cat ds) (ds.map Bs.iR)=some [.b true]
 | 0,i,ds,hi,hn,hb,hd=>by
  refine GateDocs.fo _ _ _ _ _ ?_
  intro v1 h1 v2 h2 v3 h3 v4 h4 v5 h5 v6 h6 v7 h7 v8 h8 v9 h9 v10 iU v11 h11 v12 vi
  have hm:(decide ((1:Int)≤1∧(1:Int)≤5)&&Bs.may ⟨200,65536,262144⟩)=true:=by decide
  rw [ab (by omega),af,bw hm,h11,vi,h8,h9,iU]
  refine Eq.trans ?_ (GateDocs.JJ Jl KM ds (by omega) (by omega) hd Jl.length 0 0 [] ds [] (by omega) rfl rfl (Nat.zero_le _))
  rfl
 | m+1,i,ds,hi,hn,hb,hd=>by
  refine GateDocs.fo _ _ _ _ _ ?_
  intro v1 h1 v2 h2 v3 h3 v4 h4 v5 h5 v6 h6 v7 h7 v8 h8 v9 h9 v10 iU v11 h11 v12 vi
  have ix:dj (i:Int) l.length=true:=eT (by omega) (by omega)
  rw [aa (by omega),ao,bw ix,ix]
  by_cases c:¬0≤DB.value 1200 (bx.of [] v1)
  ·have q4:v4=true:=by rw [h4,ab c];rfl
   rw [h2,ab c,q4];rfl
  have c:0≤DB.value 1200 (bx.of [] v1):=Classical.byContradiction c
  have hk:=DB.JL v1 c
  rw [h2,aa c,aa (show bx.dk (bx.of [] v1)≤1099511627776 by omega)]
  have t:∀{x:OT} {y:OT},x=y→ck (!(!(!true)) || (((!(!true))&&(!(!true)))&&true)) (ck (!(!(!true)) || (!(!true))) (ck (!(!(!true)) || ((!(!true))&&true)) (ck (!(!(!true)) || (!(!true))) (ck ((!true) || (!(!true))) x))))=y:=fun h=>h
  refine t ?_
  by_cases c3:200<v3
  ·rw [h4,aa c3,aa c];rfl
  rw [h4,ab c3,aa c,aK,af,af,eQ,bw (aa (by omega))]
  by_cases c5:cq.err v5=0
  ·rw [aa c5,aK,af]
   rw [h5] at c5
   obtain ⟨ks,e1,e2,e3,e4⟩:=Bs.JB.1 ⟨c5,rfl⟩
   have hs:=Bs.sj e2
   have hz:=Bs.mF ks
   have wC:1+0+0+0+0+bx.cw ks≤1200:=by rw [e1] at hk;exact hk
   have K5:Tree.jJ ks+1≤200:=by
    have:v3=((Tree.jJ ks+1:Nat):Int):=by rw [h3,e1];rfl
    omega
   have om:Gt.Kz KI ks:=⟨e2,by show (Tree.jJ ks:Int)+1≤200;omega,by show (Bs.dC ks:Int)+5≤65536;omega,by show (Bs.dC ks:Int)+5≤262144;omega⟩
   have CX:Gt.cat (ds++[ks])=Gt.cat ds++Bs.iR ks:=by rw [Gt.Jk];show _++(Bs.iR ks++[])=_;rw [bm]
   have vh:(Gt.cat (ds++[ks])).length=(Gt.cat ds).length+(Bs.iR ks).length:=by rw [CX,ak]
   have q7:v7=((i+1:Nat):Int):=by rw [h7,i64_in _ (by omega)];omega
   have q6:v6=[Bs.iR ks]:=by rw [h6,e4]
   rw [e4,q6,bw (fQ (by omega) (by omega)),bw (fQ (by rw [bn,aD];omega) (by rw [bn,aD];omega)),q7,←CX,show ds.map Bs.iR++[Bs.iR ks]=(ds++[ks]).map Bs.iR by rw [List.map_append];rfl]
   exact GateDocs.fx Jl KM l hl m (i+1) (ds++[ks]) (by omega) (by rw [ak,aD];omega) (by omega) (fun d hx=>by
    rcases List.mem_append.1 hx with hx | hx
    ·exact hd d hx
    ·rw [List.mem_singleton.1 hx];exact om)
  ·rw [ab c5];rfl
theorem GateDocs.goal (l:List Val) (Jl:List Int):GateDocs.F l Jl=some [.b true]:=by
 refine GateDocs.cR _ _ ?_
 intro v1 h1
 simp only [aU,ba,eQ]
 rw [aK,af]
 by_cases c:(6:Int)<(l.length:Int)
 ·rw [h1,aa c];rfl
 by_cases c2:(30:Int)<(Jl.length:Int)
 ·rw [h1,ab c,aa c2];rfl
 rw [h1,ab c,ab c2,af,af]
 exact GateDocs.fx Jl (by omega) l (by omega) l.length 0 [] (by omega) rfl (by show (0:Nat)≤_;omega) (fun d h=>by cases h)
end Go.Eng
set_option maxRecDepth 20000
namespace Go.Eng
open Go.Proofs
variable {ee:Errs}
theorem GateDocs.ok:bE PG (cnGl ee) 5 (GateDocs.c,GateDocs.sg):=meets bP (all_cons Jf.ok (all_cons eP.ok (all_cons eU.ok (all_cons bI.ok (all_cons eV.ok (all_cons I0.ok (all_cons Je.ok (all_cons Jc.ok (all_cons Bp.ok all_nil))))))))) GateDocs.h (fits fun ins=>by unfold GateDocs.c;split;exact GateDocs.goal _ _;trivial)
end Go.Eng
