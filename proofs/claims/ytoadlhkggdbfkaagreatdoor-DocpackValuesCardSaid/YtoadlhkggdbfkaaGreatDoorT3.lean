/- Texts of my own, one behind the other: EvE, EvF, EvG, EvH, EvI, EvJ, ArithP, UtfPure, TreePure, EvK, EvL, RegPure, MpPure, DbPure, DkPure, DkItoa, DkGp0. -/
import Derived.Test.YtoadlhkggdbfkaaGreatDoorT2
import Derived.ChangeShapes
import Derived.ProofKit
import Derived.ChangeSlices
import Derived.ChangeArms
import Derived.DataReads
import Derived.IntWalk
import Derived.Lib.Bytealg
import Derived.Below
import Derived.Lib.LaidTab
import Derived.Lib.ItoaNum
import Derived.Sort.Grow
import Derived.Deep.Draws
import Derived.Shelf.Strconv.Itoa0
import Derived.Shelf.Strconv.Itoa1
import Derived.Shelf.LaysM
import Derived.Shelf.Strconv.Itoa2
import Derived.Shelf.Strconv.Itoa3
import Derived.Test.YtoadlhkggdbfkaaGreatDoorProg
set_option linter.unusedVariables false
set_option linter.unusedSimpArgs false
namespace Go.Eng
def G2 (k:K) (vs:List TV):kX :=
 match k,vs with
 | .mv,[x] => .ok [x]
 | .pick,[.b t,x,y]=>BR t x y
 | .bin o,[x,y]=>I4 o x y
 | .be neg,[.b a,.b b] => .ok [.b (cond neg (!(a == b)) (a == b))]
 | .un o,[x]=>M7 o x
 | .ci k,[x]=>match x.int? with
  | some (_,n) => .ok [Cy k n]
  | none => .err
 | .cs,[.s l] => .ok [.s l]
 | .sb,[.s l] => .fG (lH l.length) [.sl .bs l]
 | .FE _,[.s l,_] => .fG (lH l.length) [.sl .bs l,.dead]
 | .bs,[.sl .bs l] => .ok [.s l]
 | .len,[.sl _ l] => .ok [.i .i64 l.length]
 | .sC,[.s l] => .ok [.i .i64 l.length]
 | .mn,[.i k a,.i k' b]=>gF (decide (k=k')) (.ok [.i k (Cg a b)])
 | .mx,[.i k a,.i k' b]=>gF (decide (k=k')) (.ok [.i k (pX a b)])
 | .ix s,[.sl t l,i]=>match i.int? with
  | some (_,n)=>gF (Nat.beq s t.size) (.fG (eE n l.length) [.ro (t.tv (l.getD n.toNat t.eG))])
  | none => .err
 | .si,[.s l,i]=>match i.int? with
  | some (_,n) => .fG (eE n l.length) [.u8 (l.getD n.toNat 0)]
  | none => .err
 | .ai m s agg,[.ag cs,i]=>match i.int?,agg with
  | some (_,n),false=>match DJ cs n.toNat with
   | some x=>gF (Nat.beq s 1&&Nat.beq m cs.length) (.fG (eE n m) [x])
   | none => .err
  | some (_,n),true=>match xw s m n.toNat cs s with
   | some xs=>gF (Nat.beq (m * s) cs.length) (.fG (eE n m) [.ag xs])
   | none => .err
  | _,_ => .err
 | .fe o n agg,[.ag cs]=>En (ra cs o n agg)
 | .sc s true true,[.sl t l,i,j]=>match i.int?,j.int? with
  | some (_,a),some (_,b)=>gF (Nat.beq s t.size) (.fG (hZ a b l.length) [.sl t ((l.take b.toNat).drop a.toNat)])
  | _,_ => .err
 | .sc s true false,[.sl t l,i]=>match i.int? with
  | some (_,a)=>gF (Nat.beq s t.size) (.fG (hZ a l.length l.length) [.sl t (l.drop a.toNat)])
  | _ => .err
 | .sc s false true,[.sl t l,j]=>match j.int? with
  | some (_,b)=>gF (Nat.beq s t.size) (.fG (hZ 0 b l.length) [.sl t (l.take b.toNat)])
  | _ => .err
 | .sc s false false,[.sl t l]=>gF (Nat.beq s t.size) (.ok [.sl t l])
 | .ss true true,[.s l,i,j]=>match i.int?,j.int? with
  | some (_,a),some (_,b) => .fG (hZ a b l.length) [.s ((l.take b.toNat).drop a.toNat)]
  | _,_ => .err
 | .ss true false,[.s l,i]=>match i.int? with
  | some (_,a) => .fG (hZ a l.length l.length) [.s (l.drop a.toNat)]
  | _ => .err
 | .ss false true,[.s l,j]=>match j.int? with
  | some (_,b) => .fG (hZ 0 b l.length) [.s (l.take b.toNat)]
  | _ => .err
 | .ss false false,[.s l] => .ok [.s l]
 | .bx _,[x,_]=>gF x.plain (.ok [.pt,.ag x.cells])
 | .ld _ o n agg,[.pt,.ag cs]=>En (ra cs o n agg)
 | .st _ o n,[.pt,.ag cs,x]=>gF (x.plain&&Nat.beq x.cells.length n&&Nat.ble (o+n) cs.length) (.ok [.ag (nb cs o x.cells)])
 | .lr n agg,[.ro x]=>gF (x.plain&&(x.pC == agg)&&Nat.beq x.cells.length n) (.ok [x])
 | .fa _ _ _,[.pt] => .ok [.pt]
 | .fr o n agg,[.ro (.ag cs)]=>match ra cs o n agg with
  | some x => .ok [.ro x]
  | none => .err
 | .nc _ _,[.pt] => .ok [.pt]
 | .FY,[.ro x] => .ok [.ro x]
 | .ex i,[.tu vs]=>En vs[i]?
 | .ap _ _ s nu,[.sl t l,.sl t' m,_,_]=>match t.app l t' m with
  | some n=>gF (Nat.beq s t.size) (.fG (gg (l.length+m.length) nu) [.sl t n,.dead,.dead])
  | none => .err
 | .DV _ _ nu,[.sl .bs l,.s m,_,_] => .fG (gg (l.length+m.length) nu) [.sl .bs (l++m),.dead,.dead]
 | .an _ s nu,[.sl t l,_]=>gF (Nat.beq s t.size) (.fG (gg l.length nu) [.sl t l,.dead])
 | .GF _ nu,[.s l,_] => .fG (gg l.length nu) [.sl .bs l,.dead]
 | .FJ _,[.s l,_] => .fG (lH l.length) [.pt,.sl .bs l]
 | .FL _,[.pt,.sl _ l] => .ok [.i .i64 l.length]
 | .FN _ s,[.pt,i,.sl t l]=>match i.int? with
  | some (_,n)=>gF (Nat.beq s t.size) (.fG (eE n l.length) [.el n.toNat s 0])
  | none => .err
 | .G5 _ o,[.el i s o'] => .ok [.el i s (o'+o)]
 | .FM _ s n agg,[.el i s' o,.sl t l]=>match rM (t.tv (l.getD i t.eG)) o n agg with
  | some x=>gF (Nat.beq s' s&&Nat.beq s t.size) (.fG (decide (i<l.length)) [x])
  | none => .err
 | .FI _ s n,[.el i s' o,.sl t l,x]=>match uV (t.tv (l.getD i t.eG)) o x with
  | some y=>match t.el y with
   | some e=>gF (Nat.beq s' s&&Nat.beq s t.size&&x.plain&&Nat.beq x.cells.length n) (.fG (decide (i<l.length)) [.sl t (l.set i e)])
   | none => .err
  | none => .err
 | .FO _ s,[.pt,.sl t l]=>gF (Nat.beq s t.size) (.ok [.sl t l,.sl t l,.dead])
 | .A6 _ _ s nu,[.pt,.sl t' m,.sl t l,_]=>match t.app l t' m with
  | some n=>gF (Nat.beq s t.size) (.fG (gg (l.length+m.length) nu) [.pt,.sl t l,.sl t n])
  | none => .err
 | .Fs _ _ _ s nu,[.sl t l,.pt,_,_,.sl t' m]=>match t.app l t' m with
  | some n=>gF (Nat.beq s t.size) (.fG (gg (l.length+m.length) nu) [.sl t n,.dead,.dead])
  | none => .err
 | .la _ n s,[.pt,i,.ag _]=>match i.int? with
  | some (_,m) => .fG (eE m n) [.el m.toNat s 0]
  | none => .err
 | .ll _ s,[.el i s' o,.ag cs]=>match DJ cs i with
  | some x=>gF (Nat.beq s' s&&Nat.beq s 1&&Nat.beq o 0) (.fG (decide (i<cs.length)) [x])
  | none => .err
 | .Jj,[.s l,.u8 c] => .ok [.i .i64 (Lib.indexByte l c)]
 | _,_ => .err
theorem ky {n:Int} {l:Nat}:eE n l=true ↔ 0≤n∧n<l:=by simp [eE]
theorem kA {a b:Int} {l:Nat}:hZ a b l=true ↔ 0≤a∧a≤b∧b≤l:=by simp [hZ,and_assoc]
theorem kh {n b:Nat}:gg n b=true ↔ n≤maxLen∧n * b≤140737488355328:=by simp [gg]
theorem Cf {l c:Int} {b:Nat}:Hr l c b=true ↔ 0≤l∧l≤c∧c * b≤140737488355328∧c≤maxLen:=by simp [Hr,and_assoc]
theorem mP {n:Nat}:lH n=true ↔ n≤maxLen:=by simp [lH]
theorem getD_map {A:Type} (f:A→AV) (l:List A) (n:Int) (d:A) (h:0≤n∧n<l.length):(l.map f)[n.toNat]?=some (f (l.getD n.toNat d)):=by
 have:n.toNat<l.length:=by omega
 simp [aH,aD this]
theorem C5 (l:bY) (n:Int) (h:0≤n∧n<l.length):l[n.toNat]?=some (l.getD n.toNat 0):=by
 have:n.toNat<l.length:=by omega
 simp [aH,aD this]
theorem Eb (E:Env) {k:K} {vs ws:List TV} (h:(G2 k vs).holds ws):fW E k (vs.map TV.av) (ws.map TV.av):=by
 unfold G2 at h
 split at h
 -- mv
 ·cases h;rfl
 ·obtain ⟨x,rfl,e⟩:=BQ _ _ _ _ h;simp only [List.map,fW,TV.av];rw [e]
 ·obtain ⟨x,rfl,a,b,v,e1,e2,e3,e4⟩:=Fl _ _ _ _ h
  simp only [List.map,fW,e1,e2,e4];exact ⟨v,e3,rfl⟩
 ·cases h;rename_i neg a b;cases neg <;> rfl
 ·obtain ⟨x,rfl,a,v,e1,e2,e3⟩:=GI _ _ _ h
  simp only [List.map,fW,e1,e3];exact ⟨v,e2,rfl⟩
 ·split at h
  ·rename_i e;cases h;simp only [List.map,fW,TV.iX e,Cx]
  ·exact h.elim
 ·cases h;rfl
 ·obtain ⟨h1,rfl⟩:=h;exact ⟨mP.1 h1,rfl⟩
 ·obtain ⟨h1,rfl⟩:=h;exact ⟨mP.1 h1,rfl⟩
 ·cases h;exact ⟨_,rfl,rfl,rfl⟩
 ·cases h;simp only [List.map,fW,TV.av,aQ]
 ·cases h;simp only [List.map,fW,TV.av,iP]
 ·obtain ⟨e,h⟩:=dm h;cases h;simp only [List.map,fW,TV.av]
 ·obtain ⟨e,h⟩:=dm h;cases h;simp only [List.map,fW,TV.av]
 ·split at h
  ·rename_i t l i k n e
   obtain ⟨e1,h1,rfl⟩:=dm h
   have e1:=ay e1
   have h1:=ky.1 h1
   simp only [List.map,fW,TV.av,TV.iX e,eN.Bi]
   exact ⟨_,e1,h1.1,getD_map _ _ _ _ h1,rfl⟩
  ·exact h.elim
 ·split at h
  ·rename_i e
   obtain ⟨h1,rfl⟩:=h
   have h1:=ky.1 h1
   simp only [List.map,fW,TV.av,iP,TV.iX e]
   exact ⟨_,h1.1,C5 _ _ h1,rfl⟩
  ·exact h.elim
 ·split at h
  ·rename_i m s cs i k n e
   split at h
   ·rename_i x hx
    obtain ⟨e1,h1,rfl⟩:=dm h
    simp only [af] at e1
    have e2:=ay e1.1
    have e3:=ay e1.2
    subst e2;subst e3
    have h1:=ky.1 h1
    have hx:=vG hx (by omega)
    simp only [List.map,fW,TV.av,TV.iX e]
    refine ⟨x.av,h1.1,h1.2,?_,rfl⟩
    simp [gW,TV.fY,hx]
   ·exact h.elim
  ·rename_i m s cs i _ _ k n e
   split at h
   ·rename_i xs hx
    obtain ⟨e1,h1,rfl⟩:=dm h
    have e1:=ay e1
    have h1:=ky.1 h1
    have hx:=xv e1 (by omega) s (Nat.le_refl _) hx
    simp only [List.map,fW,TV.av,TV.iX e]
    have hle:n.toNat * s+s≤cs.length:=by
     have:(n.toNat+1) * s≤m * s:=bu _ (by omega)
     rw [Nat.succ_mul] at this;omega
    refine ⟨(TV.ag xs).av,h1.1,h1.2,?_,by simp only [TV.av]⟩
    rw [Nat.sub_self,Nat.add_zero] at hx
    simp [gW,TV.fY,TV.av,hx,hle,List.map_take,List.map_drop]
   ·exact h.elim
  ·exact h.elim
 ·obtain ⟨y,e,rfl⟩:=py h
  simp only [List.map,fW,TV.av,TV.fY];exact ⟨_,nT e,rfl⟩
 ·split at h
  ·rename_i i j _ a _ b e1 e2
   obtain ⟨e,h1,rfl⟩:=dm h
   have h1:=kA.1 h1
   simp only [List.map,fW,TV.av,TV.iX e1,TV.iX e2,aQ]
   exact ⟨ay e,h1.1,h1.2.1,h1.2.2,by simp [ay e,List.map_take,List.map_drop]⟩
  ·exact h.elim
 ·split at h
  ·rename_i i _ a e1
   obtain ⟨e,h1,rfl⟩:=dm h
   have h1:=kA.1 h1
   simp only [List.map,fW,TV.av,TV.iX e1,aQ]
   exact ⟨ay e,h1.1,h1.2.1,by simp [ay e,List.map_take,List.map_drop]⟩
  ·exact h.elim
 ·split at h
  ·rename_i i _ a e1
   obtain ⟨e,h1,rfl⟩:=dm h
   have h1:=kA.1 h1
   simp only [List.map,fW,TV.av,TV.iX e1,aQ]
   exact ⟨ay e,h1.2.1,h1.2.2,by simp [ay e,List.map_take,List.map_drop]⟩
  ·exact h.elim
 ·obtain ⟨e,h⟩:=dm h
  cases h
  simp only [List.map,fW,TV.av]
  exact ⟨ay e,by rw [ay e]⟩
 ·split at h
  ·rename_i i j _ a _ b e1 e2
   obtain ⟨h1,rfl⟩:=h
   have h1:=kA.1 h1
   simp only [List.map,fW,TV.av,iP,TV.iX e1,TV.iX e2]
   exact ⟨h1.1,h1.2.1,h1.2.2,by simp [List.take_drop,List.drop_take]⟩
  ·exact h.elim
 ·split at h
  ·rename_i i _ a e1
   obtain ⟨h1,rfl⟩:=h
   have h1:=kA.1 h1
   simp only [List.map,fW,TV.av,iP,TV.iX e1]
   exact ⟨h1.1,h1.2.1,by simp⟩
  ·exact h.elim
 ·split at h
  ·rename_i i _ a e1
   obtain ⟨h1,rfl⟩:=h
   have h1:=kA.1 h1
   simp only [List.map,fW,TV.av,iP,TV.iX e1]
   exact ⟨h1.2.1,h1.2.2,by simp⟩
  ·exact h.elim
 ·cases h;rfl
 ·obtain ⟨e,h⟩:=dm h;cases h
  simp only [List.map,fW,TV.av,TV.fY]
  exact ⟨TV.mH _ e,by rw [TV.kf _ e]⟩
 ·obtain ⟨y,e,rfl⟩:=py h
  simp only [List.map,fW,TV.av,TV.fY];exact ⟨_,nT e,rfl⟩
 ·obtain ⟨e,h⟩:=dm h;cases h
  simp only [af] at e
  obtain ⟨⟨e1,e2⟩,e3⟩:=e
  simp only [List.map,fW,TV.av,TV.fY]
  refine ⟨TV.mH _ e1,?_,?_,?_⟩
  ·rw [TV.kf _ e1,aQ];exact ay e2
  ·rw [aQ];exact Nat.le_of_ble_eq_true e3
  ·rw [TV.kf _ e1,na]
 ·obtain ⟨e,h⟩:=dm h;cases h
  simp only [af,beq_iff_eq] at e
  obtain ⟨⟨e1,e2⟩,e3⟩:=e
  simp only [List.map,fW,TV.av]
  refine ⟨?_,?_,trivial⟩
  ·rw [TV.zu _ e1,e2]
  ·rw [TV.kf _ e1,aQ];exact ay e3
 ·cases h;rfl
 ·split at h
  ·rename_i x e
   cases h
   simp only [List.map,fW,TV.av,TV.fY];exact ⟨_,nT e,rfl⟩
  ·exact h.elim
 ·cases h;rfl
 ·cases h;rfl
 ·obtain ⟨y,e,rfl⟩:=py h
  simp only [List.map,fW,TV.av,TV.fY];exact ⟨y.av,by simp [e],rfl⟩
 ·split at h
  ·rename_i n e
   obtain ⟨e0,h1,rfl⟩:=dm h
   obtain ⟨rfl,e1,e2⟩:=eN.yV e
   have h1:=kh.1 h1
   simp only [List.map,fW,TV.av,aQ]
   have e0:=ay e0
   exact ⟨e0.symm,e0.symm,by intro x hx;obtain ⟨y,_,rfl⟩:=aW.1 hx;rw [e0];exact (eN.mV _ y).2,h1.1,h1.2,by rw [e1,e0]⟩
  ·exact h.elim
 ·obtain ⟨h1,rfl⟩:=h
  have h1:=kh.1 h1
  simp only [List.map,fW,TV.av,iP,aQ]
  exact ⟨rfl,h1.1,h1.2,by simp [eN.size];intro _ _;rfl⟩
 ·obtain ⟨e0,h1,rfl⟩:=dm h
  have h1:=kh.1 h1
  have e0:=ay e0
  simp only [List.map,fW,TV.av,aQ]
  exact ⟨e0.symm,by intro x hx;obtain ⟨y,_,rfl⟩:=aW.1 hx;rw [e0];exact (eN.mV _ y).2,h1.1,h1.2,by rw [e0]⟩
 ·obtain ⟨h1,rfl⟩:=h
  have h1:=kh.1 h1
  simp only [List.map,fW,TV.av,iP]
  exact ⟨h1.1,h1.2,by simp [eN.size];intro _ _;rfl⟩
 ·obtain ⟨h1,rfl⟩:=h;exact ⟨mP.1 h1,rfl⟩
 ·cases h;simp only [List.map,fW,TV.av,aQ]
 ·split at h
  ·rename_i s i t l k n e
   obtain ⟨e1,h1,rfl⟩:=dm h
   have e1:=ay e1
   have h1:=ky.1 h1
   simp only [List.map,fW,TV.av,TV.iX e,aQ]
   exact ⟨e1.symm,h1.1,by omega,trivial⟩
  ·exact h.elim
 ·cases h;rfl
 ·split at h
  ·rename_i s n agg i s' o t l _ x e
   obtain ⟨e1,h1,rfl⟩:=dm h
   simp only [af,az] at e1 h1
   have e2:=ay e1.1
   have e3:=ay e1.2
   simp only [List.map,fW,TV.av]
   refine ⟨t.av l[i],_,e2,e3.symm,by simp [aD h1],?_,rfl⟩
   have:=yc (eN.vS t _) e
   rw [eN.Bi,aH,aD h1] at this
   exact this
  ·exact h.elim
 ·split at h
  ·rename_i s n i s' o t l x _ y e
   split at h
   ·rename_i _ z e'
    obtain ⟨e1,h1,rfl⟩:=dm h
    simp only [af,az] at e1 h1
    obtain ⟨⟨⟨e2,e3⟩,e4⟩,e5⟩:=e1
    have e2:=ay e2
    have e3:=ay e3
    have e5:=ay e5
    have:=An (eN.vS t _) e4 e
    rw [eN.Bi,aH,aD h1,←eN.Dc e'] at this
    simp only [List.map,fW,TV.av]
    refine ⟨t.av l[i],_,e2,e3.symm,by simp [aD h1],TV.mH _ e4,by rw [TV.kf _ e4,aQ];exact e5,this,?_⟩
    rw [List.map_set,e3]
   ·exact h.elim
  ·exact h.elim
 ·obtain ⟨e0,h⟩:=dm h;cases h
  have e0:=ay e0
  simp only [List.map,fW,TV.av]
  exact ⟨e0.symm,by rw [e0]⟩
 ·split at h
  ·rename_i n e
   obtain ⟨e0,h1,rfl⟩:=dm h
   obtain ⟨rfl,e1,e2⟩:=eN.yV e
   have h1:=kh.1 h1
   simp only [List.map,fW,TV.av,aQ]
   have e0:=ay e0
   exact ⟨e0.symm,e0.symm,h1.1,h1.2,by rw [e1,e0]⟩
  ·exact h.elim
 ·split at h
  ·rename_i n e
   obtain ⟨e0,h1,rfl⟩:=dm h
   obtain ⟨rfl,e1,e2⟩:=eN.yV e
   have h1:=kh.1 h1
   simp only [List.map,fW,TV.av,aQ]
   have e0:=ay e0
   exact ⟨e0.symm,e0.symm,h1.1,h1.2,by rw [e1,e0]⟩
  ·exact h.elim
 ·split at h
  ·rename_i e
   obtain ⟨h1,rfl⟩:=h
   have h1:=ky.1 h1
   simp only [List.map,fW,TV.av,TV.iX e]
   exact ⟨h1.1,h1.2,trivial⟩
  ·exact h.elim
 ·split at h
  ·rename_i x hx
   obtain ⟨e1,h1,rfl⟩:=dm h
   simp only [af,az] at e1 h1
   obtain ⟨⟨e2,e3⟩,e4⟩:=e1
   have e2:=ay e2
   have e3:=ay e3
   have e4:=ay e4
   subst e3;subst e4
   have hx:=vG hx h1
   simp only [List.map,fW,TV.av]
   refine ⟨x.av,e2,?_,rfl⟩
   simp [gW,TV.fY,hx]
  ·exact h.elim
 ·cases h
  rename_i l c
  have hc:((c.toNat:Int).toNat).toUInt8=c:=by simp
  simp only [List.map,fW,TV.av,iP,fT,hc,tY]
 ·exact h.elim
end Go.Eng
namespace Go.Eng
inductive TK where
 | k (x:K)
 | bl (t:eN) (n:Nat)
 | blt (t:eN) (n k:Nat)
 | bd (z:List TV) (pl:List (Nat × Nat))
 | al (m:Nat) (z:List TV) (ts:List (Nat × (Nat × Nat)))
 | mk (d nu:Nat) (t:eN) (z:t.El)
 | nl (t:eN) (d:Nat)
 | yH (m:Nat) (ts:List (Nat × (Nat × eN)))
 | qX (m o n:Nat) (ts:List (Nat × (Nat × eN)))
abbrev AS (ts:List (Nat × (Nat × eN))):List (Nat × (Nat × Nat)):=ts.map fun t=>(t.1,t.2.1,t.2.2.size)
def sA (cs:List TV):List (Nat × (Nat × eN))→List TV
 | []=>cs
 | t :: ts=>(sA cs ts).set t.1 (.sl t.2.2 [])
def isNil:Option TV→Bool
 | some (.c (.slice none 0 0))=>true
 | _=>false
def wq (cs:List TV):List (Nat × (Nat × eN))→Bool
 | []=>true
 | t :: ts=>isNil cs[t.1]?&&wq cs ts
theorem sz {cs:List TV}:∀{ts:List (Nat × (Nat × eN))},wq cs ts=true→(∀t∈AS ts,(cs.map TV.av)[t.1]?=some .nil)∧(sA cs ts).map TV.av=kV (cs.map TV.av) (AS ts)
 | [],_=>⟨fun _ h=>(by cases h),rfl⟩
 | t :: ts,h=>by
  simp only [wq,af] at h
  obtain ⟨h1,h3⟩:=h
  obtain ⟨h4,h5⟩:=sz h3
  refine ⟨fun u hu=>?_,?_⟩
  ·rcases bq.1 hu with rfl | hu
   ·unfold isNil at h1
    split at h1
    ·rename_i e;rw [aP,e];rfl
    ·cases h1
   ·exact h4 u hu
  ·simp only [sA,kV,List.map_set,h5,ao];rfl
def TK.erase:TK→K
 | .k x=>x
 | .bl t n => .bl t.size n
 | .blt t n d => .blt t.size n d
 | .bd z pl => .bd (TV.yU z) pl
 | .al m z ts => .al m (TV.yU z) ts
 | .mk d b t z => .mk d t.size b (t.av z)
 | .nl t d => .nl d t.size
 | .yH m ts => .yH m (AS ts)
 | .qX m o n ts => .qX m o n (AS ts)
inductive nE where
 | s (t:Nat)
 | c (x:TV)
 | g (n:Nat)
def nE.erase:nE→eI
 | .s t => .s t
 | .c x => .c x.av
 | .g n => .g n
structure pJ where
 k:TK
 rs:List nE
 ds:List Nat
 gd:Option (Nat × Bool):=none
def pJ.erase (m:pJ):oU:=⟨m.k.erase,m.rs.map nE.erase,m.ds,m.gd⟩
inductive TM where
 | skip
 | fD (ops:List pJ)
 | seq (a:TM) (cq:Option (List Nat)) (b:TM)
 | cond (x:nE) (G:List (Nat × Gh)) (a b:TM)
 | block (id:Nat) (G:List (Nat × Gh)) (b:TM)
 | loop (cq:List Nat) (G:List (Nat × Gh)) (b:TM)
 | exit (id:Nat)
 | ret
 | BB (b:TM)
 | BA (b:TM)
 | A7 (l:Nat) (cq:List Nat) (G:List (Nat × Gh)) (r b:TM)
def TM.erase:TM→M
 | .skip => .skip
 | .fD ops => .fD (ops.map pJ.erase)
 | .seq a _ b => .seq a.erase b.erase
 | .cond x G a b => .cond x.erase G a.erase b.erase
 | .block id G b => .block id G b.erase
 | .loop cq G b => .loop cq G b.erase
 | .exit id => .exit id
 | .ret => .ret
 | .BB b => .BB b.erase
 | .BA b => .BA b.erase
 | .A7 l cq G r b => .A7 l cq G r.erase b.erase
abbrev eZ:=List TV→kX
structure eg where
 fs:Nat→eZ × dw
 gl:Nat→TV
def eZ.fs (c:eZ × dw):FS:=⟨fun ins outs=>∃ti gZ,ins=ti.map TV.av∧outs=gZ.map TV.av∧(c.1 ti).holds gZ,c.2⟩
def eg.env (E:eg):Env:=⟨fun n=>eZ.fs (E.fs n),fun n=>(E.gl n).av⟩
abbrev TS:=Nat→TV
abbrev TS.av (τ:TS):Sg:=fun k=>(τ k).av
def uK (τ:TS):List Nat→List TV→TS
 | t :: ts,x :: xs=>fun k=>cond (Nat.beq k t) x (uK τ ts xs k)
 | _,_=>τ
def dF (cq:List Nat) (jW:List TV):TS:=uK (fun _ => .dead) cq jW
theorem rL (τ:TS):∀(ts:List Nat) (xs:List TV),(uK τ ts xs).av=cY τ.av ts (xs.map TV.av)
 | t :: ts,x :: xs=>by
  funext k
  simp only [TS.av,uK,ao,cY,dP]
  rw [←rL τ ts xs]
  cases h:Nat.beq k t with
  | true=>rw [aq (ay h)];rfl
  | false=>rw [aj (Nat.ne_of_beq_eq_false h)];rfl
 | [],_=>rfl
 | _ :: _,[]=>rfl
theorem oa (cq:List Nat) (jW:List TV):(dF cq jW).av=head cq (jW.map TV.av):=rL _ cq jW
def nE.ev (E:eg) (τ:TS):nE→TV
 | .s t=>τ t
 | .c x=>x
 | .g n=>E.gl n
theorem nE.Gx (E:eg) (τ:TS) (x:nE):x.erase.ev E.env τ.av=(x.ev E τ).av:=by cases x <;> rfl
def CS.Cz (c:CS) (vs:List TV):List TV :=
 match c.ref with
 | some (i,_)=>(vs.take c.n).set i (vs.getD (c.n+(c.new.map (·.2)).toList.length) .dead)
 | none=>vs.take c.n
def CS.Ck (c:CS) (outs:List TV):TV :=
 match Nat.beq c.cZ 1 with
 | true=>match c.new with
  | some _ => .pt
  | none=>outs.headD .dead
 | false => .tu ((outs.take c.cZ).mapIdx fun i x=>cond (c.new.any (·.1 == i)) .pt x)
def CS.BJ (c:CS) (vs:List TV):Bool :=
 match c.ref with
 | some (i,_)=>match vs[i]? with
  | some .pt=>true
  | _=>false
 | none=>true
def CS.E6 (c:CS) (outs:List TV):List TV:=c.Ck outs :: (outs.drop c.cZ++c.mh.map fun _ => .dead)
def Dx (C:eZ) (c:CS) (vs:List TV):kX :=
 match c.BJ vs with
 | true=>match C (c.Cz vs) with
  | .ok outs=>gF (Nat.beq outs.length (c.cZ+c.jL.length)) (.ok (c.E6 outs))
  | .fG p outs=>gF (Nat.beq outs.length (c.cZ+c.jL.length)) (.fG p (c.E6 outs))
  | .err => .err
 | false => .err
def Eg (cZ:Nat) (r:kX):kX :=
 match r with
 | .ok outs=>gF (Nat.beq outs.length cZ) (.ok [cond (Nat.beq cZ 1) (outs.headD .dead) (.tu outs)])
 | .fG p outs=>gF (Nat.beq outs.length cZ) (.fG p [cond (Nat.beq cZ 1) (outs.headD .dead) (.tu outs)])
 | .err => .err
def yb (C:eZ) (n cZ i s:Nat) (vs:List TV):kX :=
 match vs[n]?,vs[i]? with
 | some (.sl t l),some .pt=>gF (Nat.beq s t.size) (Eg cZ (C ((vs.take n).set i (.sl t l))))
 | _,_ => .err
def ya (C:eZ) (cZ i s:Nat) (vs:List TV):kX :=
 match vs[i]? with
 | some (.sl t [])=>gF (Nat.beq s t.size) (Eg cZ (C vs))
 | _ => .err
def TV.QH:TV→Bool
 | .u8 _=>true
 | .u16 _=>true
 | .u32 _=>true
 | .u64 _=>true
 | .i _ _=>true
 | .b _=>true
 | .s _=>true
 | .c _=>true
 | _=>false
def vH:List TV→Bool
 | []=>true
 | x :: r=>x.QH&&vH r
def JR (cZ:Nat) (r:kX):kX :=
 match r with
 | .ok outs=>gF (Nat.beq outs.length cZ&&vH outs) (.ok [cond (Nat.beq cZ 1) (outs.headD .dead) (.tu outs)])
 | .fG p outs=>gF (Nat.beq outs.length cZ&&vH outs) (.fG p [cond (Nat.beq cZ 1) (outs.headD .dead) (.tu outs)])
 | .err => .err
def xW (C:eZ) (n cZ i:Nat) (vs:List TV):kX :=
 match vs[n]?,vs[i]? with
 | some (.ag cs),some .pt=>JR cZ (C ((vs.take n).set i (.ro (.ag cs))))
 | _,_ => .err
def uJ (t:eN) (vs rest:List TV):kX :=
 match t.MO vs with
 | some l => .ok (.sl t l :: rest)
 | none => .err
def uM (E:eg) (k:TK) (vs:List TV):kX :=
 match k with
 | .k (.call f c)=>Dx (E.fs f).1 c vs
 | .k (.jQ f n cZ i _ s)=>yb (E.fs f).1 n cZ i s vs
 | .k (.mI f _ cZ i s)=>ya (E.fs f).1 cZ i s vs
 | .k (.lC f n cZ i _)=>xW (E.fs f).1 n cZ i vs
 | .k k=>G2 k vs
 | .bl t n=>gF (Nat.beq vs.length n) (uJ t vs [])
 | .blt t n _=>gF (Nat.beq vs.length (n+1)) (uJ t (vs.take n) [.dead])
 | .bd z pl=>match zR z pl vs with
  | some cs => .ok [.ag cs]
  | none => .err
 | .al _ z ts => .ok (.pt :: .ag z :: ts.map fun _ => .dead)
 | .mk _ nu t z=>match vs with
  | [.i .i64 l,.i .i64 c,_] => .fG (Hr l c nu) [.sl t (List.replicate l.toNat z),.dead]
  | _ => .err
 | .nl t _=>match vs with
  | [_] => .ok [.sl t [],.dead]
  | _ => .err
 | .yH _ ts=>match vs with
  | x :: _=>gF (x.plain&&wq x.cells ts) (.ok (.pt :: .ag (sA x.cells ts) :: ts.map fun _ => .dead))
  | _ => .err
 | .qX _ o n ts=>match vs with
  | .pt :: .ag cs :: x :: _=>gF (x.plain&&Nat.beq x.cells.length n&&Nat.ble (o+n) cs.length&&wq (nb cs o x.cells) ts) (.ok (.ag (sA (nb cs o x.cells) ts) :: ts.map fun _ => .dead))
  | _ => .err
def AX:List TV→Option Bool
 | []=>none
 | x :: r=>match x.GC,AX r with
  | none,q=>q
  | some p,none=>some p
  | some p,some q=>some (p&&q)
def xR (c:Bool) (q:Option Bool) (r:kX):kX :=
 match r,q with
 | .ok ws,none => .ok (ws.map (.gd c))
 | .ok ws,some q => .fG (!c || q) (ws.map (.gd c))
 | .fG p ws,none => .fG (!c || p) (ws.map (.gd c))
 | .fG p ws,some q => .fG (!c || (q&&p)) (ws.map (.gd c))
 | .err,_ => .err
def vy (τ:TS) (t:Nat) (b:Bool):Option Bool :=
 match τ t with
 | .b x=>some (cond b x (!x))
 | .gd q (.b x)=>some (q&&cond b x (!x))
 | _=>none
def Hv (n:Nat) (r:kX):kX :=
 match r with
 | .ok ws=>gF (Nat.beq ws.length n) (.ok ws)
 | .fG p ws=>gF (Nat.beq ws.length n) (.fG p ws)
 | .err => .err
def DI (k:TK) (vs:List TV):List TV :=
 match k with
 | .k .pick=>match vs with
  | x :: r=>x.bare :: r
  | []=>[]
 | _=>vs.map TV.bare
def I1 (k:TK) (vs:List TV):Option Bool :=
 match k with
 | .k .pick=>match vs with
  | x :: _=>x.GC
  | []=>none
 | _=>AX vs
def stepT (E:eg) (m:pJ) (τ:TS):kX :=
 match m.gd with
 | none=>Hv m.ds.length (uM E m.k (m.rs.map (nE.ev E τ)))
 | some (t,b)=>match vy τ t b with
  | some c=>Hv m.ds.length (xR c (I1 m.k (m.rs.map (nE.ev E τ))) (uM E m.k (DI m.k (m.rs.map (nE.ev E τ)))))
  | none => .err
section
variable {R:Type}
def runT (E:eg):List pJ→TS→(TS→Option R)→Option R
 | [],τ,K=>K τ
 | m :: ms,τ,K=>match stepT E m τ with
  | .ok ws=>runT E ms (uK τ m.ds ws) K
  | .fG p ws=>ck p (runT E ms (uK τ m.ds ws) K)
  | .err=>none
def wb (cq:Option (List Nat)) (τ:TS):TS :=
 match cq with
 | none=>τ
 | some ks=>dF ks (ks.map τ)
abbrev fJ (R:Type):=MX→TS→Option R
def ia (f:TS→fJ R→Option R) (cq:Option (List Nat)) (K:fJ R):fJ R:=fun e τ =>
 match e with
 | .normal=>f (wb cq τ) K
 | e=>K e τ
def eb (id:Nat) (K:fJ R):fJ R:=fun e τ =>
 match e with
 | .exit j=>match Nat.beq j id with
  | true=>K .normal τ
  | false=>K (.exit j) τ
 | e=>K e τ
def n6:MX→Bool
 | .normal=>true
 | _=>false
def vf (l:Nat):MX→Bool
 | .exit j=>Nat.beq j (gid l)
 | _=>false
def kL (f:TS→fJ R→Option R) (tr:MX→Bool) (cq:List Nat):Nat→TS→fJ R→Option R
 | 0,_,_=>none
 | n+1,τ,K=>f τ fun e jH =>
  match tr e with
  | true=>kL f tr cq n (dF cq (cq.map jH)) K
  | false=>K e jH
open Classical in
noncomputable def Hu (g:Nat→Option R):Option R:=if h:∃n r,g n=some r then g h.choose else none
noncomputable def fX (f:TS→fJ R→Option R) (tr:MX→Bool) (cq:List Nat) (τ:TS) (K:fJ R):Option R:=Hu fun n=>kL f tr cq n τ K
noncomputable def Cn (f:TS→fJ R→Option R) (cq:List Nat) (τ:TS) (K:fJ R):Option R:=fX f n6 cq (dF cq (cq.map τ)) K
noncomputable def ki (f:TS→fJ R→Option R) (tr:MX→Bool) (cq:List Nat) (K:fJ R):fJ R:=fun e τ =>
 match tr e with
 | true=>fX f tr cq (dF cq (cq.map τ)) K
 | false=>K e τ
noncomputable def gQ (R:Type) (E:eg) (m:TM):TS→fJ R→Option R :=
 TM.rec (motive:=fun _=>TS→fJ R→Option R)
  (fun τ K=>K .normal τ)
  (fun ops τ K=>runT E ops τ (K .normal))
  (fun _ cq _ fa fb τ K=>fa τ (ia fb cq K))
  (fun x _ _ _ fa fb τ K=>match x.ev E τ with
   | .b t=>cond t (fa τ K) (fb τ K)
   | _=>none)
  (fun id _ _ f τ K=>f τ (eb id K))
  (fun cq _ _ f τ K=>Cn f cq τ K)
  (fun id τ K=>K (.exit id) τ)
  (fun τ K=>K .ret τ)
  (fun _ f=>f)
  (fun _ f=>f)
  (fun l cq _ _ _ fr fb τ K=>fb τ (ki fr (vf l) cq K)) m
noncomputable def ev (R:Type) (E:eg) (m:TM):TS→fJ R→Option R :=
 TM.rec (motive:=fun _=>TS→fJ R→Option R)
  (fun τ K=>K .normal τ)
  (fun ops τ K=>runT E ops τ (K .normal))
  (fun _ cq b fa fb τ K=>match cq with
   | none=>fa τ (ia fb none K)
   | some ks=>fa τ (ia (gQ R E b) (some ks) K))
  (fun x _ _ _ fa fb τ K=>match x.ev E τ with
   | .b t=>cond t (fa τ K) (fb τ K)
   | _=>none)
  (fun id _ _ f τ K=>f τ (eb id K))
  (fun cq _ b _ τ K=>Cn (gQ R E b) cq τ K)
  (fun id τ K=>K (.exit id) τ)
  (fun τ K=>K .ret τ)
  (fun _ f=>f)
  (fun _ f=>f)
  (fun l cq _ r _ _ fb τ K=>fb τ (ki (gQ R E r) (vf l) cq K)) m
theorem gr (E:eg) (m:TM):gQ R E m=ev R E m:=by
 induction m with
 | skip=>rfl
 | fD ops=>rfl
 | seq a cq b wH rQ =>
  funext τ K
  show gQ R E a τ (ia (gQ R E b) cq K)=(match cq with | none=>ev R E a τ (ia (ev R E b) none K) | some ks=>ev R E a τ (ia (gQ R E b) (some ks) K))
  cases cq with
  | none=>rw [wH,rQ]
  | some ks=>rw [wH]
 | cond x G a b wH rQ =>
  funext τ K
  show (match x.ev E τ with | .b t=>cond t (gQ R E a τ K) (gQ R E b τ K) | _=>none)=(match x.ev E τ with | .b t=>cond t (ev R E a τ K) (ev R E b τ K) | _=>none)
  rw [wH,rQ]
 | block id G b ih =>
  funext τ K
  show gQ R E b τ (eb id K)=ev R E b τ (eb id K)
  rw [ih]
 | loop cq G b ih=>rfl
 | exit id=>rfl
 | ret=>rfl
 | BB b ih=>exact ih
 | BA b ih=>exact ih
 | A7 l cq G r b Mq rQ =>
  funext τ K
  show gQ R E b τ (ki (gQ R E r) (vf l) cq K)=ev R E b τ (ki (gQ R E r) (vf l) cq K)
  rw [rQ]
def Ji (f:TS→fJ R→Option R):Prop:=∀τ,∃p:Option (MX × TS),∀K:fJ R,f τ K=p.bind fun q=>K q.1 q.2
theorem jb {g:Nat→Option R} (hm:∀n r,g n=some r→g (n+1)=some r) {r:R}:Hu g=some r ↔ ∃n,g n=some r:=by
 have up:∀n k r,g n=some r→g (n+k)=some r:=by
  intro n k
  induction k with
  | zero=>exact fun r h=>h
  | succ k ih=>exact fun r h=>hm _ _ (ih r h)
 unfold Hu
 constructor
 ·intro h
  split at h
  ·rename_i hx;exact ⟨_,h⟩
  ·cases h
 ·rintro ⟨n,hn⟩
  have hx:∃n r,g n=some r:=⟨n,r,hn⟩
  rw [dif_pos hx]
  obtain ⟨r',tj⟩:=hx.choose_spec
  rw [tj]
  have h1:=up _ n _ tj
  have h2:=up _ hx.choose _ hn
  rw [Nat.add_comm] at h2
  rw [h1] at h2
  exact h2
theorem Ax {g g':Nat→Option R} (hm:∀n r,g n=some r→g (n+1)=some r) (lP:∀n r,g' n=some r→g' (n+1)=some r) (h:∀r,(∃n,g n=some r) ↔ ∃n,g' n=some r):Hu g=Hu g':=by
 cases e:Hu g with
 | some r=>exact ((jb lP).2 ((h r).1 ((jb hm).1 e))).symm
 | none =>
  cases e':Hu g' with
  | none=>rfl
  | some r =>
   have:=(jb hm).2 ((h r).2 ((jb lP).1 e'))
   rw [e] at this;cases this
theorem gX {f:TS→fJ R→Option R} (hf:Ji f) {tr:MX→Bool} {cq:List Nat} {K:fJ R}:∀(n:Nat) (τ:TS) (r:R),kL f tr cq n τ K=some r→kL f tr cq (n+1) τ K=some r
 | 0,_,_,h=>by cases h
 | n+1,τ,r,h=>by
  obtain ⟨p,hp⟩:=hf τ
  rw [kL] at h ⊢
  rw [hp] at h ⊢
  cases p with
  | none=>cases h
  | some q =>
   obtain ⟨e,jH⟩:=q
   simp only [Option.bind_some] at h ⊢
   cases ht:tr e with
   | true=>rw [ht] at h;exact gX hf n _ r h
   | false=>rw [ht] at h;exact h
theorem Cm {f:TS→fJ R→Option R} (hf:Ji f) (tr:MX→Bool) (cq:List Nat) (τ:TS) (K:fJ R):fX f tr cq τ K=f τ (ki f tr cq K):=by
 obtain ⟨p,hp⟩:=hf τ
 rw [hp]
 have hN:∀n,kL f tr cq (n+1) τ K=p.bind fun q=>match tr q.1 with | true=>kL f tr cq n (dF cq (cq.map q.2)) K | false=>K q.1 q.2:=by
  intro n;rw [kL,hp]
 cases p with
 | none =>
  cases e:fX f tr cq τ K with
  | none=>rfl
  | some r =>
   obtain ⟨n,hn⟩:=(jb (fun n r=>gX hf n τ r)).1 e
   cases n with
   | zero=>cases hn
   | succ n=>rw [hN] at hn;cases hn
 | some q =>
  obtain ⟨e,jH⟩:=q
  simp only [Option.bind_some] at hN ⊢
  cases ht:tr e with
  | true =>
   simp only [ki,ht] at hN ⊢
   refine Ax (fun n r=>gX hf n τ r) (fun n r=>gX hf n _ r) fun r=>⟨?_,?_⟩
   ·rintro ⟨n,hn⟩
    cases n with
    | zero=>cases hn
    | succ n=>rw [hN] at hn;exact ⟨n,hn⟩
   ·rintro ⟨n,hn⟩
    exact ⟨n+1,by rw [hN];exact hn⟩
  | false =>
   simp only [ki,ht] at hN ⊢
   cases e':K e jH with
   | none =>
    cases e2:fX f tr cq τ K with
    | none=>rfl
    | some r =>
     obtain ⟨n,hn⟩:=(jb (fun n r=>gX hf n τ r)).1 e2
     cases n with
     | zero=>cases hn
     | succ n=>rw [hN,e'] at hn;cases hn
   | some r=>exact (jb (fun n r=>gX hf n τ r)).2 ⟨1,by rw [hN,e']⟩
theorem so (E:eg):∀(ms:List pJ) (τ:TS),∃p:Option TS,∀K:TS→Option R,runT E ms τ K=p.bind K
 | [],τ=>⟨some τ,fun K=>rfl⟩
 | m :: ms,τ=>by
  simp only [runT]
  cases h:stepT E m τ with
  | ok ws=>exact so E ms _
  | fG p ws =>
   obtain ⟨q,hq⟩:=so E ms (uK τ m.ds ws)
   cases p with
   | true=>exact ⟨q,fun K=>hq K⟩
   | false=>exact ⟨none,fun K=>rfl⟩
  | err=>exact ⟨none,fun K=>rfl⟩
noncomputable def qa (P:TS→Option (MX × TS)) (tr:MX→Bool) (cq:List Nat):Nat→TS→Option (MX × TS)
 | 0,_=>none
 | n+1,τ=>(P τ).bind fun q=>match tr q.1 with
  | true=>qa P tr cq n (dF cq (cq.map q.2))
  | false=>some q
open Classical in
theorem tN {f:TS→fJ R→Option R} (hf:Ji f) (tr:MX→Bool) (cq:List Nat):Ji (fX f tr cq):=by
 intro τ
 let P:=fun τ=>(hf τ).choose
 have hP:∀τ K,f τ K=(P τ).bind fun q=>K q.1 q.2:=fun τ=>(hf τ).choose_spec
 have hI:∀n τ K,kL f tr cq n τ K=(qa P tr cq n τ).bind fun q=>K q.1 q.2:=by
  intro n
  induction n with
  | zero=>exact fun _ _=>rfl
  | succ n ih =>
   intro τ K
   rw [kL,qa,hP]
   cases P τ with
   | none=>rfl
   | some q =>
    simp only [Option.bind_some]
    cases tr q.1 with
    | true=>exact ih _ K
    | false=>rfl
 have Li:∀n τ q,qa P tr cq n τ=some q→qa P tr cq (n+1) τ=some q:=by
  intro n
  induction n with
  | zero=>intro _ _ h;cases h
  | succ n ih =>
   intro τ q h
   rw [qa] at h ⊢
   cases e:P τ with
   | none=>rw [e] at h;cases h
   | some q' =>
    rw [e] at h
    simp only [Option.bind_some] at h ⊢
    cases ht:tr q'.1 with
    | true=>rw [ht] at h;exact ih _ q h
    | false=>rw [ht] at h;exact h
 by_cases hx:∃n q,qa P tr cq n τ=some q
 ·obtain ⟨n,q,hq⟩:=hx
  have zF:∀k,qa P tr cq (n+k) τ=some q:=by
   intro k
   induction k with
   | zero=>exact hq
   | succ k ih=>exact Li _ _ _ ih
  refine ⟨some q,fun K=>?_⟩
  simp only [Option.bind_some]
  cases e:K q.1 q.2 with
  | some r=>exact (jb (fun n r=>gX hf n τ r)).2 ⟨n,by rw [hI,hq];exact e⟩
  | none =>
   cases e':fX f tr cq τ K with
   | none=>rfl
   | some r =>
    obtain ⟨m,hm⟩:=(jb (fun n r=>gX hf n τ r)).1 e'
    have:kL f tr cq (m+n) τ K=some r:=by
     clear e e'
     induction n with
     | zero=>exact hm
     | succ n ih =>
      have up:∀k,kL f tr cq (m+k) τ K=some r:=by
       intro k
       induction k with
       | zero=>exact hm
       | succ k ih=>exact gX hf _ _ _ ih
      exact up _
    rw [hI,Nat.add_comm,zF] at this
    simp only [Option.bind_some] at this
    rw [e] at this;cases this
 ·refine ⟨none,fun K=>?_⟩
  cases e':fX f tr cq τ K with
  | none=>rfl
  | some r =>
   obtain ⟨m,hm⟩:=(jb (fun n r=>gX hf n τ r)).1 e'
   rw [hI] at hm
   cases e:qa P tr cq m τ with
   | none=>rw [e] at hm;cases hm
   | some q=>exact absurd ⟨m,q,e⟩ hx
theorem Aw {f:TS→fJ R→Option R} (hf:Ji f) (cq:List Nat):Ji (Cn f cq):=fun τ=>tN hf n6 cq _
theorem yw (E:eg) (m:TM):Ji (gQ R E m):=by
 induction m with
 | skip=>exact fun τ=>⟨some (.normal,τ),fun K=>rfl⟩
 | fD ops =>
  intro τ
  obtain ⟨p,hp⟩:=so (R:=R) E ops τ
  exact ⟨p.map fun τ=>(.normal,τ),fun K=>by rw [Option.bind_map];exact hp _⟩
 | seq a cq b wH rQ =>
  intro τ
  obtain ⟨p,hp⟩:=wH τ
  cases p with
  | none=>exact ⟨none,fun K=>hp _⟩
  | some q =>
   obtain ⟨e,jH⟩:=q
   cases e with
   | normal =>
    obtain ⟨p',jV⟩:=rQ (wb cq jH)
    exact ⟨p',fun K=>(hp _).trans (jV _)⟩
   | exit i=>exact ⟨some (.exit i,jH),fun K=>hp _⟩
   | ret=>exact ⟨some (.ret,jH),fun K=>hp _⟩
 | cond x G a b wH rQ =>
  intro τ
  show ∃p:Option (MX × TS),∀K:fJ R,(match x.ev E τ with | .b t=>cond t (gQ R E a τ K) (gQ R E b τ K) | _=>none)=_
  split
  ·rename_i t _
   cases t with
   | true=>exact wH τ
   | false=>exact rQ τ
  ·exact ⟨none,fun K=>rfl⟩
 | block id G b ih =>
  intro τ
  obtain ⟨p,hp⟩:=ih τ
  cases p with
  | none=>exact ⟨none,fun K=>hp _⟩
  | some q =>
   obtain ⟨e,jH⟩:=q
   cases e with
   | normal=>exact ⟨some (.normal,jH),fun K=>hp _⟩
   | exit i =>
    cases hb:Nat.beq i id with
    | true=>exact ⟨some (.normal,jH),fun K=>(hp _).trans (by simp only [Option.bind_some,eb,hb])⟩
    | false=>exact ⟨some (.exit i,jH),fun K=>(hp _).trans (by simp only [Option.bind_some,eb,hb])⟩
   | ret=>exact ⟨some (.ret,jH),fun K=>hp _⟩
 | loop cq G b ih=>exact Aw ih cq
 | exit id=>exact fun τ=>⟨some (.exit id,τ),fun K=>rfl⟩
 | ret=>exact fun τ=>⟨some (.ret,τ),fun K=>rfl⟩
 | BB b ih=>exact ih
 | BA b ih=>exact ih
 | A7 l cq G r b Mq rQ =>
  intro τ
  obtain ⟨p,hp⟩:=rQ τ
  cases p with
  | none=>exact ⟨none,fun K=>hp _⟩
  | some q =>
   obtain ⟨e,jH⟩:=q
   cases ht:vf l e with
   | true =>
    obtain ⟨p',jV⟩:=tN Mq (vf l) cq (dF cq (cq.map jH))
    exact ⟨p',fun K=>(hp _).trans (by simp only [Option.bind_some,ki,ht];exact jV K)⟩
   | false=>exact ⟨some (e,jH),fun K=>(hp _).trans (by simp only [Option.bind_some,ki,ht])⟩
theorem ff (E:eg) (tr:MX→Bool) (cq:List Nat) (b:TM) (τ:TS) (K:fJ R) :
  fX (gQ R E b) tr cq τ K=ev R E b τ (ki (gQ R E b) tr cq K):=by rw [Cm (yw E b),gr]
end
end Go.Eng
namespace Go.Eng
theorem EB (c:CS) (vs:List TV):(c.Cz vs).map TV.av=c.ins (vs.map TV.av):=by
 unfold CS.Cz CS.ins
 cases c.ref with
 | none=>simp [List.map_take]
 | some q =>
  simp only [List.map_set,List.map_take]
  congr 1
  simp only [aH,aP]
  cases vs[c.n+(c.new.map (·.2)).toList.length]? <;> rfl
theorem Cj (c:CS) (outs:List TV):(c.Ck outs).av=c.main (outs.map TV.av):=by
 unfold CS.Ck CS.main
 cases h:Nat.beq c.cZ 1 with
 | true =>
  rw [aq (ay h)]
  cases c.new with
  | some q=>rfl
  | none=>cases outs <;> rfl
 | false =>
  rw [aj (Nat.ne_of_beq_eq_false h)]
  simp only [TV.av,TV.fY,AV.tu.injEq]
  apply List.ext_getElem?
  intro i
  simp only [aP,List.getElem?_mapIdx,aT]
  split
  ·cases outs[i]? with
   | none=>rfl
   | some x =>
    simp only [Option.map_some,ax]
    cases h:(c.new.any fun q=>q.1 == i) <;> simp
    rfl
  ·rfl
section
variable {E:eg}
theorem Dw {f:Nat} {c:CS} {vs ws:List TV} (h:(Dx (E.fs f).1 c vs).holds ws):fW E.env (.call f c) (vs.map TV.av) (ws.map TV.av):=by
 unfold Dx at h
 cases hr:c.BJ vs with
 | false=>rw [hr] at h;exact h.elim
 | true =>
  rw [hr] at h
  have key:∀{outs:List TV},((E.fs f).1 (c.Cz vs)).holds outs→Nat.beq outs.length (c.cZ+c.jL.length)=true→ws=c.E6 outs→fW E.env (.call f c) (vs.map TV.av) (ws.map TV.av):=by
   intro outs h1 h2 h3
   subst h3
   refine ⟨?_,outs.map TV.av,⟨_,_,(EB c vs).symm,rfl,h1⟩,by rw [aQ];exact ay h2,?_⟩
   ·unfold CS.BJ at hr
    cases hc:c.ref with
    | none=>trivial
    | some q =>
     rw [hc] at hr
     simp only at hr ⊢
     split at hr
     ·rename_i e;rw [aP,e];rfl
     ·cases hr
   ·simp only [CS.E6,ao,Cj,List.map_append,List.map_drop,bk]
    rfl
  simp only at h
  cases hC:(E.fs f).1 (c.Cz vs) with
  | ok outs =>
   rw [hC] at h
   obtain ⟨h1,h2⟩:=dm h
   exact key (outs:=outs) (by rw [hC];rfl) h1 h2
  | fG p outs =>
   rw [hC] at h
   obtain ⟨h1,h2⟩:=dm h
   exact key (outs:=outs) (by rw [hC];exact ⟨h2.1,rfl⟩) h1 h2.2
  | err=>rw [hC] at h;exact h.elim
theorem tF {t:eN} {vs rest ws:List TV} (h:(uJ t vs rest).holds ws):∃l,l.map t.av=vs.map TV.av∧(∀x∈vs.map TV.av,x.plain=true∧x.cells.length=t.size)∧ws = .sl t l :: rest:=by
 unfold uJ at h
 split at h
 ·rename_i l e
  obtain ⟨h1,h2⟩:=eN.Da e
  exact ⟨l,h1,h2,h⟩
 ·exact h.elim
theorem ze {C:eZ} {cZ:Nat} {vs ws:List TV} (h:(Eg cZ (C vs)).holds ws):∃outs,(C vs).holds outs∧outs.length=cZ∧ws=[cond (Nat.beq cZ 1) (outs.headD .dead) (.tu outs)]:=by
 unfold Eg at h
 cases hC:C vs with
 | ok outs =>
  rw [hC] at h
  obtain ⟨h1,h2⟩:=dm h
  exact ⟨outs,rfl,ay h1,h2⟩
 | fG p outs =>
  rw [hC] at h
  obtain ⟨h1,h2⟩:=dm h
  exact ⟨outs,⟨h2.1,rfl⟩,ay h1,h2.2⟩
 | err=>rw [hC] at h;exact h.elim
theorem uR {cZ:Nat} (outs:List TV):(cond (Nat.beq cZ 1) (outs.headD .dead) (.tu outs):TV).av=if cZ=1 then (outs.map TV.av).headD .dead else .tu (outs.map TV.av):=by
 cases h:Nat.beq cZ 1 with
 | true=>rw [aq (ay h)];cases outs <;> rfl
 | false=>rw [aj (Nat.ne_of_beq_eq_false h)];simp only [ah,TV.av,TV.fY]
theorem Ap {f n cZ i k s:Nat} {vs ws:List TV} (h:(yb (E.fs f).1 n cZ i s vs).holds ws):fW E.env (.jQ f n cZ i k s) (vs.map TV.av) (ws.map TV.av):=by
 unfold yb at h
 split at h
 ·rename_i t l e1 e2
  obtain ⟨h0,h⟩:=dm h
  obtain ⟨outs,h1,h2,rfl⟩:=ze h
  have h0:=ay h0
  refine ⟨l.map t.av,outs.map TV.av,by rw [aP,e1,h0];rfl,by rw [aP,e2];rfl,⟨_,outs,?_,rfl,h1⟩,by simpa using h2,by simp only [ao,au,uR]⟩
  rw [List.map_set,List.map_take,h0];rfl
 ·exact h.elim
theorem Ao {f n cZ i s:Nat} {vs ws:List TV} (h:(ya (E.fs f).1 cZ i s vs).holds ws):fW E.env (.mI f n cZ i s) (vs.map TV.av) (ws.map TV.av):=by
 unfold ya at h
 split at h
 ·rename_i t e1
  obtain ⟨h0,h⟩:=dm h
  obtain ⟨outs,h1,h2,rfl⟩:=ze h
  have h0:=ay h0
  exact ⟨outs.map TV.av,by rw [aP,e1,h0];rfl,⟨vs,outs,rfl,rfl,h1⟩,by simpa using h2,by simp only [ao,au,uR]⟩
 ·exact h.elim
theorem Ad:∀{l:List TV},vH l=true→∀x∈l.map TV.av,∃y,x = .v y
 | [],_,x,hx=>by cases hx
 | z :: r,h,x,hx=>by
  simp only [vH,af] at h
  rcases bq.1 hx with rfl | hx
  ·cases z <;> first | exact ⟨_,rfl⟩ | cases h.1
  ·exact Ad h.2 x hx
theorem Am {f n cZ i m:Nat} {vs ws:List TV} (h:(xW (E.fs f).1 n cZ i vs).holds ws):fW E.env (.lC f n cZ i m) (vs.map TV.av) (ws.map TV.av):=by
 unfold xW at h
 split at h
 ·rename_i cs e1 e2
  have key:∃outs,((E.fs f).1 ((vs.take n).set i (.ro (.ag cs)))).holds outs∧outs.length=cZ∧vH outs=true∧ws=[cond (Nat.beq cZ 1) (outs.headD .dead) (.tu outs)]:=by
   unfold JR at h
   cases hC:(E.fs f).1 ((vs.take n).set i (.ro (.ag cs))) with
   | ok outs =>
    rw [hC] at h
    obtain ⟨h1,h2⟩:=dm h
    simp only [af] at h1
    exact ⟨outs,rfl,ay h1.1,h1.2,h2⟩
   | fG p outs =>
    rw [hC] at h
    obtain ⟨h1,h2⟩:=dm h
    simp only [af] at h1
    exact ⟨outs,⟨h2.1,rfl⟩,ay h1.1,h1.2,h2.2⟩
   | err=>rw [hC] at h;exact h.elim
  obtain ⟨outs,h1,h2,h3,rfl⟩:=key
  refine ⟨cs.map TV.av,outs.map TV.av,by rw [aP,e1];simp only [Option.map_some,TV.av,TV.fY],by rw [aP,e2];rfl,⟨_,outs,?_,rfl,h1⟩,by simpa using h2,Ad h3,by simp only [ao,au,uR]⟩
  rw [List.map_set,List.map_take];simp only [TV.av,TV.fY]
 ·exact h.elim
theorem y9 {k:TK} {vs ws:List TV} (h:(uM E k vs).holds ws):fW E.env k.erase (vs.map TV.av) (ws.map TV.av):=by
 cases k with
 | k x =>
  by_cases hc:∃f c,x = .call f c
  ·obtain ⟨f,c,rfl⟩:=hc
   exact Dw h
  ·cases x
   case call f c=>exact (hc ⟨_,_,rfl⟩).elim
   case jQ f n cZ i k s=>exact Ap h
   case mI f n cZ i s=>exact Ao h
   case lC f n cZ i m=>exact Am h
   all_goals exact Eb _ h
 | bl t n =>
  obtain ⟨h0,h⟩:=dm h
  obtain ⟨l,h1,h2,rfl⟩:=tF h
  have h0:=ay h0
  simp only [TK.erase,fW,List.map,TV.av,h1,aQ]
  exact ⟨h0,h2,trivial⟩
 | blt t n d =>
  obtain ⟨h0,h⟩:=dm h
  obtain ⟨l,h1,h2,rfl⟩:=tF h
  have h0:=ay h0
  simp only [TK.erase,fW,List.map,TV.av,h1,aQ,←List.map_take]
  exact ⟨h0,h2,trivial⟩
 | bd z pl =>
  simp only [uM] at h
  split at h
  ·rename_i cs e
   cases h
   simp only [TK.erase,fW,List.map,TV.av,TV.fY]
   exact ⟨_,xm e,rfl⟩
  ·exact h.elim
 | al m z ts =>
  simp only [uM] at h
  cases h
  simp only [TK.erase,fW,ao,TV.av,bk]
  rfl
 | mk d b t z =>
  simp only [uM] at h
  split at h
  ·obtain ⟨h1,rfl⟩:=h
   obtain ⟨h1,h2,h3,h4⟩:=Cf.1 h1
   simp only [TK.erase,fW,List.map,TV.av]
   exact ⟨(eN.mV _ _).1,(eN.mV _ _).2,h1,h2,h3,h4,by simp⟩
  ·exact h.elim
 | nl t d =>
  simp only [uM] at h
  split at h
  ·cases h;rfl
  ·exact h.elim
 | yH m ts =>
  simp only [uM] at h
  split at h
  ·obtain ⟨e,h⟩:=dm h
   cases h
   simp only [af] at e
   obtain ⟨h1,h2⟩:=sz e.2
   simp only [TK.erase,fW,ao,TV.av,TV.fY,TV.kf _ e.1]
   exact ⟨TV.mH _ e.1,h1,by rw [h2];simp only [AS,bk];rfl⟩
  ·exact h.elim
 | qX m o n ts =>
  simp only [uM] at h
  split at h
  ·obtain ⟨e,h⟩:=dm h
   cases h
   simp only [af] at e
   obtain ⟨⟨⟨e1,e2⟩,e3⟩,e4⟩:=e
   obtain ⟨h1,h2⟩:=sz e4
   rw [na] at h1 h2
   simp only [TK.erase,fW,ao,TV.av,TV.fY,TV.kf _ e1,aQ]
   exact ⟨TV.mH _ e1,ay e2,Nat.le_of_ble_eq_true e3,h1,by rw [h2];simp only [AS,bk];rfl⟩
  ·exact h.elim
theorem xx:∀{l:List TV},(∀q,AX l=some q→q=true)→∀x∈l,∀q,x.GC=some q→q=true
 | [],_,_,hx,_,_=>by cases hx
 | y :: r,h,x,hx,q,hq=>by
  simp only [AX] at h
  rcases bq.1 hx with rfl | hx
  ·rw [hq] at h
   cases e:AX r with
   | none=>rw [e] at h;exact h _ rfl
   | some p=>rw [e] at h;exact (bw.1 (h _ rfl)).1
  ·refine xx (l:=r) ?_ x hx q hq
   intro p hp
   rw [hp] at h
   cases e:y.GC with
   | none=>rw [e] at h;exact h _ rfl
   | some p'=>rw [e] at h;exact (bw.1 (h _ rfl)).2
theorem vR {c:Bool} {q:Option Bool} {r:kX} {ws:List TV} (h:(xR c q r).holds ws) (hc:c=true):∃vs,r.holds vs∧ws=vs.map (.gd c)∧∀p,q=some p→p=true:=by
 subst hc
 cases r <;> cases q
 ·exact ⟨_,rfl,h,by simp⟩
 ·rename_i vs q
  obtain ⟨h1,rfl⟩:=h
  exact ⟨vs,rfl,rfl,by rintro _ ⟨⟩;simpa using h1⟩
 ·rename_i p vs
  obtain ⟨h1,rfl⟩:=h
  exact ⟨vs,⟨by simpa using h1,rfl⟩,rfl,by simp⟩
 ·rename_i p vs q
  obtain ⟨h1,rfl⟩:=h
  simp at h1
  exact ⟨vs,⟨h1.2,rfl⟩,rfl,by rintro _ ⟨⟩;exact h1.1⟩
 ·exact h.elim
 ·exact h.elim
theorem uD {c:Bool} {q:Option Bool} {r:kX} {ws:List TV} (h:(xR c q r).holds ws):∃vs:List TV,ws=vs.map (.gd c):=by
 cases r <;> cases q <;> first | exact ⟨_,h⟩ | exact ⟨_,h.2⟩ | exact h.elim
theorem sF {n:Nat} {r:kX} {ws:List TV} (h:(Hv n r).holds ws):r.holds ws∧ws.length=n:=by
 cases r with
 | ok vs=>obtain ⟨h1,h2⟩:=dm h;cases h2;exact ⟨rfl,ay h1⟩
 | fG p vs=>obtain ⟨h1,h2⟩:=dm h;obtain ⟨h2,rfl⟩:=h2;exact ⟨⟨h2,rfl⟩,ay h1⟩
 | err=>exact h.elim
theorem AO {τ:TS} {t:Nat} {b c:Bool} (h:vy τ t b=some c):mj τ.av (some (t,b))=some c:=by
 unfold vy at h
 simp only [mj,TS.av]
 split at h
 ·rename_i x e;cases h;rw [e];cases b <;> cases x <;> rfl
 ·rename_i q x e;cases h;rw [e];cases q <;> cases b <;> cases x <;> rfl
 ·cases h
theorem DH {k:TK} {vs:List TV} (h:∀p,I1 k vs=some p→p=true):(DI k vs).map TV.av=vs.map TV.av:=by
 have base:(∀p,AX vs=some p→p=true)→(vs.map TV.bare).map TV.av=vs.map TV.av:=fun h=>by
  rw [bk];exact List.map_congr_left fun x hx=>TV.Ac (xx h x hx)
 unfold I1 at h
 unfold DI
 split at h
 ·split at h
  ·simp only [ao];rw [TV.Ac h]
  ·rfl
 ·exact base h
theorem vX {m:pJ} {τ:TS} {ws:List TV} (h:(stepT E m τ).holds ws):FC E.env m.erase τ.av (uK τ m.ds ws).av:=by
 unfold stepT at h
 have Gn:∀l:List nE,(l.map nE.erase).map (eI.ev E.env τ.av)=(l.map (nE.ev E τ)).map TV.av:=by
  intro l;simp only [bk];exact List.map_congr_left fun x _=>nE.Gx E τ x
 cases hg:m.gd with
 | none =>
  rw [hg] at h
  obtain ⟨h1,h2⟩:=sF h
  refine ⟨ws.map TV.av,?_,by simpa [pJ.erase] using h2,rL _ _ _⟩
  simp only [pJ.erase,hg,mj,Gn]
  exact y9 h1
 | some q =>
  obtain ⟨t,b⟩:=q
  rw [hg] at h
  simp only at h
  cases hc:vy τ t b with
  | none=>rw [hc] at h;exact h.elim
  | some c =>
   rw [hc] at h
   obtain ⟨h1,h2⟩:=sF h
   refine ⟨ws.map TV.av,?_,by simpa [pJ.erase] using h2,rL _ _ _⟩
   simp only [pJ.erase,hg,AO hc]
   cases c with
   | true =>
    obtain ⟨vs,h3,rfl,h4⟩:=vR h1 rfl
    have e1:(vs.map (TV.gd true)).map TV.av=vs.map TV.av:=by simp only [bk];exact List.map_congr_left fun x _=>rfl
    have e2:=DH h4
    simp only [Gn,e1,←e2]
    exact y9 h3
   | false =>
    obtain ⟨vs,rfl⟩:=uD h1
    simp only [bk]
    apply List.ext_getElem?
    intro i
    simp only [aQ] at h2
    simp only [aP]
    by_cases hi:i<vs.length
    ·rw [aD hi,aD (by omega)];rfl
    ·rw [List.getElem?_eq_none (by omega),List.getElem?_eq_none (by omega)];rfl
theorem uO {R:Type} {r:R} {K:TS→Option R}:∀{ms:List pJ} {τ:TS},runT E ms τ K=some r→∃jH:TS,BD E.env (ms.map pJ.erase) τ.av jH.av∧K jH=some r
 | [],τ,h=>⟨τ,rfl,h⟩
 | m :: ms,τ,h=>by
  simp only [runT] at h
  cases hs:stepT E m τ with
  | ok ws =>
   rw [hs] at h
   obtain ⟨jH,h1,h2⟩:=uO h
   exact ⟨jH,⟨_,vX (ws:=ws) (by rw [hs];rfl),h1⟩,h2⟩
  | fG p ws =>
   rw [hs] at h
   obtain ⟨hp,h⟩:=Fe.1 h
   obtain ⟨jH,h1,h2⟩:=uO h
   exact ⟨jH,⟨_,vX (ws:=ws) (by rw [hs];exact ⟨hp,rfl⟩),h1⟩,h2⟩
  | err=>rw [hs] at h;cases h
theorem BF (cq:Option (List Nat)) (τ:TS):Le (wb cq τ).av τ.av:=by
 cases cq with
 | none=>exact fun _ => .inl rfl
 | some ks =>
  intro k
  have:∀ks:List Nat,dF ks (ks.map τ) k=τ k∨dF ks (ks.map τ) k = .dead:=by
   intro ks
   induction ks with
   | nil=>exact .inr rfl
   | cons j ks ih =>
    simp only [dF,ao,uK] at ih ⊢
    cases h:Nat.beq k j with
    | true=>left;rw [ay h];rfl
    | false=>exact ih
  rcases this ks with e | e
  ·left;simp only [TS.av,wb,e]
  ·right;simp only [TS.av,wb,e];rfl
theorem qt (σ:Sg):∀cq:List Nat,Fx σ cq (cq.map σ)
 | []=>trivial
 | k :: ks=>⟨rfl,qt σ ks⟩
theorem LV {R:Type} {r:R} {m:TM}:∀{τ:TS} {K:fJ R},gQ R E m τ K=some r→oJ E.env m.erase (fun e σ=>∃jH:TS,σ=jH.av∧K e jH=some r) τ.av:=by
 induction m with
 | skip=>exact fun h=>⟨_,rfl,h⟩
 | fD ops =>
  intro τ K h
  obtain ⟨jH,h1,h2⟩:=uO (E:=E) h
  exact ⟨_,h1,jH,rfl,h2⟩
 | seq a cq b wH rQ =>
  intro τ K h
  show oJ E.env a.erase _ τ.av
  refine lu (m:=a.erase) (Q:=fun e σ=>∃jH:TS,σ=jH.av∧ia (gQ R E b) cq K e jH=some r) (fun e σ q=>?_) (wH h)
  obtain ⟨jH,rfl,q⟩:=q
  cases e with
  | normal=>exact ⟨_,BF cq jH,rQ q⟩
  | exit i=>exact ⟨jH,rfl,q⟩
  | ret=>exact ⟨jH,rfl,q⟩
 | cond x G a b wH rQ =>
  intro τ K h
  have h:(match x.ev E τ with | .b t=>cond t (gQ R E a τ K) (gQ R E b τ K) | _=>none)=some r:=h
  split at h
  ·rename_i t e
   refine .inl ⟨t,by rw [nE.Gx,e];rfl,?_,?_⟩
   ·rintro rfl;exact wH h
   ·rintro rfl;exact rQ h
  ·cases h
 | block id G b ih =>
  intro τ K h
  show oJ E.env b.erase _ τ.av
  refine lu (m:=b.erase) (Q:=fun e σ=>∃jH:TS,σ=jH.av∧eb id K e jH=some r) (fun e σ q=>?_) (ih h)
  obtain ⟨jH,rfl,q⟩:=q
  cases e with
  | normal=>exact ⟨jH,rfl,q⟩
  | exit i =>
   simp only [eb] at q ⊢
   cases hb:Nat.beq i id with
   | true=>rw [hb] at q;rw [aq (ay hb)];exact ⟨jH,rfl,q⟩
   | false=>rw [hb] at q;rw [aj (Nat.ne_of_beq_eq_false hb)];exact ⟨jH,rfl,q⟩
  | ret=>exact ⟨jH,rfl,q⟩
 | loop cq G b ih =>
  intro τ K h
  have hl:=(jb (fun n r=>gX (yw E b) n _ r)).1 h
  obtain ⟨n,hn⟩:=hl
  refine ⟨{ p:Nat × TS // kL (gQ R E b) n6 cq p.1 (dF cq (cq.map p.2)) K=some r },fun p=>cq.map p.1.2.av,fun p=>p.1.1,⟨(n,τ),hn⟩,qt _ cq,?_⟩
  rintro ⟨⟨n,τ⟩,hn⟩
  cases n with
  | zero=>cases hn
  | succ n =>
   simp only [kL] at hn
   have e:head cq (cq.map τ.av)=(dF cq (cq.map τ)).av:=by rw [oa,bk];rfl
   simp only
   rw [e]
   refine lu (fun e σ q=>?_) (ih hn)
   obtain ⟨jH,rfl,q⟩:=q
   cases e with
   | normal=>exact ⟨⟨(n,jH),q⟩,Nat.lt_succ_self n,qt _ cq⟩
   | exit i=>exact ⟨jH,rfl,q⟩
   | ret=>exact ⟨jH,rfl,q⟩
 | exit id=>exact fun h=>⟨_,rfl,h⟩
 | ret=>exact fun h=>⟨_,rfl,h⟩
 | BB b ih=>exact fun h=>ih h
 | BA b ih=>exact fun h=>ih h
 | A7 l cq G x b KZ rQ =>
  intro τ K h
  have key:∀{e:MX} {jH:TS},ki (gQ R E x) (vf l) cq K e jH=some r→(e = .exit (gid l)∧∃n,kL (gQ R E x) (vf l) cq n (dF cq (cq.map jH)) K=some r)∨(e ≠ .exit (gid l)∧K e jH=some r):=by
   intro e jH q
   simp only [ki] at q
   cases ht:vf l e with
   | true =>
    rw [ht] at q
    left
    cases e <;> simp only [vf,bo] at ht
    exact ⟨by rw [ay ht],(jb (fun n r=>gX (yw E x) n _ r)).1 q⟩
   | false =>
    rw [ht] at q
    refine .inr ⟨?_,q⟩
    rintro rfl
    simp [vf] at ht
  refine ⟨{ p:Nat × TS // kL (gQ R E x) (vf l) cq p.1 (dF cq (cq.map p.2)) K=some r },fun p=>cq.map p.1.2.av,fun p=>p.1.1,?_,?_⟩
  ·refine lu (fun e σ q=>?_) (rQ h)
   obtain ⟨jH,rfl,q⟩:=q
   rcases key q with ⟨rfl,n,hn⟩ | ⟨jM,q⟩
   ·simp only [if_true]
    exact ⟨⟨(n,jH),hn⟩,qt _ cq⟩
   ·cases e with
    | exit j =>
     have:j≠gid l:=fun e=>jM (by rw [e])
     simp only [this,if_false]
     exact ⟨jH,rfl,q⟩
    | normal=>exact ⟨jH,rfl,q⟩
    | ret=>exact ⟨jH,rfl,q⟩
  ·rintro ⟨⟨n,τ⟩,hn⟩
   cases n with
   | zero=>cases hn
   | succ n =>
    simp only [kL] at hn
    have e:head cq (cq.map τ.av)=(dF cq (cq.map τ)).av:=by rw [oa,bk];rfl
    simp only
    rw [e]
    refine lu (fun e σ q=>?_) (KZ hn)
    obtain ⟨jH,rfl,q⟩:=q
    cases ht:vf l e with
    | true =>
     rw [ht] at q
     cases e <;> simp only [vf,bo] at ht
     rw [ay ht]
     simp only [if_true]
     exact ⟨⟨(n,jH),q⟩,Nat.lt_succ_self n,qt _ cq⟩
    | false =>
     rw [ht] at q
     cases e with
     | exit j =>
      have:j≠gid l:=fun e=>by subst e;simp [vf] at ht
      simp only [this,if_false]
      exact ⟨jH,rfl,q⟩
     | normal=>exact ⟨jH,rfl,q⟩
     | ret=>exact ⟨jH,rfl,q⟩
end
structure gn where
 np:Nat
 m:TM
 ref:Option (Nat × Nat):=none
 fy:List (Nat × (Nat × Nat)):=[]
 res:List RV
 own:List (Nat × Nat):=[]
 new:Option (Nat × Nat):=none
 fx:List (Nat × Nat):=[]
 ps:Option (Nat × (Nat × Nat)):=none
def gn.erase (d:gn):FD:={ np:=d.np,m:=d.m.erase,ref:=d.ref,fy:=d.fy,res:=d.res,own:=d.own,new:=d.new,fx:=d.fx,ps:=d.ps }
def RV.LR (τ:TS):RV→Option TV
 | .t j=>some (τ j)
 | .c a m n agg=>match τ a,τ m with
  | .pt,.ag cs=>ra cs 0 n agg
  | _,_=>none
def zk (τ:TS):List RV→Option (List TV)
 | []=>some []
 | r :: rs=>match r.LR τ with
  | some x=>match zk τ rs with
   | some l=>some (x :: l)
   | none=>none
  | none=>none
def TV.H7:TV→Bool
 | .sl _ _=>true
 | _=>false
def TV.H8:TV→Bool
 | .pt=>true
 | _=>false
def gn.G8 (d:gn) (τ:TS):Option (List TV) :=
 match zk τ d.res with
 | some rs=>cond (d.own.all (fun q=>(rs.getD q.1 .dead).H7)&&d.new.toList.all (fun q=>(rs.getD q.1 .dead).H8)) (some (rs++d.new.toList.map (fun q=>τ q.2)++d.ref.toList.map (fun q=>τ q.2)++d.ps.toList.map (fun q=>τ (lk q.2.1)))) none
 | none=>none
def gn.uG (d:gn) (ins:List TV):TS :=
 match d.ref with
 | none=>match d.ps with
  | none=>dF (List.range d.np) ins
  | some (i,k,_)=>dF (lk k :: List.range d.np) (ins.getD i .dead :: ins.set i .pt)
 | some (i,m)=>dF (m :: List.range d.np) (ins.getD i .dead :: ins.set i .pt)
def gb (d:gn):fJ (List TV):=fun e τ =>
 match e with
 | .exit _=>none
 | _=>d.G8 τ
noncomputable def gn.run (E:eg) (d:gn) (ins:List TV):Option (List TV):=ev (List TV) E d.m (d.uG ins) (gb d)
theorem wk {τ:TS}:∀{rs:List RV} {xs:List TV},zk τ rs=some xs→yd τ.av rs=some (xs.map TV.av)
 | [],xs,h=>by cases h;rfl
 | r :: rs,xs,h=>by
  simp only [zk] at h
  split at h
  ·rename_i x hx
   split at h
   ·rename_i l hl
    cases h
    have e:r.get τ.av=some x.av:=by
     cases r with
     | t j=>cases hx;rfl
     | c a m n agg =>
      simp only [RV.LR] at hx
      split at hx
      ·rename_i cs e1 e2
       simp only [RV.get,TS.av,e1,e2,TV.av,TV.fY]
       exact nT hx
      ·cases hx
    simp only [yd,e,wk hl]
    rfl
   ·cases h
  ·cases h
theorem zj {d:gn} {τ:TS} {outs:List TV} (h:d.G8 τ=some outs):d.erase.vJ τ.av (outs.map TV.av):=by
 unfold gn.G8 at h
 split at h
 ·rename_i rs sJ
  cases hc:(d.own.all (fun q=>(rs.getD q.1 .dead).H7)&&d.new.toList.all (fun q=>(rs.getD q.1 .dead).H8)) with
  | false=>rw [hc] at h;cases h
  | true =>
   rw [hc] at h
   cases h
   simp only [af,bj] at hc
   refine ⟨rs.map TV.av,wk sJ,?_,?_,?_⟩
   ·intro q hq
    have:=hc.1 q hq
    rw [aP]
    rw [aH] at this
    cases e:rs[q.1]? with
    | none=>rw [e] at this;cases this
    | some x =>
     rw [e] at this
     cases x <;> simp [TV.H7] at this
     exact ⟨_,_,rfl⟩
   ·intro q hq
    have hq:d.new=some q:=hq
    have:=hc.2 q (by rw [hq];simp)
    rw [aP]
    rw [aH] at this
    cases e:rs[q.1]? with
    | none=>rw [e] at this;cases this
    | some x =>
     rw [e] at this
     cases x <;> simp [TV.H8] at this
     rfl
   ·simp only [List.map_append,bk]
    rfl
 ·cases h
theorem Ah (d:gn) (ins:List TV):(d.uG ins).av=d.erase.start (ins.map TV.av):=by
 unfold gn.uG FD.start
 have:d.erase.ref=d.ref:=rfl
 rw [this]
 have:d.erase.ps=d.ps:=rfl
 rw [this]
 cases d.ref with
 | none =>
  cases d.ps with
  | none=>exact oa _ _
  | some q =>
   obtain ⟨i,k,s⟩:=q
   simp only [oa,ao,List.map_set]
   congr 2
   simp only [aH,aP]
   cases ins[i]? <;> rfl
 | some q =>
  obtain ⟨i,m⟩:=q
  simp only [oa,ao,List.map_set]
  congr 2
  simp only [aH,aP]
  cases ins[i]? <;> rfl
theorem G3 {E:eg} {d:gn} {ins outs:List TV} (h:d.run E ins=some outs):d.erase.runs E.env (ins.map TV.av) (outs.map TV.av):=by
 have h:ev (List TV) E d.m (d.uG ins) (gb d)=some outs:=h
 rw [←gr] at h
 have:=LV h
 unfold FD.runs
 rw [←Ah]
 refine lu (fun e σ q=>?_) this
 obtain ⟨jH,rfl,q⟩:=q
 cases e with
 | exit i=>cases q
 | normal=>exact zj q
 | ret=>exact zj q
theorem D4 {P:Program} {E:eg} (hE:∀f,fF P E.env.gl f (eZ.fs (E.fs f))) {f:Nat} {fn:Func} {d:gn} (hf:P.funcs[f]?=some fn)
  (hc:iN P (fun n=>(E.fs n).2) fn d.erase=true) {c:eZ} (hG:∀ins outs,(c ins).holds outs→ins.length=d.np∧d.run E ins=some (outs++d.ps.toList.map fun q=>ins.getD q.1 .dead)):fF P E.env.gl f (eZ.fs (c,d.erase.sg)):=by
 refine uH (E:=E.env) (sg:=fun n=>(E.fs n).2) (fun n=>⟨hE n,rfl⟩) hf hc rfl ?_
 rintro ins outs ⟨ti,gZ,rfl,rfl,h⟩
 obtain ⟨h1,h2⟩:=hG ti gZ h
 refine ⟨by simpa [gn.erase] using h1,?_⟩
 have:=G3 h2
 rw [List.map_append,bk] at this
 have e:d.ps.toList.map (TV.av ∘ fun q=>ti.getD q.1 .dead)=d.erase.ps.toList.map fun q=>(ti.map TV.av).getD q.1 .dead:=by
  show _=d.ps.toList.map _
  refine List.map_congr_left fun q _=>?_
  simp only [Function.comp_apply,aH,aP]
  cases ti[q.1]? <;> rfl
 rwa [e] at this
end Go.Eng
namespace Go.Eng
open Go.RowKit
def Old (w:World):Reach:=fun b _=>b<w.heap.size
theorem calls_of_spec {P:Program} {gl:Nat→AV} {f:Nat} {c:eZ} {sg:dw} (Q4:sg={}) (h:fF P gl f (eZ.fs (c,sg))) {ti:List TV} {xs:List Value} {w:World}
  (yq:∀n,Rep (Old w) w (gl n) (.pointer (some ⟨n,0,none⟩))) (hc:(c ti).holds [.b true]) (ha:gT (Old w) w (ti.map TV.av) xs) :
  Calls P f ⟨xs⟩ w fun e w'=>e = .returned (.bool true)∧Below w.heap.size w w':=by
 subst Q4
 refine (h.1 rfl w (Old w) (ti.map TV.av) [.v (.bool true)] xs ⟨ti,[.b true],rfl,rfl,hc⟩ (fun b o hb=>hb) yq ha).mono ?_
 rintro e w' ⟨x,R',rfl,hx,hr,ho⟩
 obtain ⟨ju,tr,gZ,tn,bn,br,cn,cr,h1,h2,h3,h4,_⟩:=ho
 refine ⟨?_,hx.os,hx.tape,hx.output,hx.size,fun k hk=>hx.heap k hk id⟩
 congr 1
 rw [h2]
 have h1:ju.length=1:=h1
 match ju,h1 with
 | [y],_ =>
  have h4:gT R' w' [.v (.bool true)] [y]:=h4
  cases h4 with
  | cons a _=>cases a;rfl
theorem JC {n:Int} (h:(Lit.int .u8 n).wf=true):((UInt8.ofInt n).toNat:Int)=n:=by
 have hx:0≤n∧n≤255:=by simpa [Lit.wf,IntKind.min,IntKind.max,IntKind.signed,IntKind.bits] using h
 rw [r8,wrap_u8'];omega
def zn:eZ × dw:=(fun _ => .err,{})
theorem qD {P:Program} {gl:Nat→AV} {f:Nat}:fF P gl f (eZ.fs zn):=by
 refine ⟨fun _=>?_,fun i s lO=>by cases lO⟩
 intro w R ins outs xs hg
 obtain ⟨ti,gZ,_,_,h⟩:=hg
 exact h.elim
def cM (gl:Nat→TV) (l:List (Nat × (eZ × dw))):eg:=⟨fun n=>look l n,gl⟩
where look:List (Nat × (eZ × dw))→Nat→eZ × dw
 | [],_=>zn
 | (k,c) :: r,n=>cond (Nat.beq n k) c (look r n)
theorem IS {P:Program} {gl:Nat→TV} {l:List (Nat × (eZ × dw))} (h:∀p∈l,fF P (fun n=>(gl n).av) p.1 (eZ.fs p.2)):∀f,fF P (cM gl l).env.gl f (eZ.fs ((cM gl l).fs f)):=by
 intro f
 show fF P (fun n=>(gl n).av) f (eZ.fs (cM.look l f))
 induction l with
 | nil=>exact qD
 | cons p r ih =>
  obtain ⟨k,c⟩:=p
  simp only [cM.look]
  cases hb:Nat.beq f k with
  | true=>rw [ay hb];exact h (k,c) (List.mem_cons_self ..)
  | false=>exact ih fun q hq=>h q (List.mem_cons_of_mem _ hq)
theorem meets {P:Program} {gl:Nat→TV} {l:List (Nat × (eZ × dw))} (hE:∀p∈l,fF P (fun n=>(gl n).av) p.1 (eZ.fs p.2)) {f:Nat} {d:gn}
  (hc:((P.funcs[f]?).any fun fn=>iN P (fun n=>((cM gl l).fs n).2) fn d.erase)=true) {c:eZ} (hG:∀ins outs,(c ins).holds outs→ins.length=d.np∧d.run (cM gl l) ins=some (outs++d.ps.toList.map fun q=>ins.getD q.1 .dead)) :
  fF P (fun n=>(gl n).av) f (eZ.fs (c,d.erase.sg)):=by
 cases hf:P.funcs[f]? with
 | none=>rw [hf] at hc;cases hc
 | some fn =>
  rw [hf] at hc
  exact D4 (E:=cM gl l) (IS hE) hf hc hG
theorem all_nil {A:Type} {p:A→Prop}:∀x∈([]:List A),p x:=fun _ h=>by cases h
theorem all_cons {A:Type} {p:A→Prop} {a:A} {l:List A} (h:p a) (t:∀x∈l,p x):∀x∈a :: l,p x:=fun x hx=>by
 rcases bq.1 hx with rfl | hx
 ·exact h
 ·exact t x hx
end Go.Eng
namespace Go.Eng
open Go.RowKit
theorem ja {P:Program} {gl:Nat→AV} {f:Nat} {sg:dw} {c':eZ} (h:∀ti gZ,(c' ti).holds gZ→∃c:eZ,fF P gl f (eZ.fs (c,sg))∧(c ti).holds gZ):fF P gl f (eZ.fs (c',sg)):=by
 refine ⟨fun lO w R ins outs xs hG h1 h2 h3=>?_,fun i s lO w R ins outs xs v es hG h1 h2 h3 h4 h5 h6 h7=>?_⟩
 ·obtain ⟨ti,gZ,e1,e2,hc⟩:=hG
  obtain ⟨c,hs,hc⟩:=h ti gZ hc
  exact hs.1 lO w R ins outs xs ⟨ti,gZ,e1,e2,hc⟩ h1 h2 h3
 ·obtain ⟨ti,gZ,e1,e2,hc⟩:=hG
  obtain ⟨c,hs,hc⟩:=h ti gZ hc
  exact hs.2 i s lO w R ins outs xs v es ⟨ti,gZ,e1,e2,hc⟩ h1 h2 h3 h4 h5 h6 h7
theorem fA {P:Program} {gl:Nat→AV} {f:Nat} {sg:dw} {c:eZ} (h:∀ti gZ,¬(c ti).holds gZ):fF P gl f (eZ.fs (c,sg)) :=
 ⟨fun _ _ _ _ _ _ hG=>by obtain ⟨_,_,_,_,hc⟩:=hG;exact (h _ _ hc).elim,fun _ _ _ _ _ _ _ _ _ _ hG=>by obtain ⟨_,_,_,_,hc⟩:=hG;exact (h _ _ hc).elim⟩
theorem nW (j k:Nat):(lk j=lk k)=(j=k):=propext ⟨j7,fun e=>by rw [e]⟩
theorem nV {k n:Nat} (h:n<1000000):(lk k=n)=False:=by have:=iu k;simp;omega
theorem lG {k n:Nat} (h:n<1000000):(n=lk k)=False:=by have:=iu k;simp;omega
section
variable {E:Env} {Q:MX→Sg→Prop} {σ:Sg}
theorem rg {m:oU} {ms:List oU} {ws:List AV} (hg:m.gd=none) (hs:fW E m.k (m.rs.map (eI.ev E σ)) ws) (hl:ws.length=m.ds.length) (h:oJ E (.fD ms) Q (cY σ m.ds ws)):oJ E (.fD (m :: ms)) Q σ:=by
 obtain ⟨eX,h1,h2⟩:=h
 refine ⟨eX,⟨cY σ m.ds ws,⟨ws,?_,hl,rfl⟩,h1⟩,h2⟩
 rw [hg];exact hs
theorem mb (h:Q .normal σ):oJ E (.fD []) Q σ:=⟨σ,rfl,h⟩
theorem sq {a b:M} (h:oJ E a (fun e eX=>match e with | .normal=>oJ E b Q eX | e=>Q e eX) σ):oJ E (.seq a b) Q σ:=by
 show oJ E a _ σ
 refine lu (fun e eX q=>?_) h
 cases e with
 | normal=>exact ⟨eX,fun _ => .inl rfl,q⟩
 | exit i=>exact q
 | ret=>exact q
end
def I2 (s:Nat):M := .seq (.fD [⟨.mv,[.s 0],[3],none⟩,⟨.Kt,[.s 3],[4],none⟩]) (.cond (.s 4) [] (.seq (.fD [⟨.nl 101 s,[.s (lk 101)],[2,lk 101],none⟩]) .ret) .skip)
def Ds (s b:Nat):M := .seq (.fD [⟨.blt s 0 102,[.s (lk 102)],[5,lk 102],none⟩,⟨.mv,[.s 0],[6],none⟩,
 ⟨.ap 102 103 s b,[.s 5,.s 6,.s (lk 102),.s (lk 103)],[7,lk 102,lk 103],none⟩,⟨.mv,[.s 7],[2],none⟩]) .ret
def sW (s b:Nat):FD:={ np:=1,m := .seq (.fD [⟨.mv,[.c (.sl s [])],[2],none⟩]) (.seq (I2 s) (Ds s b)),res:=[.t 2],own:=[(0,s)] }
theorem yD (E:Env) (s b:Nat) (es:List AV) (hc:∀x∈es,x.cells.length=s) (h1:es.length≤maxLen) (h2:es.length * b≤140737488355328):(sW s b).runs E [.sl s es] [.sl s es]:=by
 have hB:∀σ:Sg,σ 0 = .sl s es→oJ E (Ds s b) (fun e σ=>match e with | .exit _=>False | _=>(sW s b).vJ σ [.sl s es]) σ:=by
  intro σ h0
  refine sq (rg (ws:=[.sl s [],.dead]) rfl ⟨rfl,fun x hx=>(by cases hx),rfl⟩ rfl ?_)
  refine rg (ws:=[.sl s es]) rfl (by simp [fW,eI.ev,cY,dP,nW,nV,lG,h0]) rfl ?_
  refine rg (ws:=[.sl s es,.dead,.dead]) rfl ⟨rfl,rfl,hc,by simpa using h1,by simpa using h2,by simp⟩ rfl ?_
  refine rg (ws:=[.sl s es]) rfl rfl rfl ?_
  refine mb ?_
  exact ⟨[.sl s es],rfl,fun q hq=>(by simp [sW] at hq;subst hq;exact ⟨s,es,rfl⟩),fun q hq=>(by cases hq),rfl⟩
 refine sq (rg (ws:=[.sl s []]) rfl rfl rfl (mb ?_))
 refine sq ?_
 refine sq (rg (ws:=[.sl s es]) rfl rfl rfl ?_)
 cases es with
 | nil =>
  refine rg (ws:=[.ab]) rfl rfl rfl (mb ?_)
  refine .inr ⟨rfl,?_,?_⟩
  ·refine sq (rg (ws:=[.sl s [],.dead]) rfl rfl rfl (mb ?_))
   exact ⟨[.sl s []],rfl,fun q hq=>(by simp [sW] at hq;subst hq;exact ⟨s,[],rfl⟩),fun q hq=>(by cases hq),rfl⟩
  ·exact hB _ rfl
 | cons e es =>
  refine rg (ws:=[.v (.bool false)]) rfl rfl rfl (mb ?_)
  refine .inl ⟨false,rfl,fun h=>(by cases h),fun _=>?_⟩
  exact hB _ rfl
def Fc (s:Nat):M := .seq (.fD [⟨.mv,[.s 0],[3],none⟩,⟨.FK 999999,[.s 3,.s (lk 999999)],[4],none⟩]) (.cond (.s 4) [] (.seq (.fD [⟨.mv,[.c (.sl s [])],[2],none⟩]) .ret) .skip)
def zZ (s b:Nat):M := .seq (.fD [⟨.blt s 0 102,[.s (lk 102)],[5,lk 102],none⟩,⟨.mv,[.s 0],[6],none⟩,
 ⟨.Fs 102 103 999999 s b,[.s 5,.s 6,.s (lk 102),.s (lk 103),.s (lk 999999)],[7,lk 102,lk 103],none⟩,⟨.mv,[.s 7],[2],none⟩]) .ret
def kd (s b:Nat):FD:={ np:=1,m := .seq (.fD [⟨.mv,[.c (.sl s [])],[2],none⟩]) (.seq (Fc s) (zZ s b)),res:=[.t 2],ps:=some (0,999999,s) }
theorem xy (E:Env) (s b:Nat) (es:List AV) (h1:es.length≤maxLen) (h2:es.length * b≤140737488355328):(kd s b).runs E [.sl s es] ([.sl s es]++[.sl s es]):=by
 have hB:∀σ:Sg,σ 0 = .pt→σ (lk 999999) = .sl s es→oJ E (zZ s b) (fun e σ=>match e with | .exit _=>False | _=>(kd s b).vJ σ ([.sl s es]++[.sl s es])) σ:=by
  intro σ h0 h9
  refine sq (rg (ws:=[.sl s [],.dead]) rfl ⟨rfl,fun x hx=>(by cases hx),rfl⟩ rfl ?_)
  refine rg (ws:=[.pt]) rfl (by simp [fW,eI.ev,cY,dP,nW,nV,lG,h0]) rfl ?_
  refine rg (ws:=[.sl s es,.dead,.dead]) rfl ?_ rfl ?_
  ·simp [fW,eI.ev,cY,dP,nW,nV,lG,h9]
   exact ⟨h1,h2⟩
  refine rg (ws:=[.sl s es]) rfl rfl rfl ?_
  refine mb ?_
  refine ⟨[.sl s es],rfl,fun q hq=>(by cases hq),fun q hq=>(by cases hq),?_⟩
  simp [kd,cY,dP,nW,nV,lG,h9]
 have EM:(kd s b).start [.sl s es] 0 = .pt:=by simp [kd,FD.start,head,cY,dP,nW,nV,lG,List.range,List.range.loop]
 have Q5:(kd s b).start [.sl s es] (lk 999999) = .sl s es:=by simp [kd,FD.start,head,cY,dP,nW,nV,lG,List.range,List.range.loop]
 have go:∀σ:Sg,σ 0 = .pt→σ (lk 999999) = .sl s es→oJ E (kd s b).m (fun e σ=>match e with | .exit _=>False | _=>(kd s b).vJ σ ([.sl s es]++[.sl s es])) σ:=by
  intro σ h0 h9
  refine sq (rg (ws:=[.sl s []]) rfl rfl rfl (mb ?_))
  refine sq ?_
  refine sq (rg (ws:=[.pt]) rfl (by simp [fW,eI.ev,cY,dP,h0]) rfl ?_)
  cases es with
  | nil =>
   refine rg (ws:=[.ab]) rfl (by simp [fW,eI.ev,cY,dP,nW,nV,lG,h9]) rfl (mb ?_)
   refine .inr ⟨rfl,?_,?_⟩
   ·refine sq (rg (ws:=[.sl s []]) rfl rfl rfl (mb ?_))
    refine ⟨[.sl s []],rfl,fun q hq=>(by cases hq),fun q hq=>(by cases hq),?_⟩
    simp [kd,cY,dP,nW,nV,lG,h9]
   ·exact hB _ (by simp [cY,dP,h0]) (by simp [cY,dP,nW,nV,lG,h9])
  | cons e es =>
   refine rg (ws:=[.v (.bool false)]) rfl (by simp [fW,eI.ev,cY,dP,nW,nV,lG,h9]) rfl (mb ?_)
   refine .inl ⟨false,rfl,fun h=>(by cases h),fun _=>?_⟩
   exact hB _ (by simp [cY,dP,h0]) (by simp [cY,dP,nW,nV,lG,h9])
 exact go _ EM Q5
def oe (t:eN) (b:Nat):eZ:=fun l=>match l with
 | [.sl t' l]=>if t'=t then .fG (gg l.length b) [.sl t' l] else .err
 | _ => .err
theorem eN.I9 (t:eN) (l:List t.El):∀x∈l.map t.av,x.cells.length=t.size:=by
 intro x hx;obtain ⟨y,_,rfl⟩:=aW.1 hx;exact (t.mV y).2
theorem Dr {P:Program} {gl:Nat→AV} {t:eN} {b f:Nat} (hc:((P.funcs[f]?).any fun fn=>iN P (fun _=>{}) fn (sW t.size b))=true):fF P gl f (eZ.fs (oe t b,{ own:=[(0,t.size)] })):=by
 cases hf:P.funcs[f]? with
 | none=>rw [hf] at hc;cases hc
 | some fn =>
  rw [hf] at hc
  refine uH (E:=⟨fun _=>eZ.fs zn,gl⟩) (sg:=fun _=>{}) (fun n=>⟨qD,rfl⟩) hf hc rfl ?_
  rintro ins outs ⟨ti,gZ,rfl,rfl,h⟩
  replace h:(oe t b ti).holds gZ:=h
  unfold oe at h
  split at h
  ·rename_i t' l
   split at h
   ·rename_i e
    subst e
    obtain ⟨h1,rfl⟩:=h
    obtain ⟨h1,h2⟩:=kh.1 h1
    refine ⟨rfl,?_⟩
    exact yD _ _ _ _ (eN.I9 _ l) (by simpa using h1) (by simpa using h2)
   ·exact h.elim
  ·exact h.elim
theorem AY {P:Program} {gl:Nat→AV} {t:eN} {b f:Nat} (hc:((P.funcs[f]?).any fun fn=>iN P (fun _=>{}) fn (kd t.size b))=true):fF P gl f (eZ.fs (oe t b,{ ps:=some (0,t.size) })):=by
 cases hf:P.funcs[f]? with
 | none=>rw [hf] at hc;cases hc
 | some fn =>
  rw [hf] at hc
  refine uH (E:=⟨fun _=>eZ.fs zn,gl⟩) (sg:=fun _=>{}) (fun n=>⟨qD,rfl⟩) hf hc rfl ?_
  rintro ins outs ⟨ti,gZ,rfl,rfl,h⟩
  replace h:(oe t b ti).holds gZ:=h
  unfold oe at h
  split at h
  ·rename_i t' l
   split at h
   ·rename_i e
    subst e
    obtain ⟨h1,rfl⟩:=h
    obtain ⟨h1,h2⟩:=kh.1 h1
    refine ⟨rfl,?_⟩
    exact xy _ _ _ _ (by simpa using h1) (by simpa using h2)
   ·exact h.elim
  ·exact h.elim
end Go.Eng
namespace Go.Eng
open Go.RowKit
def lW (P:Program) (n:Nat) (t:TypeId) (A:Type) (g:A→List AV):Prop :=
 ∀(H:Type) (enc:TypeId × Value→H) (w:World) (base:Nat) (spare:Nat→Bool) (held:Bool) (cs:List Value) (x:DataW H × List MemPlace),DataW.trod enc P w base spare held n t cs=some x→∃a:A,eS (Old w) w (g a) cs
section
variable {P:Program} {n:Nat} {t:TypeId}
theorem qI {k:IntKind} (ht:P.underlying t=some (.int k)):lW P n t Int fun m=>[.v (.int k m)]:=by
 intro H enc w base spare held cs x h
 obtain ⟨m,rfl,_,_⟩:=DataW.trod_int ht h
 exact ⟨m,.cons rfl (.v _) .nil⟩
theorem GJ {n:Int} (h:(Lit.int .u64 n).wf=true):((UInt64.ofInt n).toNat:Int)=n:=by
 have hx:0≤n∧n≤18446744073709551615:=by simpa [Lit.wf,IntKind.min,IntKind.max,IntKind.signed,IntKind.bits] using h
 have e:IntKind.u64.wrap n=n % (18446744073709551616:Nat):=by simp [IntKind.wrap,IntKind.bits,IntKind.signed]
 rw [lp,e];omega
theorem ow (ht:P.underlying t=some (.int .u64)):lW P n t UInt64 fun m=>[jX m]:=by
 intro H enc w base spare held cs x h
 obtain ⟨m,rfl,_,hw⟩:=DataW.trod_int ht h
 refine ⟨UInt64.ofInt m,.cons rfl ?_ .nil⟩
 rw [jX,GJ hw];exact .v _
theorem BU (ht:P.underlying t=some (.int .u8)):lW P n t UInt8 fun m=>[fT m]:=by
 intro H enc w base spare held cs x h
 obtain ⟨m,rfl,_,hw⟩:=DataW.trod_int ht h
 refine ⟨UInt8.ofInt m,.cons rfl ?_ .nil⟩
 rw [fT,JC hw];exact .v _
theorem ox (ht:P.underlying t=some .string):lW P n t bY fun m=>[iP m]:=by
 intro H enc w base spare held cs x h
 obtain ⟨m,rfl,_,_⟩:=DataW.trod_string ht h
 exact ⟨m.data.toList,.cons rfl (.v _) .nil⟩
theorem nU {e:TypeId} {A:Type} {av:A→AV} {s:Nat} (ht:P.underlying t=some (.slice e)) (hs:P.cellsOf e=s) (On:0<s) (RD:∀a,(av a).cells.length=s) (he:∀m,m<n→lW P m e A fun a=>(av a).cells):lW P n t (List A) fun l=>[.sl s (l.map av)]:=by
 intro H enc w base spare held cs x h
 rcases DataW.trod_slice ht h with ⟨rfl,_⟩ | ⟨a,len,cap,elems,rest,m,rfl,rfl,_,_,h2,h3,h4,h5,_,_⟩
 ·exact ⟨[],.cons rfl (.nil _) .nil⟩
 ·by_cases h0:len=0
  ·subst h0;exact ⟨[],.cons rfl (.em _ h3) .nil⟩
  ·have get:∀i,i<len→∃ys,w.cells? base (a.add (i * s)) s=some ys∧∃y:A,eS (Old w) w (av y).cells ys:=fun i hi=>by
    have:=h5 i hi
    rw [hs] at this
    have gS:i<elems.length:=by omega
    rw [aD gS] at this
    obtain ⟨ys,h6,h7⟩:=bt.1 this
    exact ⟨ys,h6,he m (Nat.lt_succ_self m) H enc w base spare held ys _ h7⟩
   have Gf:a.spot=none:=by
    obtain ⟨ys,h6,_⟩:=get 0 (by omega)
    obtain ⟨_,h7,h8⟩:=World.cells?_some h6
    have h9:=h8 0 On
    cases hy:ys[0]? with
    | none=>rw [List.getElem?_eq_none_iff] at hy;omega
    | some y=>rw [hy] at h9;simpa [Addr.add] using World.cell?_spot h9
   obtain ⟨b,off,spot⟩:=a
   simp only at Gf
   subst Gf
   have key:∀k i,i+k=len→∃l:List A,l.length=k∧jf (Old w) w s (l.map av) b (off+i * s):=by
    intro k
    induction k with
    | zero=>exact fun i _=>⟨[],rfl,.nil _ _ _⟩
    | succ k ih =>
     intro i hi
     obtain ⟨l,hl,hE⟩:=ih (i+1) (by omega)
     obtain ⟨ys,h6,y,h7⟩:=get i (by omega)
     obtain ⟨_,h8,h9⟩:=World.cells?_some h6
     refine ⟨y :: l,by simp [hl],.cons (kY.write (RD y) h7 (fun j hj=>?_) (fun j z hz=>?_)) ?_⟩
     ·have nA:=h9 j hj
      have Rn:j<ys.length:=by omega
      rw [aD Rn] at nA
      have gS:b<w.heap.size:=by
       by_cases gS:b<w.heap.size
       ·exact gS
       ·have:w.heap[b]?=none:=Array.getElem?_eq_none (by omega)
        rw [gC,gC] at nA
        simp only [World.cell?,this] at nA
        cases nA
      exact gS
     ·have hj:j<s:=by have:=(aE.1 hz).1;omega
      have nA:=h9 j hj
      rw [hz,gC,gC] at nA
      exact nA
     ·rw [show off+i * s+s=off+(i+1) * s by rw [Nat.succ_mul];omega];exact hE
   obtain ⟨l,hl,hE⟩:=key len 0 (by omega)
   refine ⟨l,.cons rfl (.sl (by simp [hl]) h2 h3 ?_) .nil⟩
   simpa using hE
def lN (P:Program) (n:Nat) (fs:List (TypeId × Nat)) (off:Nat) (A:Type) (g:A→List AV):Prop :=
 ∀(H:Type) (enc:TypeId × Value→H) (w:World) (base:Nat) (spare:Nat→Bool) (held:Bool) (cs:List Value),(∀f∈fs,∃x:DataW H × List MemPlace,DataW.trod enc P w base spare held n f.1 ((cs.drop f.2).take (P.cellsOf f.1))=some x)→cs.length=off+(fs.map fun f=>P.cellsOf f.1).sum→∃a:A,eS (Old w) w (g a) (cs.drop off)
theorem uP {off:Nat}:lN P n [] off Unit fun _=>[]:=by
 intro H enc w base spare held cs _ hl
 refine ⟨(),?_⟩
 rw [aJ (by simp at hl;omega)];exact .nil
theorem hY {t:TypeId} {fs:List (TypeId × Nat)} {off c:Nat} {A B:Type} {g:A→List AV} {g':B→List AV} (hc:P.cellsOf t=c) (h:lW P n t A g) (hr:lN P n fs (off+c) B g'):lN P n ((t,off) :: fs) off (A × B) fun p=>g p.1++g' p.2:=by
 subst hc
 intro H enc w base spare held cs hx hl
 obtain ⟨x,h1⟩:=hx (t,off) (List.mem_cons_self ..)
 obtain ⟨a,ha⟩:=h H enc w base spare held _ x h1
 obtain ⟨b,hb⟩:=hr H enc w base spare held cs (fun f' wV=>hx f' (List.mem_cons_of_mem _ wV)) (by simp only [ao,List.sum_cons] at hl;omega)
 refine ⟨(a,b),?_⟩
 have e:cs.drop off=(cs.drop off).take (P.cellsOf t)++cs.drop (off+P.cellsOf t):=by
  rw [←List.drop_drop];exact (List.take_append_drop _ _).symm
 rw [e];exact ha.append hb
theorem nd {fs:Array Field} {l:List (TypeId × Nat)} {A B:Type} {g:A→List AV} {g':B→List AV} (ht:P.underlying t=some (.struct fs)) (hl:(fs.toList.map fun f=>(f.type,f.offset))=l) (hc:P.cellsOf t=(l.map fun f=>P.cellsOf f.1).sum) (hr:∀m,m<n→lN P m l 0 A g) (f:A→B) (hf:∀a,g a=g' (f a)):lW P n t B g':=by
 intro H enc w base spare held cs x h
 obtain ⟨xs,m,rfl,_,h1,h2,h3⟩:=DataW.trod_struct ht h
 obtain ⟨a,ha⟩:=hr m (Nat.lt_succ_self m) H enc w base spare held cs (fun p hp=>by
  rw [←hl] at hp
  obtain ⟨f,hf,rfl⟩:=aW.1 hp
  obtain ⟨i,hi⟩:=bC hf
  have gS:=(aE.1 hi).1
  have:=h3 i f (by simpa using hi)
  have yo:i<xs.length:=by rw [h2];simpa using gS
  rw [aD yo] at this
  exact ⟨_,this⟩) (by rw [h1,hc];simp)
 exact ⟨f a,by rw [←hf];simpa using ha⟩
def fieldsOf (P:Program) (t:TypeId):Option (List (TypeId × Nat)):=match P.underlying t with
 | some (.struct fs)=>some (fs.toList.map fun f=>(f.type,f.offset))
 | _=>none
theorem mq {l:List (TypeId × Nat)} (h:fieldsOf P t=some l):∃fs,P.underlying t=some (.struct fs)∧(fs.toList.map fun f=>(f.type,f.offset))=l:=by
 unfold fieldsOf at h
 split at h
 ·rename_i fs e;cases h;exact ⟨fs,e,rfl⟩
 ·cases h
structure vI (P:Program) (tv tf tk ti tu ts tb ty:TypeId):Prop where
 v:fieldsOf P tv=some [(ti,0),(tu,1),(tu,2),(tu,3),(ts,4),(ts,5),(ti,6),(tb,7),(tk,8)]
 f:fieldsOf P tf=some [(ts,0),(tv,1)]
 k:P.underlying tk=some (.slice tf)
 i:P.underlying ti=some (.int .i64)
 u:P.underlying tu=some (.int .u64)
 s:P.underlying ts=some .string
 b:P.underlying tb=some (.slice ty)
 y:P.underlying ty=some (.int .u8)
 cv:P.cellsOf tv=9
 cf:P.cellsOf tf=10
 ck:P.cellsOf tk=1
 ci:P.cellsOf ti=1
 cu:P.cellsOf tu=1
 cs:P.cellsOf ts=1
 cb:P.cellsOf tb=1
 cy:P.cellsOf ty=1
def bI.yU (v:bI):List AV:=(bI.cells v).map TV.av
theorem rb {y:TypeId} (ht:P.underlying t=some (.slice y)) (hy:P.underlying y=some (.int .u8)) (hc:P.cellsOf y=1):lW P n t bY fun l=>[kg l] :=
 nU (av:=fT) ht hc (by omega) (fun _=>rfl) fun _ _=>BU hy
theorem vI.val {tv tf tk ti tu ts tb ty:TypeId} (T:vI P tv tf tk ti tu ts tb ty):∀n,lW P n tv bI bI.yU∧lW P n tf bM fun f=>(qi f).cells:=by
 intro n
 induction n using Nat.strongRecOn with
 | _ n ih =>
  have hv:∀m,m≤n→(∀k,k<m→lW P k tf bM fun f=>(qi f).cells)→lW P m tv bI bI.yU:=fun m hm QK=>by
   obtain ⟨fs,h1,h2⟩:=mq T.v
   have R:=fun (k:Nat) (hk:k<m)=>(hY (off:=0) T.ci (qI T.i) (hY T.cu (ow T.u) (hY T.cu (ow T.u) (hY T.cu (ow T.u) (hY T.cs (ox T.s) (hY T.cs (ox T.s) (hY T.ci (qI T.i) (hY T.cb (rb T.b T.y T.cy)
     (hY T.ck (nU (av:=qi) T.k T.cf (by omega) (fun f=>by cases f;rfl) fun j hj=>QK j (by omega)) uP)))))))):lN P k _ 0 _ _)
   exact nd h1 h2 (by simp [T.cv,T.ci,T.cu,T.cs,T.cb,T.ck]) R (fun a=>(⟨a.1,a.2.1,a.2.2.1,a.2.2.2.1,a.2.2.2.2.1,a.2.2.2.2.2.1,a.2.2.2.2.2.2.1,a.2.2.2.2.2.2.2.1,a.2.2.2.2.2.2.2.2.1⟩:bI)) (fun a=>rfl)
  refine ⟨hv n (Nat.le_refl n) fun k hk=>(ih k hk).2,?_⟩
  obtain ⟨fs,h1,h2⟩:=mq T.f
  have R:=fun (k:Nat) (hk:k<n)=>(hY (off:=0) T.cs (ox T.s) (hY T.cv (hv k (by omega) fun j hj=>(ih j (by omega)).2) uP):lN P k _ 0 _ _)
  exact nd h1 h2 (by simp [T.cf,T.cv,T.cs]) R (fun a=>bM.of a.1 a.2.1) (fun a=>by
   simp [qi,bM.of,AV.cells,bI.yU,bI.cells,TV.av,ni,eN.size,eN.av,iP,tY,jX,kg])
theorem vI.rep {tv tf tk ti tu ts tb ty:TypeId} (T:vI P tv tf tk ti tu ts tb ty) {H:Type} {enc:TypeId × Value→H} {w:World} {base:Nat} {spare:Nat→Bool} {held:Bool} {cs:Array Value} {d:DataW H} {p:List MemPlace} (h:DataW.Trod enc P w base spare held tv (.agg cs) d p) :
  ∃v:bI,Rep (Old w) w (TV.av (.ag (bI.cells v))) (.agg cs):=by
 obtain ⟨n,h⟩:=h
 obtain ⟨v,hv⟩:=(T.val n).1 H enc w base spare held _ _ h
 refine ⟨v,?_⟩
 simp only [TV.av,TV.fY]
 exact .ag (by have hv:eS (Old w) w (v.cells.map TV.av) _:=hv;simpa [Value.cells] using hv)
end
end Go.Eng
namespace Go.Eng
open Go.IntWalk
theorem bL {R:Type} {p:Bool} {x:Option R} (h:p=true):ck p x=x:=by rw [h];rfl
theorem Sb (a b:Bool):(!a || (a&&(b || (a&&!b))))=true:=by cases a <;> cases b <;> rfl
theorem Sa (a b:Bool):(!a || (a&&(!b || (a&&b))))=true:=by cases a <;> cases b <;> rfl
theorem qJ:maxLen=9223372036854775807:=by decide
theorem rU {n:Nat} (h:n≤1099511627776):lH n=true:=mP.2 (by rw [qJ];omega)
theorem fu {n b:Nat} (h:n * b≤140737488355328) (h2:n≤140737488355328):gg n b=true:=kh.2 ⟨by rw [qJ];omega,h⟩
theorem fq {n:Int} {l:Nat} (h0:0≤n) (h1:n<l):eE n l=true:=ky.2 ⟨h0,h1⟩
theorem ij {a b:Int} {l:Nat} (h0:0≤a) (h1:a≤b) (h2:b≤l):hZ a b l=true:=kA.2 ⟨h0,h1,h2⟩
theorem lR (n:Nat):(BitVec.ofInt 64 (n:Int))=BitVec.ofNat 64 n:=by
 apply BitVec.eq_of_toNat_eq;rw [BitVec.toNat_ofInt,BitVec.toNat_ofNat];omega
theorem Fu (a b:Nat) (ha:a<9223372036854775808) (hb:b<9223372036854775808):eF .and .i64 a b=((a &&& b:Nat):Int):=by
 have h1:a &&& b≤a:=Nat.and_le_left
 have e:eF .and .i64 a b=IntKind.i64.wrap (((BitVec.ofInt 64 (a:Int) &&& BitVec.ofInt 64 (b:Int)).toNat:Nat):Int):=rfl
 rw [e,lR,lR,BitVec.toNat_and,BitVec.toNat_ofNat,BitVec.toNat_ofNat,Nat.mod_eq_of_lt (by omega),Nat.mod_eq_of_lt (by omega)]
 exact i64_in _ (by omega)
theorem JZ {a b k:Nat} (ha:a<2 ^ k) (hb:b<2 ^ k):a ||| b<2 ^ k:=Nat.or_lt_two_pow ha hb
theorem G9 (a b:Nat) (ha:a<9223372036854775808) (hb:b<9223372036854775808):eF .or .i64 a b=((a ||| b:Nat):Int):=by
 have h1:a ||| b<9223372036854775808:=JZ (k:=63) (by simpa using ha) (by simpa using hb)
 have e:eF .or .i64 a b=IntKind.i64.wrap (((BitVec.ofInt 64 (a:Int) ||| BitVec.ofInt 64 (b:Int)).toNat:Nat):Int):=rfl
 rw [e,lR,lR,BitVec.toNat_or,BitVec.toNat_ofNat,BitVec.toNat_ofNat,Nat.mod_eq_of_lt (by omega),Nat.mod_eq_of_lt (by omega)]
 exact i64_in _ (by omega)
theorem BT {a b k:Nat} (hb:b<2 ^ k):(a * 2 ^ k) ||| b=a * 2 ^ k+b:=by
 rw [←Nat.shiftLeft_eq,Nat.shiftLeft_add_eq_or_of_lt hb]
theorem drop_cons {α:Type} {l:List α} {i:Nat} (hi:i<l.length) (d:α):l.drop i=l.getD i d :: l.drop (i+1):=by
 rw [List.drop_eq_getElem_cons hi,aH,aD hi];rfl
theorem jv (n:Nat):(UInt64.ofInt (n:Int)).toNat=n % 18446744073709551616:=by
 have h:=lp (n:Int)
 rw [je] at h;omega
theorem mZ (n:Nat):(UInt8.ofInt (n:Int)).toNat=n % 256:=by
 have h:=r8 (n:Int)
 rw [wrap_u8'] at h;omega
end Go.Eng
namespace Go.Eng
namespace ee
def kx (r:Int):Bool:=decide (0≤r∧r≤1114111∧(r<55296∨57343<r))
def cont:Nat→Nat→bY→Option Nat
 | r,0,_=>some r
 | _,_+1,[]=>none
 | r,k+1,c :: l=>if 128≤c.toNat∧c.toNat<192 then cont (r * 64+(c.toNat - 128)) k l else none
def mL (r more least:Nat) (l:bY):Int × Int :=
 match cont r more l with
 | some r=>if r<least∨kx r=false then (0,0) else ((r:Int),(more+1:Int))
 | none=>(0,0)
def rune:bY→Int × Int
 | []=>(0,0)
 | c :: l =>
  if c.toNat<128 then ((c.toNat:Int),1)
  else if 192≤c.toNat∧c.toNat<224 then mL (c.toNat - 192) 1 128 l
  else if 224≤c.toNat∧c.toNat<240 then mL (c.toNat - 224) 2 2048 l
  else if 240≤c.toNat∧c.toNat<248 then mL (c.toNat - 240) 3 65536 l
  else (0,0)
def iQ (b:bY) (i:Int):Int × Int:=if i<0∨(b.length:Int)≤i then (0,0) else rune (b.drop i.toNat)
def pY:Nat→bY→Nat × Nat
 | 0,_=>(0,0)
 | n+1,l=>if (rune l).2=0 then (0,0) else let q:=pY n (l.drop (rune l).2.toNat);(q.1+(rune l).2.toNat,q.2+1)
def look (l:bY):Nat × Nat:=pY l.length l
def whole (l:bY):Bool:=decide ((look l).1=l.length)
def zero (l:bY):Bool:=l.contains 0
end ee
end Go.Eng
namespace Go.Eng
mutual
def bM.c7:bM→Nat
 | .mk n _ _ _ _ t m _ y ks=>1+n.length+t.length+m.length+y.length+bM.db ks
def bM.db:List bM→Nat
 | []=>0
 | f :: r=>bM.c7 f+bM.db r
end
namespace Tree
def Au:List bY:=[[],[100,111,117,98,108,101],[115,116,114,105,110,103],[100,111,99,117,109,101,110,116],[97,114,114,97,121],[98,105,110,97,114,121],[117,110,100,101,102,105,110,101,100],[111,98,106,101,99,116,105,100],[98,111,111,108],[100,97,116,101],[110,117,108,108],[114,101,103,101,120],[112,111,105,110,116,101,114],[99,111,100,101],[115,121,109,98,111,108],[115,99,111,112,101,100],[105,110,116,51,50],[116,105,109,101,115,116,97,109,112],[105,110,116,54,52],[100,101,99,105,109,97,108]]
def name (k:Int):bY :=
 if k=127 then [109,97,120,107,101,121]
 else if k=255 then [109,105,110,107,101,121]
 else if k<0∨20≤k then []
 else Au.getD k.toNat []
def kinds:List Int:=[1,2,3,4,5,6,7,8,9,10,11,12,13,14,15,16,17,18,19,127,255]
def kind (s:bY):Int × Bool :=
 match kinds.find? (fun k=>decide (name k=s)) with
 | some k=>(k,true)
 | none=>(0,false)
def vv (i:Nat) (k:Int):Bool :=
 match i with
 | 0=>decide (k∈[1,9,17,18,16,8])
 | 1=>decide (k=19)
 | 2=>decide (k∈[2,13,14,11,12,15])
 | 3=>decide (k=11)
 | 4=>decide (k=5)
 | 5=>decide (k∈[5,7,12])
 | _=>decide (k∈[3,4,15])
def fI (v:bI):Bool :=
 (vv 0 v.kind || decide (v.bits=0))&&(vv 1 v.kind || (decide (v.high=0)&&decide (v.low=0)))&&(vv 2 v.kind || decide (v.text=[]))&&(vv 3 v.kind || decide (v.more=[])) &&
 (vv 4 v.kind || decide (v.sub=0))&&(vv 5 v.kind || decide (v.bytes=[]))&&(vv 6 v.kind || decide (v.kids=[])) &&
 (!decide (v.kind=16) || decide (v.bits<4294967296))&&(!decide (v.kind=8) || decide (v.bits<2))&&(decide (0≤v.sub)&&decide (v.sub≤255))&&(!(decide (v.kind=7) || decide (v.kind=12)) || decide (v.bytes.length=12))
def fK (s:bY) (plain:Bool):Bool:=ee.whole s&&!(plain&&ee.zero s)
def own (v:bI):Int :=
 if name v.kind=[] then 5
 else if fI v=false then 1
 else if fK v.text (decide (v.kind=11))=false∨fK v.more (decide (v.kind=11))=false then 4
 else 0
def rB (v:bI) (n:bY):Int:=if own v≠0 then own v else if fK n true=false then 4 else 0
mutual
def iN:bM→List Int→List Int × Int
 | .mk n k b h l t m s y ks,p=>if rB ⟨k,b,h,l,t,m,s,y,ks⟩ n≠0 then (p,rB ⟨k,b,h,l,t,m,s,y,ks⟩ n) else vF ks 0 p
def vF:List bM→Nat→List Int→List Int × Int
 | [],_,_=>([],0)
 | f :: r,i,p=>if (iN f (p++[(i:Int)])).2≠0 then iN f (p++[(i:Int)]) else vF r (i+1) p
end
mutual
def count:bM→Nat
 | .mk _ _ _ _ _ _ _ _ _ ks=>1+Dq ks
def Dq:List bM→Nat
 | []=>0
 | f :: r=>count f+Dq r
end
mutual
def depth:bM→Nat
 | .mk _ k _ _ _ _ _ _ _ ks=>if k=3∨k=4∨k=15 then nq ks+1 else 0
def nq:List bM→Nat
 | []=>0
 | f :: r=>max (depth f) (nq r)
end
noncomputable def same (a b:bI):Bool:=@decide (a=b) (Classical.propDecidable _)
def gH (a b:bI):Bool:=decide (a.kind=b.kind)&&decide (a.bits=b.bits)&&decide (a.high=b.high)&&decide (a.low=b.low)&&decide (a.text=b.text)&&decide (a.more=b.more)&&decide (a.sub=b.sub)&&decide (a.bytes=b.bytes)
end Tree
namespace qv
def room (left:Int):List Int→Int
 | []=>left
 | s :: r=>if left<0∨left<s then -1 else room (left - s) r
mutual
def value (left:Int):bM→Int
 | .mk _ _ _ _ _ t m _ y ks=>values (room left [2,t.length,m.length,y.length]) ks
def values (left:Int):List bM→Int
 | []=>left
 | f :: r=>if left<0 then left else values (value (room left [(f.name.length:Int)]) f) r
end
end qv
end Go.Eng
namespace Go.Eng
open Go.RowKit
theorem A1 {w w':World} {R:Reach} (hR:∀b o,R b o→b<w.heap.size) (h:Below w.heap.size w w'):Ext w R (fun _=>False) w' R :=
 ⟨h.os,h.tape,h.output,h.size,fun b hb _=>h.block b hb,fun b o hr=>⟨hr,by simp only [World.cell?,h.block b (hR b o hr)]⟩,fun b o hr => .inl hr⟩
theorem sj {P:Program} {gl:Nat→AV} {f:Nat} {c:eZ} (h:∀(ti gZ:List TV) (w:World) (R:Reach) (xs:List Value),(c ti).holds gZ→gT R w (ti.map TV.av) xs→(∀b o,R b o→b<w.heap.size)→(∀n,Rep R w (gl n) (.pointer (some ⟨n,0,none⟩))) →
  Calls P f ⟨xs⟩ w fun e w'=>∃x,e = .returned x∧Below w.heap.size w w'∧∀R w',gT R w' (gZ.map TV.av) [x]):fF P gl f (eZ.fs (c,{})):=by
 refine ⟨fun _ w R ins outs xs hG hR yq ha=>?_,fun _ _ h=>by cases h⟩
 obtain ⟨ti,gZ,rfl,rfl,hc⟩:=hG
 refine (h ti gZ w R xs hc ha hR yq).mono ?_
 rintro e w' ⟨x,rfl,hb,hx⟩
 refine ⟨x,R,rfl,A1 hR hb,fun b o hr=>Nat.lt_of_lt_of_le (hR b o hr) hb.size,?_⟩
 have hl:gZ.length=1:=by
  have:=(hx R w').length
  simpa using this
 refine ⟨[x],[],[],[],0,0,[],[],rfl,rfl,by simp [hl,eZ.fs],?_,fun j hj=>by simp [eZ.fs] at hj,fun j hj=>by simp [eZ.fs] at hj,rfl,rfl,rfl,?_,?_,?_,?_,?_,?_⟩
 ·have e:(List.mapIdx (fun i y=>if (eZ.fs (c,{})).sg.new=some i then AV.pt else y) ((gZ.map TV.av).take (eZ.fs (c,{})).sg.cZ))=gZ.map TV.av:=by
   match gZ,hl with
   | [a],_=>rfl
  rw [e];exact hx R w'
 all_goals intros
 all_goals simp_all [eZ.fs,mc]
def uB (t:eN):TV→TV
 | .c (.slice none 0 0) => .sl t []
 | v=>v
def uA:List (Nat × eN)→List TV→List TV
 | [],vs=>vs
 | (k,t) :: r,vs=>uA r (vs.modify k (uB t))
def M5 (l:List (Nat × eN)):TV→TV
 | .ag vs => .ag (uA l vs)
 | v=>v
def qy:Nat→List (Nat × eN)→List TV→List TV
 | _,_,[]=>[]
 | 0,l,v :: r=>M5 l v :: r
 | j+1,l,v :: r=>v :: qy j l r
def M4 (j:Nat) (l:List (Nat × eN)) (c:eZ):eZ:=fun ti=>c (qy j l ti)
section
variable {R:Reach} {w:World}
theorem xO {t:eN} {v:TV} {x:Value} (h:Rep R w v.av x):Rep R w (uB t v).av x:=by
 unfold uB
 split
 ·have h:Rep R w (.v (.slice none 0 0)) x:=h
  cases h;exact .nil _
 ·exact h
theorem pM {t:eN}:∀(k:Nat) {vs:List TV} {ys:List Value},eS R w (vs.map TV.av) ys→eS R w ((vs.modify k (uB t)).map TV.av) ys
 | _,[],_,h=>by simpa using h
 | 0,v :: r,_,h=>by
  simp only [ao] at h
  cases h with | cons a b c=>simp only [List.modify_zero_cons,ao];exact .cons a (xO b) c
 | k+1,v :: r,_,h=>by
  simp only [ao] at h
  cases h with | cons a b c=>simp only [List.modify_succ_cons,ao];exact .cons a b (pM k c)
theorem qV:∀(l:List (Nat × eN)) {vs:List TV} {ys:List Value},eS R w (vs.map TV.av) ys→eS R w ((uA l vs).map TV.av) ys
 | [],_,_,h=>h
 | (k,t) :: r,_,_,h=>qV r (pM k h)
theorem y0 {l:List (Nat × eN)} {v:TV} {x:Value} (h:Rep R w v.av x):Rep R w (M5 l v).av x:=by
 unfold M5
 split
 ·simp only [TV.av,TV.fY] at h ⊢
  cases h with | ag h=>exact .ag (qV l h)
 ·exact h
theorem r6 {l:List (Nat × eN)}:∀(j:Nat) {ti:List TV} {xs:List Value},gT R w (ti.map TV.av) xs→gT R w ((qy j l ti).map TV.av) xs
 | _,[],_,h=>by simpa [qy] using h
 | 0,v :: r,_,h=>by
  simp only [ao] at h
  cases h with | cons a b=>exact .cons (y0 a) b
 | j+1,v :: r,_,h=>by
  simp only [ao] at h
  cases h with | cons a b=>exact .cons a (r6 j b)
theorem vN {l:List (Nat × eN)}:∀(j i:Nat) {ti:List TV} {xs:List Value},gT R w ((ti.map TV.av).set i .pt) xs→gT R w (((qy j l ti).map TV.av).set i .pt) xs
 | _,_,[],_,h=>by simpa [qy] using h
 | 0,0,v :: r,_,h=>by
  simp only [ao,List.set_cons_zero] at h
  cases h with | cons a b=>exact .cons a b
 | 0,i+1,v :: r,_,h=>by
  simp only [ao,List.set_cons_succ] at h
  cases h with | cons a b=>exact .cons (y0 a) b
 | j+1,0,v :: r,_,h=>by
  simp only [ao,List.set_cons_zero] at h
  cases h with | cons a b=>exact .cons a (r6 j b)
 | j+1,i+1,v :: r,_,h=>by
  simp only [ao,List.set_cons_succ] at h
  cases h with | cons a b=>exact .cons a (vN j i b)
end
theorem vO {l:List (Nat × eN)}:∀(j i:Nat) (ti:List TV),i≠j→((qy j l ti).map TV.av)[i]?=(ti.map TV.av)[i]?
 | _,_,[],_=>by simp [qy]
 | 0,0,_ :: _,h=>(h rfl).elim
 | 0,i+1,v :: r,_=>by simp [qy]
 | j+1,0,v :: r,_=>by simp [qy]
 | j+1,i+1,v :: r,h=>by simpa [qy] using vO j i r (by omega)
theorem y7 {P:Program} {gl:Nat→AV} {f j:Nat} {l:List (Nat × eN)} {sg:dw} {c:eZ} (lO:sg.ps=none) (hj:sg.ref≠some j) (h:fF P gl f (eZ.fs (c,sg))):fF P gl f (eZ.fs (M4 j l c,sg)):=by
 refine ⟨fun _ w R ins outs xs hG h1 h2 h3=>?_,fun i s hp=>by simp [eZ.fs,lO] at hp⟩
 obtain ⟨ti,gZ,rfl,rfl,hc⟩:=hG
 refine h.1 lO w R _ (gZ.map TV.av) xs ⟨qy j l ti,gZ,rfl,rfl,hc⟩ h1 h2 ?_
 have h3:jN sg R w (ti.map TV.av) xs:=h3
 show jN sg R w ((qy j l ti).map TV.av) xs
 unfold jN at h3 ⊢
 cases hr:sg.ref with
 | none=>rw [hr] at h3;exact r6 j h3
 | some i =>
  rw [hr] at h3
  obtain ⟨b,cs,x,tv,a1,a2,a3,a4,a5,a6,a7⟩:=h3
  exact ⟨b,cs,x,tv,a1,(vO j i ti (fun e=>hj (by rw [hr,e]))).trans a2,a3,vN j i a4,a5,a6,a7⟩
structure ItmTys (P:Program) (t tk ti tu ts tb ty:TypeId):Prop where
 v:fieldsOf P t=some [(ti,0),(tu,1),(tb,2),(ts,3),(tk,4)]
 k:P.underlying tk=some (.slice t)
 i:P.underlying ti=some (.int .i64)
 u:P.underlying tu=some (.int .u64)
 s:P.underlying ts=some .string
 b:P.underlying tb=some (.slice ty)
 y:P.underlying ty=some (.int .u8)
 cv:P.cellsOf t=5
 ck:P.cellsOf tk=1
 ci:P.cellsOf ti=1
 cu:P.cellsOf tu=1
 cs:P.cellsOf ts=1
 cb:P.cellsOf tb=1
 cy:P.cellsOf ty=1
section
variable {P:Program} {t tk ti tu ts tb ty:TypeId}
theorem ItmTys.QG (T:ItmTys P t tk ti tu ts tb ty):∀n,lW P n t bG fun f=>(n5 f).cells:=by
 intro n
 induction n using Nat.strongRecOn with
 | _ n ih =>
  obtain ⟨fs,h1,h2⟩:=mq T.v
  have R:=fun (k:Nat) (hk:k<n)=>(hY (off:=0) T.ci (qI T.i) (hY T.cu (ow T.u) (hY T.cb (rb T.b T.y T.cy) (hY T.cs (ox T.s)
   (hY T.ck (nU (av:=n5) T.k T.cv (by omega) (fun f=>by cases f;rfl) fun j hj=>ih j (by omega)) uP)))):lN P k _ 0 _ _)
  exact nd h1 h2 (by simp [T.cv,T.ci,T.cu,T.cs,T.cb,T.ck]) R (fun a=>bG.mk a.1 a.2.1 a.2.2.1 a.2.2.2.1 a.2.2.2.2.1) (fun a=>by
   simp [n5,AV.cells,lI,iP,tY,jX,kg])
theorem ItmTys.rep (T:ItmTys P t tk ti tu ts tb ty) {H:Type} {enc:TypeId × Value→H} {w:World} {base:Nat} {spare:Nat→Bool} {held:Bool} {cs:Array Value} {d:DataW H} {p:List MemPlace} (h:DataW.Trod enc P w base spare held t (.agg cs) d p) :
  ∃v:Itv,Rep (Old w) w (TV.av (.ag (Itv.cells v))) (.agg cs):=by
 obtain ⟨n,h⟩:=h
 obtain ⟨v,hv⟩:=T.QG n H enc w base spare held _ _ h
 refine ⟨v.val,?_⟩
 cases v with | mk k n b s ks =>
 simp only [TV.av,TV.fY,Itv.cells,bG.val,bG.kind,bG.n,bG.bytes,bG.text,bG.kids,ao,au,eN.size,eN.av]
 refine .ag ?_
 have hv:eS (Old w) w (n5 (bG.mk k n b s ks)).cells _:=hv
 show eS (Old w) w [tY k,jX n,kg b,iP s,.sl 5 (ks.map n5)] _
 simpa [n5,AV.cells,lI,iP,tY,jX,kg,Value.cells] using hv
end
end Go.Eng
namespace Go.Eng
open Go.RowKit Go.Sort
def MM:List (Nat × TV)→Nat→TV
 | [],_ => .dead
 | (k,v) :: r,n=>cond (Nat.beq n k) v (MM r n)
def Bl (k:IntKind) (zs:List Int):TV := .gv (zs.map fun z=>Value.int k z)
theorem AN {P:Program} {w:World} {name:String} {k:IntKind} {zs:List Int} {g:Nat} (h:Lib.TabIs P w name k zs) (hg:P.globalNamed name=some g):Rep (Old w) w (Bl k zs).av (.pointer (some ⟨g,0,none⟩)):=by
 have hs:g<w.heap.size:=by
  unfold Lib.TabIs World.var? at h
  rw [hg] at h
  simp only [Option.bind_some] at h
  cases hh:w.heap[g]? with
  | none=>rw [hh] at h;cases h
  | some x=>exact (Array.getElem?_eq_some_iff.1 hh).1
 exact .gv (fun _=>hs) (fun o=>by have:=World.var?_cell hg h o;simpa using this)
theorem Ag {P:Program} {R:Reach} {w:World} {name:String} {k:IntKind} {z:Int} {zs:List Int} {g:Nat} (h:Rep R w (Bl k (z :: zs)).av (.pointer (some ⟨g,0,none⟩))) (hg:P.globalNamed name=some g):Lib.TabIs P w name k (z :: zs):=by
 have h:Rep R w (.gv ((z :: zs).map fun z=>Value.int k z)) (.pointer (some ⟨g,0,none⟩)):=h
 cases h with
 | gv h1 h2 =>
  have h0:=h2 0
  unfold Lib.TabIs World.var?
  rw [hg]
  simp only [Option.bind_some]
  simp only [World.cell?] at h0 h2
  cases hh:w.heap[g]? with
  | none=>rw [hh] at h0;cases h0
  | some x =>
   rw [hh] at h0 h2
   cases x with
   | cells cs e f =>
    simp only at h2 ⊢
    congr 1
    apply Array.ext_getElem?
    intro i
    have:=h2 i
    simp only [Option.isSome_none,bo,if_false] at this
    rw [this]
    simp
   | _=>cases h0
theorem gl_one {P:Program} {w:World} {name:String} {k:IntKind} {zs:List Int} {g:Nat} (h:Lib.TabIs P w name k zs) (hg:P.globalNamed name=some g):∀n,Rep (Old w) w ((MM [(g,Bl k zs)] n).av) (.pointer (some ⟨n,0,none⟩)):=by
 intro n
 unfold MM
 cases hb:Nat.beq n g with
 | true=>rw [ay hb];exact AN h hg
 | false=>exact .dead _
theorem yJ (w:World) (k:Nat) (os:Array Obj):Below w.heap.size w (grow (w.drewN k) os) :=
 ⟨rfl,rfl,rfl,by show w.heap.size≤(w.heap++os).size;simp,fun i hi=>heap_grow_old (w.drewN k) os hi⟩
def Cw:eZ:=fun l=>match l with
 | [.i .i64 n] => .fG (decide (-9223372036854775808≤n∧n≤9223372036854775807)) [.s (Lib.itoa n)]
 | _ => .err
theorem Ez {P:Program} {gl:Nat→TV} {f g:Nat} {k:IntKind} {z:Int} {zs:List Int} (yq:(gl g)=Bl k (z :: zs))
  (h:∃name,P.globalNamed name=some g∧∀(n:Int),-9223372036854775808≤n→n≤9223372036854775807→∀w:World,Lib.TabIs P w name k (z :: zs)→Calls P f #[.int .i64 n] w fun e w'=>e = .returned (.string ⟨(Lib.itoa n).toArray⟩)∧∃k os,w'=grow (w.drewN k) os) :
  fF P (fun n=>(gl n).av) f (eZ.fs (Cw,{})):=by
 obtain ⟨name,hg,h⟩:=h
 refine sj fun ti gZ w R xs hc ha hR hG=>?_
 unfold Cw at hc
 split at hc
 ·rename_i n
  obtain ⟨hp,rfl⟩:=hc
  have hp:=aF hp
  have e:xs=[.int .i64 n]:=by
   have ha:gT R w [.v (.int .i64 n)] xs:=ha
   cases ha with
   | cons a b=>cases a;cases b;rfl
  subst e
  have mX:=hG g
  rw [yq] at mX
  refine (h n hp.1 hp.2 w (Ag mX hg)).mono ?_
  rintro e w' ⟨rfl,q,os,rfl⟩
  refine ⟨_,rfl,yJ _ _ _,fun R w'=>?_⟩
  have:Rep R w' (.v (.string ⟨⟨Lib.itoa n⟩⟩)) (.string ⟨(Lib.itoa n).toArray⟩) := .v _
  exact .cons this .nil
 ·exact hc.elim
def kP (n:Nat):bY:=if h:n<10 then [UInt8.ofNat (48+n)] else kP (n / 10)++[UInt8.ofNat (48+n % 10)]
termination_by n
decreasing_by omega
theorem Df (n:Nat):Lib.decDigits n=kP n:=by
 induction n using Nat.strongRecOn with
 | _ n ih =>
  rw [Lib.decDigits,kP]
  by_cases h:n<10
  ·rw [dif_pos h,dif_pos h]
  ·rw [dif_neg h,dif_neg h,ih (n / 10) (by omega)]
theorem wC (n:Nat):Lib.itoa (n:Int)=kP n:=by
 rw [Lib.itoa,aj (by omega),aI,Df]
end Go.Eng
namespace Go.Eng
namespace Tree
def iC:Nat→List bM→Bool
 | _,[]=>true
 | i,f :: r=>decide (f.name=kP i)&&iC (i+1) r
def regular (l:List bM):Bool:=iC 0 l
end Tree
end Go.Eng
namespace Go.Eng
namespace cT
def be (l:bY):UInt64:=l.foldl (fun v x=>v * 256+x.toUInt64) 0
def iK (v:UInt64):Nat→bY
 | 0=>[]
 | n+1=>v.toUInt8 :: iK (v / 256) n
def eQ (v:UInt64) (n:Nat):bY:=(iK v n).reverse
def iE (r:dx):Bool:=decide (0≤r.at_∧r.at_≤r.b.length∧r.b.length≤1099511627776)
def left (r:dx):Int:=r.b.length - r.at_
def more (r:dx):Bool:=decide (r.at_<r.b.length)
def byte (r:dx):Int:=if r.at_<r.b.length then ((r.b.getD r.at_.toNat 0).toNat:Int) else 0
def pg (r:dx) (n:Int) (ok:Bool):dx:=cond ok ⟨r.b,r.at_+n⟩ r
def pz (r:dx) (n:Int):Bool:=decide (1≤n∧n≤8∧n≤r.b.length - r.at_)
def rC (r:dx) (n:Int):Bool:=decide (0≤n∧n≤r.b.length - r.at_)
def nx (r:dx) (n:Int) (ok:Bool):bY:=cond ok ((r.b.drop r.at_.toNat).take n.toNat) []
def high (v:UInt64) (n:Int):bY:=if 1≤n∧n≤8 then eQ v n.toNat else []
end cT
namespace bG
mutual
def c7:bG→Nat
 | .mk _ _ b t ks=>1+b.length+t.length+db ks
def db:List bG→Nat
 | []=>0
 | k :: r=>c7 k+db r
end
mutual
def nest:bG→Nat
 | .mk _ _ _ _ ks=>rf ks+1
def rf:List bG→Nat
 | []=>0
 | k :: r=>max (nest k) (rf r)
end
mutual
def same:bG→bG→Bool
 | .mk k n b t ks,.mk k' n' b' t' QF=>decide (k=k')&&decide (n=n')&&decide (t=t')&&decide (b=b')&&FF ks QF
def FF:List bG→List bG→Bool
 | [],[]=>true
 | k :: r,k' :: r'=>same k k'&&FF r r'
 | [],_ :: _=>false
 | _ :: _,[]=>false
end
mutual
def room (left:Int):bG→Int
 | .mk _ _ b t ks=>pS (qv.room left [2,(t.length:Int),(b.length:Int)]) ks
def pS (left:Int):List bG→Int
 | []=>left
 | k :: r=>if left<0 then left else pS (room left k) r
end
end bG
namespace Mp
def own:bG→Int
 | .mk k n b t ks =>
  if k<1∨10<k∨k=7 then 5
  else if ((k=3∨k=4∨k=5∨k=6)∧n≠0)∨(k≠3∧k≠10∧b≠[])∨(k≠4∧t≠[]) then 1
  else if k≠5∧k≠6∧ks≠[] then 1
  else if (k=2∧9223372036854775808≤n)∨(k=8∧(n<20∨22<n))∨(k=10∧127<n)∨(k=6∧ks.length % 2≠0) then 1
  else if 4294967296≤b.length∨4294967296≤t.length∨(k=5∧4294967296≤ks.length)∨4294967296≤ks.length / 2 then 1
  else if ee.whole t then 0 else 4
mutual
def dp:bG→Int
 | .mk k n b t ks=>if own (.mk k n b t ks)=0 then gf ks else own (.mk k n b t ks)
def gf:List bG→Int
 | []=>0
 | k :: r=>if dp k=0 then gf r else dp k
end
def fI:bG→Bool
 | .mk k n b t ks =>
  if k=1∨k=9 then decide (b=[]∧t=[]∧ks=[])
  else if k=2 then decide (n<9223372036854775808∧b=[]∧t=[]∧ks=[])
  else if k=3 then decide (b.length<4294967296∧n=0∧t=[]∧ks=[])
  else if k=4 then decide (t.length<4294967296∧n=0∧b=[]∧ks=[])
  else if k=5 then decide (ks.length<4294967296∧n=0∧b=[]∧t=[])
  else if k=6 then decide (ks.length % 2=0∧ks.length / 2<4294967296∧n=0∧b=[]∧t=[])
  else if k=8 then decide (20≤n∧n≤22∧b=[]∧t=[]∧ks=[])
  else if k=10 then decide (n≤127∧b.length<4294967296∧t=[]∧ks=[])
  else decide (n=0∧b=[]∧t=[]∧ks=[])
def base (k:Int):Int:=if k=4 then 217 else if k=3 then 196 else if k=5 then 220 else if k=6 then 222 else 199
def fix (k:Int):Int:=if k=4 then 32 else if k=5∨k=6 then 16 else 0
def tD (k:Int):Int:=if k=4 then 160 else if k=5 then 144 else 128
def fixed (k n:Int):Int:=if k=10 then (if n=1 then 212 else if n=2 then 213 else if n=4 then 214 else if n=8 then 215 else if n=16 then 216 else 0) else 0
def sized (k n:Int):Int × Int :=
 if fixed k n≠0 then (fixed k n,0) else if n<fix k then (tD k+n,0)
 else if k=5∨k=6 then (if n<65536 then (base k,2) else (base k+1,4))
 else if n<256 then (base k,1) else if n<65536 then (base k+1,2) else (base k+2,4)
def ma (k:Int):Bool:=decide (k=3∨k=4∨k=5∨k=6∨k=10)
def eK (n:UInt64):Int × Int :=
 if n<128 then ((n.toNat:Int),0) else if n<256 then (204,1) else if n<65536 then (205,2) else if n<4294967296 then (206,4) else (207,8)
def signed (n:UInt64):Int × Int :=
 if n<32 then (255 - (n.toNat:Int),0) else if n<128 then (208,1) else if n<32768 then (209,2) else if n<2147483648 then (210,4) else (211,8)
def put (f:Int × Int) (n:UInt64):bY:=UInt8.ofInt f.1 :: cT.high n f.2
def head:bG→bY
 | .mk k n b t ks =>
  if k=1 then put (eK n) n
  else if k=2 then put (signed n) (~~~ n)
  else if k=8 then [if n=20 then 194 else if n=21 then 195 else 192]
  else if k=9 then put (203,8) n
  else if k=4 then put (sized 4 t.length) (UInt64.ofNat t.length)
  else if k=3 then put (sized 3 b.length) (UInt64.ofNat b.length)
  else if k=5 then put (sized 5 ks.length) (UInt64.ofNat ks.length)
  else if k=6 then put (sized 6 (ks.length / 2:Nat)) (UInt64.ofNat (ks.length / 2))
  else put (sized 10 b.length) (UInt64.ofNat b.length)++[n.toUInt8]
mutual
def lay:bG→bY
 | .mk k n b t ks=>head (.mk k n b t ks)++b++t++eR ks
def eR:List bG→bY
 | []=>[]
 | k :: r=>lay k++eR r
end
def enc (it:bG):bY:=if dp it=0 then lay it else []
def wide (n:UInt64):Int:=if n<256 then 1 else if n<65536 then 2 else if n<4294967296 then 4 else 8
def step (n:Int):UInt8:=if n=1 then 0 else if n=2 then 1 else if n=4 then 2 else 3
def form (f:UInt8) (n:UInt64) (least:Int):bY:=(f+step (max (wide n) least) - step least) :: cT.eQ n (max (wide n) least).toNat
def ext (n k:UInt64):bY :=
 if n=1 then [212,k.toUInt8] else if n=2 then [213,k.toUInt8] else if n=4 then [214,k.toUInt8] else if n=8 then [215,k.toUInt8] else if n=16 then [216,k.toUInt8] else form 199 n 1++[k.toUInt8]
def want (k:Int) (n types:UInt64):bY :=
 if k=3 then form 196 n 1 else if k=10 then ext n types
 else if k=4 then (if n<32 then [160+n.toUInt8] else form 217 n 1)
 else if k=5 then (if n<16 then [144+n.toUInt8] else form 220 n 2)
 else if k=6 then (if n<16 then [128+n.toUInt8] else form 222 n 2)
 else head (.mk k n [] [] [])
def kq (b:bY) (a n:Int):Bool:=decide (1≤n∧n≤8∧0≤a∧a≤b.length∧n≤b.length - a)
def kk (b:bY) (a n:Int):bY:=cond (kq b a n) ((b.drop a.toNat).take n.toNat) []
def first (c:Int):Int × UInt64 × Int :=
 if c<128 then (1,UInt64.ofInt c,0)
 else if c<144 then (6,UInt64.ofInt (c - 128),0)
 else if c<160 then (5,UInt64.ofInt (c - 144),0)
 else if c<192 then (4,UInt64.ofInt (c - 160),0)
 else if 224≤c then (2,UInt64.ofInt (255 - c),0)
 else if c=192 then (8,22,0)
 else if c=193 then (0,0,0)
 else if c≤195 then (8,UInt64.ofInt (c - 174),0)
 else if c≤198 then (3,0,if c=196 then 1 else if c=197 then 2 else 4)
 else if c≤201 then (10,0,if c=199 then 1 else if c=200 then 2 else 4)
 else if c=202 then (0,0,0)
 else if c=203 then (9,0,8)
 else if c≤207 then (1,0,if c=204 then 1 else if c=205 then 2 else if c=206 then 4 else 8)
 else if c≤211 then (2,0,if c=208 then 1 else if c=209 then 2 else if c=210 then 4 else 8)
 else if c≤216 then (10,if c=212 then 1 else if c=213 then 2 else if c=214 then 4 else if c=215 then 8 else 16,0)
 else if c≤219 then (4,0,if c=217 then 1 else if c=218 then 2 else 4)
 else if c≤221 then (5,0,if c=220 then 2 else 4)
 else (6,0,if c=222 then 2 else 4)
def zero:bG := .mk 0 0 [] [] []
def below (n:UInt64) (size:Int):Option UInt64 :=
 let top:UInt64:=if size=1 then 128 else if size=2 then 32768 else if size=4 then 2147483648 else 9223372036854775808
 if n<top then none else some (top - 1 - (n - top))
structure iv where
 it:bG
 err:Int
 at_:Int
 pos:Int
def bad (e p q:Int):iv:=⟨zero,e,p,q⟩
def row (b:bY) (it:bG) (p q n:Int):iv :=
 if n<0∨(b.length:Int) - q<n then bad 2 p q
 else if it.kind≠4 then ⟨.mk it.kind it.n ((b.drop q.toNat).take n.toNat) it.text it.kids,0,0,q+n⟩
 else if ee.whole ((b.drop q.toNat).take n.toNat) then ⟨.mk it.kind it.n it.bytes ((b.drop q.toNat).take n.toNat) it.kids,0,0,q+n⟩
 else bad 4 p (q+n)
def kids (f:Int→iv) (it:bG):Nat→Int→iv
 | 0,q=>⟨it,0,0,q⟩
 | n+1,q =>
  let g:=f q
  if g.err≠0 then ⟨zero,g.err,g.at_,g.pos⟩
  else kids f (.mk it.kind it.n it.bytes it.text (it.kids++[g.it])) n g.pos
def num (it:bG) (p c f q:Int):iv:=if f≠c then bad 3 p q else ⟨it,0,0,q⟩
def gU (b:bY) (sub:Int→iv) (p c k:Int) (n:UInt64) (long:Int) (t:UInt64) (q:Int):iv :=
 if k=8∨k=9 then ⟨.mk k n [] [] [],0,0,q⟩
 else if k=1 then num (.mk k n [] [] []) p c (eK n).1 q
 else if k=2 then (if long=0 then num (.mk k n [] [] []) p c (signed n).1 q else match below n long with
  | none=>bad 3 p q
  | some m=>num (.mk k m [] [] []) p c (signed m).1 q)
 else if (sized k n.toNat).1≠c∨127<t then bad 3 p q
 else if k=5 then kids sub (.mk k t [] [] []) n.toNat q
 else if k=6 then kids sub (.mk k t [] [] []) (2 * n.toNat) q
 else row b (.mk k t [] [] []) p q n.toNat
def jB (b:bY) (sub:Int→iv) (p c k:Int) (n:UInt64) (long q:Int):iv :=
 if k=10 then (if (b.length:Int) - q<1 then bad 2 p q else gU b sub p c k n long (b.getD q.toNat 0).toUInt64 (q+1))
 else gU b sub p c k n long 0 q
def pw (b:bY) (sub:Int→iv) (p c k:Int) (n0:UInt64) (long:Int):iv :=
 if k=0 then bad 3 p (p+1)
 else if (b.length:Int) - (p+1)<long then bad 2 p (p+1)
 else jB b sub p c k (if long=0 then n0 else cT.be ((b.drop (p+1).toNat).take long.toNat)) long (p+1+long)
def read (b:bY):Nat→Int→iv
 | 0,p=>bad 8 p p
 | d+1,p =>
  if (b.length:Int)≤p then bad 2 p p
  else pw b (read b d) p ((b.getD p.toNat 0).toNat:Int) (first ((b.getD p.toNat 0).toNat:Int)).1 (first ((b.getD p.toNat 0).toNat:Int)).2.1 (first ((b.getD p.toNat 0).toNat:Int)).2.2
def many (k n:Int):Nat:=if k=6 then 2 * n.toNat else n.toNat
def next (b:bY) (d:Nat) (p:Int):Int:=if (read b d p).err=0 then (read b d p).pos else 0
def dec (b:bY) (depth:Int):bG × cX :=
 if depth<0∨1000<depth then (zero,⟨1,0,[]⟩)
 else
  let g:=read b depth.toNat 0
  if g.err≠0 then (zero,⟨g.err,g.at_,[]⟩)
  else if g.pos<b.length then (zero,⟨7,g.pos,[]⟩)
  else (g.it,⟨0,0,[]⟩)
end Mp
end Go.Eng
namespace Go.Eng
namespace Cb
def own:bG→Int
 | .mk k n b t ks =>
  if k<1∨9<k then 5
  else if ((k=3∨k=4∨k=5∨k=6)∧n≠0)∨(k≠3∧b≠[])∨(k≠4∧t≠[]) then 1
  else if k≠5∧k≠6∧k≠7∧ks≠[] then 1
  else if (k=8∧(n<20∨23<n))∨(k=6∧ks.length % 2≠0)∨(k=7∧ks.length≠1) then 1
  else if ee.whole t then 0 else 4
mutual
def dp:bG→Int
 | .mk k n b t ks=>if own (.mk k n b t ks)=0 then gf ks else own (.mk k n b t ks)
def gf:List bG→Int
 | []=>0
 | k :: r=>if dp k=0 then gf r else dp k
end
def fI:bG→Bool
 | .mk k n b t ks =>
  decide ((k=1∨k=2∨k=9∨k=7∨k=8)∨n=0)&&decide (k=3∨b=[])&&decide (k=4∨t=[])&&decide ((k=5∨k=6∨k=7)∨ks=[]) &&
  decide (k≠8∨(20≤n∧n≤23))&&decide (k≠6∨ks.length % 2=0)&&decide (k≠7∨ks.length=1)
end Cb
namespace Db
def text (s:bY):bG := .mk 4 0 [] s []
def raw (b:bY):bG := .mk 3 0 b [] []
def plus (n:UInt64):bG := .mk 1 n [] [] []
def simple (n:UInt64):bG := .mk 8 n [] [] []
def list (l:List bG):bG := .mk 5 0 [] [] l
def map (l:List bG):bG := .mk 6 0 [] [] l
def integer (v:Int):bG:=if v<0 then .mk 2 (UInt64.ofInt (-(v+1))) [] [] [] else .mk 1 (UInt64.ofInt v) [] [] []
def i32 (n:UInt64):Int:=IntKind.i32.wrap (n.toNat:Int)
def i64 (n:UInt64):Int:=IntKind.i64.wrap (n.toNat:Int)
def words (high low:UInt64):bY:=cT.eQ high 8++cT.eQ low 8
def tagged (v:bI) (m:List bG):bG :=
 if v.kind=4 then map m
 else if v.kind=5 then list [plus (UInt64.ofInt v.sub),raw v.bytes]
 else if v.kind=7 then raw v.bytes
 else if v.kind=9∨v.kind=18 then integer (i64 v.bits)
 else if v.kind=11 then list [text v.text,text v.more]
 else if v.kind=12 then list [text v.text,raw v.bytes]
 else if v.kind=13∨v.kind=14 then text v.text
 else if v.kind=15 then list [text v.text,map m]
 else if v.kind=17 then plus v.bits
 else if v.kind=19 then raw (words v.high v.low)
 else simple 22
def nf (v:bI) (m l:List bG):bG :=
 if v.kind=1 then .mk 9 v.bits [] [] []
 else if v.kind=2 then text v.text
 else if v.kind=3 then map m
 else if v.kind=4∧Tree.regular v.kids then list l
 else if v.kind=5∧v.sub=0 then raw v.bytes
 else if v.kind=6 then simple 23
 else if v.kind=10 then simple 22
 else if v.kind=8 then simple (20+v.bits)
 else if v.kind=16 then integer (i32 v.bits)
 else .mk 7 (UInt64.ofInt (1000+v.kind)) [] [] [tagged v m]
mutual
def item:bM→bG
 | .mk _ k b h l t m s y ks=>nf ⟨k,b,h,l,t,m,s,y,ks⟩ (mapped ks) (items ks)
def mapped:List bM→List bG
 | []=>[]
 | f :: r=>text f.name :: item f :: mapped r
def items:List bM→List bG
 | []=>[]
 | f :: r=>item f :: items r
end
def enc (v:bI):bG × cX :=
 if (Tree.iN (bM.of [] v) []).2≠0 then (Mp.zero,⟨(Tree.iN (bM.of [] v) []).2,0,(Tree.iN (bM.of [] v) []).1⟩)
 else if v.kind≠3 then (Mp.zero,⟨5,0,[]⟩)
 else (map (mapped v.kids),⟨0,0,[]⟩)
def zero:bI:=⟨0,0,0,0,[],[],0,[],[]⟩
inductive iv where
 | ok (v:bI)
 | bad (p:List Int)
inductive fU where
 | ok (l:List bM)
 | bad (p:List Int)
def iv.val:iv→bI
 | .ok v=>v
 | .bad _=>zero
def iv.qQ:iv→cX
 | .ok _=>⟨0,0,[]⟩
 | .bad p=>⟨12,0,p⟩
def fU.Es:fU→List bM
 | .ok l=>l
 | .bad _=>[]
def fU.qQ:fU→cX
 | .ok _=>⟨0,0,[]⟩
 | .bad p=>⟨12,0,p⟩
def fU.qf (v:bI):fU→iv
 | .ok l => .ok { v with kids:=l }
 | .bad p => .bad p
def number (it:bG):Option Int :=
 if 9223372036854775808≤it.n then none
 else if it.kind=1 then some (it.n.toNat:Int)
 else if it.kind=2 then some (-1 - (it.n.toNat:Int))
 else none
def iC:Nat→List bG→Bool
 | _,[]=>true
 | i,[k]=>decide (k.kind=4∧k.text=kP i)
 | i,k :: _ :: r=>decide (k.kind=4∧k.text=kP i)&&iC (i+1) r
def regular (l:List bG):Bool:=iC 0 l
def fst (it:bG):bG:=it.kids.getD 0 Mp.zero
def snd (it:bG):bG:=it.kids.getD 1 Mp.zero
def kinds (it:bG) (a b:Int):Bool:=decide (it.kind=5∧it.kids.length=2∧(fst it).kind=a∧(snd it).kind=b)
def gA (it:bG):Int:=if 9223372036854775808≤it.n then 0 else if it.kind=2 then -1 - (it.n.toNat:Int) else (it.n.toNat:Int)
def doc (k:Int) (t:bY):bI:=⟨k,0,0,0,t,[],0,[],[]⟩
def Bo (n:UInt64) (it:bG):bI × Bool :=
 if n<1000∨1255<n then (zero,false)
 else if n=1005 then
  (if kinds it 1 3∧1≤(fst it).n∧(fst it).n≤255 then (⟨5,0,0,0,[],[],((fst it).n.toNat:Int),(snd it).bytes,[]⟩,true) else (doc 5 [],false))
 else if n=1007 then (⟨7,0,0,0,[],[],0,it.bytes,[]⟩,decide (it.kind=3∧it.bytes.length=12))
 else if n=1009∨n=1018 then (⟨(n.toNat:Int) - 1000,UInt64.ofInt ((number it).getD 0),0,0,[],[],0,[],[]⟩,(number it).isSome)
 else if n=1011 then
  (if kinds it 4 4∧¬ee.zero (fst it).text∧¬ee.zero (snd it).text then (⟨11,0,0,0,(fst it).text,(snd it).text,0,[],[]⟩,true) else (doc 11 [],false))
 else if n=1012 then
  (if kinds it 4 3∧(snd it).bytes.length=12 then (⟨12,0,0,0,(fst it).text,[],0,(snd it).bytes,[]⟩,true) else (doc 12 [],false))
 else if n=1013∨n=1014 then (doc ((n.toNat:Int) - 1000) it.text,decide (it.kind=4))
 else if n=1017 then (⟨17,it.n,0,0,[],[],0,[],[]⟩,decide (it.kind=1))
 else if n=1019 then
  (if it.kind=3∧it.bytes.length=16 then (⟨19,0,cT.be (it.bytes.take 8),cT.be (it.bytes.drop 8),[],[],0,[],[]⟩,true) else (doc 19 [],false))
 else if n=1127∨n=1255 then (doc ((n.toNat:Int) - 1000) [],decide (it.kind=8∧it.n=22))
 else (doc ((n.toNat:Int) - 1000) [],false)
def small (n:UInt64) (it:bG):Option bI:=if (Bo n it).2 then some (Bo n it).1 else none
def half (it:bG):bI × Bool:=(⟨16,UInt64.ofInt (gA it % 4294967296),0,0,[],[],0,[],[]⟩,(number it).isSome&&decide (-2147483648≤gA it∧gA it<2147483648))
def leaf (k:Int) (n:UInt64) (b t:bY):Option bI :=
 if k=9 then some ⟨1,n,0,0,[],[],0,[],[]⟩
 else if k=4 then some ⟨2,0,0,0,t,[],0,[],[]⟩
 else if k=3 then some ⟨5,0,0,0,[],[],0,b,[]⟩
 else if k=8 then some (if n=22 then ⟨10,0,0,0,[],[],0,[],[]⟩ else if n=23 then ⟨6,0,0,0,[],[],0,[],[]⟩ else ⟨8,n - 20,0,0,[],[],0,[],[]⟩)
 else if (half (.mk k n b t [])).2 then some (half (.mk k n b t [])).1 else none
def opt (o:Option bI) (p:List Int):iv:=match o with | some v => .ok v | none => .bad p
mutual
def value:bG→List Int→iv
 | .mk k n b t ks,p =>
  if k=6 then (fields ks 0 p).qf (doc 3 [])
  else if k=5 then (elems ks 0 p).qf (doc 4 [])
  else if k=7 then tags n ks p
  else opt (leaf k n b t) p
def tags (n:UInt64):List bG→List Int→iv
 | [],p => .bad p
 | x :: _,p=>Nb n x p
def Nb (n:UInt64):bG→List Int→iv
 | .mk k m b t ks,p =>
  if n=1004 then (if k=6∧¬regular ks then (fields ks 0 (p++[0])).qf (doc 4 []) else .bad p)
  else if n=1015 then (if kinds (.mk k m b t ks) 4 6 then JU ks p else .bad p)
  else opt (small n (.mk k m b t ks)) p
def JU:List bG→List Int→iv
 | [],p => .bad p
 | [_],p => .bad p
 | a :: m :: _,p=>G6 a.text m p
def G6 (t:bY):bG→List Int→iv
 | .mk _ _ _ _ ks,p=>(fields ks 0 (p++[0,1])).qf (doc 15 t)
def fields:List bG→Nat→List Int→fU
 | [],_,_ => .ok []
 | [k],i,p => .bad (p++[(i:Int)])
 | k :: x :: r,i,p =>
  if k.kind≠4∨ee.zero k.text then .bad (p++[(i:Int)])
  else match value x (p++[((i+1:Nat):Int)]) with
   | .bad q => .bad q
   | .ok v=>match fields r (i+2) p with
    | .bad q => .bad q
    | .ok l => .ok (bM.of k.text v :: l)
def elems:List bG→Nat→List Int→fU
 | [],_,_ => .ok []
 | x :: r,i,p =>
  match value x (p++[(i:Int)]) with
   | .bad q => .bad q
   | .ok v=>match elems r (i+1) p with
    | .bad q => .bad q
    | .ok l => .ok (bM.of (kP i) v :: l)
end
def dec (it:bG):bI × cX :=
 if Cb.dp it≠0 then (zero,⟨Cb.dp it,0,[]⟩)
 else if it.kind≠6 then (zero,⟨12,0,[]⟩)
 else ((value it []).val,(value it []).qQ)
end Db
end Go.Eng
namespace Go.Eng
namespace Tree
mutual
def lj:bM→Bool
 | .mk n k b h l t m s y ks=>decide (rB ⟨k,b,h,l,t,m,s,y,ks⟩ n=0)&&iT ks
def iT:List bM→Bool
 | []=>true
 | f :: r=>lj f&&iT r
end
end Tree
namespace Dk
def sort (k:Int):UInt64:=if k=255 then 126 else UInt64.ofInt k
def ext (k:Int) (b:bY):bG := .mk 10 (sort k) b [] []
def inner (v:bI) (m:bY):bY :=
 if v.kind=4 then m
 else if v.kind=5 then UInt8.ofInt v.sub :: v.bytes
 else if v.kind=7 then v.bytes
 else if v.kind=9∨v.kind=17∨v.kind=18 then cT.eQ v.bits 8
 else if v.kind=11 then v.text++0 :: v.more
 else if v.kind=12 then v.bytes++v.text
 else if v.kind=13∨v.kind=14 then v.text
 else if v.kind=15 then cT.eQ (UInt64.ofInt v.text.length) 4++v.text++m
 else if v.kind=19 then Db.words v.high v.low
 else []
def nf (v:bI) (m l:List bG):bG :=
 if v.kind=1 then .mk 9 v.bits [] [] []
 else if v.kind=2 then Db.text v.text
 else if v.kind=3 then Db.map m
 else if v.kind=4∧Tree.regular v.kids then Db.list l
 else if v.kind=5∧v.sub=0 then Db.raw v.bytes
 else if v.kind=10 then Db.simple 22
 else if v.kind=8 then Db.simple (20+v.bits)
 else if v.kind=16 then Db.integer (Db.i32 v.bits)
 else ext v.kind (inner v (Mp.lay (Db.map m)))
mutual
def item:bM→bG
 | .mk _ k b h l t m s y ks=>nf ⟨k,b,h,l,t,m,s,y,ks⟩ (mapped ks) (items ks)
def mapped:List bM→List bG
 | []=>[]
 | f :: r=>Db.text f.name :: item f :: mapped r
def items:List bM→List bG
 | []=>[]
 | f :: r=>item f :: items r
end
def enc (v:bI):bG × cX :=
 if (Tree.iN (bM.of [] v) []).2≠0 then (Mp.zero,⟨(Tree.iN (bM.of [] v) []).2,0,(Tree.iN (bM.of [] v) []).1⟩)
 else if v.kind≠3 then (Mp.zero,⟨5,0,[]⟩)
 else if 200<Tree.depth (bM.of [] v) then (Mp.zero,⟨8,0,[]⟩)
 else (Db.map (mapped v.kids),⟨0,0,[]⟩)
def cut (s:bY) (c:UInt8):bY × bY × Bool:=if 0≤Lib.indexByte s c then (s.take (Lib.indexByte s c).toNat,s.drop ((Lib.indexByte s c).toNat+1),true) else (s,[],false)
mutual
def lX (E:UInt64→bY→bI × Bool):bG→List Int→Db.iv
 | .mk k n b t ks,p =>
  if k=6 then (iq E ks 0 p).qf (Db.doc 3 [])
  else if k=5 then (kz E ks 0 p).qf (Db.doc 4 [])
  else if k=10 then Db.opt (if (E n b).2 then some (E n b).1 else none) p
  else Db.opt (Db.leaf k n b t) p
def iq (E:UInt64→bY→bI × Bool):List bG→Nat→List Int→Db.fU
 | [],_,_ => .ok []
 | [k],i,p => .bad (p++[(i:Int)])
 | k :: x :: r,i,p =>
  if k.kind≠4∨ee.zero k.text then .bad (p++[(i:Int)])
  else match lX E x (p++[((i+1:Nat):Int)]) with
   | .bad q => .bad q
   | .ok v=>match iq E r (i+2) p with
    | .bad q => .bad q
    | .ok l => .ok (bM.of k.text v :: l)
def kz (E:UInt64→bY→bI × Bool):List bG→Nat→List Int→Db.fU
 | [],_,_ => .ok []
 | x :: r,i,p =>
  match lX E x (p++[(i:Int)]) with
   | .bad q => .bad q
   | .ok v=>match kz E r (i+1) p with
    | .bad q => .bad q
    | .ok l => .ok (bM.of (kP i) v :: l)
end
def Ia (E:UInt64→bY→bI × Bool) (c:bY):Option (List bM) :=
 if (Mp.dec c 1000).2.err≠0∨(Mp.dec c 1000).1.kind≠6 then none
 else match iq E (Mp.dec c 1000).1.kids 0 [] with
  | .ok l=>some l
  | .bad _=>none
def zf (E:UInt64→bY→bI × Bool) (v:bI) (c:bY):bI × Bool :=
 match Ia E c with
  | some l=>({ v with kids:=l },true)
  | none=>(Db.zero,false)
def kindOf (n:UInt64):Int:=if n=126 then 255 else (n.toNat:Int)
def hU (b:bY):Nat:=(cT.be (b.take 4)).toNat
def kI (b:bY):bY:=(b.drop 4).take (hU b)
def mS (R : bI → bY → bI × Bool) (k : Int) (b : bY) : bI × Bool :=
  if k = 4 then ((R (Db.doc 4 []) b).1, (R (Db.doc 4 []) b).2 && !Tree.regular (R (Db.doc 4 []) b).1.kids)
  else if k = 15 then
    (if b.length < 4 ∨ b.length < 4 + hU b then (Db.zero, false)
     else ((R (Db.doc 15 (kI b)) (b.drop (4 + hU b))).1, (R (Db.doc 15 (kI b)) (b.drop (4 + hU b))).2 && ee.whole (kI b)))
  else if k = 5 then (if 0 < b.length ∧ b.getD 0 0 ≠ 0 then (⟨5, 0, 0, 0, [], [], ((b.getD 0 0).toNat : Int), b.drop 1, []⟩, true) else (Db.doc 5 [], false))
  else if k = 7 then (⟨7, 0, 0, 0, [], [], 0, b, []⟩, decide (b.length = 12))
  else if k = 9 ∨ k = 17 ∨ k = 18 then (⟨k, cT.be b, 0, 0, [], [], 0, [], []⟩, decide (b.length = 8))
  else if k = 11 then (⟨11, 0, 0, 0, (cut b 0).1, (cut b 0).2.1, 0, [], []⟩, (cut b 0).2.2 && !ee.zero (cut b 0).2.1 && ee.whole (cut b 0).1 && ee.whole (cut b 0).2.1)
  else if k = 12 then (if 12 ≤ b.length ∧ ee.whole (b.drop 12) then (⟨12, 0, 0, 0, b.drop 12, [], 0, b.take 12, []⟩, true) else (Db.doc 12 [], false))
  else if k = 13 ∨ k = 14 then (Db.doc k b, ee.whole b)
  else if k = 19 then (if b.length = 16 then (⟨19, 0, cT.be (b.take 8), cT.be (b.drop 8), [], [], 0, [], []⟩, true) else (Db.doc 19 [], false))
  else if k = 6 ∨ k = 127 ∨ k = 255 then (Db.doc k [], decide (b.length = 0))
  else (Db.doc k [], false)
def jE:Nat→UInt64→bY→bI × Bool
 | 0=>fun _ _=>(Db.zero,false)
 | d+1=>fun n b=>mS (zf (jE d)) (kindOf n) b
def kK (d:Nat):bI→bY→bI × Bool:=zf (jE d)
def tX (d:Nat):bY→Option (List bM):=Ia (jE d)
def value (d:Nat):bG→List Int→Db.iv:=lX (jE d)
def fields (d:Nat):List bG→Nat→List Int→Db.fU:=iq (jE d)
def elems (d:Nat):List bG→Nat→List Int→Db.fU:=kz (jE d)
def jn (I : bY → Option (List bM)) (k : Int) (b : bY) : bI × Bool :=
  if k = 4 then ({ Db.doc 4 [] with kids := (I b).getD [] }, (I b).isSome && !Tree.regular ((I b).getD []))
  else if k = 15 then
    (if b.length < 4 ∨ b.length < 4 + hU b then (Db.zero, false)
     else ({ Db.doc 15 (kI b) with kids := (I (b.drop (4 + hU b))).getD [] }, (I (b.drop (4 + hU b))).isSome && ee.whole (kI b)))
  else if k = 5 then (if b.length = 0 ∨ b.getD 0 0 = 0 then (Db.zero, false) else (⟨5, 0, 0, 0, [], [], ((b.getD 0 0).toNat : Int), b.drop 1, []⟩, true))
  else if k = 6 ∨ k = 127 ∨ k = 255 then (Db.doc k [], decide (b.length = 0))
  else if k = 7 then (⟨7, 0, 0, 0, [], [], 0, b, []⟩, decide (b.length = 12))
  else if k = 9 ∨ k = 17 ∨ k = 18 then (⟨k, cT.be (Mp.kk b 0 8), 0, 0, [], [], 0, [], []⟩, decide (b.length = 8))
  else if k = 11 then (if (cut b 0).2.2 then (⟨11, 0, 0, 0, (cut b 0).1, (cut b 0).2.1, 0, [], []⟩, ee.whole (cut b 0).1 && Tree.fK (cut b 0).2.1 true) else (Db.zero, false))
  else if k = 12 then (if b.length < 12 then (Db.zero, false) else (⟨12, 0, 0, 0, b.drop 12, [], 0, b.take 12, []⟩, ee.whole (b.drop 12)))
  else if k = 13 ∨ k = 14 then (Db.doc k b, ee.whole b)
  else if k = 19 then (⟨19, 0, cT.be (Mp.kk b 0 8), cT.be (Mp.kk b 8 8), [], [], 0, [], []⟩, decide (b.length = 16))
  else (Db.zero, false)
def lD (d:Nat) (k:Int) (b:bY):bI × Bool:=jn (tX d) (if k=126 then 255 else k) b
def dec (it:bG):bI × cX :=
 if Mp.dp it≠0 then (Db.zero,⟨Mp.dp it,0,[]⟩)
 else if it.kind≠6 then (Db.zero,⟨12,0,[]⟩)
 else ((value 200 it []).val,(value 200 it []).qQ)
end Dk
end Go.Eng
namespace Go.Proofs
open Go.Shelf
def Tryz.vb:Go.Shelf.Ren:=⟨fun | 171=>69 | 243=>83 | 246=>102 | 283=>114 | 284=>115 | 285=>116 | 286=>117 | 129=>131 | 317=>130 | 318=>132 | 319=>133 | 320=>134 | 337=>145 | 338=>146 | n=>n,fun | 3=>3 | 9=>9 | 2=>2 | 4=>4 | 171=>129 | 0=>0 | 53=>22 | 37=>23 | 5=>5 | 173=>131 | 212=>151 | 51=>83 | 20=>20 | 213=>152 | 46=>116 | 232=>171 | 233=>172 | n=>n,fun | 17=>1 | 18=>2 | 19=>3 | n=>n⟩
theorem Tryz.Cr:Go.Proofs.LaysM.n171 Tryz.prog Tryz.vb:={
 mixed:=by kernel_rfl
 f129:=Tryz.func131.trans (congrArg some (by kernel_rfl))
 f171:=Tryz.func69.trans (congrArg some (by kernel_rfl))
 f243:=Tryz.func83.trans (congrArg some (by kernel_rfl))
 f246:=Tryz.func102.trans (congrArg some (by kernel_rfl))
 f283:=Tryz.func114.trans (congrArg some (by kernel_rfl))
 f284:=Tryz.func115.trans (congrArg some (by kernel_rfl))
 f285:=Tryz.func116.trans (congrArg some (by kernel_rfl))
 f286:=Tryz.func117.trans (congrArg some (by kernel_rfl))
 f317:=Tryz.func130.trans (congrArg some (by kernel_rfl))
 f318:=Tryz.func132.trans (congrArg some (by kernel_rfl))
 f319:=Tryz.func133.trans (congrArg some (by kernel_rfl))
 f320:=Tryz.func134.trans (congrArg some (by kernel_rfl))
 f337:=Tryz.func145.trans (congrArg some (by kernel_rfl))
 f338:=Tryz.func146.trans (congrArg some (by kernel_rfl))
 t0:=Tryz.underlying0
 a0:=Tryz.isAgg0
 z0:=Tryz.sizeOf0
 v0:=Tryz.zeroValue0
 t2:=Tryz.underlying2
 a2:=Tryz.isAgg2
 z2:=Tryz.sizeOf2
 v2:=Tryz.zeroValue2
 t3:=Tryz.underlying3
 a3:=Tryz.isAgg3
 z3:=Tryz.sizeOf3
 v3:=Tryz.zeroValue3
 t4:=Tryz.underlying4
 a4:=Tryz.isAgg4
 z4:=Tryz.sizeOf4
 v4:=Tryz.zeroValue4
 t5:=Tryz.underlying5
 a5:=Tryz.isAgg5
 z5:=Tryz.sizeOf5
 v5:=Tryz.zeroValue5
 t9:=Tryz.underlying9
 a9:=Tryz.isAgg9
 z9:=Tryz.sizeOf9
 v9:=Tryz.zeroValue9
 t20:=Tryz.underlying20
 a20:=Tryz.isAgg20
 z20:=Tryz.sizeOf20
 v20:=Tryz.zeroValue20
 t37:=Tryz.underlying23
 a37:=Tryz.isAgg23
 z37:=Tryz.sizeOf23
 v37:=Tryz.zeroValue23
 t46:=Tryz.underlying116
 a46:=Tryz.isAgg116
 z46:=Tryz.sizeOf116
 v46:=Tryz.zeroValue116
 t51:=Tryz.underlying83
 a51:=Tryz.isAgg83
 z51:=Tryz.sizeOf83
 v51:=Tryz.zeroValue83
 t53:=Tryz.underlying22
 a53:=Tryz.isAgg22
 z53:=Tryz.sizeOf22
 v53:=Tryz.zeroValue22
 t171:=Tryz.underlying129
 a171:=Tryz.isAgg129
 z171:=Tryz.sizeOf129
 v171:=Tryz.zeroValue129
 t173:=Tryz.underlying131
 a173:=Tryz.isAgg131
 z173:=Tryz.sizeOf131
 v173:=Tryz.zeroValue131
 t212:=Tryz.underlying151
 a212:=Tryz.isAgg151
 z212:=Tryz.sizeOf151
 v212:=Tryz.zeroValue151
 t213:=Tryz.underlying152
 a213:=Tryz.isAgg152
 z213:=Tryz.sizeOf152
 t232:=Tryz.underlying171
 a232:=Tryz.isAgg171
 z232:=Tryz.sizeOf171
 v232:=Tryz.zeroValue171
 t233:=Tryz.underlying172
 a233:=Tryz.isAgg172
 z233:=Tryz.sizeOf172
 v233:=Tryz.zeroValue172
 g17:=by kernel_rfl
 g18:=by kernel_rfl
 g19:=by kernel_rfl
 i0:=by kernel_rfl
 i2:=by kernel_rfl
 i3:=by kernel_rfl
 i4:=by kernel_rfl
 i5:=by kernel_rfl
 i9:=by kernel_rfl
 i20:=by kernel_rfl
 i37:=by kernel_rfl
 i46:=by kernel_rfl
 i51:=by kernel_rfl
 i53:=by kernel_rfl
 i171:=by kernel_rfl
 i173:=by kernel_rfl
 i212:=by kernel_rfl
 i232:=by kernel_rfl
 i233:=by kernel_rfl
 m17:=by kernel_rfl
 m18:=by kernel_rfl
 m19:=by kernel_rfl }
open Go.RowKit Go.Sort Go.Lib in
theorem Tryz.itoa:∃name:String,Tryz.prog.globalNamed name=some 1∧∀(n:Int),-9223372036854775808≤n→n≤9223372036854775807→∀w:World,Lib.TabIs Tryz.prog w name .u64 Lib.pow10Tab →
  Calls Tryz.prog 69 #[.int .i64 n] w fun e w'=>e = .returned (.string ⟨(Lib.itoa n).toArray⟩)∧∃k os,w'=grow (w.drewN k) os:=by
 refine ⟨_,?_,fun n h0 h1 w Of=>Any.strconv_Itoa Tryz.Cr n h0 h1 w Of⟩
 kernel_rfl
end Go.Proofs
namespace Go.Eng
def zI:List TV:=[(.i .i64 (0 : Int)), (.u64 (0 : UInt64)), (.sl .bs ([] : List UInt8)), (.s ([] : bY)), (.sl .il ([] : List bG))]
def zV:List TV:=[(.i .i64 (0 : Int)), (.u64 (0 : UInt64)), (.u64 (0 : UInt64)), (.u64 (0 : UInt64)), (.s ([] : bY)), (.s ([] : bY)), (.i .i64 (0 : Int)), (.sl .bs ([] : List UInt8)), (.sl .fl ([] : List bM))]
def zD:List TV:=[(.s ([] : bY)), (.i .i64 (0 : Int)), (.u64 (0 : UInt64)), (.u64 (0 : UInt64)), (.u64 (0 : UInt64)), (.s ([] : bY)), (.s ([] : bY)), (.i .i64 (0 : Int)), (.sl .bs ([] : List UInt8)), (.sl .fl ([] : List bM))]
def zT:List TV:=[(.i .i64 (0 : Int)), (.i .i64 (0 : Int)), (.sl .is ([] : List Int))]
def oK (k:TK) (a d:List Nat):pJ:=⟨k,a.map .s,d,none⟩
def oX (k:TK) (a:List nE) (d:List Nat):pJ:=⟨k,a,d,none⟩
def oG (n:Nat) (b:Bool) (o:pJ):pJ:=⟨o.k,o.rs,o.ds,some (n,b)⟩
def oA (m o f a d:Nat):pJ:=⟨.k (.fa m o f),[.s a],[d],none⟩
def oL (m o n a d:Nat):pJ:=⟨.k (.ld m o n false),[.s a,.s m],[d],none⟩
def oM (m o n a d:Nat):pJ:=⟨.k (.ld m o n true),[.s a,.s m],[d],none⟩
def oT (m o n a x:Nat):pJ:=⟨.k (.st m o n),[.s a,.s m,.s x],[m],none⟩
def oV (a d:Nat):pJ:=⟨.k .mv,[.s a],[d],none⟩
def oW (c:TV) (d:Nat):pJ:=⟨.k .mv,[.c c],[d],none⟩
def oC (f n r:Nat) (a:List Nat) (d:Nat):pJ:=⟨.k (.call f (.plain n r)),a.map .s,[d],none⟩
def oE (i a d:Nat):pJ:=⟨.k (.ex i),[.s a],[d],none⟩
def oB (o:BinOp) (a b d:Nat):pJ:=⟨.k (.bin o),[.s a,.s b],[d],none⟩
def oI (o:BinOp) (a:Nat) (c:TV) (d:Nat):pJ:=⟨.k (.bin o),[.s a,.c c],[d],none⟩
def oP (g a:Nat) (b:Bool) (d:Nat):pJ:=⟨.k .pick,[.s g,.s a,.c (.b b)],[d],none⟩
def oN (m:Nat) (z:List TV) (a:Nat):pJ:=⟨.al m z [],[.s m],[a,m],none⟩
def D0 (n:Nat) (m:TM) (r:List RV):gn:={np:=n,m:=m,ref:=none,fy:=[],res:=r,own:=[],new:=none,fx:=[]}
def oS (l:List pJ) (b:TM):TM:=.seq (.fD l) none b
end Go.Eng
namespace Go.Eng
abbrev OT:=Option (List TV)
abbrev EV:=List (Nat × (eZ × dw))
theorem i4 {a b c d e:Prop} (h:e):a∨b∨c∨d∨e:=.inr (.inr (.inr (.inr h)))
theorem i12 {a b c d e f g h i j k l m:Prop} (x:m):a∨b∨c∨d∨e∨f∨g∨h∨i∨j∨k∨l∨m:=i4 (i4 (i4 x))
end Go.Eng
namespace Go.Eng
open Go.Proofs
noncomputable def tryzGl:Nat→TV:=MM [(1,Bl .u64 Lib.pow10Tab)]
abbrev FT (d:gn) (E:eg) (i o:List TV):Prop:=i.length=d.np∧d.run E i=some (o++d.ps.toList.map fun q=>i.getD q.1 .dead)
abbrev CK (i:Nat) (e:EV) (d:gn):Prop:=((Go.Proofs.Tryz.prog.funcs[i]?).any fun fn=>iN Go.Proofs.Tryz.prog (fun k=>((cM tryzGl e).fs k).2) fn d.erase)=true
theorem eH {i:Nat} {e:EV} {d:gn} (h:((Go.Proofs.Tryz.prog.funcs[i]?).any fun fn=>iN Go.Proofs.Tryz.prog (fun k=>((cM tryzGl e).fs k).2) fn d.erase)=true):CK i e d:=h
abbrev KO (i:Nat) (c:eZ) (g:dw):Prop:=fF Go.Proofs.Tryz.prog (fun n=>(tryzGl n).av) i (eZ.fs (c,g))
noncomputable section
def fO.sg:dw:={}
def fO.c:eZ:=fun l=>match l with
 | [.i .i64 r] => .ok [(.b (ee.kx r))]
 | _ => .err
def bR.sg:dw:={ cZ:=2 }
def bR.c:eZ:=fun l=>match l with
 | [.sl .bs b,.i .i64 at_] => .fG (decide (b.length≤1099511627776)) [(.i .i64 ((ee.iQ b at_).1)),(.i .i64 ((ee.iQ b at_).2))]
 | _ => .err
def cS.sg:dw:={ cZ:=2 }
def cS.c:eZ:=fun l=>match l with
 | [.sl .bs b] => .fG (decide (b.length≤1099511627776)) [(.i .i64 (((ee.look b).1:Int))),(.i .i64 (((ee.look b).2:Int)))]
 | _ => .err
def dD.sg:dw:={ cZ:=2 }
def dD.c:eZ:=fun l=>match l with
 | [.sl .bs b] => .fG (decide (b.length≤1099511627776)) [(.i .i64 (((ee.look b).1:Int))),(.b (ee.whole b))]
 | _ => .err
def cz.sg:dw:={ cZ:=2 }
def cz.c:eZ:=fun l=>match l with
 | [.sl .bs b,.i .i64 at_] => .fG (decide (b.length≤1099511627776)) [(.i .i64 ((ee.iQ b at_).1)),(.i .i64 ((ee.iQ b at_).2))]
 | _ => .err
def cO.sg:dw:={ cZ:=2 }
def cO.c:eZ:=fun l=>match l with
 | [.sl .bs b] => .fG (decide (b.length≤1099511627776)) [(.i .i64 (((ee.look b).1:Int))),(.b (ee.whole b))]
 | _ => .err
def df.sg:dw:={}
def df.c:eZ:=fun l=>match l with
 | [.s s] => .fG (decide (s.length≤1099511627776)) [(.b (ee.whole s))]
 | _ => .err
def cU.sg:dw:={}
def cU.c:eZ:=fun l=>match l with
 | [.s s] => .fG (decide (s.length≤1099511627776)) [(.b (ee.zero s))]
 | _ => .err
def bT.sg:dw:={}
def bT.c:eZ:=fun l=>match l with
 | [.sl .is a,.sl .is b] => .fG (decide (a.length≤1099511627776)) [(.b (decide (a=b)))]
 | _ => .err
def fE.sg:dw:={ own:=[(0,1)] }
def fE.c:eZ:=oe .bs 1
def gE.sg:dw:={}
def gE.c:eZ:=fun l=>match l with
 | [.ro (.ag [.sl .bs fp,.i .i64 dj])] => .ok [(.i .i64 ((((dx.mk fp dj)).at_)))]
 | _ => .err
def eO.sg:dw:={}
def eO.c:eZ:=fun l=>match l with
 | [.ro (.ag [.sl .bs fp,.i .i64 dj])] => .fG (cT.iE (dx.mk fp dj)) [(.i .i64 (cT.left (dx.mk fp dj)))]
 | _ => .err
def fj.sg:dw:={ ref:=some 0,cZ:=2 }
def fj.c:eZ:=fun l=>match l with
 | [.ag [.sl .bs fp,.i .i64 dj]] => .fG (cT.iE (dx.mk fp dj)) [(.i .i64 (cT.byte (dx.mk fp dj))),(.b (cT.more (dx.mk fp dj))),(.ag (dx.cells (cT.pg (dx.mk fp dj) 1 (cT.more (dx.mk fp dj)))))]
 | _ => .err
def fh.sg:dw:={ ref:=some 0,cZ:=2 }
def fh.c:eZ:=fun l=>match l with
 | [.ag [.sl .bs fp,.i .i64 dj],.i .i64 n] => .fG (cT.iE (dx.mk fp dj)) [(.sl .bs (cT.nx (dx.mk fp dj) n (cT.pz (dx.mk fp dj) n))),(.b (cT.pz (dx.mk fp dj) n)),(.ag (dx.cells (cT.pg (dx.mk fp dj) n (cT.pz (dx.mk fp dj) n))))]
 | _ => .err
def fi.sg:dw:={ ref:=some 0,cZ:=2 }
def fi.c:eZ:=fun l=>match l with
 | [.ag [.sl .bs fp,.i .i64 dj],.i .i64 n] => .fG (cT.iE (dx.mk fp dj)) [(.sl .bs (cT.nx (dx.mk fp dj) n (cT.rC (dx.mk fp dj) n))),(.b (cT.rC (dx.mk fp dj) n)),(.ag (dx.cells (cT.pg (dx.mk fp dj) n (cT.rC (dx.mk fp dj) n))))]
 | _ => .err
def dR.sg:dw:={ ref:=some 0,cZ:=2 }
def dR.c:eZ:=fun l=>match l with
 | [.ag [.sl .bs fp,.i .i64 dj],.i .i64 n] => .fG (cT.iE (dx.mk fp dj)) [(.u64 (cT.be (cT.nx (dx.mk fp dj) n (cT.pz (dx.mk fp dj) n)))),(.b (cT.pz (dx.mk fp dj) n)),(.ag (dx.cells (cT.pg (dx.mk fp dj) n (cT.pz (dx.mk fp dj) n))))]
 | _ => .err
def fo.sg:dw:={ new:=some 0 }
def fo.c:eZ:=fun l=>match l with
 | [.sl .bs b] => .fG (decide ((b).length≤1099511627776)) [.pt,(.ag (dx.cells ((dx.mk b 0))))]
 | _ => .err
def dO.sg:dw:={}
def dO.c:eZ:=fun l=>match l with
 | [.i .i64 n] => .ok [(.b (decide (1≤n∧n≤8)))]
 | _ => .err
def eY.sg:dw:={ new:=some 0,fx:=[(0,1)] }
def eY.c:eZ:=fun l=>match l with
 | [] => .ok [.pt,(.ag (fg.cells ((fg.mk []))))]
 | _ => .err
def eV.sg:dw:={ ref:=some 0,fy:=[(0,1)],cZ:=0 }
def eV.c:eZ:=fun l=>match l with
 | [.ag [.sl .bs kj],.i .i64 v] => .fG (decide (((fg.mk kj)).b.length≤1099511627776)) [(.ag (fg.cells ((fg.mk (((fg.mk kj)).b++[UInt8.ofInt v])))))]
 | _ => .err
def fN.sg:dw:={ ref:=some 0,fy:=[(0,1)],cZ:=0 }
def fN.c:eZ:=fun l=>match l with
 | [.ag [.sl .bs kj],.sl .bs b] => .fG (decide (((fg.mk kj)).b.length+(b).length≤1099511627776)) [(.ag (fg.cells ((fg.mk (((fg.mk kj)).b++b)))))]
 | _ => .err
def dY.sg:dw:={ ref:=some 0,fy:=[(0,1)],cZ:=0 }
def dY.c:eZ:=fun l=>match l with
 | [.ag [.sl .bs kj],.u64 v,.i .i64 n] => .fG (decide (((fg.mk kj)).b.length≤1099511627776)) [(.ag (fg.cells ((fg.mk (((fg.mk kj)).b++cT.high v n)))))]
 | _ => .err
def eJ.sg:dw:={ ref:=some 0,fy:=[(0,1)] }
def eJ.c:eZ:=fun l=>match l with
 | [.ag [.sl .bs kj]] => .fG (decide (((fg.mk kj)).b.length≤1099511627776)) [(.sl .bs ((((fg.mk kj)).b))),(.ag (fg.cells ((fg.mk kj))))]
 | _ => .err
def fS.sg:dw:={}
def fS.c:eZ:=fun l=>match l with
 | [.i .i64 n] => .fG (decide (0≤n∧n≤1099511627776)) [(.b (decide (n<4294967296)))]
 | _ => .err
def bV.sg:dw:={}
def bV.c:eZ:=fun l=>match l with
 | [.ag [.i .i64 cg,.u64 cd,.sl .bs cB,.s bZ,.sl .il cC]] => .fG (decide (bG.c7 (bG.of (Itv.mk cg cd cB bZ cC))≤1099511627776)) [(.b (Mp.fI (bG.of (Itv.mk cg cd cB bZ cC))))]
 | _ => .err
def cW.sg:dw:={}
def cW.c:eZ:=fun l=>match l with
 | [.ag [.i .i64 cg,.u64 cd,.sl .bs cB,.s bZ,.sl .il cC]] => .fG (decide (bG.c7 (bG.of (Itv.mk cg cd cB bZ cC))≤1099511627776)) [(.i .i64 (Mp.dp (bG.of (Itv.mk cg cd cB bZ cC))))]
 | _ => .err
def cW.cn (n:Nat):eZ:=fun l=>match l with
 | [.ag [.i .i64 cg,.u64 cd,.sl .bs cB,.s bZ,.sl .il cC]] => .fG ((decide (bG.c7 (bG.of (Itv.mk cg cd cB bZ cC))≤1099511627776))&&decide ((bG.c7 (bG.of (Itv.mk cg cd cB bZ cC)))<n)) [(.i .i64 (Mp.dp (bG.of (Itv.mk cg cd cB bZ cC))))]
 | _ => .err
def dX.sg:dw:={ cZ:=2 }
def dX.c:eZ:=fun l=>match l with
 | [.i .i64 e,.i .i64 at_] => .ok [(.ag (Itv.cells (bG.val (Mp.zero)))),(.ag (cX.cells ((cX.mk e at_ []))))]
 | _ => .err
def dk.sg:dw:={}
def dk.c:eZ:=fun l=>match l with
 | [.u64 n] => .ok [(.ag [(.i .i64 (Mp.eK n).1),(.i .i64 (Mp.eK n).2)])]
 | _ => .err
def dW.sg:dw:={}
def dW.c:eZ:=fun l=>match l with
 | [.u64 n] => .ok [(.ag [(.i .i64 (Mp.signed n).1),(.i .i64 (Mp.signed n).2)])]
 | _ => .err
def jl.sg:dw:={}
def jl.c:eZ:=fun l=>match l with
 | [.i .i64 k,.i .i64 n] => .fG (Mp.ma k&&decide (0≤n∧n<4294967296)) [(.ag [(.i .i64 (Mp.sized k n).1),(.i .i64 (Mp.sized k n).2)])]
 | _ => .err
def fR.sg:dw:={ ref:=some 0,fy:=[(0,1)],cZ:=0 }
def fR.c:eZ:=fun l=>match l with
 | [.ag [.sl .bs kj],.ag [.i .i64 jD,.i .i64 kb],.u64 n] => .fG (decide (((fg.mk kj)).b.length+10≤1099511627776)) [(.ag (fg.cells ((fg.mk (((fg.mk kj)).b++Mp.put (((kU.mk jD kb)).at_,((kU.mk jD kb)).end_) n)))))]
 | _ => .err
def dt.sg:dw:={ ref:=some 0,fy:=[(0,1)],cZ:=0 }
def dt.c:eZ:=fun l=>match l with
 | [.ag [.sl .bs kj],.ag [.i .i64 cg,.u64 cd,.sl .bs cB,.s bZ,.sl .il cC]] => .fG (decide (((fg.mk kj)).b.length+16 * bG.c7 (bG.of (Itv.mk cg cd cB bZ cC))≤1099511627776)&&decide (Mp.dp (bG.of (Itv.mk cg cd cB bZ cC))=0)) [(.ag (fg.cells ((fg.mk (((fg.mk kj)).b++Mp.lay (bG.of (Itv.mk cg cd cB bZ cC)))))))]
 | _ => .err
def dt.cn (n:Nat):eZ:=fun l=>match l with
 | [.ag [.sl .bs kj],.ag [.i .i64 cg,.u64 cd,.sl .bs cB,.s bZ,.sl .il cC]] => .fG ((decide (((fg.mk kj)).b.length+16 * bG.c7 (bG.of (Itv.mk cg cd cB bZ cC))≤1099511627776)&&decide (Mp.dp (bG.of (Itv.mk cg cd cB bZ cC))=0))&&decide ((bG.c7 (bG.of (Itv.mk cg cd cB bZ cC)))<n)) [(.ag (fg.cells ((fg.mk (((fg.mk kj)).b++Mp.lay (bG.of (Itv.mk cg cd cB bZ cC)))))))]
 | _ => .err
def ez.sg:dw:={ cZ:=2 }
def ez.c:eZ:=fun l=>match l with
 | [.ag [.i .i64 cg,.u64 cd,.sl .bs cB,.s bZ,.sl .il cC]] => .fG (decide (bG.c7 (bG.of (Itv.mk cg cd cB bZ cC))≤1073741824)) [(.sl .bs (Mp.enc (bG.of (Itv.mk cg cd cB bZ cC)))),(.i .i64 (Mp.dp (bG.of (Itv.mk cg cd cB bZ cC))))]
 | _ => .err
def bJ.sg:dw:={ cZ:=3 }
def bJ.c:eZ:=fun l=>match l with
 | [.i .i64 c] => .fG (decide (0≤c∧c≤255)) [(.i .i64 ((Mp.first c).1)),(.u64 ((Mp.first c).2.1)),(.i .i64 ((Mp.first c).2.2))]
 | _ => .err
def dG.sg:dw:={ cZ:=2 }
def dG.c:eZ:=fun l=>match l with
 | [.ag [.i .i64 cg,.u64 cd,.sl .bs cB,.s bZ,.sl .il cC],.i .i64 p,.i .i64 c,.ag [.i .i64 jD,.i .i64 kb]] => .ok [(.ag (Itv.cells (bG.val ((Mp.num (bG.of (Itv.mk cg cd cB bZ cC)) p c ((kU.mk jD kb)).at_ 0).it)))),(.ag (cX.cells ((cX.mk (Mp.num (bG.of (Itv.mk cg cd cB bZ cC)) p c ((kU.mk jD kb)).at_ 0).err (Mp.num (bG.of (Itv.mk cg cd cB bZ cC)) p c ((kU.mk jD kb)).at_ 0).at_ []))))]
 | _ => .err
def dG.cw:eZ:=M4 0 [(2,.bs),(4,.il)] dG.c
def fB.sg:dw:={ ref:=some 0,cZ:=2 }
def fB.c:eZ:=fun l=>match l with
 | [.ag [.sl .bs fp,.i .i64 dj],.ag [.i .i64 cg,.u64 cd,.sl .bs cB,.s bZ,.sl .il cC],.i .i64 p,.i .i64 n] => .fG (cT.iE (dx.mk fp dj)) [(.ag (Itv.cells (bG.val ((Mp.row ((dx.mk fp dj)).b (bG.of (Itv.mk cg cd cB bZ cC)) p ((dx.mk fp dj)).at_ n).it)))),(.ag (cX.cells ((cX.mk (Mp.row ((dx.mk fp dj)).b (bG.of (Itv.mk cg cd cB bZ cC)) p ((dx.mk fp dj)).at_ n).err (Mp.row ((dx.mk fp dj)).b (bG.of (Itv.mk cg cd cB bZ cC)) p ((dx.mk fp dj)).at_ n).at_ [])))),(.ag (dx.cells ((dx.mk ((dx.mk fp dj)).b (Mp.row ((dx.mk fp dj)).b (bG.of (Itv.mk cg cd cB bZ cC)) p ((dx.mk fp dj)).at_ n).pos))))]
 | _ => .err
def fB.cw:eZ:=M4 1 [(2,.bs),(4,.il)] fB.c
def dr.sg:dw:={ ref:=some 0,cZ:=2 }
def dr.cn (n:Nat):eZ:=fun l=>match l with
 | [.ag [.sl .bs fp,.i .i64 dj],.ag [.i .i64 cg,.u64 cd,.c (.slice none 0 0),.s bZ,.c (.slice none 0 0)],.i .i64 m,.i .i64 depth] => .fG ((cT.iE (dx.mk fp dj)&&decide (0≤m∧m≤4294967296∧1≤depth∧depth≤1000))&&decide ((2 * (depth).toNat)<n)) [(.ag (Itv.cells (bG.val ((Mp.kids (Mp.read ((dx.mk fp dj)).b (depth - 1).toNat) (bG.of (Itv.mk cg cd [] bZ [])) (Mp.many ((Itv.mk cg cd [] bZ [])).kind m) ((dx.mk fp dj)).at_).it)))),(.ag (cX.cells ((cX.mk (Mp.kids (Mp.read ((dx.mk fp dj)).b (depth - 1).toNat) (bG.of (Itv.mk cg cd [] bZ [])) (Mp.many ((Itv.mk cg cd [] bZ [])).kind m) ((dx.mk fp dj)).at_).err (Mp.kids (Mp.read ((dx.mk fp dj)).b (depth - 1).toNat) (bG.of (Itv.mk cg cd [] bZ [])) (Mp.many ((Itv.mk cg cd [] bZ [])).kind m) ((dx.mk fp dj)).at_).at_ [])))),(.ag (dx.cells ((dx.mk ((dx.mk fp dj)).b (Mp.kids (Mp.read ((dx.mk fp dj)).b (depth - 1).toNat) (bG.of (Itv.mk cg cd [] bZ [])) (Mp.many ((Itv.mk cg cd [] bZ [])).kind m) ((dx.mk fp dj)).at_).pos))))]
 | _ => .err
def cm.sg:dw:={ ref:=some 0,cZ:=2 }
def cm.c:eZ:=fun l=>match l with
 | [.ag [.sl .bs fp,.i .i64 dj],.i .i64 depth] => .fG (cT.iE (dx.mk fp dj)&&decide (0≤depth∧depth≤1000)) [(.ag (Itv.cells (bG.val ((Mp.read ((dx.mk fp dj)).b (depth).toNat ((dx.mk fp dj)).at_).it)))),(.ag (cX.cells ((cX.mk (Mp.read ((dx.mk fp dj)).b (depth).toNat ((dx.mk fp dj)).at_).err (Mp.read ((dx.mk fp dj)).b (depth).toNat ((dx.mk fp dj)).at_).at_ [])))),(.ag (dx.cells ((dx.mk ((dx.mk fp dj)).b (Mp.read ((dx.mk fp dj)).b (depth).toNat ((dx.mk fp dj)).at_).pos))))]
 | _ => .err
def cm.cn (n:Nat):eZ:=fun l=>match l with
 | [.ag [.sl .bs fp,.i .i64 dj],.i .i64 depth] => .fG ((cT.iE (dx.mk fp dj)&&decide (0≤depth∧depth≤1000))&&decide ((2 * (depth).toNat+1)<n)) [(.ag (Itv.cells (bG.val ((Mp.read ((dx.mk fp dj)).b (depth).toNat ((dx.mk fp dj)).at_).it)))),(.ag (cX.cells ((cX.mk (Mp.read ((dx.mk fp dj)).b (depth).toNat ((dx.mk fp dj)).at_).err (Mp.read ((dx.mk fp dj)).b (depth).toNat ((dx.mk fp dj)).at_).at_ [])))),(.ag (dx.cells ((dx.mk ((dx.mk fp dj)).b (Mp.read ((dx.mk fp dj)).b (depth).toNat ((dx.mk fp dj)).at_).pos))))]
 | _ => .err
def eA.sg:dw:={ cZ:=2 }
def eA.c:eZ:=fun l=>match l with
 | [.sl .bs b,.i .i64 depth] => .fG (decide ((b).length≤1099511627776)) [(.ag (Itv.cells (bG.val ((Mp.dec b depth).1)))),(.ag (cX.cells ((Mp.dec b depth).2)))]
 | _ => .err
def cG.sg:dw:={}
def cG.c:eZ:=fun l=>match l with
 | [.u64 v,.i .i64 n] => .fG (decide (0≤n∧n≤8)) [(.sl .bs (cT.iK v (n).toNat))]
 | _ => .err
def bS.sg:dw:={ own:=[(0,1)] }
def bS.c:eZ:=fun l=>match l with
 | [.u64 v,.i .i64 n] => .fG (decide (0≤n∧n≤8)) [(.sl .bs (cT.eQ v (n).toNat))]
 | _ => .err
def cV.sg:dw:={ cZ:=2 }
def cV.c:eZ:=fun l=>match l with
 | [.sl .bs b,.i .i64 at_,.i .i64 n] => .fG (decide ((b).length≤1099511627776)) [(.u64 (cT.be (Mp.kk b at_ n))),(.b (Mp.kq b at_ n))]
 | _ => .err
def er.sg:dw:={}
def er.c:eZ:=fun l=>match l with
 | [.ag [.i .i64 cg,.u64 cd,.sl .bs cB,.s bZ,.sl .il cC]] => .fG (decide (bG.c7 (bG.of (Itv.mk cg cd cB bZ cC))≤1099511627776)) [(.i .i64 (Mp.own (bG.of (Itv.mk cg cd cB bZ cC))))]
 | _ => .err
def bX.sg:dw:={}
def bX.c:eZ:=fun l=>match l with
 | [.ag [.i .i64 cg,.u64 cd,.sl .bs cB,.s bZ,.sl .il cC]] => .fG (decide (bG.c7 (bG.of (Itv.mk cg cd cB bZ cC))≤1099511627776)) [(.i .i64 (Mp.dp (bG.of (Itv.mk cg cd cB bZ cC))))]
 | _ => .err
def bX.cn (n:Nat):eZ:=fun l=>match l with
 | [.ag [.i .i64 cg,.u64 cd,.sl .bs cB,.s bZ,.sl .il cC]] => .fG ((decide (bG.c7 (bG.of (Itv.mk cg cd cB bZ cC))≤1099511627776))&&decide ((bG.c7 (bG.of (Itv.mk cg cd cB bZ cC)))<n)) [(.i .i64 (Mp.dp (bG.of (Itv.mk cg cd cB bZ cC))))]
 | _ => .err
def dJ.sg:dw:={}
def dJ.c:eZ:=fun l=>match l with
 | [.u64 n] => .ok [(.i .i64 (Mp.wide n))]
 | _ => .err
def dK.sg:dw:={}
def dK.c:eZ:=fun l=>match l with
 | [.i .i64 n] => .ok [(.u8 (Mp.step n))]
 | _ => .err
def dq.sg:dw:={ own:=[(0,1)] }
def dq.c:eZ:=fun l=>match l with
 | [.u8 f,.u64 n,.i .i64 least] => .fG (decide (least≤8)) [(.sl .bs (Mp.form f n least))]
 | _ => .err
def dV.sg:dw:={ own:=[(0,1)] }
def dV.c:eZ:=fun l=>match l with
 | [.u64 n,.u64 k] => .ok [(.sl .bs (Mp.ext n k))]
 | _ => .err
def cP.sg:dw:={ own:=[(0,1)] }
def cP.c:eZ:=fun l=>match l with
 | [.u64 n] => .ok [(.sl .bs (Mp.put (Mp.signed n) (~~~ n)))]
 | _ => .err
def dL.sg:dw:={ own:=[(0,1)] }
def dL.c:eZ:=fun l=>match l with
 | [.ag [.i .i64 cg,.u64 cd,.sl .bs cB,.s bZ,.sl .il cC]] => .fG (decide (bG.c7 (bG.of (Itv.mk cg cd cB bZ cC))≤1099511627776)&&decide (Mp.own (bG.of (Itv.mk cg cd cB bZ cC))=0)) [(.sl .bs (Mp.head (bG.of (Itv.mk cg cd cB bZ cC))))]
 | _ => .err
def bF.sg:dw:={ cZ:=4 }
def bF.c:eZ:=fun l=>match l with
 | [.u8 c] => .ok [(.i .i64 ((Mp.first ((c).toNat:Int)).1)),(.u64 ((Mp.first ((c).toNat:Int)).2.1)),(.i .i64 ((Mp.first ((c).toNat:Int)).2.2)),(.i .i64 ((if (Mp.first ((c).toNat:Int)).1=10 then 1 else 0)))]
 | _ => .err
def dA.sg:dw:={ cZ:=2 }
def dA.c:eZ:=fun l=>match l with
 | [.u64 n,.i .i64 size] => .fG (decide (size=1∨size=2∨size=4∨size=8)) [(.u64 ((Mp.below n size).getD 0)),(.b ((Mp.below n size).isSome))]
 | _ => .err
def cJ.sg:dw:={}
def cJ.c:eZ:=fun l=>match l with
 | [.sl .bs b,.i .i64 p,.i .i64 end_,.i .i64 k,.u64 n,.u64 types] => .fG (decide (0≤p∧p≤end_∧end_≤(b).length∧(b).length≤1099511627776)&&decide (k=1∨k=2∧n<9223372036854775808∨k=8∧20≤n∧n≤22∨k=9∨k=3∨k=4∨k=5∨k=6∨k=10)) [(.b (decide (Mp.want k n types=((b).drop (p).toNat).take ((end_) - (p)).toNat)))]
 | _ => .err
def bE.sg:dw:={ cZ:=3 }
def bE.c:eZ:=fun l=>match l with
 | [.sl .bs b,.i .i64 p,.i .i64 within,.i .i64 depth] => .fG (decide ((b).length≤1099511627776∧0≤p∧0≤within∧within≤depth∧depth≤1000)) [(.ag (Itv.cells (bG.val ((Mp.read b (depth - within).toNat p).it)))),(.i .i64 ((Mp.next b (depth - within).toNat p))),(.ag (cX.cells ((cX.mk (Mp.read b (depth - within).toNat p).err (Mp.read b (depth - within).toNat p).at_ []))))]
 | _ => .err
def bE.cn (n:Nat):eZ:=fun l=>match l with
 | [.sl .bs b,.i .i64 p,.i .i64 within,.i .i64 depth] => .fG ((decide ((b).length≤1099511627776∧0≤p∧0≤within∧within≤depth∧depth≤1000))&&decide (((depth - within).toNat)<n)) [(.ag (Itv.cells (bG.val ((Mp.read b (depth - within).toNat p).it)))),(.i .i64 ((Mp.next b (depth - within).toNat p))),(.ag (cX.cells ((cX.mk (Mp.read b (depth - within).toNat p).err (Mp.read b (depth - within).toNat p).at_ []))))]
 | _ => .err
def cH.sg:dw:={ cZ:=2 }
def cH.c:eZ:=fun l=>match l with
 | [.sl .bs b,.i .i64 depth] => .fG (decide ((b).length≤1099511627776)) [(.ag (Itv.cells (bG.val ((Mp.dec b depth).1)))),(.ag (cX.cells ((Mp.dec b depth).2)))]
 | _ => .err
def eo.sg:dw:={}
def eo.c:eZ:=fun l=>match l with
 | [.ag [.i .i64 nC,.i .i64 jD,.sl .is kT],.ag [.i .i64 pd,.i .i64 tq,.sl .is mm]] => .fG (decide (((cX.mk nC jD kT)).path.length≤1099511627776)) [(.b (decide (((cX.mk nC jD kT)).err=((cX.mk pd tq mm)).err∧((cX.mk nC jD kT)).at_=((cX.mk pd tq mm)).at_∧((cX.mk nC jD kT)).path=((cX.mk pd tq mm)).path)))]
 | _ => .err
def da.sg:dw:={}
def da.c:eZ:=fun l=>match l with
 | [.i .i64 left,.sl .is ig] => .fG (decide (left≤10000∧ig.length≤10)&&ig.all (fun s=>decide (0≤s))) [(.i .i64 (qv.room left ig))]
 | _ => .err
def cN.sg:dw:={}
def cN.c:eZ:=fun l=>match l with
 | [.i .i64 left,.ag [.i .i64 cg,.u64 cd,.sl .bs cB,.s bZ,.sl .il cC]] => .fG (decide (left≤10000)) [(.i .i64 (bG.room left (bG.of (Itv.mk cg cd cB bZ cC))))]
 | _ => .err
def cN.cn (n:Nat):eZ:=fun l=>match l with
 | [.i .i64 left,.ag [.i .i64 cg,.u64 cd,.sl .bs cB,.s bZ,.sl .il cC]] => .fG ((decide (left≤10000))&&decide ((bG.c7 (bG.of (Itv.mk cg cd cB bZ cC)))<n)) [(.i .i64 (bG.room left (bG.of (Itv.mk cg cd cB bZ cC))))]
 | _ => .err
def cR.sg:dw:={}
def cR.c:eZ:=fun l=>match l with
 | [.ag [.i .i64 cg,.u64 cd,.sl .bs cB,.s bZ,.sl .il cC]] => .ok [(.b (decide (0≤bG.room 1500 (bG.of (Itv.mk cg cd cB bZ cC)))))]
 | _ => .err
def dh.sg:dw:={}
def dh.c:eZ:=fun l=>match l with
 | [.s s,.u8 c] => .ok [(.i .i64 (Lib.indexByte s c))]
 | _ => .err
def ef.sg:dw:={}
def ef.c:eZ:=fun l=>match l with
 | [.s s,.s t] => .fG (decide (t.length=1)) [(.i .i64 (Lib.indexByte s (t.getD 0 0)))]
 | _ => .err
def eL.sg:dw:={}
def eL.c:eZ:=fun l=>match l with
 | [.s s,.s t] => .fG (decide (t.length=1)) [(.i .i64 (Lib.indexByte s (t.getD 0 0)))]
 | _ => .err
def dc.sg:dw:={}
def dc.c:eZ:=fun l=>match l with
 | [.s s,.s t] => .fG (decide (t.length=1)) [(.b (decide (0≤Lib.indexByte s (t.getD 0 0))))]
 | _ => .err
def jF.sg:dw:={ ps:=some (0,1) }
def jF.c:eZ:=oe .is 8
def en.sg:dw:={}
def en.c:eZ:=fun l=>match l with
 | [.i .i64 k] => .ok [(.s (Tree.name k))]
 | _ => .err
def bH.sg:dw:={}
def bH.c:eZ:=fun l=>match l with
 | [.ag [.i .i64 gN,.u64 gP,.u64 gO,.u64 gM,.s gJ,.s gL,.i .i64 gK,.sl .bs gI,.sl .fl iH]] => .ok [(.b (Tree.fI (bI.mk gN gP gO gM gJ gL gK gI iH)))]
 | _ => .err
def dH.sg:dw:={}
def dH.c:eZ:=fun l=>match l with
 | [.s s,.b plain] => .fG (decide (s.length≤1099511627776)) [(.b (Tree.fK s plain))]
 | _ => .err
def cE.sg:dw:={ cZ:=2,ps:=some (2,1) }
def cE.c:eZ:=fun l=>match l with
 | [.ag [.i .i64 gN,.u64 gP,.u64 gO,.u64 gM,.s gJ,.s gL,.i .i64 gK,.sl .bs gI,.sl .fl iH],.s name,.sl .is path] => .fG (decide (bM.c7 (bM.of name (bI.mk gN gP gO gM gJ gL gK gI iH))+path.length≤1099511627776)) [(.sl .is ((Tree.iN (bM.of name (bI.mk gN gP gO gM gJ gL gK gI iH)) path).1)),(.i .i64 ((Tree.iN (bM.of name (bI.mk gN gP gO gM gJ gL gK gI iH)) path).2))]
 | _ => .err
def cE.cn (n:Nat):eZ:=fun l=>match l with
 | [.ag [.i .i64 gN,.u64 gP,.u64 gO,.u64 gM,.s gJ,.s gL,.i .i64 gK,.sl .bs gI,.sl .fl iH],.s name,.sl .is path] => .fG ((decide (bM.c7 (bM.of name (bI.mk gN gP gO gM gJ gL gK gI iH))+path.length≤1099511627776))&&decide ((bM.c7 (bM.of name (bI.mk gN gP gO gM gJ gL gK gI iH)))<n)) [(.sl .is ((Tree.iN (bM.of name (bI.mk gN gP gO gM gJ gL gK gI iH)) path).1)),(.i .i64 ((Tree.iN (bM.of name (bI.mk gN gP gO gM gJ gL gK gI iH)) path).2))]
 | _ => .err
def dI.sg:dw:={ cZ:=2 }
def dI.c:eZ:=fun l=>match l with
 | [.ag [.i .i64 gN,.u64 gP,.u64 gO,.u64 gM,.s gJ,.s gL,.i .i64 gK,.sl .bs gI,.sl .fl iH]] => .fG (decide (bM.c7 (bM.of [] (bI.mk gN gP gO gM gJ gL gK gI iH))≤1099511627776)) [(.sl .is ((Tree.iN (bM.of [] (bI.mk gN gP gO gM gJ gL gK gI iH)) []).1)),(.i .i64 ((Tree.iN (bM.of [] (bI.mk gN gP gO gM gJ gL gK gI iH)) []).2))]
 | _ => .err
def cF.sg:dw:={}
def cF.c:eZ:=fun l=>match l with
 | [.ag [.i .i64 gN,.u64 gP,.u64 gO,.u64 gM,.s gJ,.s gL,.i .i64 gK,.sl .bs gI,.sl .fl iH]] => .fG (decide (bM.c7 (bM.of [] (bI.mk gN gP gO gM gJ gL gK gI iH))≤1099511627776)) [(.i .i64 ((Tree.depth (bM.of [] (bI.mk gN gP gO gM gJ gL gK gI iH)):Int)))]
 | _ => .err
def cF.cn (n:Nat):eZ:=fun l=>match l with
 | [.ag [.i .i64 gN,.u64 gP,.u64 gO,.u64 gM,.s gJ,.s gL,.i .i64 gK,.sl .bs gI,.sl .fl iH]] => .fG ((decide (bM.c7 (bM.of [] (bI.mk gN gP gO gM gJ gL gK gI iH))≤1099511627776))&&decide ((bM.c7 (bM.of [] (bI.mk gN gP gO gM gJ gL gK gI iH)))<n)) [(.i .i64 ((Tree.depth (bM.of [] (bI.mk gN gP gO gM gJ gL gK gI iH)):Int)))]
 | _ => .err
def dC.sg:dw:={}
def dC.c:eZ:=fun l=>match l with
 | [.s s] => .fG (decide (s.length≤1099511627776)) [(.b (Tree.fK s true))]
 | _ => .err
def eu.sg:dw:={}
def eu.c:eZ:=fun l=>match l with
 | [.ag [.i .i64 uv,.u64 uy,.u64 uw,.u64 uu,.s uo,.s ur,.i .i64 uq,.sl .bs um,.sl .fl ux],.ag [.i .i64 yQ,.u64 yT,.u64 yR,.u64 yP,.s yM,.s yO,.i .i64 yN,.sl .bs yL,.sl .fl yS]] => .ok [(.b (Tree.gH (bI.mk uv uy uw uu uo ur uq um ux) (bI.mk yQ yT yR yP yM yO yN yL yS)))]
 | _ => .err
def cA.sg:dw:={}
def cA.c:eZ:=fun l=>match l with
 | [.ag [.i .i64 uv,.u64 uy,.u64 uw,.u64 uu,.s uo,.s ur,.i .i64 uq,.sl .bs um,.sl .fl ux],.ag [.i .i64 yQ,.u64 yT,.u64 yR,.u64 yP,.s yM,.s yO,.i .i64 yN,.sl .bs yL,.sl .fl yS]] => .fG (decide (bM.c7 (bM.of [] (bI.mk uv uy uw uu uo ur uq um ux))≤1099511627776)) [(.b (Tree.same (bI.mk uv uy uw uu uo ur uq um ux) (bI.mk yQ yT yR yP yM yO yN yL yS)))]
 | _ => .err
def cA.cn (n:Nat):eZ:=fun l=>match l with
 | [.ag [.i .i64 uv,.u64 uy,.u64 uw,.u64 uu,.s uo,.s ur,.i .i64 uq,.sl .bs um,.sl .fl ux],.ag [.i .i64 yQ,.u64 yT,.u64 yR,.u64 yP,.s yM,.s yO,.i .i64 yN,.sl .bs yL,.sl .fl yS]] => .fG ((decide (bM.c7 (bM.of [] (bI.mk uv uy uw uu uo ur uq um ux))≤1099511627776))&&decide ((bM.c7 (bM.of [] (bI.mk uv uy uw uu uo ur uq um ux)))<n)) [(.b (Tree.same (bI.mk uv uy uw uu uo ur uq um ux) (bI.mk yQ yT yR yP yM yO yN yL yS)))]
 | _ => .err
def kG.sg:dw:={}
def kG.c:eZ:=Cw
def cD.sg:dw:={}
def cD.c:eZ:=fun l=>match l with
 | [.u64 v] => .ok [(.s (kP (v).toNat))]
 | _ => .err
def bW.sg:dw:={}
def bW.c:eZ:=fun l=>match l with
 | [.sl .fl l] => .fG (decide (l.length≤1099511627776)) [(.b (Tree.regular l))]
 | _ => .err
def bU.sg:dw:={}
def bU.c:eZ:=fun l=>match l with
 | [.sl .fl l] => .fG (decide (l.length≤1099511627776)) [(.b (Tree.regular l))]
 | _ => .err
def di.sg:dw:={ cZ:=2 }
def di.c:eZ:=fun l=>match l with
 | [.ag [.i .i64 cg,.u64 cd,.sl .bs cB,.s bZ,.sl .il cC]] => .ok [(.i .i64 (Db.gA (bG.of (Itv.mk cg cd cB bZ cC)))),(.b ((Db.number (bG.of (Itv.mk cg cd cB bZ cC))).isSome))]
 | _ => .err
def dM.sg:dw:={ cZ:=2 }
def dM.c:eZ:=fun l=>match l with
 | [.ag [.i .i64 cg,.u64 cd,.sl .bs cB,.s bZ,.sl .il cC]] => .ok [(.ag (bI.cells ((Db.half (bG.of (Itv.mk cg cd cB bZ cC))).1))),(.b ((Db.half (bG.of (Itv.mk cg cd cB bZ cC))).2))]
 | _ => .err
def fP.sg:dw:={ cZ:=3 }
def fP.c:eZ:=fun l=>match l with
 | [.s s,.s t] => .fG (decide (t.length=1∧s.length≤1099511627776)) [(.s ((Dk.cut s (t.getD 0 0)).1)),(.s ((Dk.cut s (t.getD 0 0)).2.1)),(.b ((Dk.cut s (t.getD 0 0)).2.2))]
 | _ => .err
def fQ.sg:dw:={ cZ:=3 }
def fQ.c:eZ:=fun l=>match l with
 | [.s s,.s t] => .fG (decide (t.length=1∧s.length≤1099511627776)) [(.s ((Dk.cut s (t.getD 0 0)).1)),(.s ((Dk.cut s (t.getD 0 0)).2.1)),(.b ((Dk.cut s (t.getD 0 0)).2.2))]
 | _ => .err
def eW.sg:dw:={}
def eW.c:eZ:=fun l=>match l with
 | [.s s] => .ok [(.ag (Itv.cells (bG.val (Db.text s))))]
 | _ => .err
def eB.sg:dw:={}
def eB.c:eZ:=fun l=>match l with
 | [.u64 n] => .ok [(.ag (Itv.cells (bG.val (Db.simple n))))]
 | _ => .err
def dU.sg:dw:={ own:=[(0,1)] }
def dU.c:eZ:=fun l=>match l with
 | [.u64 v,.i .i64 n] => .fG (decide (0≤n∧n≤8)) [(.sl .bs (cT.eQ v (n).toNat))]
 | _ => .err
def dN.sg:dw:={}
def dN.c:eZ:=fun l=>match l with
 | [.i .i64 v] => .fG (decide (-9223372036854775808≤v∧v≤9223372036854775807)) [(.ag (Itv.cells (bG.val (Db.integer v))))]
 | _ => .err
def cL.sg:dw:={}
def cL.c:eZ:=fun l=>match l with
 | [.sl .fl l] => .fG (decide (bM.db l≤1048576)&&Tree.iT l) [(.ag (Itv.cells (bG.val (Db.map (Dk.mapped l)))))]
 | _ => .err
def cL.cn (n:Nat):eZ:=fun l=>match l with
 | [.sl .fl l] => .fG ((decide (bM.db l≤1048576)&&Tree.iT l)&&decide ((4 * bM.db l+3)<n)) [(.ag (Itv.cells (bG.val (Db.map (Dk.mapped l)))))]
 | _ => .err
def fw.sg:dw:={}
def fw.cn (n:Nat):eZ:=fun l=>match l with
 | [.sl .fl l] => .fG ((decide (bM.db l≤1048576)&&Tree.iT l)&&decide ((4 * bM.db l+4)<n)) [(.sl .bs (Mp.lay (Db.map (Dk.mapped l))))]
 | _ => .err
def de.sg:dw:={}
def de.cn (n:Nat):eZ:=fun l=>match l with
 | [.ag [.i .i64 gN,.u64 gP,.u64 gO,.u64 gM,.s gJ,.s gL,.i .i64 gK,.sl .bs gI,.sl .fl iH]] => .fG ((decide (bM.c7 (bM.of [] (bI.mk gN gP gO gM gJ gL gK gI iH))≤1048576)&&Tree.lj (bM.of [] (bI.mk gN gP gO gM gJ gL gK gI iH)))&&decide ((4 * bM.c7 (bM.of [] (bI.mk gN gP gO gM gJ gL gK gI iH))+2)<n)) [(.ag (Itv.cells (bG.val (Dk.item (bM.of [] (bI.mk gN gP gO gM gJ gL gK gI iH))))))]
 | _ => .err
def cQ.sg:dw:={}
def cQ.cn (n:Nat):eZ:=fun l=>match l with
 | [.ag [.i .i64 gN,.u64 gP,.u64 gO,.u64 gM,.s gJ,.s gL,.i .i64 gK,.sl .bs gI,.sl .fl iH]] => .fG ((decide (bM.c7 (bM.of [] (bI.mk gN gP gO gM gJ gL gK gI iH))≤1048576)&&Tree.lj (bM.of [] (bI.mk gN gP gO gM gJ gL gK gI iH)))&&decide ((4 * bM.c7 (bM.of [] (bI.mk gN gP gO gM gJ gL gK gI iH))+1)<n)) [(.sl .bs (Dk.inner (bI.mk gN gP gO gM gJ gL gK gI iH) (Mp.lay (Db.map (Dk.mapped ((bI.mk gN gP gO gM gJ gL gK gI iH)).kids)))))]
 | _ => .err
def fk.sg:dw:={}
def fk.c:eZ:=fun l=>match l with
 | [.i .i64 k] => .ok [(.u64 (Dk.sort k))]
 | _ => .err
def fm.sg:dw:={ cZ:=2 }
def fm.c:eZ:=fun l=>match l with
 | [.ag [.i .i64 gN,.u64 gP,.u64 gO,.u64 gM,.s gJ,.s gL,.i .i64 gK,.sl .bs gI,.sl .fl iH]] => .fG (decide (bM.c7 (bM.of [] (bI.mk gN gP gO gM gJ gL gK gI iH))≤1048576)) [(.ag (Itv.cells (bG.val ((Dk.enc (bI.mk gN gP gO gM gJ gL gK gI iH)).1)))),(.ag (cX.cells ((Dk.enc (bI.mk gN gP gO gM gJ gL gK gI iH)).2)))]
 | _ => .err
def eP.sg:dw:={ ps:=some (0,1) }
def eP.c:eZ:=fun l=>match l with
 | [.sl .is path] => .fG (decide ((path).length≤1099511627776)) [(.ag (cX.cells ((cX.mk 12 0 path))))]
 | _ => .err
def dz.sg:dw:={ cZ:=2,ps:=some (2,1) }
def dz.c:eZ:=fun l=>match l with
 | [.ag [.i .i64 gN,.u64 gP,.u64 gO,.u64 gM,.s gJ,.s gL,.i .i64 gK,.sl .bs gI,.c (.slice none 0 0)],.sl .il l,.sl .is path,.i .i64 within] => .fG (decide ((Mp.eR l).length+(path).length≤536870912)&&decide (Mp.gf l=0∧(l).length % 2=0∧0≤within∧within≤200)) [(.ag (bI.cells (Db.iv.val (Db.fU.qf (bI.mk gN gP gO gM gJ gL gK gI []) (Dk.fields (200 - within).toNat l 0 path))))),(.ag (cX.cells (Db.iv.qQ (Db.fU.qf (bI.mk gN gP gO gM gJ gL gK gI []) (Dk.fields (200 - within).toNat l 0 path)))))]
 | _ => .err
def dz.cn (n:Nat):eZ:=fun l=>match l with
 | [.ag [.i .i64 gN,.u64 gP,.u64 gO,.u64 gM,.s gJ,.s gL,.i .i64 gK,.sl .bs gI,.c (.slice none 0 0)],.sl .il l,.sl .is path,.i .i64 within] => .fG ((decide ((Mp.eR l).length+(path).length≤536870912)&&decide (Mp.gf l=0∧(l).length % 2=0∧0≤within∧within≤200))&&decide ((4 * (Mp.eR l).length+3)<n)) [(.ag (bI.cells (Db.iv.val (Db.fU.qf (bI.mk gN gP gO gM gJ gL gK gI []) (Dk.fields (200 - within).toNat l 0 path))))),(.ag (cX.cells (Db.iv.qQ (Db.fU.qf (bI.mk gN gP gO gM gJ gL gK gI []) (Dk.fields (200 - within).toNat l 0 path)))))]
 | _ => .err
def cK.sg:dw:={ cZ:=2,ps:=some (1,1) }
def cK.cn (n:Nat):eZ:=fun l=>match l with
 | [.ag [.i .i64 cg,.u64 cd,.sl .bs cB,.s bZ,.sl .il cC],.sl .is path,.i .i64 within] => .fG ((decide ((Mp.lay (bG.of (Itv.mk cg cd cB bZ cC))).length+(path).length≤536870912)&&decide (Mp.dp (bG.of (Itv.mk cg cd cB bZ cC))=0∧0≤within∧within≤200))&&decide ((4 * (Mp.lay (bG.of (Itv.mk cg cd cB bZ cC))).length)<n)) [(.ag (bI.cells (Db.iv.val (Dk.value (200 - within).toNat (bG.of (Itv.mk cg cd cB bZ cC)) path)))),(.ag (cX.cells (Db.iv.qQ (Dk.value (200 - within).toNat (bG.of (Itv.mk cg cd cB bZ cC)) path))))]
 | _ => .err
def cj.sg:dw:={ cZ:=2 }
def cj.cn (n:Nat):eZ:=fun l=>match l with
 | [.ag [.i .i64 cg,.u64 cd,.sl .bs cB,.s bZ,.sl .il cC],.i .i64 within] => .fG ((decide (((Itv.mk cg cd cB bZ cC)).bytes.length≤536870912∧((Itv.mk cg cd cB bZ cC)).n≤127∧0≤within∧within≤200))&&decide ((4 * ((Itv.mk cg cd cB bZ cC)).bytes.length+2)<n)) [(.ag (bI.cells ((Dk.jE (200 - within).toNat ((Itv.mk cg cd cB bZ cC)).n ((Itv.mk cg cd cB bZ cC)).bytes).1))),(.b ((Dk.jE (200 - within).toNat ((Itv.mk cg cd cB bZ cC)).n ((Itv.mk cg cd cB bZ cC)).bytes).2))]
 | _ => .err
def fv.sg:dw:={ cZ:=2 }
def fv.cn (n:Nat):eZ:=fun l=>match l with
 | [.ag [.i .i64 gN,.u64 gP,.u64 gO,.u64 gM,.s gJ,.s gL,.i .i64 gK,.sl .bs gI,.c (.slice none 0 0)],.sl .bs b,.i .i64 within] => .fG ((decide ((b).length≤536870912∧0≤within∧within<200))&&decide ((4 * (b).length+1)<n)) [(.ag (bI.cells ((Dk.kK (199 - within).toNat (bI.mk gN gP gO gM gJ gL gK gI []) b).1))),(.b ((Dk.kK (199 - within).toNat (bI.mk gN gP gO gM gJ gL gK gI []) b).2))]
 | _ => .err
def dT.sg:dw:={}
def dT.c:eZ:=fun l=>match l with
 | [.sl .bs b] => .fG (decide ((b).length≤1099511627776)) [(.u64 (cT.be b))]
 | _ => .err
def eM.sg:dw:={}
def eM.c:eZ:=fun l=>match l with
 | [.sl .bs b] => .fG (decide ((b).length≤1099511627776)) [(.b (ee.whole b))]
 | _ => .err
def eD.sg:dw:={ cZ:=2 }
def eD.c:eZ:=fun l=>match l with
 | [.ag [.i .i64 cg,.u64 cd,.sl .bs cB,.s bZ,.sl .il cC]] => .fG (decide (bG.c7 (bG.of (Itv.mk cg cd cB bZ cC))≤1048576)) [(.ag (bI.cells ((Dk.dec (bG.of (Itv.mk cg cd cB bZ cC))).1))),(.ag (cX.cells ((Dk.dec (bG.of (Itv.mk cg cd cB bZ cC))).2)))]
 | _ => .err
def c9.sg:dw:={}
def c9.c:eZ:=fun l=>match l with
 | [.sl .is p,.i .i64 k] => .fG (decide (p.length≤1099511627776)) [(.sl .is ((p++[k])))]
 | _ => .err
def dE.sg:dw:={ cZ:=2 }
def dE.cn (n:Nat):eZ:=fun l=>match l with
 | [.sl .bs b,.i .i64 within] => .fG ((decide ((b).length≤536870912∧0≤within∧within<200))&&decide ((4 * (b).length+1)<n)) [(.sl .fl ((Dk.tX (199 - within).toNat b).getD [])),(.b ((Dk.tX (199 - within).toNat b).isSome))]
 | _ => .err
def bD.sg:dw:={ cZ:=2 }
def bD.cn (n:Nat):eZ:=fun l=>match l with
 | [.i .i64 k,.sl .bs b,.i .i64 within] => .fG ((decide ((b).length≤536870912∧0≤k∧k≤127∧0≤within∧within<200))&&decide ((4 * (b).length+2)<n)) [(.ag (bI.cells ((Dk.lD (199 - within).toNat k b).1))),(.b ((Dk.lD (199 - within).toNat k b).2))]
 | _ => .err
def bP.sg:dw:={ cZ:=2 }
def bP.c:eZ:=fun l=>match l with
 | [.ag [.i .i64 cg,.u64 cd,.sl .bs cB,.s bZ,.sl .il cC],.sl .is p,.i .i64 within] => .fG (decide ((Mp.eR ((Itv.mk cg cd cB bZ cC)).kids).length+(p).length≤536870912)&&decide (Mp.gf ((Itv.mk cg cd cB bZ cC)).kids=0∧((Itv.mk cg cd cB bZ cC)).kids.length % 2=0∧0≤within∧within≤200)) [(.sl .fl (Db.fU.Es (Dk.fields (200 - within).toNat ((Itv.mk cg cd cB bZ cC)).kids 0 p))),(.ag (cX.cells (Db.fU.qQ (Dk.fields (200 - within).toNat ((Itv.mk cg cd cB bZ cC)).kids 0 p))))]
 | _ => .err
def bP.cn (n:Nat):eZ:=fun l=>match l with
 | [.ag [.i .i64 cg,.u64 cd,.sl .bs cB,.s bZ,.sl .il cC],.sl .is p,.i .i64 within] => .fG ((decide ((Mp.eR ((Itv.mk cg cd cB bZ cC)).kids).length+(p).length≤536870912)&&decide (Mp.gf ((Itv.mk cg cd cB bZ cC)).kids=0∧((Itv.mk cg cd cB bZ cC)).kids.length % 2=0∧0≤within∧within≤200))&&decide ((4 * (Mp.eR ((Itv.mk cg cd cB bZ cC)).kids).length+3)<n)) [(.sl .fl (Db.fU.Es (Dk.fields (200 - within).toNat ((Itv.mk cg cd cB bZ cC)).kids 0 p))),(.ag (cX.cells (Db.fU.qQ (Dk.fields (200 - within).toNat ((Itv.mk cg cd cB bZ cC)).kids 0 p))))]
 | _ => .err
def bN.sg:dw:={ cZ:=2 }
def bN.cn (n:Nat):eZ:=fun l=>match l with
 | [.ag [.i .i64 cg,.u64 cd,.sl .bs cB,.s bZ,.sl .il cC],.sl .is p,.i .i64 within] => .fG ((decide ((Mp.lay (bG.of (Itv.mk cg cd cB bZ cC))).length+(p).length≤536870912)&&decide (Mp.dp (bG.of (Itv.mk cg cd cB bZ cC))=0∧0≤within∧within≤200))&&decide ((4 * (Mp.lay (bG.of (Itv.mk cg cd cB bZ cC))).length)<n)) [(.ag (bI.cells (Db.iv.val (Dk.value (200 - within).toNat (bG.of (Itv.mk cg cd cB bZ cC)) p)))),(.ag (cX.cells (Db.iv.qQ (Dk.value (200 - within).toNat (bG.of (Itv.mk cg cd cB bZ cC)) p))))]
 | _ => .err
def dB.sg:dw:={ cZ:=2 }
def dB.c:eZ:=fun l=>match l with
 | [.ag [.i .i64 cg,.u64 cd,.sl .bs cB,.s bZ,.sl .il cC]] => .fG (decide (bG.c7 (bG.of (Itv.mk cg cd cB bZ cC))≤1048576)) [(.ag (bI.cells ((Dk.dec (bG.of (Itv.mk cg cd cB bZ cC))).1))),(.ag (cX.cells ((Dk.dec (bG.of (Itv.mk cg cd cB bZ cC))).2)))]
 | _ => .err
def dn.sg:dw:={}
def dn.c:eZ:=fun l=>match l with
 | [] => .ok [(.b (true))]
 | _ => .err
def fO.env:EV:=[]
def fO.E:eg:=cM tryzGl fO.env
def fO.m:TM:=oS [oW (.b false) 2] (oS [oV 0 3,oI .geq 3 (.i .i64 0) 4,oV 4 5,oG 5 true (oV 0 6),oG 5 true (oI .leq 6 (.i .i64 1114111) 7),oP 5 7 false 8,oV 8 9,oG 9 true (oV 0 10),oG 9 true (oI .lss 10 (.i .i64 55296) 11),oG 9 true (oV 11 12),oG 12 false (oV 0 13),oG 12 false (oI .gtr 13 (.i .i64 57343) 14),oG 9 true (oX (.k .pick) [.s 12,.c (.b true),.s 14] [15]),oP 9 15 false 16,oV 16 2] .ret)
def fO.d:gn:=D0 1 fO.m [.t 2]
def fO.F (r:Int):OT:=fO.d.run fO.E [(.i .i64 r)]
theorem fO.dQ (r:Int) {ρ:OT} (K:∀(v1:Bool) (h1:v1=(cond (decide ((0:Int)≤r)) (decide (r≤(1114111:Int))) false)) (v2:Bool) (h2:v2=(v1&&(!(decide (r<(55296:Int)))))) (v3:Bool) (h3:v3=(cond (decide (r<(55296:Int))) true (decide ((57343:Int)<r)))),ck (!(decide ((0:Int)≤r)) || (decide ((0:Int)≤r))) (ck (!(decide ((0:Int)≤r)) || (decide ((0:Int)≤r))) (ck (!v1 || v1) (ck (!v1 || v1) (ck (!v2 || v2) (ck (!v1 || (v1&&((decide (r<(55296:Int))) || v2))) (ck (!v1 || v1) (some [(.b (cond v1 v3 false))])))))))=ρ):fO.F r=ρ:=Eq.trans (by kernel_rfl) (K _ rfl _ rfl _ rfl)
theorem fO.dp:CK 97 fO.env fO.d:=eH (by kernel_rfl)
def bR.env:EV:=[(97,(fO.c,fO.sg))]
def bR.E:eg:=cM tryzGl bR.env
def bR.m1:TM := .seq (oS [oV 7 54,oV 0 55,oK (.k .len) [55] [56],oV 1 57,oB .sub 56 57 58,oI .sub 58 (.i .i64 1) 59,oB .gtr 54 59 60] (.cond (.s 60) [] (.exit (gid 0)) .skip)) none (oS [oW (.i .i64 1) 9] (.seq .skip none (.seq (oS [oV 9 61,oV 7 62,oB .leq 61 62 63] (.cond (.s 63) [] (.seq (oS [oV 0 64,oV 1 65,oV 9 66,oB .add 65 66 67,oK (.k (.ix 1)) [64,67] [68],oK (.k (.lr 1 false)) [68] [69],oI .and 69 (.u8 192) 70,oI .neq 70 (.u8 128) 71] (.cond (.s 71) [] (.exit (gid 0)) .skip)) none (oS [oV 4 72,oI .shl 72 (.u64 6) 73,oV 0 74,oV 1 75,oV 9 76,oB .add 75 76 77,oK (.k (.ix 1)) [74,77] [78],oK (.k (.lr 1 false)) [78] [79],oI .and 79 (.u8 63) 80,oK (.k (.ci .i64)) [80] [81],oB .or 73 81 82,oV 82 4] (oS [oV 9 83,oI .add 83 (.i .i64 1) 84,oV 84 9] (.exit (gid 1))))) .skip)) none (.seq (oS [oV 4 85,oV 8 86,oB .lss 85 86 87,oV 87 88,oG 88 false (oV 4 89),oG 88 false (oC 97 1 1 [89] 90),oG 88 false (oK (.k (.un .not)) [90] [91]),oX (.k .pick) [.s 88,.c (.b true),.s 91] [92]] (.cond (.s 92) [] (.exit (gid 0)) .skip)) none (.seq (oS [oV 4 93,oV 7 94,oI .add 94 (.i .i64 1) 95,oV 93 4,oV 95 5] .ret) none .skip)))))
def bR.m2:TM := .seq .skip none (.seq (oS [oV 9 61,oV 7 62,oB .leq 61 62 63] (.cond (.s 63) [] (.seq (oS [oV 0 64,oV 1 65,oV 9 66,oB .add 65 66 67,oK (.k (.ix 1)) [64,67] [68],oK (.k (.lr 1 false)) [68] [69],oI .and 69 (.u8 192) 70,oI .neq 70 (.u8 128) 71] (.cond (.s 71) [] (.exit (gid 0)) .skip)) none (oS [oV 4 72,oI .shl 72 (.u64 6) 73,oV 0 74,oV 1 75,oV 9 76,oB .add 75 76 77,oK (.k (.ix 1)) [74,77] [78],oK (.k (.lr 1 false)) [78] [79],oI .and 79 (.u8 63) 80,oK (.k (.ci .i64)) [80] [81],oB .or 73 81 82,oV 82 4] (oS [oV 9 83,oI .add 83 (.i .i64 1) 84,oV 84 9] (.exit (gid 1))))) .skip)) none (.seq (oS [oV 4 85,oV 8 86,oB .lss 85 86 87,oV 87 88,oG 88 false (oV 4 89),oG 88 false (oC 97 1 1 [89] 90),oG 88 false (oK (.k (.un .not)) [90] [91]),oX (.k .pick) [.s 88,.c (.b true),.s 91] [92]] (.cond (.s 92) [] (.exit (gid 0)) .skip)) none (.seq (oS [oV 4 93,oV 7 94,oI .add 94 (.i .i64 1) 95,oV 93 4,oV 95 5] .ret) none .skip)))
def bR.m3:TM := .seq .skip none (oS [oW (.i .i64 0) 4,oW (.i .i64 0) 5] .ret)
def bR.m:TM:=oS [oW (.i .i64 0) 4,oW (.i .i64 0) 5] (.BB (.A7 0 [] [] bR.m3 (.A7 1 [0,1,4,7,8,9] [] bR.m2 (.BA (oS [oW (.i .i64 0) 6,oW (.i .i64 0) 7,oW (.i .i64 0) 8,oW (.i .i64 0) 9] (.seq (oS [oV 1 10,oI .lss 10 (.i .i64 0) 11,oV 11 12,oG 12 false (oV 1 13),oG 12 false (oV 0 14),oG 12 false (oK (.k .len) [14] [15]),oG 12 false (oB .geq 13 15 16),oX (.k .pick) [.s 12,.c (.b true),.s 16] [17]] (.cond (.s 17) [] (.exit (gid 0)) .skip)) none (oS [oV 0 18,oV 1 19,oK (.k (.ix 1)) [18,19] [20],oK (.k (.lr 1 false)) [20] [21],oK (.k (.ci .i64)) [21] [22],oV 22 6] (.seq (.block 0 [] (oS [oV 6 24,oI .lss 24 (.i .i64 128) 25,oV 25 23] (.cond (.s 23) [] (oS [oV 6 26,oV 26 4,oW (.i .i64 1) 5] .ret) (oS [oV 6 28,oI .geq 28 (.i .i64 192) 29,oV 29 30,oG 30 true (oV 6 31),oG 30 true (oI .lss 31 (.i .i64 224) 32),oP 30 32 false 33,oV 33 27] (.cond (.s 27) [] (.fD [oV 6 34,oI .and 34 (.i .i64 31) 35,oV 35 4,oW (.i .i64 1) 7,oW (.i .i64 128) 8]) (oS [oV 6 37,oI .geq 37 (.i .i64 224) 38,oV 38 39,oG 39 true (oV 6 40),oG 39 true (oI .lss 40 (.i .i64 240) 41),oP 39 41 false 42,oV 42 36] (.cond (.s 36) [] (.fD [oV 6 43,oI .and 43 (.i .i64 15) 44,oV 44 4,oW (.i .i64 2) 7,oW (.i .i64 2048) 8]) (oS [oV 6 46,oI .geq 46 (.i .i64 240) 47,oV 47 48,oG 48 true (oV 6 49),oG 48 true (oI .lss 49 (.i .i64 248) 50),oP 48 50 false 51,oV 51 45] (.cond (.s 45) [] (.fD [oV 6 52,oI .and 52 (.i .i64 7) 53,oV 53 4,oW (.i .i64 3) 7,oW (.i .i64 65536) 8]) (.exit (gid 0))))))))))) (some [0,1,4,7,8]) bR.m1))))))))
def bR.d:gn:=D0 2 bR.m [.t 4,.t 5]
def bR.F (b:List UInt8) (at_:Int):OT:=bR.d.run bR.E [(.sl .bs b),(.i .i64 at_)]
def bR.k1:fJ (List TV):=ki (gQ _ bR.E bR.m3) (vf 0) [] (gb bR.d)
def bR.k2:fJ (List TV):=ki (gQ _ bR.E bR.m2) (vf 1) [0,1,4,7,8,9] bR.k1
def bR.l1:OT:=fX (gQ _ bR.E bR.m3) (vf 0) [] (dF [] []) (gb bR.d)
def bR.j2 (x0:List UInt8) (x1:Int) (x2:Int) (x3:Int) (x4:Int):OT:=gQ _ bR.E bR.m1 (dF [0,1,4,7,8] [(.sl .bs x0),(.i .i64 x1),(.i .i64 x2),(.i .i64 x3),(.i .i64 x4)]) bR.k2
def bR.l3 (x0:List UInt8) (x1:Int) (x2:Int) (x3:Int) (x4:Int) (x5:Int):OT:=fX (gQ _ bR.E bR.m2) (vf 1) [0,1,4,7,8,9] (dF [0,1,4,7,8,9] [(.sl .bs x0),(.i .i64 x1),(.i .i64 x2),(.i .i64 x3),(.i .i64 x4),(.i .i64 x5)]) bR.k1
theorem bR.tQ:bR.l1=some [(.i .i64 0),(.i .i64 0)]:=((ff _ _ _ _ _ _).trans (by kernel_rfl))
theorem bR.nw (x0:List UInt8) (x1:Int) (x2:Int) (x3:Int) (x4:Int) {ρ:OT} (K:∀(v1:Int) (h1:v1=(IntKind.i64.wrap (((x0).length:Int) - x1))) (v2:Int) (h2:v2=(IntKind.i64.wrap (v1 - (1:Int)))) (v3:Int) (h3:v3=(IntKind.i64.wrap (x1+(1:Int)))) (v4:UInt8) (h4:v4=(List.getD x0 (v3).toNat (0:UInt8))) (v5:Bool) (h5:v5=(!decide ((v4 &&& (192:UInt8))=(128:UInt8)))) (v6:Int) (h6:v6=(IntKind.i64.wrap (x2 * 2 ^ (min (((6:UInt64)).toNat) (IntKind.i64.bits))))) (v7:Int) (h7:v7=(IntKind.i64.wrap (((v4 &&& (63:UInt8))).toNat:Int))) (v8:Int) (h8:v8=(IntKind.i64.wrap ((1:Int)+(1:Int)))) (v9:Bool) (h9:v9=(cond (decide (x2<x4)) true (!(ee.kx x2)))) (v10:Int) (nA:v10=(IntKind.i64.wrap (x3+(1:Int)))),cond (decide (v2<x3))
  (bR.l1)
  (cond (decide ((1:Int)≤x3))
  (ck (eE v3 (x0).length) (cond v5
  (bR.l1)
  (ck (eE v3 (x0).length) (bR.l3 x0 x1 (eF .or .i64 v6 v7) x3 x4 v8))))
  (ck (!(!(decide (x2<x4))) || (!(decide (x2<x4)))) (ck (!(!(decide (x2<x4))) || (!(decide (x2<x4)))) (ck ((decide (x2<x4)) || (!(decide (x2<x4)))) (cond v9
  (bR.l1)
  (some [(.i .i64 x2),(.i .i64 v10)]))))))=ρ):bR.j2 x0 x1 x2 x3 x4=ρ:=((congrFun (congrFun (gr _ _) _) _).trans (by kernel_rfl)).trans (K _ rfl _ rfl _ rfl _ rfl _ rfl _ rfl _ rfl _ rfl _ rfl _ rfl)
theorem bR.Ct (x0:List UInt8) (x1:Int) (x2:Int) (x3:Int) (x4:Int) (x5:Int) {ρ:OT} (K:∀(v1:UInt8) (h1:v1=(List.getD x0 ((IntKind.i64.wrap (x1+x5))).toNat (0:UInt8))) (v2:Bool) (h2:v2=(!decide ((v1 &&& (192:UInt8))=(128:UInt8)))) (v3:Int) (h3:v3=(IntKind.i64.wrap (x2 * 2 ^ (min (((6:UInt64)).toNat) (IntKind.i64.bits))))) (v4:Int) (h4:v4=(IntKind.i64.wrap (((v1 &&& (63:UInt8))).toNat:Int))) (v5:Int) (h5:v5=(IntKind.i64.wrap (x5+(1:Int)))) (v6:Bool) (h6:v6=(cond (decide (x2<x4)) true (!(ee.kx x2)))) (v7:Int) (h7:v7=(IntKind.i64.wrap (x3+(1:Int)))),cond (decide (x5≤x3))
  (ck (eE (IntKind.i64.wrap (x1+x5)) (x0).length) (cond v2
  (bR.l1)
  (ck (eE (IntKind.i64.wrap (x1+x5)) (x0).length) (bR.l3 x0 x1 (eF .or .i64 v3 v4) x3 x4 v5))))
  (ck (!(!(decide (x2<x4))) || (!(decide (x2<x4)))) (ck (!(!(decide (x2<x4))) || (!(decide (x2<x4)))) (ck ((decide (x2<x4)) || (!(decide (x2<x4)))) (cond v6
  (bR.l1)
  (some [(.i .i64 x2),(.i .i64 v7)])))))=ρ):bR.l3 x0 x1 x2 x3 x4 x5=ρ:=((ff _ _ _ _ _ _).trans (by kernel_rfl)).trans (K _ rfl _ rfl _ rfl _ rfl _ rfl _ rfl _ rfl)
theorem bR.dQ (b:List UInt8) (at_:Int) {ρ:OT} (K:∀(v1:Bool) (h1:v1=(cond (decide (at_<(0:Int))) true (decide (((b).length:Int)≤at_)))) (v2:UInt8) (h2:v2=(List.getD b (at_).toNat (0:UInt8))) (v3:Int) (h3:v3=(IntKind.i64.wrap ((v2).toNat:Int))) (v4:Bool) (h4:v4=(cond (decide ((192:Int)≤v3)) (decide (v3<(224:Int))) false)) (v5:Int) (h5:v5=(eF .and .i64 v3 (31:Int))) (v6:Bool) (h6:v6=(cond (decide ((224:Int)≤v3)) (decide (v3<(240:Int))) false)) (v7:Int) (h7:v7=(eF .and .i64 v3 (15:Int))) (v8:Bool) (h8:v8=(cond (decide ((240:Int)≤v3)) (decide (v3<(248:Int))) false)) (v9:Int) (h9:v9=(eF .and .i64 v3 (7:Int))),ck (!(!(decide (at_<(0:Int)))) || (!(decide (at_<(0:Int))))) (ck (!(!(decide (at_<(0:Int)))) || ((!(decide (at_<(0:Int))))&&(!(decide (at_<(0:Int)))))) (ck ((decide (at_<(0:Int))) || (!(decide (at_<(0:Int))))) (cond v1
  (bR.l1)
  (ck (eE at_ (b).length) (cond (decide (v3<(128:Int)))
  (some [(.i .i64 v3),(.i .i64 1)])
  (ck (!(decide ((192:Int)≤v3)) || (decide ((192:Int)≤v3))) (ck (!(decide ((192:Int)≤v3)) || (decide ((192:Int)≤v3))) (cond v4
  (bR.j2 b at_ v5 (1:Int) (128:Int))
  (ck (!(decide ((224:Int)≤v3)) || (decide ((224:Int)≤v3))) (ck (!(decide ((224:Int)≤v3)) || (decide ((224:Int)≤v3))) (cond v6
  (bR.j2 b at_ v7 (2:Int) (2048:Int))
  (ck (!(decide ((240:Int)≤v3)) || (decide ((240:Int)≤v3))) (ck (!(decide ((240:Int)≤v3)) || (decide ((240:Int)≤v3))) (cond v8
  (bR.j2 b at_ v9 (3:Int) (65536:Int))
  (bR.l1)))))))))))))))=ρ):bR.F b at_=ρ:=Eq.trans (by kernel_rfl) (K _ rfl _ rfl _ rfl _ rfl _ rfl _ rfl _ rfl _ rfl _ rfl)
theorem bR.dp:CK 81 bR.env bR.d:=eH (by kernel_rfl)
def cS.env:EV:=[(81,(bR.c,bR.sg))]
def cS.E:eg:=cM tryzGl cS.env
def cS.m1:TM := .seq (oS [oV 2 6,oV 0 7,oK (.k .len) [7] [8],oB .lss 6 8 9] (.cond (.s 9) [] .skip (.exit 0))) none (.block 1 [] (oS [oV 0 11,oV 2 12,oC 81 2 2 [11,12] 13,oV 13 10,oE 0 10 14,oE 1 10 15,oV 14 4,oV 15 5] (.seq (oS [oV 5 16,oI .eql 16 (.i .i64 0) 17] (.cond (.s 17) [] (.exit 0) .skip)) none (oS [oV 2 18,oV 5 19,oB .add 18 19 20,oV 20 2] (.fD [oV 3 21,oI .add 21 (.i .i64 1) 22,oV 22 3])))))
def cS.m2:TM:=oS [oV 2 23,oV 3 24,oV 23 2,oV 24 3] .ret
def cS.m:TM:=oS [oW (.i .i64 0) 2,oW (.i .i64 0) 3] (.seq (.block 0 [] (.loop [0,2,3] [] cS.m1)) (some [2,3]) cS.m2)
def cS.d:gn:=D0 1 cS.m [.t 2,.t 3]
def cS.F (b:List UInt8):OT:=cS.d.run cS.E [(.sl .bs b)]
def cS.k1:fJ (List TV):=ia (gQ _ cS.E cS.m2) (some [2,3]) (gb cS.d)
def cS.l1 (x0:List UInt8) (x1:Int) (x2:Int):OT:=fX (gQ _ cS.E cS.m1) n6 [0,2,3] (dF [0,2,3] [(.sl .bs x0),(.i .i64 x1),(.i .i64 x2)]) (eb 0 cS.k1)
def cS.j2 (x0:Int) (x1:Int):OT:=gQ _ cS.E cS.m2 (dF [2,3] [(.i .i64 x0),(.i .i64 x1)]) (gb cS.d)
theorem cS.eC (x0:List UInt8) (x1:Int) (x2:Int) {ρ:OT} (K:∀(v1:Int) (h1:v1=(IntKind.i64.wrap (x1+((ee.iQ x0 x1).2)))) (v2:Int) (h2:v2=(IntKind.i64.wrap (x2+(1:Int)))),cond (decide (x1<((x0).length:Int)))
  (ck (decide (x0.length≤1099511627776)) (cond (decide (((ee.iQ x0 x1).2)=(0:Int)))
  (cS.j2 x1 x2)
  (cS.l1 x0 v1 v2)))
  (cS.j2 x1 x2)=ρ):cS.l1 x0 x1 x2=ρ:=((ff _ _ _ _ _ _).trans (by kernel_rfl)).trans (K _ rfl _ rfl)
theorem cS.jC (x0:Int) (x1:Int):cS.j2 x0 x1=some [(.i .i64 x0),(.i .i64 x1)]:=((congrFun (congrFun (gr _ _) _) _).trans (by kernel_rfl))
theorem cS.fM (b:List UInt8):cS.F b=cS.l1 b (0:Int) (0:Int):=by kernel_rfl
theorem cS.dp:CK 67 cS.env cS.d:=eH (by kernel_rfl)
def dD.env:EV:=[(67,(cS.c,cS.sg))]
def dD.E:eg:=cM tryzGl dD.env
def dD.m:TM:=oS [oW (.i .i64 0) 2,oW (.b false) 3] (oS [oV 0 7,oC 67 1 2 [7] 8,oV 8 6,oE 0 6 9,oE 1 6 10,oV 9 4,oV 10 5] (oS [oV 4 11,oV 4 12,oV 0 13,oK (.k .len) [13] [14],oB .eql 12 14 15,oV 11 2,oV 15 3] .ret))
def dD.d:gn:=D0 1 dD.m [.t 2,.t 3]
def dD.F (b:List UInt8):OT:=dD.d.run dD.E [(.sl .bs b)]
theorem dD.fM (b:List UInt8):dD.F b=ck (decide (b.length≤1099511627776)) (some [(.i .i64 (((ee.look b).1:Int))),(.b (decide ((((ee.look b).1:Int))=((b).length:Int))))]):=by kernel_rfl
theorem dD.dp:CK 41 dD.env dD.d:=eH (by kernel_rfl)
def cz.env:EV:=[]
def cz.E:eg:=cM tryzGl cz.env
def cz.m1:TM := .seq (oS [oV 10 62,oV 7 63,oB .lss 62 63 64] (.cond (.s 64) [] .skip (.exit 1))) none (.seq (.block 2 [] (oS [oV 0 67,oV 1 68,oV 10 69,oB .add 68 69 70,oK (.k (.ix 1)) [67,70] [71],oK (.k (.lr 1 false)) [71] [72],oK (.k (.ci .i64)) [72] [73],oV 73 11] (.seq (oS [oV 11 74,oI .lss 74 (.i .i64 128) 75,oV 75 76,oG 76 false (oV 11 77),oG 76 false (oI .geq 77 (.i .i64 192) 78),oX (.k .pick) [.s 76,.c (.b true),.s 78] [79]] (.cond (.s 79) [] (oS [oW (.i .i64 0) 4,oW (.i .i64 0) 5] .ret) .skip)) none (.fD [oV 8 80,oI .mul 80 (.i .i64 64) 81,oV 11 82,oB .add 81 82 83,oI .sub 83 (.i .i64 128) 84,oV 84 8])))) none (.fD [oV 10 65,oI .add 65 (.i .i64 1) 66,oV 66 10]))
def cz.m2:TM := .seq (oS [oV 0 56,oK (.k .len) [56] [57],oV 1 58,oB .sub 57 58 59,oV 7 60,oB .lss 59 60 61] (.cond (.s 61) [] (oS [oW (.i .i64 0) 4,oW (.i .i64 0) 5] .ret) .skip)) none (.seq (oS [oW (.i .i64 1) 10] (.block 1 [] (.loop [0,1,7,8,9,10] [] cz.m1))) none (.seq (oS [oV 8 85,oV 9 86,oB .lss 85 86 87,oV 87 88,oG 88 false (oV 8 89),oG 88 false (oI .gtr 89 (.i .i64 1114111) 90),oX (.k .pick) [.s 88,.c (.b true),.s 90] [91],oV 91 92,oG 92 false (oV 8 93),oG 92 false (oI .geq 93 (.i .i64 55296) 94),oG 92 false (oV 94 95),oG 95 true (oV 8 96),oG 95 true (oI .leq 96 (.i .i64 57343) 97),oG 92 false (oP 95 97 false 98),oX (.k .pick) [.s 92,.c (.b true),.s 98] [99]] (.cond (.s 99) [] (oS [oW (.i .i64 0) 4,oW (.i .i64 0) 5] .ret) .skip)) none (oS [oV 8 100,oV 7 101,oV 100 4,oV 101 5] .ret)))
def cz.m:TM:=oS [oW (.i .i64 0) 4,oW (.i .i64 0) 5] (.seq (oS [oV 1 12,oI .lss 12 (.i .i64 0) 13,oV 13 14,oG 14 false (oV 1 15),oG 14 false (oV 0 16),oG 14 false (oK (.k .len) [16] [17]),oG 14 false (oB .geq 15 17 18),oX (.k .pick) [.s 14,.c (.b true),.s 18] [19]] (.cond (.s 19) [] (oS [oW (.i .i64 0) 4,oW (.i .i64 0) 5] .ret) .skip)) none (oS [oV 0 20,oV 1 21,oK (.k (.ix 1)) [20,21] [22],oK (.k (.lr 1 false)) [22] [23],oK (.k (.ci .i64)) [23] [24],oV 24 6] (oS [oW (.i .i64 0) 7,oW (.i .i64 0) 8,oW (.i .i64 0) 9] (.seq (.block 0 [] (oS [oV 6 26,oI .lss 26 (.i .i64 128) 27,oV 27 25] (.cond (.s 25) [] (oS [oV 6 28,oV 28 4,oW (.i .i64 1) 5] .ret) (oS [oV 6 30,oI .geq 30 (.i .i64 192) 31,oV 31 32,oG 32 true (oV 6 33),oG 32 true (oI .lss 33 (.i .i64 224) 34),oP 32 34 false 35,oV 35 29] (.cond (.s 29) [] (.fD [oV 6 36,oI .sub 36 (.i .i64 192) 37,oW (.i .i64 2) 7,oV 37 8,oW (.i .i64 128) 9]) (oS [oV 6 39,oI .geq 39 (.i .i64 224) 40,oV 40 41,oG 41 true (oV 6 42),oG 41 true (oI .lss 42 (.i .i64 240) 43),oP 41 43 false 44,oV 44 38] (.cond (.s 38) [] (.fD [oV 6 45,oI .sub 45 (.i .i64 224) 46,oW (.i .i64 3) 7,oV 46 8,oW (.i .i64 2048) 9]) (oS [oV 6 48,oI .geq 48 (.i .i64 240) 49,oV 49 50,oG 50 true (oV 6 51),oG 50 true (oI .lss 51 (.i .i64 248) 52),oP 50 52 false 53,oV 53 47] (.cond (.s 47) [] (.fD [oV 6 54,oI .sub 54 (.i .i64 240) 55,oW (.i .i64 4) 7,oV 55 8,oW (.i .i64 65536) 9]) (oS [oW (.i .i64 0) 4,oW (.i .i64 0) 5] .ret)))))))))) (some [0,1,7,8,9]) cz.m2))))
def cz.d:gn:=D0 2 cz.m [.t 4,.t 5]
def cz.F (b:List UInt8) (at_:Int):OT:=cz.d.run cz.E [(.sl .bs b),(.i .i64 at_)]
def cz.k1:fJ (List TV):=ia (ev _ cz.E (.seq (oS [oV 8 85,oV 9 86,oB .lss 85 86 87,oV 87 88,oG 88 false (oV 8 89),oG 88 false (oI .gtr 89 (.i .i64 1114111) 90),oX (.k .pick) [.s 88,.c (.b true),.s 90] [91],oV 91 92,oG 92 false (oV 8 93),oG 92 false (oI .geq 93 (.i .i64 55296) 94),oG 92 false (oV 94 95),oG 95 true (oV 8 96),oG 95 true (oI .leq 96 (.i .i64 57343) 97),oG 92 false (oP 95 97 false 98),oX (.k .pick) [.s 92,.c (.b true),.s 98] [99]] (.cond (.s 99) [] (oS [oW (.i .i64 0) 4,oW (.i .i64 0) 5] .ret) .skip)) none (oS [oV 8 100,oV 7 101,oV 100 4,oV 101 5] .ret))) none (gb cz.d)
def cz.j1 (x0:List UInt8) (x1:Int) (x2:Int) (x3:Int) (x4:Int):OT:=gQ _ cz.E cz.m2 (dF [0,1,7,8,9] [(.sl .bs x0),(.i .i64 x1),(.i .i64 x2),(.i .i64 x3),(.i .i64 x4)]) (gb cz.d)
def cz.l2 (x0:List UInt8) (x1:Int) (x2:Int) (x3:Int) (x4:Int) (x5:Int):OT:=fX (gQ _ cz.E cz.m1) n6 [0,1,7,8,9,10] (dF [0,1,7,8,9,10] [(.sl .bs x0),(.i .i64 x1),(.i .i64 x2),(.i .i64 x3),(.i .i64 x4),(.i .i64 x5)]) (eb 1 cz.k1)
theorem cz.kM (x0:List UInt8) (x1:Int) (x2:Int) (x3:Int) (x4:Int) {ρ:OT} (K:∀(v1:Int) (h1:v1=(IntKind.i64.wrap (((x0).length:Int) - x1))),cond (decide (v1<x2))
  (some [(.i .i64 0),(.i .i64 0)])
  (cz.l2 x0 x1 x2 x3 x4 (1:Int))=ρ):cz.j1 x0 x1 x2 x3 x4=ρ:=((congrFun (congrFun (gr _ _) _) _).trans (by kernel_rfl)).trans (K _ rfl)
theorem cz.lS (x0:List UInt8) (x1:Int) (x2:Int) (x3:Int) (x4:Int) (x5:Int) {ρ:OT} (K:∀(v1:UInt8) (h1:v1=(List.getD x0 ((IntKind.i64.wrap (x1+x5))).toNat (0:UInt8))) (v2:Int) (h2:v2=(IntKind.i64.wrap ((v1).toNat:Int))) (v3:Bool) (h3:v3=(cond (decide (v2<(128:Int))) true (decide ((192:Int)≤v2)))) (v4:Int) (h4:v4=(IntKind.i64.wrap (x3 * (64:Int)))) (v5:Int) (h5:v5=(IntKind.i64.wrap ((IntKind.i64.wrap (v4+v2)) - (128:Int)))) (v6:Int) (h6:v6=(IntKind.i64.wrap (x5+(1:Int)))) (v7:Bool) (h7:v7=(cond (decide (x3<x4)) true (decide ((1114111:Int)<x3)))) (v8:Bool) (h8:v8=((!v7)&&(decide ((55296:Int)≤x3)))) (v9:Bool) (h9:v9=(cond (decide ((55296:Int)≤x3)) (decide (x3≤(57343:Int))) false)),cond (decide (x5<x2))
  (ck (eE (IntKind.i64.wrap (x1+x5)) (x0).length) (ck (!(!(decide (v2<(128:Int)))) || (!(decide (v2<(128:Int))))) (ck ((decide (v2<(128:Int))) || (!(decide (v2<(128:Int))))) (cond v3
  (some [(.i .i64 0),(.i .i64 0)])
  (cz.l2 x0 x1 x2 v5 x4 v6)))))
  (ck (!(!(decide (x3<x4))) || (!(decide (x3<x4)))) (ck ((decide (x3<x4)) || (!(decide (x3<x4)))) (ck (!(!v7) || (!v7)) (ck (!(!v7) || (!v7)) (ck (!v8 || v8) (ck (!(!v7) || ((!v7)&&(!(decide ((55296:Int)≤x3)) || v8))) (ck (v7 || (!v7)) (cond (cond v7 true v9)
  (some [(.i .i64 0),(.i .i64 0)])
  (some [(.i .i64 x3),(.i .i64 x2)])))))))))=ρ):cz.l2 x0 x1 x2 x3 x4 x5=ρ:=((ff _ _ _ _ _ _).trans (by kernel_rfl)).trans (K _ rfl _ rfl _ rfl _ rfl _ rfl _ rfl _ rfl _ rfl _ rfl)
theorem cz.dQ (b:List UInt8) (at_:Int) {ρ:OT} (K:∀(v1:Bool) (h1:v1=(cond (decide (at_<(0:Int))) true (decide (((b).length:Int)≤at_)))) (v2:UInt8) (h2:v2=(List.getD b (at_).toNat (0:UInt8))) (v3:Int) (h3:v3=(IntKind.i64.wrap ((v2).toNat:Int))) (v4:Bool) (h4:v4=(cond (decide ((192:Int)≤v3)) (decide (v3<(224:Int))) false)) (v5:Int) (h5:v5=(IntKind.i64.wrap (v3 - (192:Int)))) (v6:Bool) (h6:v6=(cond (decide ((224:Int)≤v3)) (decide (v3<(240:Int))) false)) (v7:Int) (h7:v7=(IntKind.i64.wrap (v3 - (224:Int)))) (v8:Bool) (h8:v8=(cond (decide ((240:Int)≤v3)) (decide (v3<(248:Int))) false)) (v9:Int) (h9:v9=(IntKind.i64.wrap (v3 - (240:Int)))),ck (!(!(decide (at_<(0:Int)))) || (!(decide (at_<(0:Int))))) (ck (!(!(decide (at_<(0:Int)))) || ((!(decide (at_<(0:Int))))&&(!(decide (at_<(0:Int)))))) (ck ((decide (at_<(0:Int))) || (!(decide (at_<(0:Int))))) (cond v1
  (some [(.i .i64 0),(.i .i64 0)])
  (ck (eE at_ (b).length) (cond (decide (v3<(128:Int)))
  (some [(.i .i64 v3),(.i .i64 1)])
  (ck (!(decide ((192:Int)≤v3)) || (decide ((192:Int)≤v3))) (ck (!(decide ((192:Int)≤v3)) || (decide ((192:Int)≤v3))) (cond v4
  (cz.j1 b at_ (2:Int) v5 (128:Int))
  (ck (!(decide ((224:Int)≤v3)) || (decide ((224:Int)≤v3))) (ck (!(decide ((224:Int)≤v3)) || (decide ((224:Int)≤v3))) (cond v6
  (cz.j1 b at_ (3:Int) v7 (2048:Int))
  (ck (!(decide ((240:Int)≤v3)) || (decide ((240:Int)≤v3))) (ck (!(decide ((240:Int)≤v3)) || (decide ((240:Int)≤v3))) (cond v8
  (cz.j1 b at_ (4:Int) v9 (65536:Int))
  (some [(.i .i64 0),(.i .i64 0)])))))))))))))))=ρ):cz.F b at_=ρ:=Eq.trans (by kernel_rfl) (K _ rfl _ rfl _ rfl _ rfl _ rfl _ rfl _ rfl _ rfl _ rfl)
theorem cz.dp:CK 105 cz.env cz.d:=eH (by kernel_rfl)
def cO.env:EV:=[(105,(cz.c,cz.sg))]
def cO.E:eg:=cM tryzGl cO.env
def cO.m1:TM := .seq (oS [oV 4 7,oV 0 8,oK (.k .len) [8] [9],oB .lss 7 9 10] (.cond (.s 10) [] .skip (.exit 0))) none (.block 1 [] (oS [oV 0 12,oV 4 13,oC 105 2 2 [12,13] 14,oV 14 11,oE 0 11 15,oE 1 11 16,oV 15 5,oV 16 6] (.seq (oS [oV 6 17,oI .eql 17 (.i .i64 0) 18] (.cond (.s 18) [] (oS [oV 4 19,oV 19 2,oW (.b false) 3] .ret) .skip)) none (.fD [oV 4 20,oV 6 21,oB .add 20 21 22,oV 22 4]))))
def cO.m:TM:=oS [oW (.i .i64 0) 2,oW (.b false) 3] (.seq (oS [oW (.i .i64 0) 4] (.block 0 [] (.loop [0,4] [] cO.m1))) none (oS [oV 0 23,oK (.k .len) [23] [24],oV 24 2,oW (.b true) 3] .ret))
def cO.d:gn:=D0 1 cO.m [.t 2,.t 3]
def cO.F (b:List UInt8):OT:=cO.d.run cO.E [(.sl .bs b)]
def cO.k1:fJ (List TV):=ia (ev _ cO.E (oS [oV 0 23,oK (.k .len) [23] [24],oV 24 2,oW (.b true) 3] .ret)) none (gb cO.d)
def cO.l1 (x0:List UInt8) (x1:Int):OT:=fX (gQ _ cO.E cO.m1) n6 [0,4] (dF [0,4] [(.sl .bs x0),(.i .i64 x1)]) (eb 0 cO.k1)
theorem cO.eC (x0:List UInt8) (x1:Int) {ρ:OT} (K:∀(v1:Int) (h1:v1=(IntKind.i64.wrap (x1+((ee.iQ x0 x1).2)))),cond (decide (x1<((x0).length:Int)))
  (ck (decide (x0.length≤1099511627776)) (cond (decide (((ee.iQ x0 x1).2)=(0:Int)))
  (some [(.i .i64 x1),(.b false)])
  (cO.l1 x0 v1)))
  (some [(.i .i64 ((x0).length:Int)),(.b true)])=ρ):cO.l1 x0 x1=ρ:=((ff _ _ _ _ _ _).trans (by kernel_rfl)).trans (K _ rfl)
theorem cO.fM (b:List UInt8):cO.F b=cO.l1 b (0:Int):=by kernel_rfl
theorem cO.dp:CK 88 cO.env cO.d:=eH (by kernel_rfl)
def df.env:EV:=[(88,(cO.c,cO.sg))]
def df.E:eg:=cM tryzGl df.env
def df.m:TM:=oS [oW (.b false) 2] (oS [oV 0 6,oK (.k .sb) [6] [7],oC 88 1 2 [7] 8,oV 8 5,oE 0 5 9,oE 1 5 10,oV 9 3,oV 10 4] (oS [oV 4 11,oV 11 2] .ret))
def df.d:gn:=D0 1 df.m [.t 2]
def df.F (s:bY):OT:=df.d.run df.E [(.s s)]
theorem df.fM (s:bY):df.F s=ck (lH (s).length) (ck (decide (s.length≤1099511627776)) (some [(.b (ee.whole s))])):=by kernel_rfl
theorem df.dp:CK 71 df.env df.d:=eH (by kernel_rfl)
def cU.env:EV:=[]
def cU.E:eg:=cM tryzGl cU.env
def cU.m1:TM := .seq (oS [oV 3 4,oV 0 5,oK (.k .sC) [5] [6],oB .lss 4 6 7] (.cond (.s 7) [] .skip (.exit 0))) none (.seq (.block 1 [] (oS [oV 0 10,oV 3 11,oK (.k .si) [10,11] [12],oI .eql 12 (.u8 0) 13] (.cond (.s 13) [] (oS [oW (.b true) 2] .ret) .skip))) none (.fD [oV 3 8,oI .add 8 (.i .i64 1) 9,oV 9 3]))
def cU.m:TM:=oS [oW (.b false) 2] (.seq (oS [oW (.i .i64 0) 3] (.block 0 [] (.loop [0,3] [] cU.m1))) none (oS [oW (.b false) 2] .ret))
def cU.d:gn:=D0 1 cU.m [.t 2]
def cU.F (s:bY):OT:=cU.d.run cU.E [(.s s)]
def cU.k1:fJ (List TV):=ia (ev _ cU.E (oS [oW (.b false) 2] .ret)) none (gb cU.d)
def cU.l1 (x0:bY) (x1:Int):OT:=fX (gQ _ cU.E cU.m1) n6 [0,3] (dF [0,3] [(.s x0),(.i .i64 x1)]) (eb 0 cU.k1)
theorem cU.eC (x0:bY) (x1:Int) {ρ:OT} (K:∀(v1:UInt8) (h1:v1=(List.getD x0 (x1).toNat (0:UInt8))) (v2:Int) (h2:v2=(IntKind.i64.wrap (x1+(1:Int)))),cond (decide (x1<((x0).length:Int)))
  (ck (eE x1 (x0).length) (cond (decide (v1=(0:UInt8)))
  (some [(.b true)])
  (cU.l1 x0 v2)))
  (some [(.b false)])=ρ):cU.l1 x0 x1=ρ:=((ff _ _ _ _ _ _).trans (by kernel_rfl)).trans (K _ rfl _ rfl)
theorem cU.fM (s:bY):cU.F s=cU.l1 s (0:Int):=by kernel_rfl
theorem cU.dp:CK 46 cU.env cU.d:=eH (by kernel_rfl)
def bT.env:EV:=[]
def bT.E:eg:=cM tryzGl bT.env
def bT.m1:TM := .seq (oS [oV 5 11,oV 0 12,oK (.k .len) [12] [13],oB .lss 11 13 14] (.cond (.s 14) [] .skip (.exit 0))) none (.seq (.block 1 [] (oS [oV 0 17,oV 5 18,oK (.k (.ix 1)) [17,18] [19],oK (.k (.lr 1 false)) [19] [20],oV 1 21,oV 5 22,oK (.k (.ix 1)) [21,22] [23],oK (.k (.lr 1 false)) [23] [24],oB .neq 20 24 25] (.cond (.s 25) [] (oS [oW (.b false) 4] .ret) .skip))) none (.fD [oV 5 15,oI .add 15 (.i .i64 1) 16,oV 16 5]))
def bT.m:TM:=oS [oW (.b false) 4] (.seq (oS [oV 0 6,oK (.k .len) [6] [7],oV 1 8,oK (.k .len) [8] [9],oB .neq 7 9 10] (.cond (.s 10) [] (oS [oW (.b false) 4] .ret) .skip)) none (.seq (oS [oW (.i .i64 0) 5] (.block 0 [] (.loop [0,1,5] [] bT.m1))) none (oS [oW (.b true) 4] .ret)))
def bT.d:gn:=D0 2 bT.m [.t 4]
def bT.F (a:List Int) (b:List Int):OT:=bT.d.run bT.E [(.sl .is a),(.sl .is b)]
def bT.k1:fJ (List TV):=ia (ev _ bT.E (oS [oW (.b true) 4] .ret)) none (gb bT.d)
def bT.l1 (x0:List Int) (x1:List Int) (x2:Int):OT:=fX (gQ _ bT.E bT.m1) n6 [0,1,5] (dF [0,1,5] [(.sl .is x0),(.sl .is x1),(.i .i64 x2)]) (eb 0 bT.k1)
theorem bT.eC (x0:List Int) (x1:List Int) (x2:Int) {ρ:OT} (K:∀(v1:Int) (h1:v1=(List.getD x0 (x2).toNat (0:Int))) (v2:Int) (h2:v2=(List.getD x1 (x2).toNat (0:Int))) (v3:Int) (h3:v3=(IntKind.i64.wrap (x2+(1:Int)))),cond (decide (x2<((x0).length:Int)))
  (ck (eE x2 (x0).length) (ck (eE x2 (x1).length) (cond (!decide (v1=v2))
  (some [(.b false)])
  (bT.l1 x0 x1 v3))))
  (some [(.b true)])=ρ):bT.l1 x0 x1 x2=ρ:=((ff _ _ _ _ _ _).trans (by kernel_rfl)).trans (K _ rfl _ rfl _ rfl)
theorem bT.fM (a:List Int) (b:List Int):bT.F a b=cond (!decide (((a).length:Int)=((b).length:Int)))
  (some [(.b false)])
  (bT.l1 a b (0:Int)):=by kernel_rfl
theorem bT.dp:CK 24 bT.env bT.d:=eH (by kernel_rfl)
theorem fE.ok:KO 56 (fE.c) fE.sg:=Dr (t := .bs) (b:=1) (by kernel_rfl)
def gE.env:EV:=[]
def gE.E:eg:=cM tryzGl gE.env
def gE.m:TM:=oS [oW (.i .i64 0) 2] (oS [oV 0 3,oK (.k .FY) [3] [4],oK (.k (.fr 1 1 false)) [4] [5],oK (.k (.lr 1 false)) [5] [6],oV 6 2] .ret)
def gE.d:gn:=D0 1 gE.m [.t 2]
def gE.F (r:dx):OT:=gE.d.run gE.E [(.ro (.ag (dx.cells r)))]
theorem gE.fM (r:dx):gE.F r=some [(.i .i64 (dx.at_ r))]:=by kernel_rfl
theorem gE.dp:CK 122 gE.env gE.d:=eH (by kernel_rfl)
def eO.env:EV:=[]
def eO.E:eg:=cM tryzGl eO.env
def eO.m:TM:=oS [oW (.i .i64 0) 2] (oS [oV 0 3,oK (.k .FY) [3] [4],oK (.k (.fr 0 1 false)) [4] [5],oK (.k (.lr 1 false)) [5] [6],oK (.k .len) [6] [7],oV 0 8,oK (.k .FY) [8] [9],oK (.k (.fr 1 1 false)) [9] [10],oK (.k (.lr 1 false)) [10] [11],oB .sub 7 11 12,oV 12 2] .ret)
def eO.d:gn:=D0 1 eO.m [.t 2]
def eO.F (r:dx):OT:=eO.d.run eO.E [(.ro (.ag (dx.cells r)))]
theorem eO.dQ (r:dx) {ρ:OT} (K:∀(v1:Int) (h1:v1=(IntKind.i64.wrap ((((dx.b r)).length:Int) - (dx.at_ r)))),some [(.i .i64 v1)]=ρ):eO.F r=ρ:=Eq.trans (by kernel_rfl) (K _ rfl)
theorem eO.dp:CK 121 eO.env eO.d:=eH (by kernel_rfl)
def fj.env:EV:=[]
def fj.E:eg:=cM tryzGl fj.env
def fj.m:TM:=oS [oW (.i .i64 0) 2,oW (.b false) 3] (.seq (oS [oV 0 4,oK (.k (.nc 999999 0)) [4] [5],oA 999999 0 1 5 6,oL 999999 1 1 6 7,oV 0 8,oK (.k (.nc 999999 0)) [8] [9],oA 999999 0 0 9 10,oL 999999 0 1 10 11,oK (.k .len) [11] [12],oB .eql 7 12 13] (.cond (.s 13) [] (oS [oW (.i .i64 0) 2,oW (.b false) 3] .ret) .skip)) none (oS [oV 0 14,oK (.k (.nc 999999 0)) [14] [15],oA 999999 0 1 15 16,oL 999999 1 1 16 17,oI .add 17 (.i .i64 1) 18,oK (.k (.nc 999999 0)) [14] [19],oA 999999 0 1 19 20,oT 999999 1 1 20 18] (oS [oV 0 21,oK (.k (.nc 999999 0)) [21] [22],oA 999999 0 0 22 23,oL 999999 0 1 23 24,oV 0 25,oK (.k (.nc 999999 0)) [25] [26],oA 999999 0 1 26 27,oL 999999 1 1 27 28,oI .sub 28 (.i .i64 1) 29,oK (.k (.ix 1)) [24,29] [30],oK (.k (.lr 1 false)) [30] [31],oK (.k (.ci .i64)) [31] [32],oV 32 2,oW (.b true) 3] .ret)))
def fj.d:gn:={ np:=1,m:=fj.m,ref:=some (0,999999),fy:=[],res:=[.t 2,.t 3],own:=[],new:=none,fx:=[] }
def fj.F (r:dx):OT:=fj.d.run fj.E [(.ag (dx.cells r))]
theorem fj.dQ (r:dx) {ρ:OT} (K:∀(v1:Int) (h1:v1=(IntKind.i64.wrap ((dx.at_ r)+(1:Int)))) (v2:Int) (h2:v2=(IntKind.i64.wrap (v1 - (1:Int)))) (v3:UInt8) (h3:v3=(List.getD (dx.b r) (v2).toNat (0:UInt8))) (v4:Int) (h4:v4=(IntKind.i64.wrap ((v3).toNat:Int))),cond (decide ((dx.at_ r)=(((dx.b r)).length:Int)))
  (some [(.i .i64 0),(.b false),(.ag (dx.cells r))])
  (ck (eE v2 ((dx.b r)).length) (some [(.i .i64 v4),(.b true),(.ag [(.sl .bs (dx.b r)),(.i .i64 v1)])]))=ρ):fj.F r=ρ:=Eq.trans (by kernel_rfl) (K _ rfl _ rfl _ rfl _ rfl)
theorem fj.dp:CK 135 fj.env fj.d:=eH (by kernel_rfl)
def fh.env:EV:=[(121,(eO.c,eO.sg))]
def fh.E:eg:=cM tryzGl fh.env
def fh.m:TM:=oS [oW (.sl .bs ([]:List UInt8)) 4,oW (.b false) 5] (.seq (oS [oV 1 6,oI .lss 6 (.i .i64 1) 7,oV 7 8,oG 8 false (oV 1 9),oG 8 false (oI .gtr 9 (.i .i64 8) 10),oX (.k .pick) [.s 8,.c (.b true),.s 10] [11],oV 11 12,oG 12 false (oV 1 13),oG 12 false (oV 0 14),oG 12 false (oK (.k (.lC 121 1 1 0 999999)) [14,999999] [15]),oG 12 false (oB .gtr 13 15 16),oX (.k .pick) [.s 12,.c (.b true),.s 16] [17]] (.cond (.s 17) [] (oS [oW (.sl .bs ([]:List UInt8)) 4,oW (.b false) 5] .ret) .skip)) none (oS [oV 0 18,oK (.k (.nc 999999 0)) [18] [19],oA 999999 0 1 19 20,oL 999999 1 1 20 21,oV 1 22,oB .add 21 22 23,oK (.k (.nc 999999 0)) [18] [24],oA 999999 0 1 24 25,oT 999999 1 1 25 23] (oS [oV 0 26,oK (.k (.nc 999999 0)) [26] [27],oA 999999 0 0 27 28,oL 999999 0 1 28 29,oV 0 30,oK (.k (.nc 999999 0)) [30] [31],oA 999999 0 1 31 32,oL 999999 1 1 32 33,oV 1 34,oB .sub 33 34 35,oV 0 36,oK (.k (.nc 999999 0)) [36] [37],oA 999999 0 1 37 38,oL 999999 1 1 38 39,oK (.k (.sc 1 true true)) [29,35,39] [40],oV 40 4,oW (.b true) 5] .ret)))
def fh.d:gn:={ np:=2,m:=fh.m,ref:=some (0,999999),fy:=[],res:=[.t 4,.t 5],own:=[],new:=none,fx:=[] }
def fh.F (r:dx) (n:Int):OT:=fh.d.run fh.E [(.ag (dx.cells r)),(.i .i64 n)]
theorem fh.dQ (r:dx) (n:Int) {ρ:OT} (K:∀(v1:Bool) (h1:v1=(cond (decide (n<(1:Int))) true (decide ((8:Int)<n)))) (v2:Bool) (h2:v2=(cond v1 true (decide ((cT.left r)<n)))) (v3:Int) (h3:v3=(IntKind.i64.wrap ((dx.at_ r)+n))) (v4:List UInt8) (h4:v4=(List.drop ((IntKind.i64.wrap (v3 - n))).toNat (List.take (v3).toNat (dx.b r)))),ck (!(!(decide (n<(1:Int)))) || (!(decide (n<(1:Int))))) (ck ((decide (n<(1:Int))) || (!(decide (n<(1:Int))))) (ck (!(!v1) || ((!v1)&&(cT.iE r))) (ck (!(!v1) || ((!v1)&&(!v1))) (ck (v1 || (!v1)) (cond v2
  (some [(.sl .bs ([]:List UInt8)),(.b false),(.ag (dx.cells r))])
  (ck (hZ (IntKind.i64.wrap (v3 - n)) v3 ((dx.b r)).length) (some [(.sl .bs v4),(.b true),(.ag [(.sl .bs (dx.b r)),(.i .i64 v3)])])))))))=ρ):fh.F r n=ρ:=Eq.trans (by kernel_rfl) (K _ rfl _ rfl _ rfl _ rfl)
theorem fh.dp:CK 147 fh.env fh.d:=eH (by kernel_rfl)
def fi.env:EV:=[(56,(fE.c,fE.sg)),(121,(eO.c,eO.sg))]
def fi.E:eg:=cM tryzGl fi.env
def fi.m:TM:=oS [oW (.sl .bs ([]:List UInt8)) 4,oW (.b false) 5] (.seq (oS [oV 1 6,oI .lss 6 (.i .i64 0) 7,oV 7 8,oG 8 false (oV 1 9),oG 8 false (oV 0 10),oG 8 false (oK (.k (.lC 121 1 1 0 999999)) [10,999999] [11]),oG 8 false (oB .gtr 9 11 12),oX (.k .pick) [.s 8,.c (.b true),.s 12] [13]] (.cond (.s 13) [] (oS [oW (.sl .bs ([]:List UInt8)) 4,oW (.b false) 5] .ret) .skip)) none (oS [oV 0 14,oK (.k (.nc 999999 0)) [14] [15],oA 999999 0 1 15 16,oL 999999 1 1 16 17,oV 1 18,oB .add 17 18 19,oK (.k (.nc 999999 0)) [14] [20],oA 999999 0 1 20 21,oT 999999 1 1 21 19] (oS [oV 0 22,oK (.k (.nc 999999 0)) [22] [23],oA 999999 0 0 23 24,oL 999999 0 1 24 25,oV 0 26,oK (.k (.nc 999999 0)) [26] [27],oA 999999 0 1 27 28,oL 999999 1 1 28 29,oV 1 30,oB .sub 29 30 31,oV 0 32,oK (.k (.nc 999999 0)) [32] [33],oA 999999 0 1 33 34,oL 999999 1 1 34 35,oK (.k (.sc 1 true true)) [25,31,35] [36],oK (.k (.call 56 ⟨1,none,[],[],1,[(0,102,1)],none,[]⟩)) [36,(lk 102)] [37,lk 102],oV 37 4,oW (.b true) 5] .ret)))
def fi.d:gn:={ np:=2,m:=fi.m,ref:=some (0,999999),fy:=[],res:=[.t 4,.t 5],own:=[],new:=none,fx:=[] }
def fi.F (r:dx) (n:Int):OT:=fi.d.run fi.E [(.ag (dx.cells r)),(.i .i64 n)]
theorem fi.dQ (r:dx) (n:Int) {ρ:OT} (K:∀(v1:Bool) (h1:v1=(cond (decide (n<(0:Int))) true (decide ((cT.left r)<n)))) (v2:Int) (h2:v2=(IntKind.i64.wrap ((dx.at_ r)+n))) (v3:List UInt8) (h3:v3=(List.drop ((IntKind.i64.wrap (v2 - n))).toNat (List.take (v2).toNat (dx.b r)))),ck (!(!(decide (n<(0:Int)))) || ((!(decide (n<(0:Int))))&&(cT.iE r))) (ck (!(!(decide (n<(0:Int)))) || ((!(decide (n<(0:Int))))&&(!(decide (n<(0:Int)))))) (ck ((decide (n<(0:Int))) || (!(decide (n<(0:Int))))) (cond v1
  (some [(.sl .bs ([]:List UInt8)),(.b false),(.ag (dx.cells r))])
  (ck (hZ (IntKind.i64.wrap (v2 - n)) v2 ((dx.b r)).length) (ck (gg (v3).length 1) (some [(.sl .bs (v3)),(.b true),(.ag [(.sl .bs (dx.b r)),(.i .i64 v2)])]))))))=ρ):fi.F r n=ρ:=Eq.trans (by kernel_rfl) (K _ rfl _ rfl _ rfl)
theorem fi.dp:CK 148 fi.env fi.d:=eH (by kernel_rfl)
def dR.env:EV:=[(147,(fh.c,fh.sg))]
def dR.E:eg:=cM tryzGl dR.env
def dR.m1:TM:=oS [oB .lss 19 18 20] (.seq (.cond (.s 20) [] .skip (.exit 0)) none (.seq (.block 1 [(999999,.cl [])] (oS [oK (.k (.ix 1)) [17,19] [21],oK (.k (.lr 1 false)) [21] [22],oV 22 10] (.fD [oV 8 23,oI .shl 23 (.u64 8) 24,oV 10 25,oK (.k (.ci .u64)) [25] [26],oB .or 24 26 27,oV 27 8]))) none (.fD [oI .add 19 (.i .i64 1) 28,oV 28 19])))
def dR.m:TM:=oS [oW (.u64 0) 4,oW (.b false) 5] (oS [oV 0 12,oV 1 13,oK (.k (.call 147 ⟨2,(some (0,999999)),[],[],2,[],none,[]⟩)) [12,13,999999] [14,999999],oV 14 11,oE 0 11 15,oE 1 11 16,oV 15 6,oV 16 7] (oS [oW (.u64 0) 8] (.seq (oS [oV 6 17,oK (.k .len) [17] [18],oW (.i .i64 0) 19] (.block 0 [(999999,.cl [])] (.loop [7,8,17,18,19,999999] [(999999,.cl [])] dR.m1))) none (oS [oV 8 29,oV 7 30,oV 29 4,oV 30 5] .ret))))
def dR.d:gn:={ np:=2,m:=dR.m,ref:=some (0,999999),fy:=[],res:=[.t 4,.t 5],own:=[],new:=none,fx:=[] }
def dR.F (r:dx) (n:Int):OT:=dR.d.run dR.E [(.ag (dx.cells r)),(.i .i64 n)]
def dR.k1:fJ (List TV):=ia (ev _ dR.E (oS [oV 8 29,oV 7 30,oV 29 4,oV 30 5] .ret)) none (gb dR.d)
def dR.l1 (x0:Bool) (x1:UInt64) (x2:List UInt8) (x3:Int) (x4:Int) (x5:dx):OT:=fX (gQ _ dR.E dR.m1) n6 [7,8,17,18,19,999999] (dF [7,8,17,18,19,999999] [(.b x0),(.u64 x1),(.sl .bs x2),(.i .i64 x3),(.i .i64 x4),(.ag (dx.cells x5))]) (eb 0 dR.k1)
theorem dR.eC (x0:Bool) (x1:UInt64) (x2:List UInt8) (x3:Int) (x4:Int) (x5:dx) {ρ:OT} (K:∀(v1:UInt8) (h1:v1=(List.getD x2 (x4).toNat (0:UInt8))) (v2:UInt64) (h2:v2=(lz x1 (((8:UInt64)).toNat))) (v3:UInt64) (h3:v3=(UInt64.ofInt ((v1).toNat:Int))) (v4:Int) (h4:v4=(IntKind.i64.wrap (x4+(1:Int)))),cond (decide (x4<x3))
  (ck (eE x4 (x2).length) (dR.l1 x0 (v2 ||| v3) x2 x3 v4 x5))
  (some [(.u64 x1),(.b x0),(.ag (dx.cells x5))])=ρ):dR.l1 x0 x1 x2 x3 x4 x5=ρ:=((ff _ _ _ _ _ _).trans (by kernel_rfl)).trans (K _ rfl _ rfl _ rfl _ rfl)
theorem dR.dQ (r:dx) (n:Int) {ρ:OT} (K:∀(v1:Int) (h1:v1=(((cT.nx r n (cT.pz r n))).length:Int)),ck (cT.iE r) (dR.l1 (cT.pz r n) (0:UInt64) (cT.nx r n (cT.pz r n)) v1 (0:Int) (cT.pg r n (cT.pz r n)))=ρ):dR.F r n=ρ:=Eq.trans (by kernel_rfl) (K _ rfl)
theorem dR.dp:CK 137 dR.env dR.d:=eH (by kernel_rfl)
def fo.env:EV:=[(56,(fE.c,fE.sg))]
def fo.E:eg:=cM tryzGl fo.env
def fo.m:TM:=oS [oW (.c (.pointer none)) 2] (oS [oV 0 3,oK (.k (.call 56 ⟨1,none,[],[],1,[(0,100,1)],none,[]⟩)) [3,(lk 100)] [4,lk 100],oK (.bd [(.sl .bs ([]:List UInt8)),(.i .i64 0)] [(0,1)]) [4] [5],oK (.k (.bx 1007)) [5,1007] [6,1007],oV 6 2] .ret)
def fo.d:gn:={ np:=1,m:=fo.m,ref:=none,fy:=[],res:=[.t 2],own:=[],new:=some (0,1007),fx:=[] }
def fo.F (b:List UInt8):OT:=fo.d.run fo.E [(.sl .bs b)]
theorem fo.fM (b:List UInt8):fo.F b=ck (gg (b).length 1) (some [.pt,(.ag [(.sl .bs (b)),(.i .i64 0)])]):=by kernel_rfl
theorem fo.dp:CK 119 fo.env fo.d:=eH (by kernel_rfl)
def dO.env:EV:=[]
def dO.E:eg:=cM tryzGl dO.env
def dO.m:TM:=oS [oW (.b false) 2] (oS [oV 0 3,oI .geq 3 (.i .i64 1) 4,oV 4 5,oG 5 true (oV 0 6),oG 5 true (oI .leq 6 (.i .i64 8) 7),oP 5 7 false 8,oV 8 2] .ret)
def dO.d:gn:=D0 1 dO.m [.t 2]
def dO.F (n:Int):OT:=dO.d.run dO.E [(.i .i64 n)]
theorem dO.dQ (n:Int) {ρ:OT} (K:∀(v1:Bool) (h1:v1=(cond (decide ((1:Int)≤n)) (decide (n≤(8:Int))) false)),ck (!(decide ((1:Int)≤n)) || (decide ((1:Int)≤n))) (ck (!(decide ((1:Int)≤n)) || (decide ((1:Int)≤n))) (some [(.b v1)]))=ρ):dO.F n=ρ:=Eq.trans (by kernel_rfl) (K _ rfl)
theorem dO.dp:CK 149 dO.env dO.d:=eH (by kernel_rfl)
def eY.env:EV:=[]
def eY.E:eg:=cM tryzGl eY.env
def eY.m:TM:=oS [oW (.c (.pointer none)) 0] (oS [oK (.bd [(.c (.slice none 0 0))] []) [] [1],oK (.yH 1003 [(0,100,.bs)]) [1,1003,(lk 100)] [2,1003,lk 100],oV 2 0] .ret)
def eY.d:gn:={ np:=0,m:=eY.m,ref:=none,fy:=[],res:=[.t 0],own:=[],new:=some (0,1003),fx:=[(0,1)] }
def eY.F  : OT:=eY.d.run eY.E []
theorem eY.fM  : eY.F  = some [.pt,(.ag [(.sl .bs ([]:List UInt8))])]:=by kernel_rfl
theorem eY.dp:CK 107 eY.env eY.d:=eH (by kernel_rfl)
def eV.env:EV:=[]
def eV.E:eg:=cM tryzGl eV.env
def eV.m:TM := .fD [oV 0 4,oV 0 5,oK (.k (.nc 999999 0)) [5] [6],oA 999999 0 0 6 7,oL 999999 0 1 7 8,oV 1 9,oK (.k (.ci .u8)) [9] [10],oK (.bl .bs 1) [10] [11],oK (.k (.ap 100 102 1 1)) [8,11,(lk 100),(lk 102)] [12,lk 100,lk 102],oK (.k (.nc 999999 0)) [4] [13],oA 999999 0 0 13 14,oT 999999 0 1 14 12]
def eV.d:gn:={ np:=2,m:=eV.m,ref:=some (0,999999),fy:=[(0,100,1)],res:=[],own:=[],new:=none,fx:=[] }
def eV.F (w:fg) (v:Int):OT:=eV.d.run eV.E [(.ag (fg.cells w)),(.i .i64 v)]
theorem eV.dQ (w:fg) (v:Int) {ρ:OT} (K:∀(v1:List UInt8) (h1:v1=([(UInt8.ofInt v)]:List UInt8)),ck (gg (((fg.b w)).length+(v1).length) 1) (some [(.ag [(.sl .bs ((fg.b w)++v1))])])=ρ):eV.F w v=ρ:=Eq.trans (by kernel_rfl) (K _ rfl)
theorem eV.dp:CK 127 eV.env eV.d:=eH (by kernel_rfl)
def fN.env:EV:=[]
def fN.E:eg:=cM tryzGl fN.env
def fN.m:TM := .fD [oV 0 4,oV 0 5,oK (.k (.nc 999999 0)) [5] [6],oA 999999 0 0 6 7,oL 999999 0 1 7 8,oV 1 9,oK (.k (.ap 100 101 1 1)) [8,9,(lk 100),(lk 101)] [10,lk 100,lk 101],oK (.k (.nc 999999 0)) [4] [11],oA 999999 0 0 11 12,oT 999999 0 1 12 10]
def fN.d:gn:={ np:=2,m:=fN.m,ref:=some (0,999999),fy:=[(0,100,1)],res:=[],own:=[],new:=none,fx:=[] }
def fN.F (w:fg) (b:List UInt8):OT:=fN.d.run fN.E [(.ag (fg.cells w)),(.sl .bs b)]
theorem fN.fM (w:fg) (b:List UInt8):fN.F w b=ck (gg (((fg.b w)).length+(b).length) 1) (some [(.ag [(.sl .bs ((fg.b w)++b))])]):=by kernel_rfl
theorem fN.dp:CK 129 fN.env fN.d:=eH (by kernel_rfl)
def dY.env:EV:=[(149,(dO.c,dO.sg))]
def dY.E:eg:=cM tryzGl dY.env
def dY.m1:TM := .seq (oS [oV 2 9,oC 149 1 1 [9] 10,oV 10 11,oG 11 true (oV 6 12),oG 11 true (oI .geq 12 (.i .i64 0) 13),oP 11 13 false 14] (.cond (.s 14) [] .skip (.exit 0))) none (.seq (.block 1 [(0,.ptr 999999 0),(999999,.cl [(0,102,1)]),(lk 102,.live 1)] (.fD [oV 0 17,oV 0 18,oK (.k (.nc 999999 0)) [18] [19],oA 999999 0 0 19 20,oL 999999 0 1 20 21,oV 1 22,oV 6 23,oX (.k (.bin .mul)) [.c (.i .i64 8),.s 23] [24],oB .shr 22 24 25,oK (.k (.ci .u8)) [25] [26],oK (.bl .bs 1) [26] [27],oK (.k (.ap 100 102 1 1)) [21,27,(lk 100),(lk 102)] [28,lk 100,lk 102],oK (.k (.nc 999999 0)) [17] [29],oA 999999 0 0 29 30,oT 999999 0 1 30 28])) none (.fD [oV 6 15,oI .sub 15 (.i .i64 1) 16,oV 16 6]))
def dY.m:TM:=oS [oV 2 7,oI .sub 7 (.i .i64 1) 8,oV 8 6] (.block 0 [(999999,.cl [(0,100,1)]),(lk 100,.live 1)] (.loop [0,1,2,6,999999] [(0,.ptr 999999 0),(999999,.cl [(0,100,1)]),(lk 100,.live 1)] dY.m1))
def dY.d:gn:={ np:=3,m:=dY.m,ref:=some (0,999999),fy:=[(0,100,1)],res:=[],own:=[],new:=none,fx:=[] }
def dY.F (w:fg) (v:UInt64) (n:Int):OT:=dY.d.run dY.E [(.ag (fg.cells w)),(.u64 v),(.i .i64 n)]
def dY.l1 (x0:UInt64) (x1:Int) (x2:Int) (x3:fg):OT:=fX (gQ _ dY.E dY.m1) n6 [0,1,2,6,999999] (dF [0,1,2,6,999999] [.pt,(.u64 x0),(.i .i64 x1),(.i .i64 x2),(.ag (fg.cells x3))]) (eb 0 (gb dY.d))
theorem dY.eC (x0:UInt64) (x1:Int) (x2:Int) (x3:fg) {ρ:OT} (K:∀(v1:Bool) (h1:v1=(cond (decide (1≤x1∧x1≤8)) (decide ((0:Int)≤x2)) false)) (v2:Int) (h2:v2=(IntKind.i64.wrap ((8:Int) * x2))) (v3:UInt8) (h3:v3=(UInt8.ofInt (((mD x0 ((v2).toNat))).toNat:Int))) (v4:List UInt8) (h4:v4=((fg.b x3)++([v3]:List UInt8))) (v5:Int) (h5:v5=(IntKind.i64.wrap (x2 - (1:Int)))),ck (!(decide (1≤x1∧x1≤8)) || (decide (1≤x1∧x1≤8))) (ck (!(decide (1≤x1∧x1≤8)) || (decide (1≤x1∧x1≤8))) (cond v1
  (ck (decide (0≤v2)) (ck (gg (((fg.b x3)).length+(([v3]:List UInt8)).length) 1) (dY.l1 x0 x1 v5 (fg.mk v4))))
  (some [(.ag (fg.cells x3))])))=ρ):dY.l1 x0 x1 x2 x3=ρ:=((ff _ _ _ _ _ _).trans (by kernel_rfl)).trans (K _ rfl _ rfl _ rfl _ rfl _ rfl)
theorem dY.dQ (w:fg) (v:UInt64) (n:Int) {ρ:OT} (K:∀(v1:Int) (h1:v1=(IntKind.i64.wrap (n - (1:Int)))),dY.l1 v n v1 w=ρ):dY.F w v n=ρ:=Eq.trans (by kernel_rfl) (K _ rfl)
theorem dY.dp:CK 144 dY.env dY.d:=eH (by kernel_rfl)
def eJ.env:EV:=[(56,(fE.c,fE.sg))]
def eJ.E:eg:=cM tryzGl eJ.env
def eJ.m:TM:=oS [oW (.sl .bs ([]:List UInt8)) 2] (oS [oV 0 3,oK (.k (.nc 999999 0)) [3] [4],oA 999999 0 0 4 5,oL 999999 0 1 5 6,oK (.k (.call 56 ⟨1,none,[],[],1,[(0,102,1)],none,[]⟩)) [6,(lk 102)] [7,lk 102],oV 7 2] .ret)
def eJ.d:gn:={ np:=1,m:=eJ.m,ref:=some (0,999999),fy:=[(0,100,1)],res:=[.t 2],own:=[],new:=none,fx:=[] }
def eJ.F (w:fg):OT:=eJ.d.run eJ.E [(.ag (fg.cells w))]
theorem eJ.fM (w:fg):eJ.F w=ck (gg (((fg.b w))).length 1) (some [(.sl .bs (((fg.b w)))),(.ag (fg.cells w))]):=by kernel_rfl
theorem eJ.dp:CK 109 eJ.env eJ.d:=eH (by kernel_rfl)
def fS.env:EV:=[]
def fS.E:eg:=cM tryzGl fS.env
def fS.m:TM:=oS [oW (.b false) 2] (oS [oV 0 3,oK (.k (.ci .u64)) [3] [4],oI .lss 4 (.u64 4294967296) 5,oV 5 2] .ret)
def fS.d:gn:=D0 1 fS.m [.t 2]
def fS.F (n:Int):OT:=fS.d.run fS.E [(.i .i64 n)]
theorem fS.fM (n:Int):fS.F n=some [(.b (decide ((UInt64.ofInt n)<(4294967296:UInt64))))]:=by kernel_rfl
theorem fS.dp:CK 66 fS.env fS.d:=eH (by kernel_rfl)
def bV.env:EV:=[(66,(fS.c,fS.sg))]
def bV.E:eg:=cM tryzGl bV.env
def bV.m1:TM := .cond (.s 14) [(1,.ptr 1089 0),(1089,.cl [])] (.fD [oA 1089 0 1 1 17,oX (.k (.st 1089 1 1)) [.s 17,.s 1089,.c (.u64 0)] [1089]]) (oS [oI .eql 13 (.i .i64 2) 19,oV 19 18] (.cond (.s 18) [(1,.ptr 1089 0),(1089,.cl [])] (.fD [oA 1089 0 1 1 20,oL 1089 1 1 20 21,oI .lss 21 (.u64 9223372036854775808) 22,oV 22 5,oA 1089 0 1 1 23,oX (.k (.st 1089 1 1)) [.s 23,.s 1089,.c (.u64 0)] [1089]]) (oS [oI .eql 13 (.i .i64 3) 25,oV 25 24] (.cond (.s 24) [(1,.ptr 1089 0),(1089,.cl [])] (.fD [oV 4 26,oC 66 1 1 [26] 27,oV 27 5,oW (.i .i64 0) 4]) (oS [oI .eql 13 (.i .i64 4) 29,oV 29 28] (.cond (.s 28) [(1,.ptr 1089 0),(1089,.cl [])] (.fD [oA 1089 0 3 1 30,oL 1089 3 1 30 31,oK (.k .sC) [31] [32],oC 66 1 1 [32] 33,oV 33 5,oA 1089 0 3 1 34,oX (.k (.st 1089 3 1)) [.s 34,.s 1089,.c (.s [])] [1089]]) (oS [oI .eql 13 (.i .i64 5) 36,oV 36 35] (.cond (.s 35) [(1,.ptr 1089 0),(1089,.cl [])] (.fD [oV 3 37,oC 66 1 1 [37] 38,oV 38 5,oW (.i .i64 0) 3]) (oS [oI .eql 13 (.i .i64 6) 40,oV 40 39] (.cond (.s 39) [(1,.ptr 1089 0),(1089,.cl [])] (.fD [oV 3 41,oI .rem 41 (.i .i64 2) 42,oI .eql 42 (.i .i64 0) 43,oV 43 44,oG 44 true (oV 3 45),oG 44 true (oI .quo 45 (.i .i64 2) 46),oG 44 true (oC 66 1 1 [46] 47),oP 44 47 false 48,oV 48 5,oW (.i .i64 0) 3]) (oS [oI .eql 13 (.i .i64 8) 50,oV 50 49] (.cond (.s 49) [(1,.ptr 1089 0),(1089,.cl [])] (.fD [oA 1089 0 1 1 51,oL 1089 1 1 51 52,oI .geq 52 (.u64 20) 53,oV 53 54,oG 54 true (oA 1089 0 1 1 55),oG 54 true (oL 1089 1 1 55 56),oG 54 true (oI .leq 56 (.u64 22) 57),oP 54 57 false 58,oV 58 5,oA 1089 0 1 1 59,oX (.k (.st 1089 1 1)) [.s 59,.s 1089,.c (.u64 0)] [1089]]) (oS [oI .eql 13 (.i .i64 10) 61,oV 61 60] (.cond (.s 60) [(1,.ptr 1089 0),(1089,.cl [])] (.fD [oA 1089 0 1 1 62,oL 1089 1 1 62 63,oI .leq 63 (.u64 127) 64,oV 64 65,oG 65 true (oV 4 66),oG 65 true (oC 66 1 1 [66] 67),oP 65 67 false 68,oV 68 5,oA 1089 0 1 1 69,oX (.k (.st 1089 1 1)) [.s 69,.s 1089,.c (.u64 0)] [1089],oW (.i .i64 0) 4]) .skip))))))))))))))
def bV.m2:TM:=oS [oV 5 70,oV 70 71,oG 71 true (oA 1089 0 1 1 72),oG 71 true (oL 1089 1 1 72 73),oG 71 true (oI .eql 73 (.u64 0) 74),oP 71 74 false 75,oV 75 76,oG 76 true (oV 4 77),oG 76 true (oI .eql 77 (.i .i64 0) 78),oP 76 78 false 79,oV 79 80,oG 80 true (oA 1089 0 3 1 81),oG 80 true (oL 1089 3 1 81 82),oG 80 true (oI .eql 82 (.s []) 83),oP 80 83 false 84,oV 84 85,oG 85 true (oV 3 86),oG 85 true (oI .eql 86 (.i .i64 0) 87),oP 85 87 false 88,oV 88 2] .ret
def bV.m:TM:=oS [oK (.k (.bx 1089)) [0,1089] [1,1089],oW (.b false) 2] (oS [oA 1089 0 4 1 6,oL 1089 4 1 6 7,oK (.k .len) [7] [8],oA 1089 0 2 1 9,oL 1089 2 1 9 10,oK (.k .len) [10] [11],oV 8 3,oV 11 4] (oS [oW (.b true) 5] (.seq (oS [oA 1089 0 0 1 12,oL 1089 0 1 12 13] (.block 0 [(1,.ptr 1089 0),(1089,.cl [])] (.seq (oS [oI .eql 13 (.i .i64 1) 15,oV 15 14] (.cond (.s 14) [(1,.ptr 1089 0),(1089,.cl [])] .skip (.fD [oI .eql 13 (.i .i64 9) 16,oV 16 14]))) (some [1,3,4,5,13,14,1089]) bV.m1))) (some [1,3,4,5,1089]) bV.m2)))
def bV.d:gn:=D0 1 bV.m [.t 2]
def bV.F (it:Itv):OT:=bV.d.run bV.E [(.ag (Itv.cells it))]
def bV.k1:fJ (List TV):=ia (gQ _ bV.E bV.m2) (some [1,3,4,5,1089]) (gb bV.d)
def bV.j1 (x0:Int) (x1:Int) (x2:Bool) (x3:Int) (x4:Bool) (x5:Itv):OT:=gQ _ bV.E bV.m1 (dF [1,3,4,5,13,14,1089] [.pt,(.i .i64 x0),(.i .i64 x1),(.b x2),(.i .i64 x3),(.b x4),(.ag (Itv.cells x5))]) (eb 0 bV.k1)
def bV.j2 (x0:Int) (x1:Int) (x2:Bool) (x3:Itv):OT:=gQ _ bV.E bV.m2 (dF [1,3,4,5,1089] [.pt,(.i .i64 x0),(.i .i64 x1),(.b x2),(.ag (Itv.cells x3))]) (gb bV.d)
theorem bV.kM (x0:Int) (x1:Int) (x2:Bool) (x3:Int) (x4:Bool) (x5:Itv) {ρ:OT} (K:∀(v1:Int) (h1:v1=(((Itv.text x5)).length:Int)) (v2:Int) (h2:v2=(IntKind.i64.wrap (Int.tdiv x0 (2:Int)))) (v3:Bool) (h3:v3=(cond (decide ((Int.tmod x0 (2:Int))=(0:Int))) (decide (v2<4294967296)) false)) (v4:Bool) (h4:v4=(cond (decide ((20:UInt64)≤(Itv.n x5))) (decide ((Itv.n x5)≤(22:UInt64))) false)) (v5:Bool) (h5:v5=(cond (decide ((Itv.n x5)≤(127:UInt64))) (decide (x1<4294967296)) false)),cond x4
  (bV.j2 x0 x1 x2 (Itv.mk (Itv.kind x5) 0 (Itv.bytes x5) (Itv.text x5) (Itv.kids x5)))
  (cond (decide (x3=(2:Int)))
  (bV.j2 x0 x1 (decide ((Itv.n x5)<(9223372036854775808:UInt64))) (Itv.mk (Itv.kind x5) 0 (Itv.bytes x5) (Itv.text x5) (Itv.kids x5)))
  (cond (decide (x3=(3:Int)))
  (ck (decide (0≤x1∧x1≤1099511627776)) (bV.j2 x0 (0:Int) (decide (x1<4294967296)) x5))
  (cond (decide (x3=(4:Int)))
  (ck (decide (0≤v1∧v1≤1099511627776)) (bV.j2 x0 x1 (decide (v1<4294967296)) (Itv.mk (Itv.kind x5) (Itv.n x5) (Itv.bytes x5) [] (Itv.kids x5))))
  (cond (decide (x3=(5:Int)))
  (ck (decide (0≤x0∧x0≤1099511627776)) (bV.j2 (0:Int) x1 (decide (x0<4294967296)) x5))
  (cond (decide (x3=(6:Int)))
  (ck (!decide ((2:Int)=0)) (ck (!(decide ((Int.tmod x0 (2:Int))=(0:Int))) || ((decide ((Int.tmod x0 (2:Int))=(0:Int)))&&(!decide ((2:Int)=0)))) (ck (!(decide ((Int.tmod x0 (2:Int))=(0:Int))) || ((decide ((Int.tmod x0 (2:Int))=(0:Int)))&&(decide (0≤v2∧v2≤1099511627776)))) (ck (!(decide ((Int.tmod x0 (2:Int))=(0:Int))) || (decide ((Int.tmod x0 (2:Int))=(0:Int)))) (bV.j2 (0:Int) x1 v3 x5)))))
  (cond (decide (x3=(8:Int)))
  (ck (!(decide ((20:UInt64)≤(Itv.n x5))) || (decide ((20:UInt64)≤(Itv.n x5)))) (ck (!(decide ((20:UInt64)≤(Itv.n x5))) || (decide ((20:UInt64)≤(Itv.n x5)))) (ck (!(decide ((20:UInt64)≤(Itv.n x5))) || (decide ((20:UInt64)≤(Itv.n x5)))) (bV.j2 x0 x1 v4 (Itv.mk (Itv.kind x5) 0 (Itv.bytes x5) (Itv.text x5) (Itv.kids x5))))))
  (cond (decide (x3=(10:Int)))
  (ck (!(decide ((Itv.n x5)≤(127:UInt64))) || ((decide ((Itv.n x5)≤(127:UInt64)))&&(decide (0≤x1∧x1≤1099511627776)))) (ck (!(decide ((Itv.n x5)≤(127:UInt64))) || (decide ((Itv.n x5)≤(127:UInt64)))) (bV.j2 x0 (0:Int) v5 (Itv.mk (Itv.kind x5) 0 (Itv.bytes x5) (Itv.text x5) (Itv.kids x5)))))
  (bV.j2 x0 x1 x2 x5))))))))=ρ):bV.j1 x0 x1 x2 x3 x4 x5=ρ:=((congrFun (congrFun (gr _ _) _) _).trans (by kernel_rfl)).trans (K _ rfl _ rfl _ rfl _ rfl _ rfl)
theorem bV.nw (x0:Int) (x1:Int) (x2:Bool) (x3:Itv) {ρ:OT} (K:∀(v1:Bool) (h1:v1=(cond x2 (decide ((Itv.n x3)=(0:UInt64))) false)) (v2:Bool) (h2:v2=(cond v1 (decide (x1=(0:Int))) false)) (v3:Bool) (h3:v3=(cond v2 (decide ((Itv.text x3)=([]:bY))) false)) (v4:Bool) (h4:v4=(cond v3 (decide (x0=(0:Int))) false)),ck (!x2 || x2) (ck (!x2 || x2) (ck (!x2 || x2) (ck (!v1 || v1) (ck (!v1 || v1) (ck (!v2 || v2) (ck (!v2 || v2) (ck (!v2 || v2) (ck (!v3 || v3) (ck (!v3 || v3) (some [(.b v4)]))))))))))=ρ):bV.j2 x0 x1 x2 x3=ρ:=((congrFun (congrFun (gr _ _) _) _).trans (by kernel_rfl)).trans (K _ rfl _ rfl _ rfl _ rfl)
theorem bV.dQ (it:Itv) {ρ:OT} (K:∀(v1:Int) (h1:v1=(((Itv.kids it)).length:Int)) (v2:Int) (h2:v2=(((Itv.bytes it)).length:Int)),cond (decide ((Itv.kind it)=(1:Int)))
  (bV.j1 v1 v2 true (Itv.kind it) (decide ((Itv.kind it)=(1:Int))) it)
  (bV.j1 v1 v2 true (Itv.kind it) (decide ((Itv.kind it)=(9:Int))) it)=ρ):bV.F it=ρ:=Eq.trans (by kernel_rfl) (K _ rfl _ rfl)
theorem bV.dp:CK 40 bV.env bV.d:=eH (by kernel_rfl)
def cW.env (n:Nat):EV:=[(26,(cW.cn n,cW.sg)),(40,(bV.c,bV.sg)),(41,(dD.c,dD.sg))]
def cW.E (n:Nat):eg:=cM tryzGl (cW.env n)
def cW.m1:TM:=oS [oB .lss 36 35 37] (.seq (.cond (.s 37) [] .skip (.exit 0)) none (.seq (.block 1 [] (oS [oK (.k (.ix 5)) [34,36] [38],oK (.k (.lr 5 true)) [38] [39],oN 1047 zI 6,oT 1047 0 5 6 39] (oS [oM 1047 0 5 6 40,oC 26 1 1 [40] 41,oV 41 7] (oS [oV 7 42,oI .neq 42 (.i .i64 0) 43] (.cond (.s 43) [] (oS [oV 7 44,oV 44 2] .ret) .skip))))) none (.fD [oI .add 36 (.i .i64 1) 45,oV 45 36])))
def cW.m:TM:=oS [oK (.k (.bx 1046)) [0,1046] [1,1046],oW (.i .i64 0) 2] (.seq (oS [oA 1046 0 0 1 8,oL 1046 0 1 8 9,oI .lss 9 (.i .i64 1) 10,oV 10 11,oG 11 false (oA 1046 0 0 1 12),oG 11 false (oL 1046 0 1 12 13),oG 11 false (oI .gtr 13 (.i .i64 10) 14),oX (.k .pick) [.s 11,.c (.b true),.s 14] [15],oV 15 16,oG 16 false (oA 1046 0 0 1 17),oG 16 false (oL 1046 0 1 17 18),oG 16 false (oI .eql 18 (.i .i64 7) 19),oX (.k .pick) [.s 16,.c (.b true),.s 19] [20]] (.cond (.s 20) [] (oS [oW (.i .i64 5) 2] .ret) .skip)) none (.seq (oS [oM 1046 0 5 1 21,oC 40 1 1 [21] 22,oK (.k (.un .not)) [22] [23]] (.cond (.s 23) [] (oS [oW (.i .i64 1) 2] .ret) .skip)) none (.seq (oS [oA 1046 0 3 1 25,oL 1046 3 1 25 26,oK (.k .sb) [26] [27],oC 41 1 2 [27] 28,oV 28 24,oE 0 24 29,oE 1 24 30,oV 29 3,oV 30 4] (oS [oV 4 31,oK (.k (.un .not)) [31] [32]] (.cond (.s 32) [] (oS [oW (.i .i64 4) 2] .ret) .skip))) none (.seq (oS [oA 1046 0 4 1 33,oL 1046 4 1 33 34,oK (.k .len) [34] [35],oW (.i .i64 0) 36] (.block 0 [] (.loop [34,35,36] [] cW.m1))) none (oS [oW (.i .i64 0) 2] .ret)))))
def cW.d:gn:=D0 1 cW.m [.t 2]
def cW.F (n:Nat) (it:Itv):OT:=cW.d.run (cW.E n) [(.ag (Itv.cells it))]
def cW.k1 (n:Nat):fJ (List TV):=ia (ev _ (cW.E n) (oS [oW (.i .i64 0) 2] .ret)) none (gb cW.d)
def cW.l1 (n:Nat) (x0:List bG) (x1:Int) (x2:Int):OT:=fX (gQ _ (cW.E n) cW.m1) n6 [34,35,36] (dF [34,35,36] [(.sl .il x0),(.i .i64 x1),(.i .i64 x2)]) (eb 0 (cW.k1 n))
theorem cW.eC (n:Nat) (x0:List bG) (x1:Int) (x2:Int) {ρ:OT} (K:∀(v1:Int) (h1:v1=(Mp.dp (bG.of (bG.val (List.getD x0 (x2).toNat (eN.eG .il)))))) (v2:Int) (h2:v2=(IntKind.i64.wrap (x2+(1:Int)))),cond (decide (x2<x1))
  (ck (eE x2 (x0).length) (ck ((decide (bG.c7 (bG.of (bG.val (List.getD x0 (x2).toNat (eN.eG .il))))≤1099511627776))&&decide ((bG.c7 (bG.of (bG.val (List.getD x0 (x2).toNat (eN.eG .il)))))<n)) (cond (!decide (v1=(0:Int)))
  (some [(.i .i64 v1)])
  (cW.l1 n x0 x1 v2))))
  (some [(.i .i64 0)])=ρ):cW.l1 n x0 x1 x2=ρ:=((ff _ _ _ _ _ _).trans (by kernel_rfl)).trans (K _ rfl _ rfl)
theorem cW.dQ (n:Nat) (it:Itv) {ρ:OT} (K:∀(v1:Bool) (h1:v1=(cond (decide ((Itv.kind it)<(1:Int))) true (decide ((10:Int)<(Itv.kind it))))) (v2:Bool) (h2:v2=(cond v1 true (decide ((Itv.kind it)=(7:Int))))) (v3:Int) (h3:v3=(((ee.look ((Itv.text it))).1:Int))) (v4:Bool) (h4:v4=(!(ee.whole ((Itv.text it))))) (v5:Int) (h5:v5=(((Itv.kids it)).length:Int)),ck (!(!(decide ((Itv.kind it)<(1:Int)))) || (!(decide ((Itv.kind it)<(1:Int))))) (ck (!(!(decide ((Itv.kind it)<(1:Int)))) || (!(decide ((Itv.kind it)<(1:Int))))) (ck ((decide ((Itv.kind it)<(1:Int))) || (!(decide ((Itv.kind it)<(1:Int))))) (ck (!(!v1) || (!v1)) (ck (!(!v1) || (!v1)) (ck (v1 || (!v1)) (cond v2
  (some [(.i .i64 5)])
  (ck (decide (bG.c7 (bG.of it)≤1099511627776)) (cond (!(Mp.fI (bG.of it)))
  (some [(.i .i64 1)])
  (ck (lH ((Itv.text it)).length) (ck (decide (((Itv.text it)).length≤1099511627776)) (cond v4
  (some [(.i .i64 4)])
  (cW.l1 n (Itv.kids it) v5 (0:Int)))))))))))))=ρ):cW.F n it=ρ:=Eq.trans (by kernel_rfl) (K _ rfl _ rfl _ rfl _ rfl _ rfl)
theorem cW.dp (n:Nat):CK 26 (cW.env n) cW.d:=eH (by kernel_rfl)
def dX.env:EV:=[]
def dX.E:eg:=cM tryzGl dX.env
def dX.m:TM:=oS [oN 1010 zI 4,oN 1011 zT 5] (oS [oK (.bd zI []) [] [6],oV 0 7,oV 1 8,oK (.bd zT [(0,1),(1,1)]) [7,8] [9],oT 1010 0 5 4 6,oT 1011 0 3 5 9] .ret)
def dX.d:gn:=D0 2 dX.m [.c 4 1010 5 true,.c 5 1011 3 true]
def dX.F (e:Int) (at_:Int):OT:=dX.d.run dX.E [(.i .i64 e),(.i .i64 at_)]
theorem dX.fM (e:Int) (at_:Int):dX.F e at_=some [(.ag [(.i .i64 0),(.u64 0),(.sl .bs ([]:List UInt8)),(.s []),(.sl .il ([]:List bG))]),(.ag [(.i .i64 e),(.i .i64 at_),(.sl .is ([]:List Int))])]:=by kernel_rfl
theorem dX.dp:CK 118 dX.env dX.d:=eH (by kernel_rfl)
def dk.env:EV:=[]
def dk.E:eg:=cM tryzGl dk.env
def dk.m:TM:=oS [oN 1022 [(.i .i64 0),(.i .i64 0)] 2] (.seq (.block 0 [(2,.ptr 1022 0),(1022,.cl [])] (oS [oV 0 4,oI .lss 4 (.u64 128) 5,oV 5 3] (.cond (.s 3) [] (oS [oV 0 6,oK (.k (.ci .i64)) [6] [7],oX (.bd [(.i .i64 0),(.i .i64 0)] [(0,1),(1,1)]) [.s 7,.c (.i .i64 0)] [8],oT 1022 0 2 2 8] .ret) (oS [oV 0 10,oI .lss 10 (.u64 256) 11,oV 11 9] (.cond (.s 9) [] (oS [oX (.bd [(.i .i64 0),(.i .i64 0)] [(0,1),(1,1)]) [.c (.i .i64 204),.c (.i .i64 1)] [12],oT 1022 0 2 2 12] .ret) (oS [oV 0 14,oI .lss 14 (.u64 65536) 15,oV 15 13] (.cond (.s 13) [] (oS [oX (.bd [(.i .i64 0),(.i .i64 0)] [(0,1),(1,1)]) [.c (.i .i64 205),.c (.i .i64 2)] [16],oT 1022 0 2 2 16] .ret) (oS [oV 0 18,oI .lss 18 (.u64 4294967296) 19,oV 19 17] (.cond (.s 17) [] (oS [oX (.bd [(.i .i64 0),(.i .i64 0)] [(0,1),(1,1)]) [.c (.i .i64 206),.c (.i .i64 4)] [20],oT 1022 0 2 2 20] .ret) .skip))))))))) none (oS [oX (.bd [(.i .i64 0),(.i .i64 0)] [(0,1),(1,1)]) [.c (.i .i64 207),.c (.i .i64 8)] [21],oT 1022 0 2 2 21] .ret))
def dk.d:gn:=D0 1 dk.m [.c 2 1022 2 true]
def dk.F (n:UInt64):OT:=dk.d.run dk.E [(.u64 n)]
theorem dk.dQ (n:UInt64) {ρ:OT} (K:∀(v1:Int) (h1:v1=(IntKind.i64.wrap ((n).toNat:Int))),cond (decide (n<(128:UInt64)))
  (some [(.ag [(.i .i64 v1),(.i .i64 0)])])
  (cond (decide (n<(256:UInt64)))
  (some [(.ag [(.i .i64 204),(.i .i64 1)])])
  (cond (decide (n<(65536:UInt64)))
  (some [(.ag [(.i .i64 205),(.i .i64 2)])])
  (cond (decide (n<(4294967296:UInt64)))
  (some [(.ag [(.i .i64 206),(.i .i64 4)])])
  (some [(.ag [(.i .i64 207),(.i .i64 8)])]))))=ρ):dk.F n=ρ:=Eq.trans (by kernel_rfl) (K _ rfl)
theorem dk.dp:CK 125 dk.env dk.d:=eH (by kernel_rfl)
def dW.env:EV:=[]
def dW.E:eg:=cM tryzGl dW.env
def dW.m:TM:=oS [oN 1023 [(.i .i64 0),(.i .i64 0)] 2] (.seq (.block 0 [(2,.ptr 1023 0),(1023,.cl [])] (oS [oV 0 4,oI .lss 4 (.u64 32) 5,oV 5 3] (.cond (.s 3) [] (oS [oV 0 6,oK (.k (.ci .i64)) [6] [7],oX (.k (.bin .sub)) [.c (.i .i64 255),.s 7] [8],oX (.bd [(.i .i64 0),(.i .i64 0)] [(0,1),(1,1)]) [.s 8,.c (.i .i64 0)] [9],oT 1023 0 2 2 9] .ret) (oS [oV 0 11,oI .lss 11 (.u64 128) 12,oV 12 10] (.cond (.s 10) [] (oS [oX (.bd [(.i .i64 0),(.i .i64 0)] [(0,1),(1,1)]) [.c (.i .i64 208),.c (.i .i64 1)] [13],oT 1023 0 2 2 13] .ret) (oS [oV 0 15,oI .lss 15 (.u64 32768) 16,oV 16 14] (.cond (.s 14) [] (oS [oX (.bd [(.i .i64 0),(.i .i64 0)] [(0,1),(1,1)]) [.c (.i .i64 209),.c (.i .i64 2)] [17],oT 1023 0 2 2 17] .ret) (oS [oV 0 19,oI .lss 19 (.u64 2147483648) 20,oV 20 18] (.cond (.s 18) [] (oS [oX (.bd [(.i .i64 0),(.i .i64 0)] [(0,1),(1,1)]) [.c (.i .i64 210),.c (.i .i64 4)] [21],oT 1023 0 2 2 21] .ret) .skip))))))))) none (oS [oX (.bd [(.i .i64 0),(.i .i64 0)] [(0,1),(1,1)]) [.c (.i .i64 211),.c (.i .i64 8)] [22],oT 1023 0 2 2 22] .ret))
def dW.d:gn:=D0 1 dW.m [.c 2 1023 2 true]
def dW.F (n:UInt64):OT:=dW.d.run dW.E [(.u64 n)]
theorem dW.dQ (n:UInt64) {ρ:OT} (K:∀(v1:Int) (h1:v1=(IntKind.i64.wrap ((n).toNat:Int))) (v2:Int) (h2:v2=(IntKind.i64.wrap ((255:Int) - v1))),cond (decide (n<(32:UInt64)))
  (some [(.ag [(.i .i64 v2),(.i .i64 0)])])
  (cond (decide (n<(128:UInt64)))
  (some [(.ag [(.i .i64 208),(.i .i64 1)])])
  (cond (decide (n<(32768:UInt64)))
  (some [(.ag [(.i .i64 209),(.i .i64 2)])])
  (cond (decide (n<(2147483648:UInt64)))
  (some [(.ag [(.i .i64 210),(.i .i64 4)])])
  (some [(.ag [(.i .i64 211),(.i .i64 8)])]))))=ρ):dW.F n=ρ:=Eq.trans (by kernel_rfl) (K _ rfl _ rfl)
theorem dW.dp:CK 126 dW.env dW.d:=eH (by kernel_rfl)
def fR.env:EV:=[(127,(eV.c,eV.sg)),(144,(dY.c,dY.sg))]
def fR.E:eg:=cM tryzGl fR.env
def fR.m:TM:=oS [oK (.k (.bx 1015)) [1,1015] [4,1015]] (oS [oV 0 6,oA 1015 0 0 4 7,oL 1015 0 1 7 8,oK (.k (.call 127 ⟨2,(some (0,999999)),[(0,100,1)],[(0,101,1)],0,[],none,[]⟩)) [6,8,999999,(lk 100),(lk 101)] [9,999999,lk 100,lk 101]] (.fD [oV 0 10,oV 2 11,oA 1015 0 1 4 12,oL 1015 1 1 12 13,oK (.k (.call 144 ⟨3,(some (0,999999)),[(0,101,1)],[(0,102,1)],0,[],none,[]⟩)) [10,11,13,999999,(lk 101),(lk 102)] [14,999999,lk 101,lk 102]]))
def fR.d:gn:={ np:=3,m:=fR.m,ref:=some (0,999999),fy:=[(0,100,1)],res:=[],own:=[],new:=none,fx:=[] }
def fR.F (w:fg) (f:kU) (n:UInt64):OT:=fR.d.run fR.E [(.ag (fg.cells w)),(.ag (kU.cells f)),(.u64 n)]
theorem fR.dQ (w:fg) (f:kU) (n:UInt64) {ρ:OT} (K:∀(v1:fg) (h1:v1=((fg.mk ((w).b++[UInt8.ofInt ((kU.at_ f))])))) (v2:fg) (h2:v2=((fg.mk ((v1).b++cT.high n ((kU.end_ f)))))),ck (decide ((w).b.length≤1099511627776)) (ck (decide ((v1).b.length≤1099511627776)) (some [(.ag (fg.cells v2))]))=ρ):fR.F w f n=ρ:=Eq.trans (by kernel_rfl) (K _ rfl _ rfl)
theorem fR.dp:CK 124 fR.env fR.d:=eH (by kernel_rfl)
def dt.env (n:Nat):EV:=[(108,(dt.cn n,dt.sg)),(124,(fR.c,fR.sg)),(125,(dk.c,dk.sg)),(126,(dW.c,dW.sg)),(127,(eV.c,eV.sg)),(128,(jl.c,jl.sg)),(129,(fN.c,fN.sg))]
def dt.E (n:Nat):eg:=cM tryzGl (dt.env n)
def dt.m1:TM:=oS [oB .lss 136 135 137] (.seq (.cond (.s 137) [] .skip (.exit 1)) none (.seq (.block 2 [(0,.ptr 999999 0),(999999,.cl [(0,117,1)]),(lk 117,.live 1)] (oS [oK (.k (.ix 5)) [134,136] [138],oK (.k (.lr 5 true)) [138] [139],oN 1145 zI 5,oT 1145 0 5 5 139] (.fD [oV 0 140,oM 1145 0 5 5 141,oK (.k (.call 108 ⟨2,(some (0,999999)),[(0,101,1)],[(0,117,1)],0,[],none,[]⟩)) [140,141,999999,(lk 101),(lk 117)] [142,999999,lk 101,lk 117]]))) none (.fD [oI .add 136 (.i .i64 1) 143,oV 143 136])))
def dt.m2:TM:=oS [oA 1144 0 4 3 133,oL 1144 4 1 133 134,oK (.k .len) [134] [135],oW (.i .i64 0) 136] (.block 1 [(999999,.cl [(0,101,1)]),(lk 101,.live 1)] (.loop [0,134,135,136,999999] [(0,.ptr 999999 0),(999999,.cl [(0,101,1)]),(lk 101,.live 1)] dt.m1))
def dt.m:TM:=oS [oK (.k (.bx 1144)) [1,1144] [3,1144]] (.seq (oS [oA 1144 0 0 3 6,oL 1144 0 1 6 7] (.block 0 [(0,.ptr 999999 0),(3,.ptr 1144 0),(1144,.cl []),(999999,.cl [(0,101,1)]),(lk 101,.live 1)] (oS [oI .eql 7 (.i .i64 1) 9,oV 9 8] (.cond (.s 8) [(0,.ptr 999999 0),(3,.ptr 1144 0),(1144,.cl []),(999999,.cl [(0,101,1)]),(lk 101,.live 1)] (.fD [oV 0 10,oA 1144 0 1 3 11,oL 1144 1 1 11 12,oC 125 1 1 [12] 13,oA 1144 0 1 3 14,oL 1144 1 1 14 15,oK (.k (.call 124 ⟨3,(some (0,999999)),[(0,100,1)],[(0,101,1)],0,[],none,[]⟩)) [10,13,15,999999,(lk 100),(lk 101)] [16,999999,lk 100,lk 101]]) (oS [oI .eql 7 (.i .i64 2) 18,oV 18 17] (.cond (.s 17) [(0,.ptr 999999 0),(3,.ptr 1144 0),(1144,.cl []),(999999,.cl [(0,102,1)]),(lk 102,.live 1)] (.fD [oV 0 19,oA 1144 0 1 3 20,oL 1144 1 1 20 21,oC 126 1 1 [21] 22,oA 1144 0 1 3 23,oL 1144 1 1 23 24,oK (.k (.un .xor)) [24] [25],oK (.k (.call 124 ⟨3,(some (0,999999)),[(0,100,1)],[(0,102,1)],0,[],none,[]⟩)) [19,22,25,999999,(lk 100),(lk 102)] [26,999999,lk 100,lk 102]]) (oS [oI .eql 7 (.i .i64 8) 28,oV 28 27] (.cond (.s 27) [(0,.ptr 999999 0),(3,.ptr 1144 0),(1144,.cl []),(999999,.cl [(0,103,1)]),(lk 103,.live 1)] (.fD [oV 0 29,oX (.bd [(.i .i64 0),(.i .i64 0),(.i .i64 0)] [(0,1),(1,1),(2,1)]) [.c (.i .i64 194),.c (.i .i64 195),.c (.i .i64 192)] [30],oA 1144 0 1 3 31,oL 1144 1 1 31 32,oI .sub 32 (.u64 20) 33,oK (.k (.ai 3 1 false)) [30,33] [34],oK (.k (.call 127 ⟨2,(some (0,999999)),[(0,100,1)],[(0,103,1)],0,[],none,[]⟩)) [29,34,999999,(lk 100),(lk 103)] [35,999999,lk 100,lk 103]]) (oS [oI .eql 7 (.i .i64 9) 37,oV 37 36] (.cond (.s 36) [(0,.ptr 999999 0),(3,.ptr 1144 0),(1144,.cl []),(999999,.cl [(0,104,1)]),(lk 104,.live 1)] (.fD [oV 0 38,oX (.bd [(.i .i64 0),(.i .i64 0)] [(0,1),(1,1)]) [.c (.i .i64 203),.c (.i .i64 8)] [39],oA 1144 0 1 3 40,oL 1144 1 1 40 41,oK (.k (.call 124 ⟨3,(some (0,999999)),[(0,100,1)],[(0,104,1)],0,[],none,[]⟩)) [38,39,41,999999,(lk 100),(lk 104)] [42,999999,lk 100,lk 104]]) (oS [oI .eql 7 (.i .i64 4) 44,oV 44 43] (.cond (.s 43) [(0,.ptr 999999 0),(3,.ptr 1144 0),(1144,.cl []),(999999,.cl [(0,107,1)]),(lk 107,.live 1)] (oS [oV 0 45,oA 1144 0 0 3 46,oL 1144 0 1 46 47,oA 1144 0 3 3 48,oL 1144 3 1 48 49,oK (.k .sC) [49] [50],oC 128 2 1 [47,50] 51,oA 1144 0 3 3 52,oL 1144 3 1 52 53,oK (.k .sC) [53] [54],oK (.k (.ci .u64)) [54] [55],oK (.k (.call 124 ⟨3,(some (0,999999)),[(0,100,1)],[(0,105,1)],0,[],none,[]⟩)) [45,51,55,999999,(lk 100),(lk 105)] [56,999999,lk 100,lk 105]] (.fD [oV 0 57,oA 1144 0 3 3 58,oL 1144 3 1 58 59,oK (.k .sb) [59] [60],oK (.k (.call 129 ⟨2,(some (0,999999)),[(0,105,1)],[(0,107,1)],0,[],none,[]⟩)) [57,60,999999,(lk 105),(lk 107)] [61,999999,lk 105,lk 107]])) (oS [oI .eql 7 (.i .i64 3) 63,oV 63 62] (.cond (.s 62) [(0,.ptr 999999 0),(3,.ptr 1144 0),(1144,.cl []),(999999,.cl [(0,109,1)]),(lk 109,.live 1)] (oS [oV 0 64,oA 1144 0 0 3 65,oL 1144 0 1 65 66,oA 1144 0 2 3 67,oL 1144 2 1 67 68,oK (.k .len) [68] [69],oC 128 2 1 [66,69] 70,oA 1144 0 2 3 71,oL 1144 2 1 71 72,oK (.k .len) [72] [73],oK (.k (.ci .u64)) [73] [74],oK (.k (.call 124 ⟨3,(some (0,999999)),[(0,100,1)],[(0,108,1)],0,[],none,[]⟩)) [64,70,74,999999,(lk 100),(lk 108)] [75,999999,lk 100,lk 108]] (.fD [oV 0 76,oA 1144 0 2 3 77,oL 1144 2 1 77 78,oK (.k (.call 129 ⟨2,(some (0,999999)),[(0,108,1)],[(0,109,1)],0,[],none,[]⟩)) [76,78,999999,(lk 108),(lk 109)] [79,999999,lk 108,lk 109]])) (oS [oI .eql 7 (.i .i64 10) 81,oV 81 80] (.cond (.s 80) [(0,.ptr 999999 0),(3,.ptr 1144 0),(1144,.cl []),(999999,.cl [(0,112,1)]),(lk 112,.live 1)] (oS [oV 0 82,oA 1144 0 0 3 83,oL 1144 0 1 83 84,oA 1144 0 2 3 85,oL 1144 2 1 85 86,oK (.k .len) [86] [87],oC 128 2 1 [84,87] 88,oA 1144 0 2 3 89,oL 1144 2 1 89 90,oK (.k .len) [90] [91],oK (.k (.ci .u64)) [91] [92],oK (.k (.call 124 ⟨3,(some (0,999999)),[(0,100,1)],[(0,110,1)],0,[],none,[]⟩)) [82,88,92,999999,(lk 100),(lk 110)] [93,999999,lk 100,lk 110]] (oS [oV 0 94,oA 1144 0 1 3 95,oL 1144 1 1 95 96,oK (.k (.ci .i64)) [96] [97],oK (.k (.call 127 ⟨2,(some (0,999999)),[(0,110,1)],[(0,111,1)],0,[],none,[]⟩)) [94,97,999999,(lk 110),(lk 111)] [98,999999,lk 110,lk 111]] (.fD [oV 0 99,oA 1144 0 2 3 100,oL 1144 2 1 100 101,oK (.k (.call 129 ⟨2,(some (0,999999)),[(0,111,1)],[(0,112,1)],0,[],none,[]⟩)) [99,101,999999,(lk 111),(lk 112)] [102,999999,lk 111,lk 112]]))) (oS [oI .eql 7 (.i .i64 5) 104,oV 104 103] (.cond (.s 103) [(0,.ptr 999999 0),(3,.ptr 1144 0),(1144,.cl []),(999999,.cl [(0,113,1)]),(lk 113,.live 1)] (.fD [oV 0 105,oA 1144 0 0 3 106,oL 1144 0 1 106 107,oA 1144 0 4 3 108,oL 1144 4 1 108 109,oK (.k .len) [109] [110],oC 128 2 1 [107,110] 111,oA 1144 0 4 3 112,oL 1144 4 1 112 113,oK (.k .len) [113] [114],oK (.k (.ci .u64)) [114] [115],oK (.k (.call 124 ⟨3,(some (0,999999)),[(0,100,1)],[(0,113,1)],0,[],none,[]⟩)) [105,111,115,999999,(lk 100),(lk 113)] [116,999999,lk 100,lk 113]]) (oS [oI .eql 7 (.i .i64 6) 118,oV 118 117] (.cond (.s 117) [(0,.ptr 999999 0),(3,.ptr 1144 0),(1144,.cl []),(999999,.cl [(0,114,1)]),(lk 114,.live 1)] (.fD [oV 0 119,oA 1144 0 0 3 120,oL 1144 0 1 120 121,oA 1144 0 4 3 122,oL 1144 4 1 122 123,oK (.k .len) [123] [124],oI .quo 124 (.i .i64 2) 125,oC 128 2 1 [121,125] 126,oA 1144 0 4 3 127,oL 1144 4 1 127 128,oK (.k .len) [128] [129],oI .quo 129 (.i .i64 2) 130,oK (.k (.ci .u64)) [130] [131],oK (.k (.call 124 ⟨3,(some (0,999999)),[(0,100,1)],[(0,114,1)],0,[],none,[]⟩)) [119,126,131,999999,(lk 100),(lk 114)] [132,999999,lk 100,lk 114]]) .skip)))))))))))))))))))) (some [0,3,1144,999999]) dt.m2)
def dt.d:gn:={ np:=2,m:=dt.m,ref:=some (0,999999),fy:=[(0,100,1)],res:=[],own:=[],new:=none,fx:=[] }
def dt.F (n:Nat) (w:fg) (it:Itv):OT:=dt.d.run (dt.E n) [(.ag (fg.cells w)),(.ag (Itv.cells it))]
def dt.j1 (n:Nat) (x0:Itv) (x1:fg):OT:=gQ _ (dt.E n) dt.m2 (dF [0,3,1144,999999] [.pt,.pt,(.ag (Itv.cells x0)),(.ag (fg.cells x1))]) (gb dt.d)
def dt.l2 (n:Nat) (x0:List bG) (x1:Int) (x2:Int) (x3:fg):OT:=fX (gQ _ (dt.E n) dt.m1) n6 [0,134,135,136,999999] (dF [0,134,135,136,999999] [.pt,(.sl .il x0),(.i .i64 x1),(.i .i64 x2),(.ag (fg.cells x3))]) (eb 1 (gb dt.d))
theorem dt.kM (n:Nat) (x0:Itv) (x1:fg) {ρ:OT} (K:∀(v1:Int) (h1:v1=(((Itv.kids x0)).length:Int)),dt.l2 n (Itv.kids x0) v1 (0:Int) x1=ρ):dt.j1 n x0 x1=ρ:=((congrFun (congrFun (gr _ _) _) _).trans (by kernel_rfl)).trans (K _ rfl)
theorem dt.lS (n:Nat) (x0:List bG) (x1:Int) (x2:Int) (x3:fg) {ρ:OT} (K:∀(v1:fg) (h1:v1=((fg.mk ((x3).b++Mp.lay (bG.of (bG.val (List.getD x0 (x2).toNat (eN.eG .il)))))))) (v2:Int) (h2:v2=(IntKind.i64.wrap (x2+(1:Int)))),cond (decide (x2<x1))
  (ck (eE x2 (x0).length) (ck ((decide ((x3).b.length+16 * bG.c7 (bG.of (bG.val (List.getD x0 (x2).toNat (eN.eG .il))))≤1099511627776)&&decide (Mp.dp (bG.of (bG.val (List.getD x0 (x2).toNat (eN.eG .il))))=0))&&decide ((bG.c7 (bG.of (bG.val (List.getD x0 (x2).toNat (eN.eG .il)))))<n)) (dt.l2 n x0 x1 v2 v1)))
  (some [(.ag (fg.cells x3))])=ρ):dt.l2 n x0 x1 x2 x3=ρ:=((ff _ _ _ _ _ _).trans (by kernel_rfl)).trans (K _ rfl _ rfl)
theorem dt.dQ (n:Nat) (w:fg) (it:Itv) {ρ:OT} (K:∀(v1:fg) (h1:v1=((fg.mk ((w).b++Mp.put (((kU.mk (Mp.eK ((Itv.n it))).1 (Mp.eK ((Itv.n it))).2)).at_,((kU.mk (Mp.eK ((Itv.n it))).1 (Mp.eK ((Itv.n it))).2)).end_) ((Itv.n it)))))) (v2:fg) (h2:v2=((fg.mk ((w).b++Mp.put (((kU.mk (Mp.signed ((Itv.n it))).1 (Mp.signed ((Itv.n it))).2)).at_,((kU.mk (Mp.signed ((Itv.n it))).1 (Mp.signed ((Itv.n it))).2)).end_) ((~~~(Itv.n it))))))) (v3:Int) (h3:v3=(List.getD [(194:Int),(195:Int),(192:Int)] ((((((Itv.n it) - (20:UInt64))).toNat:Int)).toNat) (0:Int))) (v4:fg) (h4:v4=((fg.mk ((w).b++[UInt8.ofInt v3])))) (v5:fg) (h5:v5=((fg.mk ((w).b++Mp.put (((kU.mk (203:Int) (8:Int))).at_,((kU.mk (203:Int) (8:Int))).end_) ((Itv.n it)))))) (v6:Int) (h6:v6=(((Itv.text it)).length:Int)) (v7:Int) (h7:v7=((Mp.sized ((Itv.kind it)) v6).1)) (v8:Int) (h8:v8=((Mp.sized ((Itv.kind it)) v6).2)) (v9:fg) (h9:v9=((fg.mk ((w).b++Mp.put (((kU.mk v7 v8)).at_,((kU.mk v7 v8)).end_) ((UInt64.ofInt v6)))))) (v10:fg) (nA:v10=((fg.mk ((v9).b++((Itv.text it)))))) (v11:Int) (zN:v11=(((Itv.bytes it)).length:Int)) (v12:Int) (zM:v12=((Mp.sized ((Itv.kind it)) v11).1)) (lx:Int) (zL:lx=((Mp.sized ((Itv.kind it)) v11).2)) (ji:fg) (AL:ji=((fg.mk ((w).b++Mp.put (((kU.mk v12 lx)).at_,((kU.mk v12 lx)).end_) ((UInt64.ofInt v11)))))) (mY:fg) (yv:mY=((fg.mk ((ji).b++((Itv.bytes it)))))) (mW:Int) (zK:mW=(IntKind.i64.wrap (((Itv.n it)).toNat:Int))) (kR:fg) (C3:kR=((fg.mk ((ji).b++[UInt8.ofInt mW])))) (pK:fg) (IL:pK=((fg.mk ((kR).b++((Itv.bytes it)))))) (qz:Int) (IK:qz=(((Itv.kids it)).length:Int)) (v20:Int) (IJ:v20=((Mp.sized ((Itv.kind it)) qz).1)) (v21:Int) (II:v21=((Mp.sized ((Itv.kind it)) qz).2)) (ta:fg) (IH:ta=((fg.mk ((w).b++Mp.put (((kU.mk v20 v21)).at_,((kU.mk v20 v21)).end_) ((UInt64.ofInt qz)))))) (uC:Int) (Jt:uC=(IntKind.i64.wrap (Int.tdiv qz (2:Int)))) (v24:Int) (Gu:v24=((Mp.sized ((Itv.kind it)) uC).1)) (r7:Int) (Js:r7=((Mp.sized ((Itv.kind it)) uC).2)) (xQ:fg) (Jr:xQ=((fg.mk ((w).b++Mp.put (((kU.mk v24 r7)).at_,((kU.mk v24 r7)).end_) ((UInt64.ofInt uC)))))),cond (decide ((Itv.kind it)=(1:Int)))
  (ck (decide ((w).b.length+10≤1099511627776)) (dt.j1 n it v1))
  (cond (decide ((Itv.kind it)=(2:Int)))
  (ck (decide ((w).b.length+10≤1099511627776)) (dt.j1 n it v2))
  (cond (decide ((Itv.kind it)=(8:Int)))
  (ck (eE ((((Itv.n it) - (20:UInt64))).toNat:Int) 3) (ck (decide ((w).b.length≤1099511627776)) (dt.j1 n it v4)))
  (cond (decide ((Itv.kind it)=(9:Int)))
  (ck (decide ((w).b.length+10≤1099511627776)) (dt.j1 n it v5))
  (cond (decide ((Itv.kind it)=(4:Int)))
  (ck (Mp.ma ((Itv.kind it))&&decide (0≤v6∧v6<4294967296)) (ck (decide ((w).b.length+10≤1099511627776)) (ck (lH ((Itv.text it)).length) (ck (decide ((v9).b.length+(((Itv.text it))).length≤1099511627776)) (dt.j1 n it v10)))))
  (cond (decide ((Itv.kind it)=(3:Int)))
  (ck (Mp.ma ((Itv.kind it))&&decide (0≤v11∧v11<4294967296)) (ck (decide ((w).b.length+10≤1099511627776)) (ck (decide ((ji).b.length+(((Itv.bytes it))).length≤1099511627776)) (dt.j1 n it mY))))
  (cond (decide ((Itv.kind it)=(10:Int)))
  (ck (Mp.ma ((Itv.kind it))&&decide (0≤v11∧v11<4294967296)) (ck (decide ((w).b.length+10≤1099511627776)) (ck (decide ((ji).b.length≤1099511627776)) (ck (decide ((kR).b.length+(((Itv.bytes it))).length≤1099511627776)) (dt.j1 n it pK)))))
  (cond (decide ((Itv.kind it)=(5:Int)))
  (ck (Mp.ma ((Itv.kind it))&&decide (0≤qz∧qz<4294967296)) (ck (decide ((w).b.length+10≤1099511627776)) (dt.j1 n it ta)))
  (cond (decide ((Itv.kind it)=(6:Int)))
  (ck (!decide ((2:Int)=0)) (ck (Mp.ma ((Itv.kind it))&&decide (0≤uC∧uC<4294967296)) (ck (!decide ((2:Int)=0)) (ck (decide ((w).b.length+10≤1099511627776)) (dt.j1 n it xQ)))))
  (dt.j1 n it w)))))))))=ρ):dt.F n w it=ρ:=Eq.trans (by kernel_rfl) (K _ rfl _ rfl _ rfl _ rfl _ rfl _ rfl _ rfl _ rfl _ rfl _ rfl _ rfl _ rfl _ rfl _ rfl _ rfl _ rfl _ rfl _ rfl _ rfl _ rfl _ rfl _ rfl _ rfl _ rfl _ rfl _ rfl)
theorem dt.dp (n:Nat):CK 108 (dt.env n) dt.d:=eH (by kernel_rfl)
def ez.env:EV:=[(26,(cW.c,cW.sg)),(107,(eY.c,eY.sg)),(108,(dt.c,dt.sg)),(109,(eJ.c,eJ.sg))]
def ez.E:eg:=cM tryzGl ez.env
def ez.m:TM:=oS [oK (.k (.bx 1017)) [0,1017] [1,1017],oW (.sl .bs ([]:List UInt8)) 2,oW (.i .i64 0) 3] (.seq (oS [oM 1017 0 5 1 6,oC 26 1 1 [6] 7,oV 7 4] (oS [oV 4 8,oI .neq 8 (.i .i64 0) 9] (.cond (.s 9) [] (oS [oV 4 10,oW (.sl .bs ([]:List UInt8)) 2,oV 10 3] .ret) .skip))) none (oS [oK (.k (.call 107 ⟨0,none,[],[],1,[],(some (0,1018)),[(0,102,1)]⟩)) [1018,(lk 102)] [11,1018,lk 102],oV 11 5] (oS [oV 5 12,oM 1017 0 5 1 13,oK (.k (.call 108 ⟨2,(some (0,1018)),[(0,102,1)],[(0,103,1)],0,[],none,[]⟩)) [12,13,1018,(lk 102),(lk 103)] [14,1018,lk 102,lk 103]] (oS [oV 5 15,oK (.k (.call 109 ⟨1,(some (0,1018)),[(0,103,1)],[(0,104,1)],1,[],none,[]⟩)) [15,1018,(lk 103),(lk 104)] [16,1018,lk 103,lk 104],oV 16 2,oW (.i .i64 0) 3] .ret))))
def ez.d:gn:=D0 1 ez.m [.t 2,.t 3]
def ez.F (it:Itv):OT:=ez.d.run ez.E [(.ag (Itv.cells it))]
theorem ez.dQ (it:Itv) {ρ:OT} (K:∀(v1:fg) (h1:v1=((fg.mk ((((fg.mk []))).b++Mp.lay (bG.of it))))),ck (decide (bG.c7 (bG.of it)≤1099511627776)) (cond (!decide ((Mp.dp (bG.of it))=(0:Int)))
  (some [(.sl .bs ([]:List UInt8)),(.i .i64 (Mp.dp (bG.of it)))])
  (ck (decide ((((fg.mk []))).b.length+16 * bG.c7 (bG.of it)≤1099511627776)&&decide (Mp.dp (bG.of it)=0)) (ck (decide ((v1).b.length≤1099511627776)) (some [(.sl .bs (((v1).b))),(.i .i64 0)]))))=ρ):ez.F it=ρ:=Eq.trans (by kernel_rfl) (K _ rfl)
theorem ez.dp:CK 93 ez.env ez.d:=eH (by kernel_rfl)
def bJ.env:EV:=[]
def bJ.E:eg:=cM tryzGl bJ.env
def bJ.m:TM:=oS [oW (.i .i64 0) 2,oW (.u64 0) 3,oW (.i .i64 0) 4] (.seq (.block 0 [] (oS [oV 0 6,oI .lss 6 (.i .i64 128) 7,oV 7 5] (.cond (.s 5) [] (oS [oV 0 8,oK (.k (.ci .u64)) [8] [9],oW (.i .i64 1) 2,oV 9 3,oW (.i .i64 0) 4] .ret) (oS [oV 0 11,oI .lss 11 (.i .i64 144) 12,oV 12 10] (.cond (.s 10) [] (oS [oV 0 13,oI .sub 13 (.i .i64 128) 14,oK (.k (.ci .u64)) [14] [15],oW (.i .i64 6) 2,oV 15 3,oW (.i .i64 0) 4] .ret) (oS [oV 0 17,oI .lss 17 (.i .i64 160) 18,oV 18 16] (.cond (.s 16) [] (oS [oV 0 19,oI .sub 19 (.i .i64 144) 20,oK (.k (.ci .u64)) [20] [21],oW (.i .i64 5) 2,oV 21 3,oW (.i .i64 0) 4] .ret) (oS [oV 0 23,oI .lss 23 (.i .i64 192) 24,oV 24 22] (.cond (.s 22) [] (oS [oV 0 25,oI .sub 25 (.i .i64 160) 26,oK (.k (.ci .u64)) [26] [27],oW (.i .i64 4) 2,oV 27 3,oW (.i .i64 0) 4] .ret) (oS [oV 0 29,oI .geq 29 (.i .i64 224) 30,oV 30 28] (.cond (.s 28) [] (oS [oV 0 31,oX (.k (.bin .sub)) [.c (.i .i64 255),.s 31] [32],oK (.k (.ci .u64)) [32] [33],oW (.i .i64 2) 2,oV 33 3,oW (.i .i64 0) 4] .ret) (oS [oV 0 35,oI .eql 35 (.i .i64 192) 36,oV 36 34] (.cond (.s 34) [] (oS [oW (.i .i64 8) 2,oW (.u64 22) 3,oW (.i .i64 0) 4] .ret) (oS [oV 0 38,oI .eql 38 (.i .i64 194) 39,oV 39 40,oG 40 false (oV 0 41),oG 40 false (oI .eql 41 (.i .i64 195) 42),oX (.k .pick) [.s 40,.c (.b true),.s 42] [43],oV 43 37] (.cond (.s 37) [] (oS [oV 0 44,oI .sub 44 (.i .i64 194) 45,oI .add 45 (.i .i64 20) 46,oK (.k (.ci .u64)) [46] [47],oW (.i .i64 8) 2,oV 47 3,oW (.i .i64 0) 4] .ret) (oS [oV 0 49,oI .geq 49 (.i .i64 196) 50,oV 50 51,oG 51 true (oV 0 52),oG 51 true (oI .leq 52 (.i .i64 198) 53),oP 51 53 false 54,oV 54 48] (.cond (.s 48) [] (oS [oV 0 55,oI .sub 55 (.i .i64 196) 56,oX (.k (.bin .shl)) [.c (.i .i64 1),.s 56] [57],oW (.i .i64 3) 2,oW (.u64 0) 3,oV 57 4] .ret) (oS [oV 0 59,oI .geq 59 (.i .i64 199) 60,oV 60 61,oG 61 true (oV 0 62),oG 61 true (oI .leq 62 (.i .i64 201) 63),oP 61 63 false 64,oV 64 58] (.cond (.s 58) [] (oS [oV 0 65,oI .sub 65 (.i .i64 199) 66,oX (.k (.bin .shl)) [.c (.i .i64 1),.s 66] [67],oW (.i .i64 10) 2,oW (.u64 0) 3,oV 67 4] .ret) (oS [oV 0 69,oI .eql 69 (.i .i64 203) 70,oV 70 68] (.cond (.s 68) [] (oS [oW (.i .i64 9) 2,oW (.u64 0) 3,oW (.i .i64 8) 4] .ret) (oS [oV 0 72,oI .geq 72 (.i .i64 204) 73,oV 73 74,oG 74 true (oV 0 75),oG 74 true (oI .leq 75 (.i .i64 207) 76),oP 74 76 false 77,oV 77 71] (.cond (.s 71) [] (oS [oV 0 78,oI .sub 78 (.i .i64 204) 79,oX (.k (.bin .shl)) [.c (.i .i64 1),.s 79] [80],oW (.i .i64 1) 2,oW (.u64 0) 3,oV 80 4] .ret) (oS [oV 0 82,oI .geq 82 (.i .i64 208) 83,oV 83 84,oG 84 true (oV 0 85),oG 84 true (oI .leq 85 (.i .i64 211) 86),oP 84 86 false 87,oV 87 81] (.cond (.s 81) [] (oS [oV 0 88,oI .sub 88 (.i .i64 208) 89,oX (.k (.bin .shl)) [.c (.i .i64 1),.s 89] [90],oW (.i .i64 2) 2,oW (.u64 0) 3,oV 90 4] .ret) (oS [oV 0 92,oI .geq 92 (.i .i64 212) 93,oV 93 94,oG 94 true (oV 0 95),oG 94 true (oI .leq 95 (.i .i64 216) 96),oP 94 96 false 97,oV 97 91] (.cond (.s 91) [] (oS [oV 0 98,oI .sub 98 (.i .i64 212) 99,oX (.k (.bin .shl)) [.c (.u64 1),.s 99] [100],oW (.i .i64 10) 2,oV 100 3,oW (.i .i64 0) 4] .ret) (oS [oV 0 102,oI .geq 102 (.i .i64 217) 103,oV 103 104,oG 104 true (oV 0 105),oG 104 true (oI .leq 105 (.i .i64 219) 106),oP 104 106 false 107,oV 107 101] (.cond (.s 101) [] (oS [oV 0 108,oI .sub 108 (.i .i64 217) 109,oX (.k (.bin .shl)) [.c (.i .i64 1),.s 109] [110],oW (.i .i64 4) 2,oW (.u64 0) 3,oV 110 4] .ret) (oS [oV 0 112,oI .eql 112 (.i .i64 220) 113,oV 113 114,oG 114 false (oV 0 115),oG 114 false (oI .eql 115 (.i .i64 221) 116),oX (.k .pick) [.s 114,.c (.b true),.s 116] [117],oV 117 111] (.cond (.s 111) [] (oS [oV 0 118,oI .sub 118 (.i .i64 220) 119,oX (.k (.bin .shl)) [.c (.i .i64 2),.s 119] [120],oW (.i .i64 5) 2,oW (.u64 0) 3,oV 120 4] .ret) (oS [oV 0 122,oI .eql 122 (.i .i64 222) 123,oV 123 124,oG 124 false (oV 0 125),oG 124 false (oI .eql 125 (.i .i64 223) 126),oX (.k .pick) [.s 124,.c (.b true),.s 126] [127],oV 127 121] (.cond (.s 121) [] (oS [oV 0 128,oI .sub 128 (.i .i64 222) 129,oX (.k (.bin .shl)) [.c (.i .i64 2),.s 129] [130],oW (.i .i64 6) 2,oW (.u64 0) 3,oV 130 4] .ret) .skip))))))))))))))))))))))))))))))))) none (oS [oW (.i .i64 0) 2,oW (.u64 0) 3,oW (.i .i64 0) 4] .ret))
def bJ.d:gn:=D0 1 bJ.m [.t 2,.t 3,.t 4]
def bJ.F (c:Int):OT:=bJ.d.run bJ.E [(.i .i64 c)]
theorem bJ.dQ (c:Int) {ρ:OT} (K:∀(v1:Int) (h1:v1=(IntKind.i64.wrap (c - (128:Int)))) (v2:Int) (h2:v2=(IntKind.i64.wrap (c - (144:Int)))) (v3:Int) (h3:v3=(IntKind.i64.wrap (c - (160:Int)))) (v4:Int) (h4:v4=(IntKind.i64.wrap ((255:Int) - c))) (v5:Bool) (h5:v5=(cond (decide (c=(194:Int))) true (decide (c=(195:Int))))) (v6:Int) (h6:v6=(IntKind.i64.wrap (c - (194:Int)))) (v7:Int) (h7:v7=(IntKind.i64.wrap (v6+(20:Int)))) (v8:Bool) (h8:v8=(cond (decide ((196:Int)≤c)) (decide (c≤(198:Int))) false)) (v9:Int) (h9:v9=(IntKind.i64.wrap (c - (196:Int)))) (v10:Int) (nA:v10=(IntKind.i64.wrap ((1:Int) * 2 ^ (min ((v9).toNat) (IntKind.i64.bits))))) (v11:Bool) (zN:v11=(cond (decide ((199:Int)≤c)) (decide (c≤(201:Int))) false)) (v12:Int) (zM:v12=(IntKind.i64.wrap (c - (199:Int)))) (lx:Int) (zL:lx=(IntKind.i64.wrap ((1:Int) * 2 ^ (min ((v12).toNat) (IntKind.i64.bits))))) (ji:Bool) (AL:ji=(cond (decide ((204:Int)≤c)) (decide (c≤(207:Int))) false)) (mY:Int) (yv:mY=(IntKind.i64.wrap (c - (204:Int)))) (mW:Int) (zK:mW=(IntKind.i64.wrap ((1:Int) * 2 ^ (min ((mY).toNat) (IntKind.i64.bits))))) (kR:Bool) (C3:kR=(cond (decide ((208:Int)≤c)) (decide (c≤(211:Int))) false)) (pK:Int) (IL:pK=(IntKind.i64.wrap (c - (208:Int)))) (qz:Int) (IK:qz=(IntKind.i64.wrap ((1:Int) * 2 ^ (min ((pK).toNat) (IntKind.i64.bits))))) (v20:Bool) (IJ:v20=(cond (decide ((212:Int)≤c)) (decide (c≤(216:Int))) false)) (v21:Int) (II:v21=(IntKind.i64.wrap (c - (212:Int)))) (ta:UInt64) (IH:ta=(lz (1:UInt64) ((v21).toNat))) (uC:Bool) (Jt:uC=(cond (decide ((217:Int)≤c)) (decide (c≤(219:Int))) false)) (v24:Int) (Gu:v24=(IntKind.i64.wrap (c - (217:Int)))) (r7:Int) (Js:r7=(IntKind.i64.wrap ((1:Int) * 2 ^ (min ((v24).toNat) (IntKind.i64.bits))))) (xQ:Bool) (Jr:xQ=(cond (decide (c=(220:Int))) true (decide (c=(221:Int))))) (DO:Int) (LO:DO=(IntKind.i64.wrap (c - (220:Int)))) (v28:Int) (LN:v28=(IntKind.i64.wrap ((2:Int) * 2 ^ (min ((DO).toNat) (IntKind.i64.bits))))) (xP:Bool) (LM:xP=(cond (decide (c=(222:Int))) true (decide (c=(223:Int))))) (v30:Int) (LL:v30=(IntKind.i64.wrap (c - (222:Int)))) (v31:Int) (LK:v31=(IntKind.i64.wrap ((2:Int) * 2 ^ (min ((v30).toNat) (IntKind.i64.bits))))),cond (decide (c<(128:Int)))
  (some [(.i .i64 1),(.u64 (UInt64.ofInt c)),(.i .i64 0)])
  (cond (decide (c<(144:Int)))
  (some [(.i .i64 6),(.u64 (UInt64.ofInt v1)),(.i .i64 0)])
  (cond (decide (c<(160:Int)))
  (some [(.i .i64 5),(.u64 (UInt64.ofInt v2)),(.i .i64 0)])
  (cond (decide (c<(192:Int)))
  (some [(.i .i64 4),(.u64 (UInt64.ofInt v3)),(.i .i64 0)])
  (cond (decide ((224:Int)≤c))
  (some [(.i .i64 2),(.u64 (UInt64.ofInt v4)),(.i .i64 0)])
  (cond (decide (c=(192:Int)))
  (some [(.i .i64 8),(.u64 22),(.i .i64 0)])
  (ck (!(!(decide (c=(194:Int)))) || (!(decide (c=(194:Int))))) (ck ((decide (c=(194:Int))) || (!(decide (c=(194:Int))))) (cond v5
  (some [(.i .i64 8),(.u64 (UInt64.ofInt v7)),(.i .i64 0)])
  (ck (!(decide ((196:Int)≤c)) || (decide ((196:Int)≤c))) (ck (!(decide ((196:Int)≤c)) || (decide ((196:Int)≤c))) (cond v8
  (ck (decide (0≤v9)) (some [(.i .i64 3),(.u64 0),(.i .i64 v10)]))
  (ck (!(decide ((199:Int)≤c)) || (decide ((199:Int)≤c))) (ck (!(decide ((199:Int)≤c)) || (decide ((199:Int)≤c))) (cond v11
  (ck (decide (0≤v12)) (some [(.i .i64 10),(.u64 0),(.i .i64 lx)]))
  (cond (decide (c=(203:Int)))
  (some [(.i .i64 9),(.u64 0),(.i .i64 8)])
  (ck (!(decide ((204:Int)≤c)) || (decide ((204:Int)≤c))) (ck (!(decide ((204:Int)≤c)) || (decide ((204:Int)≤c))) (cond ji
  (ck (decide (0≤mY)) (some [(.i .i64 1),(.u64 0),(.i .i64 mW)]))
  (ck (!(decide ((208:Int)≤c)) || (decide ((208:Int)≤c))) (ck (!(decide ((208:Int)≤c)) || (decide ((208:Int)≤c))) (cond kR
  (ck (decide (0≤pK)) (some [(.i .i64 2),(.u64 0),(.i .i64 qz)]))
  (ck (!(decide ((212:Int)≤c)) || (decide ((212:Int)≤c))) (ck (!(decide ((212:Int)≤c)) || (decide ((212:Int)≤c))) (cond v20
  (ck (decide (0≤v21)) (some [(.i .i64 10),(.u64 ta),(.i .i64 0)]))
  (ck (!(decide ((217:Int)≤c)) || (decide ((217:Int)≤c))) (ck (!(decide ((217:Int)≤c)) || (decide ((217:Int)≤c))) (cond uC
  (ck (decide (0≤v24)) (some [(.i .i64 4),(.u64 0),(.i .i64 r7)]))
  (ck (!(!(decide (c=(220:Int)))) || (!(decide (c=(220:Int))))) (ck ((decide (c=(220:Int))) || (!(decide (c=(220:Int))))) (cond xQ
  (ck (decide (0≤DO)) (some [(.i .i64 5),(.u64 0),(.i .i64 v28)]))
  (ck (!(!(decide (c=(222:Int)))) || (!(decide (c=(222:Int))))) (ck ((decide (c=(222:Int))) || (!(decide (c=(222:Int))))) (cond xP
  (ck (decide (0≤v30)) (some [(.i .i64 6),(.u64 0),(.i .i64 v31)]))
  (some [(.i .i64 0),(.u64 0),(.i .i64 0)]))))))))))))))))))))))))))))))))))=ρ):bJ.F c=ρ:=Eq.trans (by kernel_rfl) (K _ rfl _ rfl _ rfl _ rfl _ rfl _ rfl _ rfl _ rfl _ rfl _ rfl _ rfl _ rfl _ rfl _ rfl _ rfl _ rfl _ rfl _ rfl _ rfl _ rfl _ rfl _ rfl _ rfl _ rfl _ rfl _ rfl _ rfl _ rfl _ rfl _ rfl _ rfl)
theorem bJ.dp:CK 136 bJ.env bJ.d:=eH (by kernel_rfl)
def dG.env:EV:=[(118,(dX.c,dX.sg))]
def dG.E:eg:=cM tryzGl dG.env
def dG.m:TM:=oS [oK (.k (.bx 1020)) [0,1020] [4,1020],oK (.k (.bx 1021)) [3,1021] [7,1021],oN 1022 zI 8,oN 1023 zT 9] (.seq (oS [oA 1021 0 0 7 10,oL 1021 0 1 10 11,oV 2 12,oB .neq 11 12 13] (.cond (.s 13) [] (oS [oV 1 14,oX (.k (.call 118 (.plain 2 2))) [.c (.i .i64 3),.s 14] [15],oE 0 15 16,oE 1 15 17,oT 1022 0 5 8 16,oT 1023 0 3 9 17] .ret) .skip)) none (oS [oM 1020 0 5 4 18,oK (.bd zT []) [] [19],oT 1022 0 5 8 18,oT 1023 0 3 9 19] .ret))
def dG.d:gn:=D0 4 dG.m [.c 8 1022 5 true,.c 9 1023 3 true]
def dG.F (it:Itv) (p:Int) (c:Int) (f:kU):OT:=dG.d.run dG.E [(.ag (Itv.cells it)),(.i .i64 p),(.i .i64 c),(.ag (kU.cells f))]
theorem dG.fM (it:Itv) (p:Int) (c:Int) (f:kU):dG.F it p c f=cond (!decide ((kU.at_ f)=c))
  (some [(.ag (Itv.cells (bG.val (Mp.zero)))),(.ag (cX.cells ((cX.mk ((3:Int)) p []))))])
  (some [(.ag (Itv.cells it)),(.ag [(.i .i64 0),(.i .i64 0),(.sl .is ([]:List Int))])]):=by kernel_rfl
theorem dG.dp:CK 138 dG.env dG.d:=eH (by kernel_rfl)
def fB.env:EV:=[(41,(dD.c,dD.sg)),(118,(dX.c,dX.sg)),(148,(fi.c,fi.sg))]
def fB.E:eg:=cM tryzGl fB.env
def fB.m:TM:=oS [oK (.k (.bx 1049)) [1,1049] [5,1049],oN 1050 zI 8,oN 1051 zT 9] (oS [oV 0 15,oV 3 16,oK (.k (.call 148 ⟨2,(some (0,999999)),[],[],2,[],none,[]⟩)) [15,16,999999] [17,999999],oV 17 14,oE 0 14 18,oE 1 14 19,oV 18 10,oV 19 11] (.seq (oS [oV 11 20,oK (.k (.un .not)) [20] [21]] (.cond (.s 21) [] (oS [oV 2 22,oX (.k (.call 118 (.plain 2 2))) [.c (.i .i64 2),.s 22] [23],oE 0 23 24,oE 1 23 25,oT 1050 0 5 8 24,oT 1051 0 3 9 25] .ret) .skip)) none (.seq (oS [oA 1049 0 0 5 26,oL 1049 0 1 26 27,oI .neq 27 (.i .i64 4) 28] (.cond (.s 28) [] (oS [oV 10 29,oA 1049 0 2 5 30,oT 1049 2 1 30 29] (oS [oM 1049 0 5 5 31,oK (.bd zT []) [] [32],oT 1050 0 5 8 31,oT 1051 0 3 9 32] .ret)) .skip)) none (.seq (oS [oV 10 34,oC 41 1 2 [34] 35,oV 35 33,oE 0 33 36,oE 1 33 37,oV 36 12,oV 37 13] (oS [oV 13 38,oK (.k (.un .not)) [38] [39]] (.cond (.s 39) [] (oS [oV 2 40,oX (.k (.call 118 (.plain 2 2))) [.c (.i .i64 4),.s 40] [41],oE 0 41 42,oE 1 41 43,oT 1050 0 5 8 42,oT 1051 0 3 9 43] .ret) .skip))) none (oS [oV 10 44,oK (.k .bs) [44] [45],oA 1049 0 3 5 46,oT 1049 3 1 46 45] (oS [oM 1049 0 5 5 47,oK (.bd zT []) [] [48],oT 1050 0 5 8 47,oT 1051 0 3 9 48] .ret))))))
def fB.d:gn:={ np:=4,m:=fB.m,ref:=some (0,999999),fy:=[],res:=[.c 8 1050 5 true,.c 9 1051 3 true],own:=[],new:=none,fx:=[] }
def fB.F (r:dx) (it:Itv) (p:Int) (n:Int):OT:=fB.d.run fB.E [(.ag (dx.cells r)),(.ag (Itv.cells it)),(.i .i64 p),(.i .i64 n)]
theorem fB.dQ (r:dx) (it:Itv) (p:Int) (n:Int) {ρ:OT} (K:∀(v1:Int) (h1:v1=(((ee.look ((cT.nx r n (cT.rC r n)))).1:Int))) (v2:Bool) (h2:v2=(ee.whole ((cT.nx r n (cT.rC r n))))),ck (cT.iE r) (cond (!(cT.rC r n))
  (some [(.ag (Itv.cells (bG.val (Mp.zero)))),(.ag (cX.cells ((cX.mk ((2:Int)) p [])))),(.ag (dx.cells (cT.pg r n (cT.rC r n))))])
  (cond (!decide ((Itv.kind it)=(4:Int)))
  (some [(.ag [(.i .i64 (Itv.kind it)),(.u64 (Itv.n it)),(.sl .bs (cT.nx r n (cT.rC r n))),(.s (Itv.text it)),(.sl .il (Itv.kids it))]),(.ag [(.i .i64 0),(.i .i64 0),(.sl .is ([]:List Int))]),(.ag (dx.cells (cT.pg r n (cT.rC r n))))])
  (ck (decide (((cT.nx r n (cT.rC r n))).length≤1099511627776)) (cond (!v2)
  (some [(.ag (Itv.cells (bG.val (Mp.zero)))),(.ag (cX.cells ((cX.mk ((4:Int)) p [])))),(.ag (dx.cells (cT.pg r n (cT.rC r n))))])
  (some [(.ag [(.i .i64 (Itv.kind it)),(.u64 (Itv.n it)),(.sl .bs (Itv.bytes it)),(.s (cT.nx r n (cT.rC r n))),(.sl .il (Itv.kids it))]),(.ag [(.i .i64 0),(.i .i64 0),(.sl .is ([]:List Int))]),(.ag (dx.cells (cT.pg r n (cT.rC r n))))])))))=ρ):fB.F r it p n=ρ:=Eq.trans (by kernel_rfl) (K _ rfl _ rfl)
theorem fB.dp:CK 140 fB.env fB.d:=eH (by kernel_rfl)
def dr.env (n:Nat):EV:=[(120,(cm.cn n,cm.sg))]
def dr.E (n:Nat):eg:=cM tryzGl (dr.env n)
def dr.m1:TM:=oS [oB .lss 18 17 19] (.seq (.cond (.s 19) [] .skip (.exit 0)) none (.seq (.block 1 [(0,.ptr 999999 0),(5,.ptr 1041 0),(8,.ptr 1042 0),(9,.ptr 1043 0),(1041,.cl [(4,111,5)]),(1042,.cl []),(1043,.cl []),(999999,.cl []),(lk 111,.live 5)] (oS [oV 0 21,oV 3 22,oI .sub 22 (.i .i64 1) 23,oK (.k (.call 120 ⟨2,(some (0,999999)),[],[],2,[],none,[]⟩)) [21,23,999999] [24,999999],oV 24 20,oE 0 20 25,oE 1 20 26,oN 1044 zI 10,oN 1045 zT 11,oT 1044 0 5 10 25,oT 1045 0 3 11 26] (.seq (oS [oA 1045 0 0 11 27,oL 1045 0 1 27 28,oI .neq 28 (.i .i64 0) 29] (.cond (.s 29) [] (oS [oK (.bd zI []) [] [30],oM 1045 0 3 11 31,oT 1042 0 5 8 30,oT 1043 0 3 9 31] .ret) .skip)) none (.fD [oA 1041 0 4 5 32,oL 1041 4 1 32 33,oM 1044 0 5 10 34,oK (.bl .il 1) [34] [35],oK (.k (.ap 101 111 5 80)) [33,35,(lk 101),(lk 111)] [36,lk 101,lk 111],oA 1041 0 4 5 37,oT 1041 4 1 37 36])))) none (.fD [oI .add 18 (.i .i64 1) 38,oV 38 18])))
def dr.m2:TM := .seq (oS [oV 2 17,oW (.i .i64 0) 18] (.block 0 [(5,.ptr 1041 0),(8,.ptr 1042 0),(9,.ptr 1043 0),(1041,.cl [(4,101,5)]),(1042,.cl []),(1043,.cl []),(999999,.cl []),(lk 101,.live 5)] (.loop [0,3,5,8,9,17,18,1041,1042,1043,999999] [(0,.ptr 999999 0),(5,.ptr 1041 0),(8,.ptr 1042 0),(9,.ptr 1043 0),(1041,.cl [(4,101,5)]),(1042,.cl []),(1043,.cl []),(999999,.cl []),(lk 101,.live 5)] dr.m1))) none (oS [oM 1041 0 5 5 39,oK (.bd zT []) [] [40],oK (.qX 1042 0 5 [(2,112,.bs)]) [8,1042,39,(lk 112)] [1042,lk 112],oT 1043 0 3 9 40] .ret)
def dr.m:TM:=oS [oK (.yH 1041 [(4,101,.il)]) [1,1041,(lk 101)] [5,1041,lk 101],oN 1042 zI 8,oN 1043 zT 9] (.seq (oS [oA 1041 0 0 5 12,oL 1041 0 1 12 13,oI .eql 13 (.i .i64 6) 14] (.cond (.s 14) [(0,.ptr 999999 0),(5,.ptr 1041 0),(8,.ptr 1042 0),(9,.ptr 1043 0),(1041,.cl [(4,101,5)]),(1042,.cl []),(1043,.cl []),(999999,.cl []),(lk 101,.live 5)] (.fD [oV 2 15,oI .mul 15 (.i .i64 2) 16,oV 16 2]) .skip)) (some [0,2,3,5,8,9,1041,1042,1043,999999]) dr.m2)
def dr.d:gn:={ np:=4,m:=dr.m,ref:=some (0,999999),fy:=[],res:=[.c 8 1042 5 true,.c 9 1043 3 true],own:=[],new:=none,fx:=[] }
def dr.F (n:Nat) (r:dx) (it:Itv) (m:Int) (depth:Int):OT:=dr.d.run (dr.E n) [(.ag (dx.cells r)),(.ag [(.i .i64 (Itv.kind it)),(.u64 (Itv.n it)),(.c (.slice none 0 0)),(.s (Itv.text it)),(.c (.slice none 0 0))]),(.i .i64 m),(.i .i64 depth)]
def dr.k1 (n:Nat):fJ (List TV):=ia (ev _ (dr.E n) (oS [oM 1041 0 5 5 39,oK (.bd [(.i .i64 0),(.i .i64 0),(.sl .is ([]:List Int))] []) [] [40],oK (.qX 1042 0 5 [(2,112,.bs)]) [8,1042,39,(lk 112)] [1042,lk 112],oT 1043 0 3 9 40] .ret)) none (gb dr.d)
def dr.j1 (n:Nat) (x0:Int) (x1:Int) (x2:Int) (x3:UInt64) (x4:bY) (x5:List bG) (x6:Itv) (x7:cX) (x8:dx):OT:=gQ _ (dr.E n) dr.m2 (dF [0,2,3,5,8,9,1041,1042,1043,999999] [.pt,(.i .i64 x0),(.i .i64 x1),.pt,.pt,.pt,(.ag [(.i .i64 x2),(.u64 x3),(.c (.slice none 0 0)),(.s x4),(.sl .il x5)]),(.ag (Itv.cells x6)),(.ag (cX.cells x7)),(.ag (dx.cells x8))]) (gb dr.d)
def dr.l2 (n:Nat) (x0:Int) (x1:Int) (x2:Int) (x3:Int) (x4:UInt64) (x5:bY) (x6:List bG) (x7:Itv) (x8:cX) (x9:dx):OT:=fX (gQ _ (dr.E n) dr.m1) n6 [0,3,5,8,9,17,18,1041,1042,1043,999999] (dF [0,3,5,8,9,17,18,1041,1042,1043,999999] [.pt,(.i .i64 x0),.pt,.pt,.pt,(.i .i64 x1),(.i .i64 x2),(.ag [(.i .i64 x3),(.u64 x4),(.c (.slice none 0 0)),(.s x5),(.sl .il x6)]),(.ag (Itv.cells x7)),(.ag (cX.cells x8)),(.ag (dx.cells x9))]) (eb 0 (dr.k1 n))
theorem dr.nZ (n:Nat) (x0:Int) (x1:Int) (x2:Int) (x3:UInt64) (x4:bY) (x5:List bG) (x6:Itv) (x7:cX) (x8:dx):dr.j1 n x0 x1 x2 x3 x4 x5 x6 x7 x8=dr.l2 n x1 x0 (0:Int) x2 x3 x4 x5 x6 x7 x8:=((congrFun (congrFun (gr _ _) _) _).trans (by kernel_rfl))
theorem dr.lS (n:Nat) (x0:Int) (x1:Int) (x2:Int) (x3:Int) (x4:UInt64) (x5:bY) (x6:List bG) (x7:Itv) (x8:cX) (x9:dx) {ρ:OT} (K:∀(v1:Int) (h1:v1=(IntKind.i64.wrap (x0 - (1:Int)))) (v2:cX) (h2:v2=((cX.mk (Mp.read (x9).b (v1).toNat (x9).at_).err (Mp.read (x9).b (v1).toNat (x9).at_).at_ []))) (v3:dx) (h3:v3=((dx.mk (x9).b (Mp.read (x9).b (v1).toNat (x9).at_).pos))) (v4:List bG) (h4:v4=([(bG.of (bG.val ((Mp.read (x9).b (v1).toNat (x9).at_).it)))]:List bG)) (v5:Int) (h5:v5=(IntKind.i64.wrap (x2+(1:Int)))),cond (decide (x2<x1))
  (ck ((cT.iE x9&&decide (0≤v1∧v1≤1000))&&decide ((2 * (v1).toNat+1)<n)) (cond (!decide ((cX.err v2)=(0:Int)))
  (some [(.ag [(.i .i64 0),(.u64 0),(.sl .bs ([]:List UInt8)),(.s []),(.sl .il ([]:List bG))]),(.ag (cX.cells v2)),(.ag (dx.cells v3))])
  (ck (gg ((x6).length+(v4).length) 80) (dr.l2 n x0 x1 v5 x3 x4 x5 (x6++v4) x7 x8 v3))))
  (some [(.ag [(.i .i64 x3),(.u64 x4),(.sl .bs ([]:List UInt8)),(.s x5),(.sl .il x6)]),(.ag [(.i .i64 0),(.i .i64 0),(.sl .is ([]:List Int))]),(.ag (dx.cells x9))])=ρ):dr.l2 n x0 x1 x2 x3 x4 x5 x6 x7 x8 x9=ρ:=((ff _ _ _ _ _ _).trans (by kernel_rfl)).trans (K _ rfl _ rfl _ rfl _ rfl _ rfl)
theorem dr.dQ (n:Nat) (r:dx) (it:Itv) (m:Int) (depth:Int) {ρ:OT} (K:∀(v1:Int) (h1:v1=(IntKind.i64.wrap (m * (2:Int)))),cond (decide ((Itv.kind it)=(6:Int)))
  (dr.j1 n v1 depth (Itv.kind it) (Itv.n it) (Itv.text it) ([]:List bG) (Itv.mk 0 0 [] [] []) (cX.mk 0 0 []) r)
  (dr.j1 n m depth (Itv.kind it) (Itv.n it) (Itv.text it) ([]:List bG) (Itv.mk 0 0 [] [] []) (cX.mk 0 0 []) r)=ρ):dr.F n r it m depth=ρ:=Eq.trans (by kernel_rfl) (K _ rfl)
theorem dr.dp (n:Nat):CK 139 (dr.env n) dr.d:=eH (by kernel_rfl)
def cm.env (n:Nat):EV:=[(118,(dX.c,dX.sg)),(122,(gE.c,gE.sg)),(125,(dk.c,dk.sg)),(126,(dW.c,dW.sg)),(128,(jl.c,jl.sg)),(135,(fj.c,fj.sg)),(136,(bJ.c,bJ.sg)),(137,(dR.c,dR.sg)),(138,(dG.cw,dG.sg)),(139,(dr.cn n,dr.sg)),(140,(fB.cw,fB.sg))]
def cm.E (n:Nat):eg:=cM tryzGl (cm.env n)
def cm.m1:TM := .seq (oS [oV 10 114,oI .geq 114 (.u64 9223372036854775808) 115] (.cond (.s 115) [] (oS [oV 6 116,oX (.k (.call 118 (.plain 2 2))) [.c (.i .i64 3),.s 116] [117],oE 0 117 118,oE 1 117 119,oT 1168 0 5 4 118,oT 1169 0 3 5 119] .ret) .skip)) none (oS [oV 10 120,oA 1170 0 1 12 121,oT 1170 1 1 121 120] (oS [oM 1170 0 5 12 122,oV 6 123,oV 7 124,oV 10 125,oC 126 1 1 [125] 126,oC 138 4 2 [122,123,124,126] 127,oE 0 127 128,oE 1 127 129,oT 1168 0 5 4 128,oT 1169 0 3 5 129] .ret))
def cm.m2:TM := .cond (.s 79) [] (oS [oV 10 82,oA 1170 0 1 12 83,oT 1170 1 1 83 82] (oS [oM 1170 0 5 12 84,oK (.bd zT []) [] [85],oK (.qX 1168 0 5 [(2,107,.bs),(4,108,.il)]) [4,1168,84,(lk 107),(lk 108)] [1168,lk 107,lk 108],oT 1169 0 3 5 85] .ret)) (oS [oI .eql 78 (.i .i64 1) 87,oV 87 86] (.cond (.s 86) [] (oS [oV 10 88,oA 1170 0 1 12 89,oT 1170 1 1 89 88] (oS [oM 1170 0 5 12 90,oV 6 91,oV 7 92,oV 10 93,oC 125 1 1 [93] 94,oC 138 4 2 [90,91,92,94] 95,oE 0 95 96,oE 1 95 97,oT 1168 0 5 4 96,oT 1169 0 3 5 97] .ret)) (oS [oI .eql 78 (.i .i64 2) 99,oV 99 98] (.cond (.s 98) [] (.seq (oS [oV 11 100,oI .gtr 100 (.i .i64 0) 101] (.cond (.s 101) [(4,.ptr 1168 0),(5,.ptr 1169 0),(12,.ptr 1170 0),(1168,.cl []),(1169,.cl []),(1170,.cl []),(999999,.cl [])] (.fD [oV 10 102,oV 11 103,oX (.k (.bin .mul)) [.c (.i .i64 8),.s 103] [104],oX (.k (.bin .sub)) [.c (.i .i64 64),.s 104] [105],oB .shl 102 105 106,oK (.k (.ci .i64)) [106] [107],oV 11 108,oX (.k (.bin .mul)) [.c (.i .i64 8),.s 108] [109],oX (.k (.bin .sub)) [.c (.i .i64 64),.s 109] [110],oB .shr 107 110 111,oK (.k (.ci .u64)) [111] [112],oK (.k (.un .xor)) [112] [113],oV 113 10]) .skip)) (some [4,5,6,7,10,12,1168,1169,1170,999999]) cm.m1) .skip))))
def cm.m3:TM := .seq (oS [oV 9 78] (.block 0 [(0,.ptr 999999 0),(4,.ptr 1168 0),(5,.ptr 1169 0),(12,.ptr 1170 0),(1168,.cl []),(1169,.cl []),(1170,.cl []),(999999,.cl [])] (.seq (oS [oI .eql 78 (.i .i64 8) 80,oV 80 79] (.cond (.s 79) [(0,.ptr 999999 0),(4,.ptr 1168 0),(5,.ptr 1169 0),(12,.ptr 1170 0),(1168,.cl []),(1169,.cl []),(1170,.cl []),(999999,.cl [])] .skip (.fD [oI .eql 78 (.i .i64 9) 81,oV 81 79]))) (some [0,1,4,5,6,7,9,10,11,12,78,79,1168,1169,1170,999999]) cm.m2))) none (.seq (oS [oV 9 130,oV 10 131,oK (.k (.ci .i64)) [131] [132],oC 128 2 1 [130,132] 133,oK (.k (.fe 0 1 false)) [133] [134],oV 7 135,oB .neq 134 135 136,oV 136 137,oG 137 false (oA 1170 0 1 12 138),oG 137 false (oL 1170 1 1 138 139),oG 137 false (oI .gtr 139 (.u64 127) 140),oX (.k .pick) [.s 137,.c (.b true),.s 140] [141]] (.cond (.s 141) [] (oS [oV 6 142,oX (.k (.call 118 (.plain 2 2))) [.c (.i .i64 3),.s 142] [143],oE 0 143 144,oE 1 143 145,oT 1168 0 5 4 144,oT 1169 0 3 5 145] .ret) .skip)) none (.seq (oS [oV 9 146,oI .eql 146 (.i .i64 5) 147,oV 147 148,oG 148 false (oV 9 149),oG 148 false (oI .eql 149 (.i .i64 6) 150),oX (.k .pick) [.s 148,.c (.b true),.s 150] [151]] (.cond (.s 151) [] (oS [oV 0 152,oM 1170 0 5 12 153,oV 10 154,oK (.k (.ci .i64)) [154] [155],oV 1 156,oK (.k (.call 139 ⟨4,(some (0,999999)),[],[],2,[],none,[]⟩)) [152,153,155,156,999999] [157,999999],oE 0 157 158,oE 1 157 159,oT 1168 0 5 4 158,oT 1169 0 3 5 159] .ret) .skip)) none (oS [oV 0 160,oM 1170 0 5 12 161,oV 6 162,oV 10 163,oK (.k (.ci .i64)) [163] [164],oK (.k (.call 140 ⟨4,(some (0,999999)),[],[],2,[],none,[]⟩)) [160,161,162,164,999999] [165,999999],oE 0 165 166,oE 1 165 167,oT 1168 0 5 4 166,oT 1169 0 3 5 167] .ret)))
def cm.m4:TM:=oS [oV 9 60,oK (.bd [(.i .i64 0),(.u64 0),(.c (.slice none 0 0)),(.s []),(.c (.slice none 0 0))] [(0,1)]) [60] [61],oN 1170 zI 12,oT 1170 0 5 12 61] (.seq (oS [oV 9 62,oI .eql 62 (.i .i64 10) 63] (.cond (.s 63) [(0,.ptr 999999 0),(4,.ptr 1168 0),(5,.ptr 1169 0),(12,.ptr 1170 0),(1168,.cl []),(1169,.cl []),(1170,.cl []),(999999,.cl [])] (oS [oV 0 65,oK (.k (.call 135 ⟨1,(some (0,999999)),[],[],2,[],none,[]⟩)) [65,999999] [66,999999],oV 66 64,oE 0 64 67,oE 1 64 68,oV 67 13,oV 68 14] (.seq (oS [oV 14 69,oK (.k (.un .not)) [69] [70]] (.cond (.s 70) [] (oS [oV 6 71,oX (.k (.call 118 (.plain 2 2))) [.c (.i .i64 2),.s 71] [72],oE 0 72 73,oE 1 72 74,oT 1168 0 5 4 73,oT 1169 0 3 5 74] .ret) .skip)) none (.fD [oV 13 75,oK (.k (.ci .u64)) [75] [76],oA 1170 0 1 12 77,oT 1170 1 1 77 76]))) .skip)) (some [0,1,4,5,6,7,9,10,11,12,1168,1169,1170,999999]) cm.m3)
def cm.m:TM:=oS [oN 1168 zI 4,oN 1169 zT 5] (oS [oV 0 15,oK (.k (.lC 122 1 1 0 999999)) [15,999999] [16],oV 16 6] (.seq (oS [oV 1 17,oI .eql 17 (.i .i64 0) 18] (.cond (.s 18) [] (oS [oV 6 19,oX (.k (.call 118 (.plain 2 2))) [.c (.i .i64 8),.s 19] [20],oE 0 20 21,oE 1 20 22,oT 1168 0 5 4 21,oT 1169 0 3 5 22] .ret) .skip)) none (oS [oV 0 24,oK (.k (.call 135 ⟨1,(some (0,999999)),[],[],2,[],none,[]⟩)) [24,999999] [25,999999],oV 25 23,oE 0 23 26,oE 1 23 27,oV 26 7,oV 27 8] (.seq (oS [oV 8 28,oK (.k (.un .not)) [28] [29]] (.cond (.s 29) [] (oS [oV 6 30,oX (.k (.call 118 (.plain 2 2))) [.c (.i .i64 2),.s 30] [31],oE 0 31 32,oE 1 31 33,oT 1168 0 5 4 32,oT 1169 0 3 5 33] .ret) .skip)) none (oS [oV 7 35,oC 136 1 3 [35] 36,oV 36 34,oE 0 34 37,oE 1 34 38,oE 2 34 39,oV 37 9,oV 38 10,oV 39 11] (.seq (oS [oV 9 40,oI .eql 40 (.i .i64 0) 41] (.cond (.s 41) [] (oS [oV 6 42,oX (.k (.call 118 (.plain 2 2))) [.c (.i .i64 3),.s 42] [43],oE 0 43 44,oE 1 43 45,oT 1168 0 5 4 44,oT 1169 0 3 5 45] .ret) .skip)) none (.seq (oS [oV 11 46,oI .gtr 46 (.i .i64 0) 47] (.cond (.s 47) [(0,.ptr 999999 0),(4,.ptr 1168 0),(5,.ptr 1169 0),(1168,.cl []),(1169,.cl []),(999999,.cl [])] (oS [oV 0 49,oV 11 50,oK (.k (.call 137 ⟨2,(some (0,999999)),[],[],2,[],none,[]⟩)) [49,50,999999] [51,999999],oV 51 48,oE 0 48 52,oE 1 48 53,oV 52 10,oV 53 8] (oS [oV 8 54,oK (.k (.un .not)) [54] [55]] (.cond (.s 55) [] (oS [oV 6 56,oX (.k (.call 118 (.plain 2 2))) [.c (.i .i64 2),.s 56] [57],oE 0 57 58,oE 1 57 59,oT 1168 0 5 4 58,oT 1169 0 3 5 59] .ret) .skip))) .skip)) (some [0,1,4,5,6,7,9,10,11,1168,1169,999999]) cm.m4)))))))
def cm.d:gn:={ np:=2,m:=cm.m,ref:=some (0,999999),fy:=[],res:=[.c 4 1168 5 true,.c 5 1169 3 true],own:=[],new:=none,fx:=[] }
def cm.F (n:Nat) (r:dx) (depth:Int):OT:=cm.d.run (cm.E n) [(.ag (dx.cells r)),(.i .i64 depth)]
def cm.k1 (n:Nat):fJ (List TV):=ia (ev _ (cm.E n) (.seq (oS [oV 9 130,oV 10 131,oK (.k (.ci .i64)) [131] [132],oC 128 2 1 [130,132] 133,oK (.k (.fe 0 1 false)) [133] [134],oV 7 135,oB .neq 134 135 136,oV 136 137,oG 137 false (oA 1170 0 1 12 138),oG 137 false (oL 1170 1 1 138 139),oG 137 false (oI .gtr 139 (.u64 127) 140),oX (.k .pick) [.s 137,.c (.b true),.s 140] [141]] (.cond (.s 141) [] (oS [oV 6 142,oX (.k (.call 118 (.plain 2 2))) [.c (.i .i64 3),.s 142] [143],oE 0 143 144,oE 1 143 145,oT 1168 0 5 4 144,oT 1169 0 3 5 145] .ret) .skip)) none (.seq (oS [oV 9 146,oI .eql 146 (.i .i64 5) 147,oV 147 148,oG 148 false (oV 9 149),oG 148 false (oI .eql 149 (.i .i64 6) 150),oX (.k .pick) [.s 148,.c (.b true),.s 150] [151]] (.cond (.s 151) [] (oS [oV 0 152,oM 1170 0 5 12 153,oV 10 154,oK (.k (.ci .i64)) [154] [155],oV 1 156,oK (.k (.call 139 ⟨4,(some (0,999999)),[],[],2,[],none,[]⟩)) [152,153,155,156,999999] [157,999999],oE 0 157 158,oE 1 157 159,oT 1168 0 5 4 158,oT 1169 0 3 5 159] .ret) .skip)) none (oS [oV 0 160,oM 1170 0 5 12 161,oV 6 162,oV 10 163,oK (.k (.ci .i64)) [163] [164],oK (.k (.call 140 ⟨4,(some (0,999999)),[],[],2,[],none,[]⟩)) [160,161,162,164,999999] [165,999999],oE 0 165 166,oE 1 165 167,oT 1168 0 5 4 166,oT 1169 0 3 5 167] .ret)))) none (gb cm.d)
def cm.j1 (n:Nat) (x0:Int) (x1:Int) (x2:Int) (x3:Int) (x4:UInt64) (x5:Int) (x6:Itv) (x7:cX) (x8:dx):OT:=gQ _ (cm.E n) cm.m4 (dF [0,1,4,5,6,7,9,10,11,1168,1169,999999] [.pt,(.i .i64 x0),.pt,.pt,(.i .i64 x1),(.i .i64 x2),(.i .i64 x3),(.u64 x4),(.i .i64 x5),(.ag (Itv.cells x6)),(.ag (cX.cells x7)),(.ag (dx.cells x8))]) (gb cm.d)
def cm.j2 (n:Nat) (x0:Int) (x1:Int) (x2:Int) (x3:Int) (x4:UInt64) (x5:Int) (x6:Itv) (x7:cX) (x8:Int) (x9:UInt64) (gB:bY) (ie:dx):OT:=gQ _ (cm.E n) cm.m3 (dF [0,1,4,5,6,7,9,10,11,12,1168,1169,1170,999999] [.pt,(.i .i64 x0),.pt,.pt,(.i .i64 x1),(.i .i64 x2),(.i .i64 x3),(.u64 x4),(.i .i64 x5),.pt,(.ag (Itv.cells x6)),(.ag (cX.cells x7)),(.ag [(.i .i64 x8),(.u64 x9),(.c (.slice none 0 0)),(.s gB),(.c (.slice none 0 0))]),(.ag (dx.cells ie))]) (gb cm.d)
def cm.j3 (n:Nat) (x0:Int) (x1:Int) (x2:Int) (x3:Int) (x4:UInt64) (x5:Int) (x6:Int) (x7:Bool) (x8:Itv) (x9:cX) (gB:Int) (ie:UInt64) (jt:bY) (nJ:dx):OT:=gQ _ (cm.E n) cm.m2 (dF [0,1,4,5,6,7,9,10,11,12,78,79,1168,1169,1170,999999] [.pt,(.i .i64 x0),.pt,.pt,(.i .i64 x1),(.i .i64 x2),(.i .i64 x3),(.u64 x4),(.i .i64 x5),.pt,(.i .i64 x6),(.b x7),(.ag (Itv.cells x8)),(.ag (cX.cells x9)),(.ag [(.i .i64 gB),(.u64 ie),(.c (.slice none 0 0)),(.s jt),(.c (.slice none 0 0))]),(.ag (dx.cells nJ))]) (eb 0 (cm.k1 n))
def cm.j4 (n:Nat) (x0:Int) (x1:Int) (x2:UInt64) (x3:Itv) (x4:cX) (x5:Int) (x6:UInt64) (x7:bY) (x8:dx):OT:=gQ _ (cm.E n) cm.m1 (dF [4,5,6,7,10,12,1168,1169,1170,999999] [.pt,.pt,(.i .i64 x0),(.i .i64 x1),(.u64 x2),.pt,(.ag (Itv.cells x3)),(.ag (cX.cells x4)),(.ag [(.i .i64 x5),(.u64 x6),(.c (.slice none 0 0)),(.s x7),(.c (.slice none 0 0))]),(.ag (dx.cells x8))]) (eb 0 (cm.k1 n))
theorem cm.nZ (n:Nat) (x0:Int) (x1:Int) (x2:Int) (x3:Int) (x4:UInt64) (x5:Int) (x6:Itv) (x7:cX) (x8:dx):cm.j1 n x0 x1 x2 x3 x4 x5 x6 x7 x8=cond (decide (x3=(10:Int)))
  (ck (cT.iE x8) (cond (!(cT.more x8))
  (some [(.ag (Itv.cells (bG.val (Mp.zero)))),(.ag (cX.cells ((cX.mk ((2:Int)) x1 [])))),(.ag (dx.cells (cT.pg x8 1 (cT.more x8))))])
  (cm.j2 n x0 x1 x2 x3 x4 x5 x6 x7 x3 (UInt64.ofInt (cT.byte x8)) ([]:bY) (cT.pg x8 1 (cT.more x8)))))
  (cm.j2 n x0 x1 x2 x3 x4 x5 x6 x7 x3 (0:UInt64) ([]:bY) x8):=((congrFun (congrFun (gr _ _) _) _).trans (by kernel_rfl))
theorem cm.jC (n:Nat) (x0:Int) (x1:Int) (x2:Int) (x3:Int) (x4:UInt64) (x5:Int) (x6:Itv) (x7:cX) (x8:Int) (x9:UInt64) (gB:bY) (ie:dx):cm.j2 n x0 x1 x2 x3 x4 x5 x6 x7 x8 x9 gB ie=cond (decide (x3=(8:Int)))
  (cm.j3 n x0 x1 x2 x3 x4 x5 x3 (decide (x3=(8:Int))) x6 x7 x8 x9 gB ie)
  (cm.j3 n x0 x1 x2 x3 x4 x5 x3 (decide (x3=(9:Int))) x6 x7 x8 x9 gB ie):=((congrFun (congrFun (gr _ _) _) _).trans (by kernel_rfl))
theorem cm.pZ (n:Nat) (x0:Int) (x1:Int) (x2:Int) (x3:Int) (x4:UInt64) (x5:Int) (x6:Int) (x7:Bool) (x8:Itv) (x9:cX) (gB:Int) (ie:UInt64) (jt:bY) (nJ:dx) {ρ:OT} (K:∀(v1:cX) (h1:v1=((cX.mk (Mp.num (bG.of (Itv.mk gB x4 [] jt [])) x1 x2 ((kU.mk (Mp.eK x4).1 (Mp.eK x4).2)).at_ 0).err (Mp.num (bG.of (Itv.mk gB x4 [] jt [])) x1 x2 ((kU.mk (Mp.eK x4).1 (Mp.eK x4).2)).at_ 0).at_ []))) (v2:Int) (h2:v2=(IntKind.i64.wrap ((8:Int) * x5))) (v3:Int) (h3:v3=(IntKind.i64.wrap ((64:Int) - v2))) (v4:Int) (h4:v4=(IntKind.i64.wrap (((lz x4 ((v3).toNat))).toNat:Int))) (v5:Int) (h5:v5=(Int.fdiv v4 (2 ^ (min ((v3).toNat) (IntKind.i64.bits))))) (v6:Int) (h6:v6=(IntKind.i64.wrap ((x4).toNat:Int))) (v7:Bool) (h7:v7=(!(!decide ((Mp.sized x3 v6).1=x2)))) (v8:Bool) (h8:v8=(cond (!decide ((Mp.sized x3 v6).1=x2)) true (decide ((127:UInt64)<ie)))) (v9:Bool) (h9:v9=(cond (decide (x3=(5:Int))) true (decide (x3=(6:Int))))) (v10:cX) (nA:v10=((cX.mk (Mp.kids (Mp.read (nJ).b (x0 - 1).toNat) (bG.of (Itv.mk gB ie [] jt [])) (Mp.many ((Itv.mk gB ie [] jt [])).kind v6) (nJ).at_).err (Mp.kids (Mp.read (nJ).b (x0 - 1).toNat) (bG.of (Itv.mk gB ie [] jt [])) (Mp.many ((Itv.mk gB ie [] jt [])).kind v6) (nJ).at_).at_ []))) (v11:dx) (zN:v11=((dx.mk (nJ).b (Mp.kids (Mp.read (nJ).b (x0 - 1).toNat) (bG.of (Itv.mk gB ie [] jt [])) (Mp.many ((Itv.mk gB ie [] jt [])).kind v6) (nJ).at_).pos))) (v12:cX) (zM:v12=((cX.mk (Mp.row (nJ).b (bG.of (Itv.mk gB ie [] jt [])) x1 (nJ).at_ v6).err (Mp.row (nJ).b (bG.of (Itv.mk gB ie [] jt [])) x1 (nJ).at_ v6).at_ []))) (lx:dx) (zL:lx=((dx.mk (nJ).b (Mp.row (nJ).b (bG.of (Itv.mk gB ie [] jt [])) x1 (nJ).at_ v6).pos))),cond x7
  (some [(.ag [(.i .i64 gB),(.u64 x4),(.sl .bs ([]:List UInt8)),(.s jt),(.sl .il ([]:List bG))]),(.ag [(.i .i64 0),(.i .i64 0),(.sl .is ([]:List Int))]),(.ag (dx.cells nJ))])
  (cond (decide (x6=(1:Int)))
  (some [(.ag (Itv.cells (bG.val ((Mp.num (bG.of (Itv.mk gB x4 [] jt [])) x1 x2 ((kU.mk (Mp.eK x4).1 (Mp.eK x4).2)).at_ 0).it)))),(.ag (cX.cells v1)),(.ag (dx.cells nJ))])
  (cond (decide (x6=(2:Int)))
  (cond (decide ((0:Int)<x5))
  (ck (decide (0≤v3)) (ck (decide (0≤v3)) (cm.j4 n x1 x2 (~~~(UInt64.ofInt v5)) x8 x9 gB ie jt nJ)))
  (cm.j4 n x1 x2 x4 x8 x9 gB ie jt nJ))
  (ck (Mp.ma x3&&decide (0≤v6∧v6<4294967296)) (ck (!v7 || v7) (ck (!v7 || v7) (ck ((!decide ((Mp.sized x3 v6).1=x2)) || v7) (cond v8
  (some [(.ag (Itv.cells (bG.val (Mp.zero)))),(.ag (cX.cells ((cX.mk ((3:Int)) x1 [])))),(.ag (dx.cells nJ))])
  (ck (!(!(decide (x3=(5:Int)))) || (!(decide (x3=(5:Int))))) (ck ((decide (x3=(5:Int))) || (!(decide (x3=(5:Int))))) (cond v9
  (ck ((cT.iE nJ&&decide (0≤v6∧v6≤4294967296∧1≤x0∧x0≤1000))&&decide ((2 * (x0).toNat)<n)) (some [(.ag (Itv.cells (bG.val ((Mp.kids (Mp.read (nJ).b (x0 - 1).toNat) (bG.of (Itv.mk gB ie [] jt [])) (Mp.many ((Itv.mk gB ie [] jt [])).kind v6) (nJ).at_).it)))),(.ag (cX.cells v10)),(.ag (dx.cells v11))]))
  (ck (cT.iE nJ) (some [(.ag (Itv.cells (bG.val ((Mp.row (nJ).b (bG.of (Itv.mk gB ie [] jt [])) x1 (nJ).at_ v6).it)))),(.ag (cX.cells v12)),(.ag (dx.cells lx))]))))))))))))=ρ):cm.j3 n x0 x1 x2 x3 x4 x5 x6 x7 x8 x9 gB ie jt nJ=ρ:=((congrFun (congrFun (gr _ _) _) _).trans (by kernel_rfl)).trans (K _ rfl _ rfl _ rfl _ rfl _ rfl _ rfl _ rfl _ rfl _ rfl _ rfl _ rfl _ rfl _ rfl)
theorem cm.wB (n:Nat) (x0:Int) (x1:Int) (x2:UInt64) (x3:Itv) (x4:cX) (x5:Int) (x6:UInt64) (x7:bY) (x8:dx) {ρ:OT} (K:∀(v1:cX) (h1:v1=((cX.mk (Mp.num (bG.of (Itv.mk x5 x2 [] x7 [])) x0 x1 ((kU.mk (Mp.signed x2).1 (Mp.signed x2).2)).at_ 0).err (Mp.num (bG.of (Itv.mk x5 x2 [] x7 [])) x0 x1 ((kU.mk (Mp.signed x2).1 (Mp.signed x2).2)).at_ 0).at_ []))),cond (decide ((9223372036854775808:UInt64)≤x2))
  (some [(.ag (Itv.cells (bG.val (Mp.zero)))),(.ag (cX.cells ((cX.mk ((3:Int)) x0 [])))),(.ag (dx.cells x8))])
  (some [(.ag (Itv.cells (bG.val ((Mp.num (bG.of (Itv.mk x5 x2 [] x7 [])) x0 x1 ((kU.mk (Mp.signed x2).1 (Mp.signed x2).2)).at_ 0).it)))),(.ag (cX.cells v1)),(.ag (dx.cells x8))])=ρ):cm.j4 n x0 x1 x2 x3 x4 x5 x6 x7 x8=ρ:=((congrFun (congrFun (gr _ _) _) _).trans (by kernel_rfl)).trans (K _ rfl)
theorem cm.dQ (n:Nat) (r:dx) (depth:Int) {ρ:OT} (K:∀(v1:cX) (h1:v1=((cX.mk ((8:Int)) ((((r).at_))) []))) (v2:cX) (h2:v2=((cX.mk ((2:Int)) ((((r).at_))) []))) (v3:Int) (h3:v3=((Mp.first ((cT.byte r))).1)) (v4:UInt64) (h4:v4=((Mp.first ((cT.byte r))).2.1)) (v5:Int) (h5:v5=((Mp.first ((cT.byte r))).2.2)) (v6:cX) (h6:v6=((cX.mk ((3:Int)) ((((r).at_))) []))) (v7:UInt64) (h7:v7=(cT.be (cT.nx (cT.pg r 1 (cT.more r)) v5 (cT.pz (cT.pg r 1 (cT.more r)) v5)))) (v8:Bool) (h8:v8=(cT.pz (cT.pg r 1 (cT.more r)) v5)) (v9:dx) (h9:v9=(cT.pg (cT.pg r 1 (cT.more r)) v5 (cT.pz (cT.pg r 1 (cT.more r)) v5))),cond (decide (depth=(0:Int)))
  (some [(.ag (Itv.cells (bG.val (Mp.zero)))),(.ag (cX.cells v1)),(.ag (dx.cells r))])
  (ck (cT.iE r) (cond (!(cT.more r))
  (some [(.ag (Itv.cells (bG.val (Mp.zero)))),(.ag (cX.cells v2)),(.ag (dx.cells (cT.pg r 1 (cT.more r))))])
  (ck (decide (0≤((cT.byte r))∧((cT.byte r))≤255)) (cond (decide (v3=(0:Int)))
  (some [(.ag (Itv.cells (bG.val (Mp.zero)))),(.ag (cX.cells v6)),(.ag (dx.cells (cT.pg r 1 (cT.more r))))])
  (cond (decide ((0:Int)<v5))
  (ck (cT.iE (cT.pg r 1 (cT.more r))) (cond (!v8)
  (some [(.ag (Itv.cells (bG.val (Mp.zero)))),(.ag (cX.cells v2)),(.ag (dx.cells v9))])
  (cm.j1 n depth (((r).at_)) (cT.byte r) v3 v7 v5 (Itv.mk 0 0 [] [] []) (cX.mk 0 0 []) v9)))
  (cm.j1 n depth (((r).at_)) (cT.byte r) v3 v4 v5 (Itv.mk 0 0 [] [] []) (cX.mk 0 0 []) (cT.pg r 1 (cT.more r))))))))=ρ):cm.F n r depth=ρ:=Eq.trans (by kernel_rfl) (K _ rfl _ rfl _ rfl _ rfl _ rfl _ rfl _ rfl _ rfl _ rfl)
theorem cm.dp (n:Nat):CK 120 (cm.env n) cm.d:=eH (by kernel_rfl)
def eA.env:EV:=[(118,(dX.c,dX.sg)),(119,(fo.c,fo.sg)),(120,(cm.c,cm.sg)),(121,(eO.c,eO.sg)),(122,(gE.c,gE.sg))]
def eA.E:eg:=cM tryzGl eA.env
def eA.m:TM:=oS [oN 1041 zI 4,oN 1042 zT 5] (.seq (oS [oV 1 9,oI .lss 9 (.i .i64 0) 10,oV 10 11,oG 11 false (oV 1 12),oG 11 false (oI .gtr 12 (.i .i64 1000) 13),oX (.k .pick) [.s 11,.c (.b true),.s 13] [14]] (.cond (.s 14) [] (oS [oX (.k (.call 118 (.plain 2 2))) [.c (.i .i64 1),.c (.i .i64 0)] [15],oE 0 15 16,oE 1 15 17,oT 1041 0 5 4 16,oT 1042 0 3 5 17] .ret) .skip)) none (oS [oV 0 18,oK (.k (.call 119 ⟨1,none,[],[],1,[],(some (0,1043)),[]⟩)) [18,1043] [19,1043],oV 19 6] (oS [oV 6 21,oV 1 22,oK (.k (.call 120 ⟨2,(some (0,1043)),[],[],2,[],none,[]⟩)) [21,22,1043] [23,1043],oV 23 20,oE 0 20 24,oE 1 20 25,oN 1044 zI 7,oN 1045 zT 8,oT 1044 0 5 7 24,oT 1045 0 3 8 25] (.seq (oS [oA 1045 0 0 8 26,oL 1045 0 1 26 27,oI .neq 27 (.i .i64 0) 28] (.cond (.s 28) [] (oS [oK (.bd zI []) [] [29],oM 1045 0 3 8 30,oT 1041 0 5 4 29,oT 1042 0 3 5 30] .ret) .skip)) none (.seq (oS [oV 6 31,oK (.k (.lC 121 1 1 0 1043)) [31,1043] [32],oI .gtr 32 (.i .i64 0) 33] (.cond (.s 33) [] (oS [oV 6 34,oK (.k (.lC 122 1 1 0 1043)) [34,1043] [35],oX (.k (.call 118 (.plain 2 2))) [.c (.i .i64 7),.s 35] [36],oE 0 36 37,oE 1 36 38,oT 1041 0 5 4 37,oT 1042 0 3 5 38] .ret) .skip)) none (oS [oM 1044 0 5 7 39,oK (.bd zT []) [] [40],oT 1041 0 5 4 39,oT 1042 0 3 5 40] .ret))))))
def eA.d:gn:=D0 2 eA.m [.c 4 1041 5 true,.c 5 1042 3 true]
def eA.F (b:List UInt8) (depth:Int):OT:=eA.d.run eA.E [(.sl .bs b),(.i .i64 depth)]
theorem eA.dQ (b:List UInt8) (depth:Int) {ρ:OT} (K:∀(v1:Bool) (h1:v1=(cond (decide (depth<(0:Int))) true (decide ((1000:Int)<depth)))) (v2:cX) (h2:v2=((cX.mk ((1:Int)) ((0:Int)) []))) (v3:cX) (h3:v3=((cX.mk (Mp.read (((dx.mk b 0))).b (depth).toNat (((dx.mk b 0))).at_).err (Mp.read (((dx.mk b 0))).b (depth).toNat (((dx.mk b 0))).at_).at_ []))) (v4:dx) (h4:v4=((dx.mk (((dx.mk b 0))).b (Mp.read (((dx.mk b 0))).b (depth).toNat (((dx.mk b 0))).at_).pos))) (v5:cX) (h5:v5=((cX.mk ((7:Int)) ((((v4).at_))) []))),ck (!(!(decide (depth<(0:Int)))) || (!(decide (depth<(0:Int))))) (ck ((decide (depth<(0:Int))) || (!(decide (depth<(0:Int))))) (cond v1
  (some [(.ag (Itv.cells (bG.val (Mp.zero)))),(.ag (cX.cells v2))])
  (ck (decide ((b).length≤1099511627776)) (ck (cT.iE ((dx.mk b 0))&&decide (0≤depth∧depth≤1000)) (cond (!decide ((cX.err v3)=(0:Int)))
  (some [(.ag [(.i .i64 0),(.u64 0),(.sl .bs ([]:List UInt8)),(.s []),(.sl .il ([]:List bG))]),(.ag (cX.cells v3))])
  (ck (cT.iE v4) (cond (decide ((0:Int)<(cT.left v4)))
  (some [(.ag (Itv.cells (bG.val (Mp.zero)))),(.ag (cX.cells v5))])
  (some [(.ag (Itv.cells (bG.val ((Mp.read (((dx.mk b 0))).b (depth).toNat (((dx.mk b 0))).at_).it)))),(.ag [(.i .i64 0),(.i .i64 0),(.sl .is ([]:List Int))])]))))))))=ρ):eA.F b depth=ρ:=Eq.trans (by kernel_rfl) (K _ rfl _ rfl _ rfl _ rfl _ rfl)
theorem eA.dp:CK 103 eA.env eA.d:=eH (by kernel_rfl)
end
end Go.Eng
