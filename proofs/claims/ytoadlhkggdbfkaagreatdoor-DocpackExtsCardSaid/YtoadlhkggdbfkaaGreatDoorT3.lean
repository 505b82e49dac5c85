/- Texts of my own, one behind the other: EvE, EvF, EvG, EvH, EvI, EvJ, ArithP, UtfPure, TreePure, EvK, EvL, RegPure, MpPure, DbPure, DkPure, DkItoa, DkGp0. -/
import Derived.Test.YtoadlhkggdbfkaaGreatDoorT2
import Derived.ChangeShapes
import Derived.ProofKit
import Derived.ChangeSlices
import Derived.ChangeArms
import Derived.DataReads
import Derived.IntWalk
import Derived.Lib.Bytealg
import Derived.Below
import Derived.Lib.LaidTab
import Derived.Lib.ItoaNum
import Derived.Sort.Grow
import Derived.Deep.Draws
import Derived.Shelf.Strconv.Itoa0
import Derived.Shelf.Strconv.Itoa1
import Derived.Shelf.LaysM
import Derived.Shelf.Strconv.Itoa2
import Derived.Shelf.Strconv.Itoa3
import Derived.Test.YtoadlhkggdbfkaaGreatDoorProg
set_option linter.unusedVariables false
set_option linter.unusedSimpArgs false
namespace Go.Eng
def GI (k:K) (vs:List TV):kT :=
 match k,vs with
 | .mv,[x] => .ok [x]
 | .pick,[.b t,x,y]=>BC t x y
 | .bin o,[x,y]=>Ic o x y
 | .be neg,[.b a,.b b] => .ok [.b (cond neg (!(a == b)) (a == b))]
 | .un o,[x]=>Mh o x
 | .ci k,[x]=>match x.int? with
  | some (_,n) => .ok [Cr k n]
  | none => .err
 | .cs,[.s l] => .ok [.s l]
 | .sb,[.s l] => .fJ (kJ l.length) [.sl .bs l]
 | .DV _,[.s l,_] => .fJ (kJ l.length) [.sl .bs l,.dead]
 | .bs,[.sl .bs l] => .ok [.s l]
 | .len,[.sl _ l] => .ok [.i .i64 l.length]
 | .uO,[.s l] => .ok [.i .i64 l.length]
 | .mn,[.i k a,.i k' b]=>gI (decide (k=k')) (.ok [.i k (B1 a b)])
 | .mx,[.i k a,.i k' b]=>gI (decide (k=k')) (.ok [.i k (nJ a b)])
 | .ix s,[.sl t l,i]=>match i.int? with
  | some (_,n)=>gI (Nat.beq s t.size) (.fJ (eK n l.length) [.ro (t.tv (l.getD n.toNat t.fc))])
  | none => .err
 | .si,[.s l,i]=>match i.int? with
  | some (_,n) => .fJ (eK n l.length) [.u8 (l.getD n.toNat 0)]
  | none => .err
 | .ai m s agg,[.ag cs,i]=>match i.int?,agg with
  | some (_,n),false=>match Dx cs n.toNat with
   | some x=>gI (Nat.beq s 1&&Nat.beq m cs.length) (.fJ (eK n m) [x])
   | none => .err
  | some (_,n),true=>match xi s m n.toNat cs s with
   | some xs=>gI (Nat.beq (m * s) cs.length) (.fJ (eK n m) [.ag xs])
   | none => .err
  | _,_ => .err
 | .fe o n agg,[.ag cs]=>D9 (qN cs o n agg)
 | .sc s true true,[.sl t l,i,j]=>match i.int?,j.int? with
  | some (_,a),some (_,b)=>gI (Nat.beq s t.size) (.fJ (ja a b l.length) [.sl t ((l.take b.toNat).drop a.toNat)])
  | _,_ => .err
 | .sc s true false,[.sl t l,i]=>match i.int? with
  | some (_,a)=>gI (Nat.beq s t.size) (.fJ (ja a l.length l.length) [.sl t (l.drop a.toNat)])
  | _ => .err
 | .sc s false true,[.sl t l,j]=>match j.int? with
  | some (_,b)=>gI (Nat.beq s t.size) (.fJ (ja 0 b l.length) [.sl t (l.take b.toNat)])
  | _ => .err
 | .sc s false false,[.sl t l]=>gI (Nat.beq s t.size) (.ok [.sl t l])
 | .ss true true,[.s l,i,j]=>match i.int?,j.int? with
  | some (_,a),some (_,b) => .fJ (ja a b l.length) [.s ((l.take b.toNat).drop a.toNat)]
  | _,_ => .err
 | .ss true false,[.s l,i]=>match i.int? with
  | some (_,a) => .fJ (ja a l.length l.length) [.s (l.drop a.toNat)]
  | _ => .err
 | .ss false true,[.s l,j]=>match j.int? with
  | some (_,b) => .fJ (ja 0 b l.length) [.s (l.take b.toNat)]
  | _ => .err
 | .ss false false,[.s l] => .ok [.s l]
 | .bx _,[x,_]=>gI x.plain (.ok [.pt,.ag x.cells])
 | .ld _ o n agg,[.pt,.ag cs]=>D9 (qN cs o n agg)
 | .st _ o n,[.pt,.ag cs,x]=>gI (x.plain&&Nat.beq x.cells.length n&&Nat.ble (o+n) cs.length) (.ok [.ag (mP cs o x.cells)])
 | .lr n agg,[.ro x]=>gI (x.plain&&(x.pj == agg)&&Nat.beq x.cells.length n) (.ok [x])
 | .fa _ _ _,[.pt] => .ok [.pt]
 | .fr o n agg,[.ro (.ag cs)]=>match qN cs o n agg with
  | some x => .ok [.ro x]
  | none => .err
 | .nc _ _,[.pt] => .ok [.pt]
 | .FK,[.ro x] => .ok [.ro x]
 | .ex i,[.tu vs]=>D9 vs[i]?
 | .ap _ _ s mZ,[.sl t l,.sl t' m,_,_]=>match t.app l t' m with
  | some n=>gI (Nat.beq s t.size) (.fJ (fS (l.length+m.length) mZ) [.sl t n,.dead,.dead])
  | none => .err
 | .zp _ _ mZ,[.sl .bs l,.s m,_,_] => .fJ (fS (l.length+m.length) mZ) [.sl .bs (l++m),.dead,.dead]
 | .an _ s mZ,[.sl t l,_]=>gI (Nat.beq s t.size) (.fJ (fS l.length mZ) [.sl t l,.dead])
 | .Gn _ mZ,[.s l,_] => .fJ (fS l.length mZ) [.sl .bs l,.dead]
 | .Fw _,[.s l,_] => .fJ (kJ l.length) [.pt,.sl .bs l]
 | .Fy _,[.pt,.sl _ l] => .ok [.i .i64 l.length]
 | .FA _ s,[.pt,i,.sl t l]=>match i.int? with
  | some (_,n)=>gI (Nat.beq s t.size) (.fJ (eK n l.length) [.el n.toNat s 0])
  | none => .err
 | .GQ _ o,[.el i s o'] => .ok [.el i s (o'+o)]
 | .Fz _ s n agg,[.el i s' o,.sl t l]=>match rD (t.tv (l.getD i t.fc)) o n agg with
  | some x=>gI (Nat.beq s' s&&Nat.beq s t.size) (.fJ (decide (i<l.length)) [x])
  | none => .err
 | .Fv _ s n,[.el i s' o,.sl t l,x]=>match uG (t.tv (l.getD i t.fc)) o x with
  | some y=>match t.el y with
   | some e=>gI (Nat.beq s' s&&Nat.beq s t.size&&x.plain&&Nat.beq x.cells.length n) (.fJ (decide (i<l.length)) [.sl t (l.set i e)])
   | none => .err
  | none => .err
 | .FB _ s,[.pt,.sl t l]=>gI (Nat.beq s t.size) (.ok [.sl t l,.sl t l,.dead])
 | .AO _ _ s mZ,[.pt,.sl t' m,.sl t l,_]=>match t.app l t' m with
  | some n=>gI (Nat.beq s t.size) (.fJ (fS (l.length+m.length) mZ) [.pt,.sl t l,.sl t n])
  | none => .err
 | .Fi _ _ _ s mZ,[.sl t l,.pt,_,_,.sl t' m]=>match t.app l t' m with
  | some n=>gI (Nat.beq s t.size) (.fJ (fS (l.length+m.length) mZ) [.sl t n,.dead,.dead])
  | none => .err
 | .la _ n s,[.pt,i,.ag _]=>match i.int? with
  | some (_,m) => .fJ (eK m n) [.el m.toNat s 0]
  | none => .err
 | .ll _ s,[.el i s' o,.ag cs]=>match Dx cs i with
  | some x=>gI (Nat.beq s' s&&Nat.beq s 1&&Nat.beq o 0) (.fJ (decide (i<cs.length)) [x])
  | none => .err
 | .Ir,[.s l,.u8 c] => .ok [.i .i64 (Lib.indexByte l c)]
 | _,_ => .err
theorem kv {n:Int} {l:Nat}:eK n l=true ↔ 0≤n∧n<l:=by simp [eK]
theorem kA {a b:Int} {l:Nat}:ja a b l=true ↔ 0≤a∧a≤b∧b≤l:=by simp [ja,and_assoc]
theorem kf {n b:Nat}:fS n b=true ↔ n≤maxLen∧n * b≤140737488355328:=by simp [fS]
theorem B0 {l c:Int} {b:Nat}:Hh l c b=true ↔ 0≤l∧l≤c∧c * b≤140737488355328∧c≤maxLen:=by simp [Hh,and_assoc]
theorem mE {n:Nat}:kJ n=true ↔ n≤maxLen:=by simp [kJ]
theorem getD_map {A:Type} (f:A→AV) (l:List A) (n:Int) (d:A) (h:0≤n∧n<l.length):(l.map f)[n.toNat]?=some (f (l.getD n.toNat d)):=by
 have:n.toNat<l.length:=by omega
 simp [aG,aE this]
theorem CU (l:bS) (n:Int) (h:0≤n∧n<l.length):l[n.toNat]?=some (l.getD n.toNat 0):=by
 have:n.toNat<l.length:=by omega
 simp [aG,aE this]
theorem DU (E:Env) {k:K} {vs ws:List TV} (h:(GI k vs).holds ws):gf E k (vs.map TV.av) (ws.map TV.av):=by
 unfold GI at h
 split at h
 -- mv
 ·cases h;rfl
 ·obtain ⟨x,rfl,e⟩:=BB _ _ _ _ h;simp only [List.map,gf,TV.av];rw [e]
 ·obtain ⟨x,rfl,a,b,v,e1,e2,e3,e4⟩:=Fc _ _ _ _ h
  simp only [List.map,gf,e1,e2,e4];exact ⟨v,e3,rfl⟩
 ·cases h;rename_i neg a b;cases neg <;> rfl
 ·obtain ⟨x,rfl,a,v,e1,e2,e3⟩:=Gs _ _ _ h
  simp only [List.map,gf,e1,e3];exact ⟨v,e2,rfl⟩
 ·split at h
  ·rename_i e;cases h;simp only [List.map,gf,TV.iN e,Cq]
  ·exact h.elim
 ·cases h;rfl
 ·obtain ⟨h1,rfl⟩:=h;exact ⟨mE.1 h1,rfl⟩
 ·obtain ⟨h1,rfl⟩:=h;exact ⟨mE.1 h1,rfl⟩
 ·cases h;exact ⟨_,rfl,rfl,rfl⟩
 ·cases h;simp only [List.map,gf,TV.av,aN]
 ·cases h;simp only [List.map,gf,TV.av,iE]
 ·obtain ⟨e,h⟩:=db h;cases h;simp only [List.map,gf,TV.av]
 ·obtain ⟨e,h⟩:=db h;cases h;simp only [List.map,gf,TV.av]
 ·split at h
  ·rename_i t l i k n e
   obtain ⟨e1,h1,rfl⟩:=db h
   have e1:=ay e1
   have h1:=kv.1 h1
   simp only [List.map,gf,TV.av,TV.iN e,eJ.A4]
   exact ⟨_,e1,h1.1,getD_map _ _ _ _ h1,rfl⟩
  ·exact h.elim
 ·split at h
  ·rename_i e
   obtain ⟨h1,rfl⟩:=h
   have h1:=kv.1 h1
   simp only [List.map,gf,TV.av,iE,TV.iN e]
   exact ⟨_,h1.1,CU _ _ h1,rfl⟩
  ·exact h.elim
 ·split at h
  ·rename_i m s cs i k n e
   split at h
   ·rename_i x hx
    obtain ⟨e1,h1,rfl⟩:=db h
    simp only [ae] at e1
    have e2:=ay e1.1
    have e3:=ay e1.2
    subst e2;subst e3
    have h1:=kv.1 h1
    have hx:=vm hx (by omega)
    simp only [List.map,gf,TV.av,TV.iN e]
    refine ⟨x.av,h1.1,h1.2,?_,rfl⟩
    simp [gS,TV.gj,hx]
   ·exact h.elim
  ·rename_i m s cs i _ _ k n e
   split at h
   ·rename_i xs hx
    obtain ⟨e1,h1,rfl⟩:=db h
    have e1:=ay e1
    have h1:=kv.1 h1
    have hx:=xh e1 (by omega) s (Nat.le_refl _) hx
    simp only [List.map,gf,TV.av,TV.iN e]
    have hle:n.toNat * s+s≤cs.length:=by
     have:(n.toNat+1) * s≤m * s:=bu _ (by omega)
     rw [Nat.succ_mul] at this;omega
    refine ⟨(TV.ag xs).av,h1.1,h1.2,?_,by simp only [TV.av]⟩
    rw [Nat.sub_self,Nat.add_zero] at hx
    simp [gS,TV.gj,TV.av,hx,hle,List.map_take,List.map_drop]
   ·exact h.elim
  ·exact h.elim
 ·obtain ⟨y,e,rfl⟩:=pb h
  simp only [List.map,gf,TV.av,TV.gj];exact ⟨_,nH e,rfl⟩
 ·split at h
  ·rename_i i j _ a _ b e1 e2
   obtain ⟨e,h1,rfl⟩:=db h
   have h1:=kA.1 h1
   simp only [List.map,gf,TV.av,TV.iN e1,TV.iN e2,aN]
   exact ⟨ay e,h1.1,h1.2.1,h1.2.2,by simp [ay e,List.map_take,List.map_drop]⟩
  ·exact h.elim
 ·split at h
  ·rename_i i _ a e1
   obtain ⟨e,h1,rfl⟩:=db h
   have h1:=kA.1 h1
   simp only [List.map,gf,TV.av,TV.iN e1,aN]
   exact ⟨ay e,h1.1,h1.2.1,by simp [ay e,List.map_take,List.map_drop]⟩
  ·exact h.elim
 ·split at h
  ·rename_i i _ a e1
   obtain ⟨e,h1,rfl⟩:=db h
   have h1:=kA.1 h1
   simp only [List.map,gf,TV.av,TV.iN e1,aN]
   exact ⟨ay e,h1.2.1,h1.2.2,by simp [ay e,List.map_take,List.map_drop]⟩
  ·exact h.elim
 ·obtain ⟨e,h⟩:=db h
  cases h
  simp only [List.map,gf,TV.av]
  exact ⟨ay e,by rw [ay e]⟩
 ·split at h
  ·rename_i i j _ a _ b e1 e2
   obtain ⟨h1,rfl⟩:=h
   have h1:=kA.1 h1
   simp only [List.map,gf,TV.av,iE,TV.iN e1,TV.iN e2]
   exact ⟨h1.1,h1.2.1,h1.2.2,by simp [List.take_drop,List.drop_take]⟩
  ·exact h.elim
 ·split at h
  ·rename_i i _ a e1
   obtain ⟨h1,rfl⟩:=h
   have h1:=kA.1 h1
   simp only [List.map,gf,TV.av,iE,TV.iN e1]
   exact ⟨h1.1,h1.2.1,by simp⟩
  ·exact h.elim
 ·split at h
  ·rename_i i _ a e1
   obtain ⟨h1,rfl⟩:=h
   have h1:=kA.1 h1
   simp only [List.map,gf,TV.av,iE,TV.iN e1]
   exact ⟨h1.2.1,h1.2.2,by simp⟩
  ·exact h.elim
 ·cases h;rfl
 ·obtain ⟨e,h⟩:=db h;cases h
  simp only [List.map,gf,TV.av,TV.gj]
  exact ⟨TV.mo _ e,by rw [TV.kb _ e]⟩
 ·obtain ⟨y,e,rfl⟩:=pb h
  simp only [List.map,gf,TV.av,TV.gj];exact ⟨_,nH e,rfl⟩
 ·obtain ⟨e,h⟩:=db h;cases h
  simp only [ae] at e
  obtain ⟨⟨e1,e2⟩,e3⟩:=e
  simp only [List.map,gf,TV.av,TV.gj]
  refine ⟨TV.mo _ e1,?_,?_,?_⟩
  ·rw [TV.kb _ e1,aN];exact ay e2
  ·rw [aN];exact Nat.le_of_ble_eq_true e3
  ·rw [TV.kb _ e1,mO]
 ·obtain ⟨e,h⟩:=db h;cases h
  simp only [ae,beq_iff_eq] at e
  obtain ⟨⟨e1,e2⟩,e3⟩:=e
  simp only [List.map,gf,TV.av]
  refine ⟨?_,?_,trivial⟩
  ·rw [TV.yV _ e1,e2]
  ·rw [TV.kb _ e1,aN];exact ay e3
 ·cases h;rfl
 ·split at h
  ·rename_i x e
   cases h
   simp only [List.map,gf,TV.av,TV.gj];exact ⟨_,nH e,rfl⟩
  ·exact h.elim
 ·cases h;rfl
 ·cases h;rfl
 ·obtain ⟨y,e,rfl⟩:=pb h
  simp only [List.map,gf,TV.av,TV.gj];exact ⟨y.av,by simp [e],rfl⟩
 ·split at h
  ·rename_i n e
   obtain ⟨e0,h1,rfl⟩:=db h
   obtain ⟨rfl,e1,e2⟩:=eJ.yr e
   have h1:=kf.1 h1
   simp only [List.map,gf,TV.av,aN]
   have e0:=ay e0
   exact ⟨e0.symm,e0.symm,by intro x hx;obtain ⟨y,_,rfl⟩:=aT.1 hx;rw [e0];exact (eJ.mJ _ y).2,h1.1,h1.2,by rw [e1,e0]⟩
  ·exact h.elim
 ·obtain ⟨h1,rfl⟩:=h
  have h1:=kf.1 h1
  simp only [List.map,gf,TV.av,iE,aN]
  exact ⟨rfl,h1.1,h1.2,by simp [eJ.size];intro _ _;rfl⟩
 ·obtain ⟨e0,h1,rfl⟩:=db h
  have h1:=kf.1 h1
  have e0:=ay e0
  simp only [List.map,gf,TV.av,aN]
  exact ⟨e0.symm,by intro x hx;obtain ⟨y,_,rfl⟩:=aT.1 hx;rw [e0];exact (eJ.mJ _ y).2,h1.1,h1.2,by rw [e0]⟩
 ·obtain ⟨h1,rfl⟩:=h
  have h1:=kf.1 h1
  simp only [List.map,gf,TV.av,iE]
  exact ⟨h1.1,h1.2,by simp [eJ.size];intro _ _;rfl⟩
 ·obtain ⟨h1,rfl⟩:=h;exact ⟨mE.1 h1,rfl⟩
 ·cases h;simp only [List.map,gf,TV.av,aN]
 ·split at h
  ·rename_i s i t l k n e
   obtain ⟨e1,h1,rfl⟩:=db h
   have e1:=ay e1
   have h1:=kv.1 h1
   simp only [List.map,gf,TV.av,TV.iN e,aN]
   exact ⟨e1.symm,h1.1,by omega,trivial⟩
  ·exact h.elim
 ·cases h;rfl
 ·split at h
  ·rename_i s n agg i s' o t l _ x e
   obtain ⟨e1,h1,rfl⟩:=db h
   simp only [ae,aB] at e1 h1
   have e2:=ay e1.1
   have e3:=ay e1.2
   simp only [List.map,gf,TV.av]
   refine ⟨t.av l[i],_,e2,e3.symm,by simp [aE h1],?_,rfl⟩
   have:=xK (eJ.vD t _) e
   rw [eJ.A4,aG,aE h1] at this
   exact this
  ·exact h.elim
 ·split at h
  ·rename_i s n i s' o t l x _ y e
   split at h
   ·rename_i _ z e'
    obtain ⟨e1,h1,rfl⟩:=db h
    simp only [ae,aB] at e1 h1
    obtain ⟨⟨⟨e2,e3⟩,e4⟩,e5⟩:=e1
    have e2:=ay e2
    have e3:=ay e3
    have e5:=ay e5
    have:=zK (eJ.vD t _) e4 e
    rw [eJ.A4,aG,aE h1,←eJ.C3 e'] at this
    simp only [List.map,gf,TV.av]
    refine ⟨t.av l[i],_,e2,e3.symm,by simp [aE h1],TV.mo _ e4,by rw [TV.kb _ e4,aN];exact e5,this,?_⟩
    rw [List.map_set,e3]
   ·exact h.elim
  ·exact h.elim
 ·obtain ⟨e0,h⟩:=db h;cases h
  have e0:=ay e0
  simp only [List.map,gf,TV.av]
  exact ⟨e0.symm,by rw [e0]⟩
 ·split at h
  ·rename_i n e
   obtain ⟨e0,h1,rfl⟩:=db h
   obtain ⟨rfl,e1,e2⟩:=eJ.yr e
   have h1:=kf.1 h1
   simp only [List.map,gf,TV.av,aN]
   have e0:=ay e0
   exact ⟨e0.symm,e0.symm,h1.1,h1.2,by rw [e1,e0]⟩
  ·exact h.elim
 ·split at h
  ·rename_i n e
   obtain ⟨e0,h1,rfl⟩:=db h
   obtain ⟨rfl,e1,e2⟩:=eJ.yr e
   have h1:=kf.1 h1
   simp only [List.map,gf,TV.av,aN]
   have e0:=ay e0
   exact ⟨e0.symm,e0.symm,h1.1,h1.2,by rw [e1,e0]⟩
  ·exact h.elim
 ·split at h
  ·rename_i e
   obtain ⟨h1,rfl⟩:=h
   have h1:=kv.1 h1
   simp only [List.map,gf,TV.av,TV.iN e]
   exact ⟨h1.1,h1.2,trivial⟩
  ·exact h.elim
 ·split at h
  ·rename_i x hx
   obtain ⟨e1,h1,rfl⟩:=db h
   simp only [ae,aB] at e1 h1
   obtain ⟨⟨e2,e3⟩,e4⟩:=e1
   have e2:=ay e2
   have e3:=ay e3
   have e4:=ay e4
   subst e3;subst e4
   have hx:=vm hx h1
   simp only [List.map,gf,TV.av]
   refine ⟨x.av,e2,?_,rfl⟩
   simp [gS,TV.gj,hx]
  ·exact h.elim
 ·cases h
  rename_i l c
  have hc:((c.toNat:Int).toNat).toUInt8=c:=by simp
  simp only [List.map,gf,TV.av,iE,fQ,hc,tU]
 ·exact h.elim
end Go.Eng
namespace Go.Eng
inductive TK where
 | k (x:K)
 | bl (t:eJ) (n:Nat)
 | blt (t:eJ) (n k:Nat)
 | bd (z:List TV) (pl:List (Nat × Nat))
 | al (m:Nat) (z:List TV) (ts:List (Nat × (Nat × Nat)))
 | mk (d mZ:Nat) (t:eJ) (z:t.El)
 | nl (t:eJ) (d:Nat)
 | yn (m:Nat) (ts:List (Nat × (Nat × eJ)))
 | pF (m o n:Nat) (ts:List (Nat × (Nat × eJ)))
abbrev As (ts:List (Nat × (Nat × eJ))):List (Nat × (Nat × Nat)):=ts.map fun t=>(t.1,t.2.1,t.2.2.size)
def sr (cs:List TV):List (Nat × (Nat × eJ))→List TV
 | []=>cs
 | t :: ts=>(sr cs ts).set t.1 (.sl t.2.2 [])
def isNil:Option TV→Bool
 | some (.c (.slice none 0 0))=>true
 | _=>false
def vV (cs:List TV):List (Nat × (Nat × eJ))→Bool
 | []=>true
 | t :: ts=>isNil cs[t.1]?&&vV cs ts
theorem so {cs:List TV}:∀{ts:List (Nat × (Nat × eJ))},vV cs ts=true→(∀t∈As ts,(cs.map TV.av)[t.1]?=some .nil)∧(sr cs ts).map TV.av=kQ (cs.map TV.av) (As ts)
 | [],_=>⟨fun _ h=>(by cases h),rfl⟩
 | t :: ts,h=>by
  simp only [vV,ae] at h
  obtain ⟨h1,h3⟩:=h
  obtain ⟨h4,h5⟩:=so h3
  refine ⟨fun u hu=>?_,?_⟩
  ·rcases bq.1 hu with rfl | hu
   ·unfold isNil at h1
    split at h1
    ·rename_i e;rw [aL,e];rfl
    ·cases h1
   ·exact h4 u hu
  ·simp only [sr,kQ,List.map_set,h5,ak];rfl
def TK.erase:TK→K
 | .k x=>x
 | .bl t n => .bl t.size n
 | .blt t n d => .blt t.size n d
 | .bd z pl => .bd (TV.yq z) pl
 | .al m z ts => .al m (TV.yq z) ts
 | .mk d b t z => .mk d t.size b (t.av z)
 | .nl t d => .nl d t.size
 | .yn m ts => .yn m (As ts)
 | .pF m o n ts => .pF m o n (As ts)
inductive nk where
 | s (t:Nat)
 | c (x:TV)
 | g (n:Nat)
def nk.erase:nk→eB
 | .s t => .s t
 | .c x => .c x.av
 | .g n => .g n
structure py where
 k:TK
 rs:List nk
 ds:List Nat
 gd:Option (Nat × Bool):=none
def py.erase (m:py):ov:=⟨m.k.erase,m.rs.map nk.erase,m.ds,m.gd⟩
inductive TM where
 | skip
 | fK (ops:List py)
 | seq (a:TM) (cd:Option (List Nat)) (b:TM)
 | cond (x:nk) (G:List (Nat × Gh)) (a b:TM)
 | block (id:Nat) (G:List (Nat × Gh)) (b:TM)
 | loop (cd:List Nat) (G:List (Nat × Gh)) (b:TM)
 | exit (id:Nat)
 | ret
 | Bp (b:TM)
 | Bo (b:TM)
 | AP (l:Nat) (cd:List Nat) (G:List (Nat × Gh)) (r b:TM)
def TM.erase:TM→M
 | .skip => .skip
 | .fK ops => .fK (ops.map py.erase)
 | .seq a _ b => .seq a.erase b.erase
 | .cond x G a b => .cond x.erase G a.erase b.erase
 | .block id G b => .block id G b.erase
 | .loop cd G b => .loop cd G b.erase
 | .exit id => .exit id
 | .ret => .ret
 | .Bp b => .Bp b.erase
 | .Bo b => .Bo b.erase
 | .AP l cd G r b => .AP l cd G r.erase b.erase
abbrev fi:=List TV→kT
structure eo where
 fs:Nat→fi × dq
 gl:Nat→TV
def fi.fs (c:fi × dq):FS:=⟨fun ins outs=>∃ti gW,ins=ti.map TV.av∧outs=gW.map TV.av∧(c.1 ti).holds gW,c.2⟩
def eo.env (E:eo):Env:=⟨fun n=>fi.fs (E.fs n),fun n=>(E.gl n).av⟩
abbrev TS:=Nat→TV
abbrev TS.av (τ:TS):Sg:=fun k=>(τ k).av
def uw (τ:TS):List Nat→List TV→TS
 | t :: ts,x :: xs=>fun k=>cond (Nat.beq k t) x (uw τ ts xs k)
 | _,_=>τ
def dT (cd:List Nat) (jT:List TV):TS:=uw (fun _ => .dead) cd jT
theorem rC (τ:TS):∀(ts:List Nat) (xs:List TV),(uw τ ts xs).av=cQ τ.av ts (xs.map TV.av)
 | t :: ts,x :: xs=>by
  funext k
  simp only [TS.av,uw,ak,cQ,dJ]
  rw [←rC τ ts xs]
  cases h:Nat.beq k t with
  | true=>rw [ao (ay h)];rfl
  | false=>rw [ah (Nat.ne_of_beq_eq_false h)];rfl
 | [],_=>rfl
 | _ :: _,[]=>rfl
theorem nQ (cd:List Nat) (jT:List TV):(dT cd jT).av=head cd (jT.map TV.av):=rC _ cd jT
def nk.ev (E:eo) (τ:TS):nk→TV
 | .s t=>τ t
 | .c x=>x
 | .g n=>E.gl n
theorem nk.Gc (E:eo) (τ:TS) (x:nk):x.erase.ev E.env τ.av=(x.ev E τ).av:=by cases x <;> rfl
def CS.Cs (c:CS) (vs:List TV):List TV :=
 match c.ref with
 | some (i,_)=>(vs.take c.n).set i (vs.getD (c.n+(c.new.map (·.2)).toList.length) .dead)
 | none=>vs.take c.n
def CS.B5 (c:CS) (outs:List TV):TV :=
 match Nat.beq c.cS 1 with
 | true=>match c.new with
  | some _ => .pt
  | none=>outs.headD .dead
 | false => .tu ((outs.take c.cS).mapIdx fun i x=>cond (c.new.any (·.1 == i)) .pt x)
def CS.Bw (c:CS) (vs:List TV):Bool :=
 match c.ref with
 | some (i,_)=>match vs[i]? with
  | some .pt=>true
  | _=>false
 | none=>true
def CS.EU (c:CS) (outs:List TV):List TV:=c.B5 outs :: (outs.drop c.cS++c.lT.map fun _ => .dead)
def Dj (C:fi) (c:CS) (vs:List TV):kT :=
 match c.Bw vs with
 | true=>match C (c.Cs vs) with
  | .ok outs=>gI (Nat.beq outs.length (c.cS+c.jE.length)) (.ok (c.EU outs))
  | .fJ p outs=>gI (Nat.beq outs.length (c.cS+c.jE.length)) (.fJ p (c.EU outs))
  | .err => .err
 | false => .err
def D4 (cS:Nat) (r:kT):kT :=
 match r with
 | .ok outs=>gI (Nat.beq outs.length cS) (.ok [cond (Nat.beq cS 1) (outs.headD .dead) (.tu outs)])
 | .fJ p outs=>gI (Nat.beq outs.length cS) (.fJ p [cond (Nat.beq cS 1) (outs.headD .dead) (.tu outs)])
 | .err => .err
def xJ (C:fi) (n cS i s:Nat) (vs:List TV):kT :=
 match vs[n]?,vs[i]? with
 | some (.sl t l),some .pt=>gI (Nat.beq s t.size) (D4 cS (C ((vs.take n).set i (.sl t l))))
 | _,_ => .err
def xI (C:fi) (cS i s:Nat) (vs:List TV):kT :=
 match vs[i]? with
 | some (.sl t [])=>gI (Nat.beq s t.size) (D4 cS (C vs))
 | _ => .err
def TV.Qp:TV→Bool
 | .u8 _=>true
 | .u16 _=>true
 | .u32 _=>true
 | .u64 _=>true
 | .i _ _=>true
 | .b _=>true
 | .s _=>true
 | .c _=>true
 | _=>false
def vn:List TV→Bool
 | []=>true
 | x :: r=>x.Qp&&vn r
def IX (cS:Nat) (r:kT):kT :=
 match r with
 | .ok outs=>gI (Nat.beq outs.length cS&&vn outs) (.ok [cond (Nat.beq cS 1) (outs.headD .dead) (.tu outs)])
 | .fJ p outs=>gI (Nat.beq outs.length cS&&vn outs) (.fJ p [cond (Nat.beq cS 1) (outs.headD .dead) (.tu outs)])
 | .err => .err
def xE (C:fi) (n cS i:Nat) (vs:List TV):kT :=
 match vs[n]?,vs[i]? with
 | some (.ag cs),some .pt=>IX cS (C ((vs.take n).set i (.ro (.ag cs))))
 | _,_ => .err
def uv (t:eJ) (vs rest:List TV):kT :=
 match t.LX vs with
 | some l => .ok (.sl t l :: rest)
 | none => .err
def ux (E:eo) (k:TK) (vs:List TV):kT :=
 match k with
 | .k (.call f c)=>Dj (E.fs f).1 c vs
 | .k (.jK f n cS i _ s)=>xJ (E.fs f).1 n cS i s vs
 | .k (.mq f _ cS i s)=>xI (E.fs f).1 cS i s vs
 | .k (.lj f n cS i _)=>xE (E.fs f).1 n cS i vs
 | .k k=>GI k vs
 | .bl t n=>gI (Nat.beq vs.length n) (uv t vs [])
 | .blt t n _=>gI (Nat.beq vs.length (n+1)) (uv t (vs.take n) [.dead])
 | .bd z pl=>match zf z pl vs with
  | some cs => .ok [.ag cs]
  | none => .err
 | .al _ z ts => .ok (.pt :: .ag z :: ts.map fun _ => .dead)
 | .mk _ mZ t z=>match vs with
  | [.i .i64 l,.i .i64 c,_] => .fJ (Hh l c mZ) [.sl t (List.replicate l.toNat z),.dead]
  | _ => .err
 | .nl t _=>match vs with
  | [_] => .ok [.sl t [],.dead]
  | _ => .err
 | .yn _ ts=>match vs with
  | x :: _=>gI (x.plain&&vV x.cells ts) (.ok (.pt :: .ag (sr x.cells ts) :: ts.map fun _ => .dead))
  | _ => .err
 | .pF _ o n ts=>match vs with
  | .pt :: .ag cs :: x :: _=>gI (x.plain&&Nat.beq x.cells.length n&&Nat.ble (o+n) cs.length&&vV (mP cs o x.cells) ts) (.ok (.ag (sr (mP cs o x.cells) ts) :: ts.map fun _ => .dead))
  | _ => .err
def Ay:List TV→Option Bool
 | []=>none
 | x :: r=>match x.Gf,Ay r with
  | none,q=>q
  | some p,none=>some p
  | some p,some q=>some (p&&q)
def xB (c:Bool) (q:Option Bool) (r:kT):kT :=
 match r,q with
 | .ok ws,none => .ok (ws.map (.gd c))
 | .ok ws,some q => .fJ (!c || q) (ws.map (.gd c))
 | .fJ p ws,none => .fJ (!c || p) (ws.map (.gd c))
 | .fJ p ws,some q => .fJ (!c || (q&&p)) (ws.map (.gd c))
 | .err,_ => .err
def vd (τ:TS) (t:Nat) (b:Bool):Option Bool :=
 match τ t with
 | .b x=>some (cond b x (!x))
 | .gd q (.b x)=>some (q&&cond b x (!x))
 | _=>none
def Hl (n:Nat) (r:kT):kT :=
 match r with
 | .ok ws=>gI (Nat.beq ws.length n) (.ok ws)
 | .fJ p ws=>gI (Nat.beq ws.length n) (.fJ p ws)
 | .err => .err
def Dw (k:TK) (vs:List TV):List TV :=
 match k with
 | .k .pick=>match vs with
  | x :: r=>x.bare :: r
  | []=>[]
 | _=>vs.map TV.bare
def Ia (k:TK) (vs:List TV):Option Bool :=
 match k with
 | .k .pick=>match vs with
  | x :: _=>x.Gf
  | []=>none
 | _=>Ay vs
def stepT (E:eo) (m:py) (τ:TS):kT :=
 match m.gd with
 | none=>Hl m.ds.length (ux E m.k (m.rs.map (nk.ev E τ)))
 | some (t,b)=>match vd τ t b with
  | some c=>Hl m.ds.length (xB c (Ia m.k (m.rs.map (nk.ev E τ))) (ux E m.k (Dw m.k (m.rs.map (nk.ev E τ)))))
  | none => .err
section
variable {R:Type}
def runT (E:eo):List py→TS→(TS→Option R)→Option R
 | [],τ,K=>K τ
 | m :: ms,τ,K=>match stepT E m τ with
  | .ok ws=>runT E ms (uw τ m.ds ws) K
  | .fJ p ws=>ck p (runT E ms (uw τ m.ds ws) K)
  | .err=>none
def vK (cd:Option (List Nat)) (τ:TS):TS :=
 match cd with
 | none=>τ
 | some ks=>dT ks (ks.map τ)
abbrev fT (R:Type):=MX→TS→Option R
def iw (f:TS→fT R→Option R) (cd:Option (List Nat)) (K:fT R):fT R:=fun e τ =>
 match e with
 | .normal=>f (vK cd τ) K
 | e=>K e τ
def er (id:Nat) (K:fT R):fT R:=fun e τ =>
 match e with
 | .exit j=>match Nat.beq j id with
  | true=>K .normal τ
  | false=>K (.exit j) τ
 | e=>K e τ
def oz:MX→Bool
 | .normal=>true
 | _=>false
def uV (l:Nat):MX→Bool
 | .exit j=>Nat.beq j (gid l)
 | _=>false
def kI (f:TS→fT R→Option R) (tr:MX→Bool) (cd:List Nat):Nat→TS→fT R→Option R
 | 0,_,_=>none
 | n+1,τ,K=>f τ fun e jz =>
  match tr e with
  | true=>kI f tr cd n (dT cd (cd.map jz)) K
  | false=>K e jz
open Classical in
noncomputable def Hk (g:Nat→Option R):Option R:=if h:∃n r,g n=some r then g h.choose else none
noncomputable def gx (f:TS→fT R→Option R) (tr:MX→Bool) (cd:List Nat) (τ:TS) (K:fT R):Option R:=Hk fun n=>kI f tr cd n τ K
noncomputable def B8 (f:TS→fT R→Option R) (cd:List Nat) (τ:TS) (K:fT R):Option R:=gx f oz cd (dT cd (cd.map τ)) K
noncomputable def kg (f:TS→fT R→Option R) (tr:MX→Bool) (cd:List Nat) (K:fT R):fT R:=fun e τ =>
 match tr e with
 | true=>gx f tr cd (dT cd (cd.map τ)) K
 | false=>K e τ
noncomputable def gY (R:Type) (E:eo) (m:TM):TS→fT R→Option R :=
 TM.rec (motive:=fun _=>TS→fT R→Option R)
  (fun τ K=>K .normal τ)
  (fun ops τ K=>runT E ops τ (K .normal))
  (fun _ cd _ fa fb τ K=>fa τ (iw fb cd K))
  (fun x _ _ _ fa fb τ K=>match x.ev E τ with
   | .b t=>cond t (fa τ K) (fb τ K)
   | _=>none)
  (fun id _ _ f τ K=>f τ (er id K))
  (fun cd _ _ f τ K=>B8 f cd τ K)
  (fun id τ K=>K (.exit id) τ)
  (fun τ K=>K .ret τ)
  (fun _ f=>f)
  (fun _ f=>f)
  (fun l cd _ _ _ fr fb τ K=>fb τ (kg fr (uV l) cd K)) m
noncomputable def ev (R:Type) (E:eo) (m:TM):TS→fT R→Option R :=
 TM.rec (motive:=fun _=>TS→fT R→Option R)
  (fun τ K=>K .normal τ)
  (fun ops τ K=>runT E ops τ (K .normal))
  (fun _ cd b fa fb τ K=>match cd with
   | none=>fa τ (iw fb none K)
   | some ks=>fa τ (iw (gY R E b) (some ks) K))
  (fun x _ _ _ fa fb τ K=>match x.ev E τ with
   | .b t=>cond t (fa τ K) (fb τ K)
   | _=>none)
  (fun id _ _ f τ K=>f τ (er id K))
  (fun cd _ b _ τ K=>B8 (gY R E b) cd τ K)
  (fun id τ K=>K (.exit id) τ)
  (fun τ K=>K .ret τ)
  (fun _ f=>f)
  (fun _ f=>f)
  (fun l cd _ r _ _ fb τ K=>fb τ (kg (gY R E r) (uV l) cd K)) m
theorem gQ (E:eo) (m:TM):gY R E m=ev R E m:=by
 induction m with
 | skip=>rfl
 | fK ops=>rfl
 | seq a cd b wk rG =>
  funext τ K
  show gY R E a τ (iw (gY R E b) cd K)=(match cd with | none=>ev R E a τ (iw (ev R E b) none K) | some ks=>ev R E a τ (iw (gY R E b) (some ks) K))
  cases cd with
  | none=>rw [wk,rG]
  | some ks=>rw [wk]
 | cond x G a b wk rG =>
  funext τ K
  show (match x.ev E τ with | .b t=>cond t (gY R E a τ K) (gY R E b τ K) | _=>none)=(match x.ev E τ with | .b t=>cond t (ev R E a τ K) (ev R E b τ K) | _=>none)
  rw [wk,rG]
 | block id G b ih =>
  funext τ K
  show gY R E b τ (er id K)=ev R E b τ (er id K)
  rw [ih]
 | loop cd G b ih=>rfl
 | exit id=>rfl
 | ret=>rfl
 | Bp b ih=>exact ih
 | Bo b ih=>exact ih
 | AP l cd G r b Lt rG =>
  funext τ K
  show gY R E b τ (kg (gY R E r) (uV l) cd K)=ev R E b τ (kg (gY R E r) (uV l) cd K)
  rw [rG]
def Iq (f:TS→fT R→Option R):Prop:=∀τ,∃p:Option (MX × TS),∀K:fT R,f τ K=p.bind fun q=>K q.1 q.2
theorem iT {g:Nat→Option R} (hm:∀n r,g n=some r→g (n+1)=some r) {r:R}:Hk g=some r ↔ ∃n,g n=some r:=by
 have up:∀n k r,g n=some r→g (n+k)=some r:=by
  intro n k
  induction k with
  | zero=>exact fun r h=>h
  | succ k ih=>exact fun r h=>hm _ _ (ih r h)
 unfold Hk
 constructor
 ·intro h
  split at h
  ·rename_i hx;exact ⟨_,h⟩
  ·cases h
 ·rintro ⟨n,hn⟩
  have hx:∃n r,g n=some r:=⟨n,r,hn⟩
  rw [dif_pos hx]
  obtain ⟨r',s8⟩:=hx.choose_spec
  rw [s8]
  have h1:=up _ n _ s8
  have h2:=up _ hx.choose _ hn
  rw [Nat.add_comm] at h2
  rw [h1] at h2
  exact h2
theorem zS {g g':Nat→Option R} (hm:∀n r,g n=some r→g (n+1)=some r) (lE:∀n r,g' n=some r→g' (n+1)=some r) (h:∀r,(∃n,g n=some r) ↔ ∃n,g' n=some r):Hk g=Hk g':=by
 cases e:Hk g with
 | some r=>exact ((iT lE).2 ((h r).1 ((iT hm).1 e))).symm
 | none =>
  cases e':Hk g' with
  | none=>rfl
  | some r =>
   have:=(iT hm).2 ((h r).2 ((iT lE).1 e'))
   rw [e] at this;cases this
theorem gT {f:TS→fT R→Option R} (hf:Iq f) {tr:MX→Bool} {cd:List Nat} {K:fT R}:∀(n:Nat) (τ:TS) (r:R),kI f tr cd n τ K=some r→kI f tr cd (n+1) τ K=some r
 | 0,_,_,h=>by cases h
 | n+1,τ,r,h=>by
  obtain ⟨p,hp⟩:=hf τ
  rw [kI] at h ⊢
  rw [hp] at h ⊢
  cases p with
  | none=>cases h
  | some q =>
   obtain ⟨e,jz⟩:=q
   simp only [Option.bind_some] at h ⊢
   cases ht:tr e with
   | true=>rw [ht] at h;exact gT hf n _ r h
   | false=>rw [ht] at h;exact h
theorem B7 {f:TS→fT R→Option R} (hf:Iq f) (tr:MX→Bool) (cd:List Nat) (τ:TS) (K:fT R):gx f tr cd τ K=f τ (kg f tr cd K):=by
 obtain ⟨p,hp⟩:=hf τ
 rw [hp]
 have hN:∀n,kI f tr cd (n+1) τ K=p.bind fun q=>match tr q.1 with | true=>kI f tr cd n (dT cd (cd.map q.2)) K | false=>K q.1 q.2:=by
  intro n;rw [kI,hp]
 cases p with
 | none =>
  cases e:gx f tr cd τ K with
  | none=>rfl
  | some r =>
   obtain ⟨n,hn⟩:=(iT (fun n r=>gT hf n τ r)).1 e
   cases n with
   | zero=>cases hn
   | succ n=>rw [hN] at hn;cases hn
 | some q =>
  obtain ⟨e,jz⟩:=q
  simp only [Option.bind_some] at hN ⊢
  cases ht:tr e with
  | true =>
   simp only [kg,ht] at hN ⊢
   refine zS (fun n r=>gT hf n τ r) (fun n r=>gT hf n _ r) fun r=>⟨?_,?_⟩
   ·rintro ⟨n,hn⟩
    cases n with
    | zero=>cases hn
    | succ n=>rw [hN] at hn;exact ⟨n,hn⟩
   ·rintro ⟨n,hn⟩
    exact ⟨n+1,by rw [hN];exact hn⟩
  | false =>
   simp only [kg,ht] at hN ⊢
   cases e':K e jz with
   | none =>
    cases e2:gx f tr cd τ K with
    | none=>rfl
    | some r =>
     obtain ⟨n,hn⟩:=(iT (fun n r=>gT hf n τ r)).1 e2
     cases n with
     | zero=>cases hn
     | succ n=>rw [hN,e'] at hn;cases hn
   | some r=>exact (iT (fun n r=>gT hf n τ r)).2 ⟨1,by rw [hN,e']⟩
theorem r8 (E:eo):∀(ms:List py) (τ:TS),∃p:Option TS,∀K:TS→Option R,runT E ms τ K=p.bind K
 | [],τ=>⟨some τ,fun K=>rfl⟩
 | m :: ms,τ=>by
  simp only [runT]
  cases h:stepT E m τ with
  | ok ws=>exact r8 E ms _
  | fJ p ws =>
   obtain ⟨q,hq⟩:=r8 E ms (uw τ m.ds ws)
   cases p with
   | true=>exact ⟨q,fun K=>hq K⟩
   | false=>exact ⟨none,fun K=>rfl⟩
  | err=>exact ⟨none,fun K=>rfl⟩
noncomputable def pM (P:TS→Option (MX × TS)) (tr:MX→Bool) (cd:List Nat):Nat→TS→Option (MX × TS)
 | 0,_=>none
 | n+1,τ=>(P τ).bind fun q=>match tr q.1 with
  | true=>pM P tr cd n (dT cd (cd.map q.2))
  | false=>some q
open Classical in
theorem tJ {f:TS→fT R→Option R} (hf:Iq f) (tr:MX→Bool) (cd:List Nat):Iq (gx f tr cd):=by
 intro τ
 let P:=fun τ=>(hf τ).choose
 have hP:∀τ K,f τ K=(P τ).bind fun q=>K q.1 q.2:=fun τ=>(hf τ).choose_spec
 have hI:∀n τ K,kI f tr cd n τ K=(pM P tr cd n τ).bind fun q=>K q.1 q.2:=by
  intro n
  induction n with
  | zero=>exact fun _ _=>rfl
  | succ n ih =>
   intro τ K
   rw [kI,pM,hP]
   cases P τ with
   | none=>rfl
   | some q =>
    simp only [Option.bind_some]
    cases tr q.1 with
    | true=>exact ih _ K
    | false=>rfl
 have Kj:∀n τ q,pM P tr cd n τ=some q→pM P tr cd (n+1) τ=some q:=by
  intro n
  induction n with
  | zero=>intro _ _ h;cases h
  | succ n ih =>
   intro τ q h
   rw [pM] at h ⊢
   cases e:P τ with
   | none=>rw [e] at h;cases h
   | some q' =>
    rw [e] at h
    simp only [Option.bind_some] at h ⊢
    cases ht:tr q'.1 with
    | true=>rw [ht] at h;exact ih _ q h
    | false=>rw [ht] at h;exact h
 by_cases hx:∃n q,pM P tr cd n τ=some q
 ·obtain ⟨n,q,hq⟩:=hx
  have za:∀k,pM P tr cd (n+k) τ=some q:=by
   intro k
   induction k with
   | zero=>exact hq
   | succ k ih=>exact Kj _ _ _ ih
  refine ⟨some q,fun K=>?_⟩
  simp only [Option.bind_some]
  cases e:K q.1 q.2 with
  | some r=>exact (iT (fun n r=>gT hf n τ r)).2 ⟨n,by rw [hI,hq];exact e⟩
  | none =>
   cases e':gx f tr cd τ K with
   | none=>rfl
   | some r =>
    obtain ⟨m,hm⟩:=(iT (fun n r=>gT hf n τ r)).1 e'
    have:kI f tr cd (m+n) τ K=some r:=by
     clear e e'
     induction n with
     | zero=>exact hm
     | succ n ih =>
      have up:∀k,kI f tr cd (m+k) τ K=some r:=by
       intro k
       induction k with
       | zero=>exact hm
       | succ k ih=>exact gT hf _ _ _ ih
      exact up _
    rw [hI,Nat.add_comm,za] at this
    simp only [Option.bind_some] at this
    rw [e] at this;cases this
 ·refine ⟨none,fun K=>?_⟩
  cases e':gx f tr cd τ K with
  | none=>rfl
  | some r =>
   obtain ⟨m,hm⟩:=(iT (fun n r=>gT hf n τ r)).1 e'
   rw [hI] at hm
   cases e:pM P tr cd m τ with
   | none=>rw [e] at hm;cases hm
   | some q=>exact absurd ⟨m,q,e⟩ hx
theorem zR {f:TS→fT R→Option R} (hf:Iq f) (cd:List Nat):Iq (B8 f cd):=fun τ=>tJ hf oz cd _
theorem ye (E:eo) (m:TM):Iq (gY R E m):=by
 induction m with
 | skip=>exact fun τ=>⟨some (.normal,τ),fun K=>rfl⟩
 | fK ops =>
  intro τ
  obtain ⟨p,hp⟩:=r8 (R:=R) E ops τ
  exact ⟨p.map fun τ=>(.normal,τ),fun K=>by rw [Option.bind_map];exact hp _⟩
 | seq a cd b wk rG =>
  intro τ
  obtain ⟨p,hp⟩:=wk τ
  cases p with
  | none=>exact ⟨none,fun K=>hp _⟩
  | some q =>
   obtain ⟨e,jz⟩:=q
   cases e with
   | normal =>
    obtain ⟨p',jS⟩:=rG (vK cd jz)
    exact ⟨p',fun K=>(hp _).trans (jS _)⟩
   | exit i=>exact ⟨some (.exit i,jz),fun K=>hp _⟩
   | ret=>exact ⟨some (.ret,jz),fun K=>hp _⟩
 | cond x G a b wk rG =>
  intro τ
  show ∃p:Option (MX × TS),∀K:fT R,(match x.ev E τ with | .b t=>cond t (gY R E a τ K) (gY R E b τ K) | _=>none)=_
  split
  ·rename_i t _
   cases t with
   | true=>exact wk τ
   | false=>exact rG τ
  ·exact ⟨none,fun K=>rfl⟩
 | block id G b ih =>
  intro τ
  obtain ⟨p,hp⟩:=ih τ
  cases p with
  | none=>exact ⟨none,fun K=>hp _⟩
  | some q =>
   obtain ⟨e,jz⟩:=q
   cases e with
   | normal=>exact ⟨some (.normal,jz),fun K=>hp _⟩
   | exit i =>
    cases hb:Nat.beq i id with
    | true=>exact ⟨some (.normal,jz),fun K=>(hp _).trans (by simp only [Option.bind_some,er,hb])⟩
    | false=>exact ⟨some (.exit i,jz),fun K=>(hp _).trans (by simp only [Option.bind_some,er,hb])⟩
   | ret=>exact ⟨some (.ret,jz),fun K=>hp _⟩
 | loop cd G b ih=>exact zR ih cd
 | exit id=>exact fun τ=>⟨some (.exit id,τ),fun K=>rfl⟩
 | ret=>exact fun τ=>⟨some (.ret,τ),fun K=>rfl⟩
 | Bp b ih=>exact ih
 | Bo b ih=>exact ih
 | AP l cd G r b Lt rG =>
  intro τ
  obtain ⟨p,hp⟩:=rG τ
  cases p with
  | none=>exact ⟨none,fun K=>hp _⟩
  | some q =>
   obtain ⟨e,jz⟩:=q
   cases ht:uV l e with
   | true =>
    obtain ⟨p',jS⟩:=tJ Lt (uV l) cd (dT cd (cd.map jz))
    exact ⟨p',fun K=>(hp _).trans (by simp only [Option.bind_some,kg,ht];exact jS K)⟩
   | false=>exact ⟨some (e,jz),fun K=>(hp _).trans (by simp only [Option.bind_some,kg,ht])⟩
theorem fD (E:eo) (tr:MX→Bool) (cd:List Nat) (b:TM) (τ:TS) (K:fT R) :
  gx (gY R E b) tr cd τ K=ev R E b τ (kg (gY R E b) tr cd K):=by rw [B7 (ye E b),gQ]
end
end Go.Eng
namespace Go.Eng
theorem Ek (c:CS) (vs:List TV):(c.Cs vs).map TV.av=c.ins (vs.map TV.av):=by
 unfold CS.Cs CS.ins
 cases c.ref with
 | none=>simp [List.map_take]
 | some q =>
  simp only [List.map_set,List.map_take]
  congr 1
  simp only [aG,aL]
  cases vs[c.n+(c.new.map (·.2)).toList.length]? <;> rfl
theorem B4 (c:CS) (outs:List TV):(c.B5 outs).av=c.main (outs.map TV.av):=by
 unfold CS.B5 CS.main
 cases h:Nat.beq c.cS 1 with
 | true =>
  rw [ao (ay h)]
  cases c.new with
  | some q=>rfl
  | none=>cases outs <;> rfl
 | false =>
  rw [ah (Nat.ne_of_beq_eq_false h)]
  simp only [TV.av,TV.gj,AV.tu.injEq]
  apply List.ext_getElem?
  intro i
  simp only [aL,List.getElem?_mapIdx,aR]
  split
  ·cases outs[i]? with
   | none=>rfl
   | some x =>
    simp only [Option.map_some,ax]
    cases h:(c.new.any fun q=>q.1 == i) <;> simp
    rfl
  ·rfl
section
variable {E:eo}
theorem Di {f:Nat} {c:CS} {vs ws:List TV} (h:(Dj (E.fs f).1 c vs).holds ws):gf E.env (.call f c) (vs.map TV.av) (ws.map TV.av):=by
 unfold Dj at h
 cases hr:c.Bw vs with
 | false=>rw [hr] at h;exact h.elim
 | true =>
  rw [hr] at h
  have key:∀{outs:List TV},((E.fs f).1 (c.Cs vs)).holds outs→Nat.beq outs.length (c.cS+c.jE.length)=true→ws=c.EU outs→gf E.env (.call f c) (vs.map TV.av) (ws.map TV.av):=by
   intro outs h1 h2 h3
   subst h3
   refine ⟨?_,outs.map TV.av,⟨_,_,(Ek c vs).symm,rfl,h1⟩,by rw [aN];exact ay h2,?_⟩
   ·unfold CS.Bw at hr
    cases hc:c.ref with
    | none=>trivial
    | some q =>
     rw [hc] at hr
     simp only at hr ⊢
     split at hr
     ·rename_i e;rw [aL,e];rfl
     ·cases hr
   ·simp only [CS.EU,ak,B4,List.map_append,List.map_drop,bh]
    rfl
  simp only at h
  cases hC:(E.fs f).1 (c.Cs vs) with
  | ok outs =>
   rw [hC] at h
   obtain ⟨h1,h2⟩:=db h
   exact key (outs:=outs) (by rw [hC];rfl) h1 h2
  | fJ p outs =>
   rw [hC] at h
   obtain ⟨h1,h2⟩:=db h
   exact key (outs:=outs) (by rw [hC];exact ⟨h2.1,rfl⟩) h1 h2.2
  | err=>rw [hC] at h;exact h.elim
theorem tw {t:eJ} {vs rest ws:List TV} (h:(uv t vs rest).holds ws):∃l,l.map t.av=vs.map TV.av∧(∀x∈vs.map TV.av,x.plain=true∧x.cells.length=t.size)∧ws = .sl t l :: rest:=by
 unfold uv at h
 split at h
 ·rename_i l e
  obtain ⟨h1,h2⟩:=eJ.C2 e
  exact ⟨l,h1,h2,h⟩
 ·exact h.elim
theorem yG {C:fi} {cS:Nat} {vs ws:List TV} (h:(D4 cS (C vs)).holds ws):∃outs,(C vs).holds outs∧outs.length=cS∧ws=[cond (Nat.beq cS 1) (outs.headD .dead) (.tu outs)]:=by
 unfold D4 at h
 cases hC:C vs with
 | ok outs =>
  rw [hC] at h
  obtain ⟨h1,h2⟩:=db h
  exact ⟨outs,rfl,ay h1,h2⟩
 | fJ p outs =>
  rw [hC] at h
  obtain ⟨h1,h2⟩:=db h
  exact ⟨outs,⟨h2.1,rfl⟩,ay h1,h2.2⟩
 | err=>rw [hC] at h;exact h.elim
theorem uB {cS:Nat} (outs:List TV):(cond (Nat.beq cS 1) (outs.headD .dead) (.tu outs):TV).av=if cS=1 then (outs.map TV.av).headD .dead else .tu (outs.map TV.av):=by
 cases h:Nat.beq cS 1 with
 | true=>rw [ao (ay h)];cases outs <;> rfl
 | false=>rw [ah (Nat.ne_of_beq_eq_false h)];simp only [aj,TV.av,TV.gj]
theorem zN {f n cS i k s:Nat} {vs ws:List TV} (h:(xJ (E.fs f).1 n cS i s vs).holds ws):gf E.env (.jK f n cS i k s) (vs.map TV.av) (ws.map TV.av):=by
 unfold xJ at h
 split at h
 ·rename_i t l e1 e2
  obtain ⟨h0,h⟩:=db h
  obtain ⟨outs,h1,h2,rfl⟩:=yG h
  have h0:=ay h0
  refine ⟨l.map t.av,outs.map TV.av,by rw [aL,e1,h0];rfl,by rw [aL,e2];rfl,⟨_,outs,?_,rfl,h1⟩,by simpa using h2,by simp only [ak,au,uB]⟩
  rw [List.map_set,List.map_take,h0];rfl
 ·exact h.elim
theorem zM {f n cS i s:Nat} {vs ws:List TV} (h:(xI (E.fs f).1 cS i s vs).holds ws):gf E.env (.mq f n cS i s) (vs.map TV.av) (ws.map TV.av):=by
 unfold xI at h
 split at h
 ·rename_i t e1
  obtain ⟨h0,h⟩:=db h
  obtain ⟨outs,h1,h2,rfl⟩:=yG h
  have h0:=ay h0
  exact ⟨outs.map TV.av,by rw [aL,e1,h0];rfl,⟨vs,outs,rfl,rfl,h1⟩,by simpa using h2,by simp only [ak,au,uB]⟩
 ·exact h.elim
theorem zt:∀{l:List TV},vn l=true→∀x∈l.map TV.av,∃y,x = .v y
 | [],_,x,hx=>by cases hx
 | z :: r,h,x,hx=>by
  simp only [vn,ae] at h
  rcases bq.1 hx with rfl | hx
  ·cases z <;> first | exact ⟨_,rfl⟩ | cases h.1
  ·exact zt h.2 x hx
theorem zJ {f n cS i m:Nat} {vs ws:List TV} (h:(xE (E.fs f).1 n cS i vs).holds ws):gf E.env (.lj f n cS i m) (vs.map TV.av) (ws.map TV.av):=by
 unfold xE at h
 split at h
 ·rename_i cs e1 e2
  have key:∃outs,((E.fs f).1 ((vs.take n).set i (.ro (.ag cs)))).holds outs∧outs.length=cS∧vn outs=true∧ws=[cond (Nat.beq cS 1) (outs.headD .dead) (.tu outs)]:=by
   unfold IX at h
   cases hC:(E.fs f).1 ((vs.take n).set i (.ro (.ag cs))) with
   | ok outs =>
    rw [hC] at h
    obtain ⟨h1,h2⟩:=db h
    simp only [ae] at h1
    exact ⟨outs,rfl,ay h1.1,h1.2,h2⟩
   | fJ p outs =>
    rw [hC] at h
    obtain ⟨h1,h2⟩:=db h
    simp only [ae] at h1
    exact ⟨outs,⟨h2.1,rfl⟩,ay h1.1,h1.2,h2.2⟩
   | err=>rw [hC] at h;exact h.elim
  obtain ⟨outs,h1,h2,h3,rfl⟩:=key
  refine ⟨cs.map TV.av,outs.map TV.av,by rw [aL,e1];simp only [Option.map_some,TV.av,TV.gj],by rw [aL,e2];rfl,⟨_,outs,?_,rfl,h1⟩,by simpa using h2,zt h3,by simp only [ak,au,uB]⟩
  rw [List.map_set,List.map_take];simp only [TV.av,TV.gj]
 ·exact h.elim
theorem yD {k:TK} {vs ws:List TV} (h:(ux E k vs).holds ws):gf E.env k.erase (vs.map TV.av) (ws.map TV.av):=by
 cases k with
 | k x =>
  by_cases hc:∃f c,x = .call f c
  ·obtain ⟨f,c,rfl⟩:=hc
   exact Di h
  ·cases x
   case call f c=>exact (hc ⟨_,_,rfl⟩).elim
   case jK f n cS i k s=>exact zN h
   case mq f n cS i s=>exact zM h
   case lj f n cS i m=>exact zJ h
   all_goals exact DU _ h
 | bl t n =>
  obtain ⟨h0,h⟩:=db h
  obtain ⟨l,h1,h2,rfl⟩:=tw h
  have h0:=ay h0
  simp only [TK.erase,gf,List.map,TV.av,h1,aN]
  exact ⟨h0,h2,trivial⟩
 | blt t n d =>
  obtain ⟨h0,h⟩:=db h
  obtain ⟨l,h1,h2,rfl⟩:=tw h
  have h0:=ay h0
  simp only [TK.erase,gf,List.map,TV.av,h1,aN,←List.map_take]
  exact ⟨h0,h2,trivial⟩
 | bd z pl =>
  simp only [ux] at h
  split at h
  ·rename_i cs e
   cases h
   simp only [TK.erase,gf,List.map,TV.av,TV.gj]
   exact ⟨_,wX e,rfl⟩
  ·exact h.elim
 | al m z ts =>
  simp only [ux] at h
  cases h
  simp only [TK.erase,gf,ak,TV.av,bh]
  rfl
 | mk d b t z =>
  simp only [ux] at h
  split at h
  ·obtain ⟨h1,rfl⟩:=h
   obtain ⟨h1,h2,h3,h4⟩:=B0.1 h1
   simp only [TK.erase,gf,List.map,TV.av]
   exact ⟨(eJ.mJ _ _).1,(eJ.mJ _ _).2,h1,h2,h3,h4,by simp⟩
  ·exact h.elim
 | nl t d =>
  simp only [ux] at h
  split at h
  ·cases h;rfl
  ·exact h.elim
 | yn m ts =>
  simp only [ux] at h
  split at h
  ·obtain ⟨e,h⟩:=db h
   cases h
   simp only [ae] at e
   obtain ⟨h1,h2⟩:=so e.2
   simp only [TK.erase,gf,ak,TV.av,TV.gj,TV.kb _ e.1]
   exact ⟨TV.mo _ e.1,h1,by rw [h2];simp only [As,bh];rfl⟩
  ·exact h.elim
 | pF m o n ts =>
  simp only [ux] at h
  split at h
  ·obtain ⟨e,h⟩:=db h
   cases h
   simp only [ae] at e
   obtain ⟨⟨⟨e1,e2⟩,e3⟩,e4⟩:=e
   obtain ⟨h1,h2⟩:=so e4
   rw [mO] at h1 h2
   simp only [TK.erase,gf,ak,TV.av,TV.gj,TV.kb _ e1,aN]
   exact ⟨TV.mo _ e1,ay e2,Nat.le_of_ble_eq_true e3,h1,by rw [h2];simp only [As,bh];rfl⟩
  ·exact h.elim
theorem xj:∀{l:List TV},(∀q,Ay l=some q→q=true)→∀x∈l,∀q,x.Gf=some q→q=true
 | [],_,_,hx,_,_=>by cases hx
 | y :: r,h,x,hx,q,hq=>by
  simp only [Ay] at h
  rcases bq.1 hx with rfl | hx
  ·rw [hq] at h
   cases e:Ay r with
   | none=>rw [e] at h;exact h _ rfl
   | some p=>rw [e] at h;exact (bw.1 (h _ rfl)).1
  ·refine xj (l:=r) ?_ x hx q hq
   intro p hp
   rw [hp] at h
   cases e:y.Gf with
   | none=>rw [e] at h;exact h _ rfl
   | some p'=>rw [e] at h;exact (bw.1 (h _ rfl)).2
theorem vA {c:Bool} {q:Option Bool} {r:kT} {ws:List TV} (h:(xB c q r).holds ws) (hc:c=true):∃vs,r.holds vs∧ws=vs.map (.gd c)∧∀p,q=some p→p=true:=by
 subst hc
 cases r <;> cases q
 ·exact ⟨_,rfl,h,by simp⟩
 ·rename_i vs q
  obtain ⟨h1,rfl⟩:=h
  exact ⟨vs,rfl,rfl,by rintro _ ⟨⟩;simpa using h1⟩
 ·rename_i p vs
  obtain ⟨h1,rfl⟩:=h
  exact ⟨vs,⟨by simpa using h1,rfl⟩,rfl,by simp⟩
 ·rename_i p vs q
  obtain ⟨h1,rfl⟩:=h
  simp at h1
  exact ⟨vs,⟨h1.2,rfl⟩,rfl,by rintro _ ⟨⟩;exact h1.1⟩
 ·exact h.elim
 ·exact h.elim
theorem uk {c:Bool} {q:Option Bool} {r:kT} {ws:List TV} (h:(xB c q r).holds ws):∃vs:List TV,ws=vs.map (.gd c):=by
 cases r <;> cases q <;> first | exact ⟨_,h⟩ | exact ⟨_,h.2⟩ | exact h.elim
theorem sy {n:Nat} {r:kT} {ws:List TV} (h:(Hl n r).holds ws):r.holds ws∧ws.length=n:=by
 cases r with
 | ok vs=>obtain ⟨h1,h2⟩:=db h;cases h2;exact ⟨rfl,ay h1⟩
 | fJ p vs=>obtain ⟨h1,h2⟩:=db h;obtain ⟨h2,rfl⟩:=h2;exact ⟨⟨h2,rfl⟩,ay h1⟩
 | err=>exact h.elim
theorem Al {τ:TS} {t:Nat} {b c:Bool} (h:vd τ t b=some c):lU τ.av (some (t,b))=some c:=by
 unfold vd at h
 simp only [lU,TS.av]
 split at h
 ·rename_i x e;cases h;rw [e];cases b <;> cases x <;> rfl
 ·rename_i q x e;cases h;rw [e];cases q <;> cases b <;> cases x <;> rfl
 ·cases h
theorem Dv {k:TK} {vs:List TV} (h:∀p,Ia k vs=some p→p=true):(Dw k vs).map TV.av=vs.map TV.av:=by
 have base:(∀p,Ay vs=some p→p=true)→(vs.map TV.bare).map TV.av=vs.map TV.av:=fun h=>by
  rw [bh];exact List.map_congr_left fun x hx=>TV.zo (xj h x hx)
 unfold Ia at h
 unfold Dw
 split at h
 ·split at h
  ·simp only [ak];rw [TV.zo h]
  ·rfl
 ·exact base h
theorem vH {m:py} {τ:TS} {ws:List TV} (h:(stepT E m τ).holds ws):Fs E.env m.erase τ.av (uw τ m.ds ws).av:=by
 unfold stepT at h
 have FW:∀l:List nk,(l.map nk.erase).map (eB.ev E.env τ.av)=(l.map (nk.ev E τ)).map TV.av:=by
  intro l;simp only [bh];exact List.map_congr_left fun x _=>nk.Gc E τ x
 cases hg:m.gd with
 | none =>
  rw [hg] at h
  obtain ⟨h1,h2⟩:=sy h
  refine ⟨ws.map TV.av,?_,by simpa [py.erase] using h2,rC _ _ _⟩
  simp only [py.erase,hg,lU,FW]
  exact yD h1
 | some q =>
  obtain ⟨t,b⟩:=q
  rw [hg] at h
  simp only at h
  cases hc:vd τ t b with
  | none=>rw [hc] at h;exact h.elim
  | some c =>
   rw [hc] at h
   obtain ⟨h1,h2⟩:=sy h
   refine ⟨ws.map TV.av,?_,by simpa [py.erase] using h2,rC _ _ _⟩
   simp only [py.erase,hg,Al hc]
   cases c with
   | true =>
    obtain ⟨vs,h3,rfl,h4⟩:=vA h1 rfl
    have e1:(vs.map (TV.gd true)).map TV.av=vs.map TV.av:=by simp only [bh];exact List.map_congr_left fun x _=>rfl
    have e2:=Dv h4
    simp only [FW,e1,←e2]
    exact yD h3
   | false =>
    obtain ⟨vs,rfl⟩:=uk h1
    simp only [bh]
    apply List.ext_getElem?
    intro i
    simp only [aN] at h2
    simp only [aL]
    by_cases hi:i<vs.length
    ·rw [aE hi,aE (by omega)];rfl
    ·rw [List.getElem?_eq_none (by omega),List.getElem?_eq_none (by omega)];rfl
theorem uy {R:Type} {r:R} {K:TS→Option R}:∀{ms:List py} {τ:TS},runT E ms τ K=some r→∃jz:TS,Bq E.env (ms.map py.erase) τ.av jz.av∧K jz=some r
 | [],τ,h=>⟨τ,rfl,h⟩
 | m :: ms,τ,h=>by
  simp only [runT] at h
  cases hs:stepT E m τ with
  | ok ws =>
   rw [hs] at h
   obtain ⟨jz,h1,h2⟩:=uy h
   exact ⟨jz,⟨_,vH (ws:=ws) (by rw [hs];rfl),h1⟩,h2⟩
  | fJ p ws =>
   rw [hs] at h
   obtain ⟨hp,h⟩:=E5.1 h
   obtain ⟨jz,h1,h2⟩:=uy h
   exact ⟨jz,⟨_,vH (ws:=ws) (by rw [hs];exact ⟨hp,rfl⟩),h1⟩,h2⟩
  | err=>rw [hs] at h;cases h
theorem Bs (cd:Option (List Nat)) (τ:TS):Le (vK cd τ).av τ.av:=by
 cases cd with
 | none=>exact fun _ => .inl rfl
 | some ks =>
  intro k
  have:∀ks:List Nat,dT ks (ks.map τ) k=τ k∨dT ks (ks.map τ) k = .dead:=by
   intro ks
   induction ks with
   | nil=>exact .inr rfl
   | cons j ks ih =>
    simp only [dT,ak,uw] at ih ⊢
    cases h:Nat.beq k j with
    | true=>left;rw [ay h];rfl
    | false=>exact ih
  rcases this ks with e | e
  ·left;simp only [TS.av,vK,e]
  ·right;simp only [TS.av,vK,e];rfl
theorem qc (σ:Sg):∀cd:List Nat,Fm σ cd (cd.map σ)
 | []=>trivial
 | k :: ks=>⟨rfl,qc σ ks⟩
theorem K0 {R:Type} {r:R} {m:TM}:∀{τ:TS} {K:fT R},gY R E m τ K=some r→oo E.env m.erase (fun e σ=>∃jz:TS,σ=jz.av∧K e jz=some r) τ.av:=by
 induction m with
 | skip=>exact fun h=>⟨_,rfl,h⟩
 | fK ops =>
  intro τ K h
  obtain ⟨jz,h1,h2⟩:=uy (E:=E) h
  exact ⟨_,h1,jz,rfl,h2⟩
 | seq a cd b wk rG =>
  intro τ K h
  show oo E.env a.erase _ τ.av
  refine kY (m:=a.erase) (Q:=fun e σ=>∃jz:TS,σ=jz.av∧iw (gY R E b) cd K e jz=some r) (fun e σ q=>?_) (wk h)
  obtain ⟨jz,rfl,q⟩:=q
  cases e with
  | normal=>exact ⟨_,Bs cd jz,rG q⟩
  | exit i=>exact ⟨jz,rfl,q⟩
  | ret=>exact ⟨jz,rfl,q⟩
 | cond x G a b wk rG =>
  intro τ K h
  have h:(match x.ev E τ with | .b t=>cond t (gY R E a τ K) (gY R E b τ K) | _=>none)=some r:=h
  split at h
  ·rename_i t e
   refine .inl ⟨t,by rw [nk.Gc,e];rfl,?_,?_⟩
   ·rintro rfl;exact wk h
   ·rintro rfl;exact rG h
  ·cases h
 | block id G b ih =>
  intro τ K h
  show oo E.env b.erase _ τ.av
  refine kY (m:=b.erase) (Q:=fun e σ=>∃jz:TS,σ=jz.av∧er id K e jz=some r) (fun e σ q=>?_) (ih h)
  obtain ⟨jz,rfl,q⟩:=q
  cases e with
  | normal=>exact ⟨jz,rfl,q⟩
  | exit i =>
   simp only [er] at q ⊢
   cases hb:Nat.beq i id with
   | true=>rw [hb] at q;rw [ao (ay hb)];exact ⟨jz,rfl,q⟩
   | false=>rw [hb] at q;rw [ah (Nat.ne_of_beq_eq_false hb)];exact ⟨jz,rfl,q⟩
  | ret=>exact ⟨jz,rfl,q⟩
 | loop cd G b ih =>
  intro τ K h
  have hl:=(iT (fun n r=>gT (ye E b) n _ r)).1 h
  obtain ⟨n,hn⟩:=hl
  refine ⟨{ p:Nat × TS // kI (gY R E b) oz cd p.1 (dT cd (cd.map p.2)) K=some r },fun p=>cd.map p.1.2.av,fun p=>p.1.1,⟨(n,τ),hn⟩,qc _ cd,?_⟩
  rintro ⟨⟨n,τ⟩,hn⟩
  cases n with
  | zero=>cases hn
  | succ n =>
   simp only [kI] at hn
   have e:head cd (cd.map τ.av)=(dT cd (cd.map τ)).av:=by rw [nQ,bh];rfl
   simp only
   rw [e]
   refine kY (fun e σ q=>?_) (ih hn)
   obtain ⟨jz,rfl,q⟩:=q
   cases e with
   | normal=>exact ⟨⟨(n,jz),q⟩,Nat.lt_succ_self n,qc _ cd⟩
   | exit i=>exact ⟨jz,rfl,q⟩
   | ret=>exact ⟨jz,rfl,q⟩
 | exit id=>exact fun h=>⟨_,rfl,h⟩
 | ret=>exact fun h=>⟨_,rfl,h⟩
 | Bp b ih=>exact fun h=>ih h
 | Bo b ih=>exact fun h=>ih h
 | AP l cd G x b JX rG =>
  intro τ K h
  have key:∀{e:MX} {jz:TS},kg (gY R E x) (uV l) cd K e jz=some r→(e = .exit (gid l)∧∃n,kI (gY R E x) (uV l) cd n (dT cd (cd.map jz)) K=some r)∨(e ≠ .exit (gid l)∧K e jz=some r):=by
   intro e jz q
   simp only [kg] at q
   cases ht:uV l e with
   | true =>
    rw [ht] at q
    left
    cases e <;> simp only [uV,bk] at ht
    exact ⟨by rw [ay ht],(iT (fun n r=>gT (ye E x) n _ r)).1 q⟩
   | false =>
    rw [ht] at q
    refine .inr ⟨?_,q⟩
    rintro rfl
    simp [uV] at ht
  refine ⟨{ p:Nat × TS // kI (gY R E x) (uV l) cd p.1 (dT cd (cd.map p.2)) K=some r },fun p=>cd.map p.1.2.av,fun p=>p.1.1,?_,?_⟩
  ·refine kY (fun e σ q=>?_) (rG h)
   obtain ⟨jz,rfl,q⟩:=q
   rcases key q with ⟨rfl,n,hn⟩ | ⟨jQ,q⟩
   ·simp only [if_true]
    exact ⟨⟨(n,jz),hn⟩,qc _ cd⟩
   ·cases e with
    | exit j =>
     have:j≠gid l:=fun e=>jQ (by rw [e])
     simp only [this,if_false]
     exact ⟨jz,rfl,q⟩
    | normal=>exact ⟨jz,rfl,q⟩
    | ret=>exact ⟨jz,rfl,q⟩
  ·rintro ⟨⟨n,τ⟩,hn⟩
   cases n with
   | zero=>cases hn
   | succ n =>
    simp only [kI] at hn
    have e:head cd (cd.map τ.av)=(dT cd (cd.map τ)).av:=by rw [nQ,bh];rfl
    simp only
    rw [e]
    refine kY (fun e σ q=>?_) (JX hn)
    obtain ⟨jz,rfl,q⟩:=q
    cases ht:uV l e with
    | true =>
     rw [ht] at q
     cases e <;> simp only [uV,bk] at ht
     rw [ay ht]
     simp only [if_true]
     exact ⟨⟨(n,jz),q⟩,Nat.lt_succ_self n,qc _ cd⟩
    | false =>
     rw [ht] at q
     cases e with
     | exit j =>
      have:j≠gid l:=fun e=>by subst e;simp [uV] at ht
      simp only [this,if_false]
      exact ⟨jz,rfl,q⟩
     | normal=>exact ⟨jz,rfl,q⟩
     | ret=>exact ⟨jz,rfl,q⟩
end
structure gD where
 np:Nat
 m:TM
 ref:Option (Nat × Nat):=none
 fA:List (Nat × (Nat × Nat)):=[]
 res:List RV
 own:List (Nat × Nat):=[]
 new:Option (Nat × Nat):=none
 fx:List (Nat × Nat):=[]
 ps:Option (Nat × (Nat × Nat)):=none
def gD.erase (d:gD):FD:={ np:=d.np,m:=d.m.erase,ref:=d.ref,fA:=d.fA,res:=d.res,own:=d.own,new:=d.new,fx:=d.fx,ps:=d.ps }
def RV.KX (τ:TS):RV→Option TV
 | .t j=>some (τ j)
 | .c a m n agg=>match τ a,τ m with
  | .pt,.ag cs=>qN cs 0 n agg
  | _,_=>none
def yL (τ:TS):List RV→Option (List TV)
 | []=>some []
 | r :: rs=>match r.KX τ with
  | some x=>match yL τ rs with
   | some l=>some (x :: l)
   | none=>none
  | none=>none
def TV.Ho:TV→Bool
 | .sl _ _=>true
 | _=>false
def TV.Hp:TV→Bool
 | .pt=>true
 | _=>false
def gD.GV (d:gD) (τ:TS):Option (List TV) :=
 match yL τ d.res with
 | some rs=>cond (d.own.all (fun q=>(rs.getD q.1 .dead).Ho)&&d.new.toList.all (fun q=>(rs.getD q.1 .dead).Hp)) (some (rs++d.new.toList.map (fun q=>τ q.2)++d.ref.toList.map (fun q=>τ q.2)++d.ps.toList.map (fun q=>τ (lk q.2.1)))) none
 | none=>none
def gD.uq (d:gD) (ins:List TV):TS :=
 match d.ref with
 | none=>match d.ps with
  | none=>dT (List.range d.np) ins
  | some (i,k,_)=>dT (lk k :: List.range d.np) (ins.getD i .dead :: ins.set i .pt)
 | some (i,m)=>dT (m :: List.range d.np) (ins.getD i .dead :: ins.set i .pt)
def gJ (d:gD):fT (List TV):=fun e τ =>
 match e with
 | .exit _=>none
 | _=>d.GV τ
noncomputable def gD.run (E:eo) (d:gD) (ins:List TV):Option (List TV):=ev (List TV) E d.m (d.uq ins) (gJ d)
theorem vR {τ:TS}:∀{rs:List RV} {xs:List TV},yL τ rs=some xs→xL τ.av rs=some (xs.map TV.av)
 | [],xs,h=>by cases h;rfl
 | r :: rs,xs,h=>by
  simp only [yL] at h
  split at h
  ·rename_i x hx
   split at h
   ·rename_i l hl
    cases h
    have e:r.get τ.av=some x.av:=by
     cases r with
     | t j=>cases hx;rfl
     | c a m n agg =>
      simp only [RV.KX] at hx
      split at hx
      ·rename_i cs e1 e2
       simp only [RV.get,TS.av,e1,e2,TV.av,TV.gj]
       exact nH hx
      ·cases hx
    simp only [xL,e,vR hl]
    rfl
   ·cases h
  ·cases h
theorem yK {d:gD} {τ:TS} {outs:List TV} (h:d.GV τ=some outs):d.erase.vp τ.av (outs.map TV.av):=by
 unfold gD.GV at h
 split at h
 ·rename_i rs sC
  cases hc:(d.own.all (fun q=>(rs.getD q.1 .dead).Ho)&&d.new.toList.all (fun q=>(rs.getD q.1 .dead).Hp)) with
  | false=>rw [hc] at h;cases h
  | true =>
   rw [hc] at h
   cases h
   simp only [ae,bj] at hc
   refine ⟨rs.map TV.av,vR sC,?_,?_,?_⟩
   ·intro q hq
    have:=hc.1 q hq
    rw [aL]
    rw [aG] at this
    cases e:rs[q.1]? with
    | none=>rw [e] at this;cases this
    | some x =>
     rw [e] at this
     cases x <;> simp [TV.Ho] at this
     exact ⟨_,_,rfl⟩
   ·intro q hq
    have hq:d.new=some q:=hq
    have:=hc.2 q (by rw [hq];simp)
    rw [aL]
    rw [aG] at this
    cases e:rs[q.1]? with
    | none=>rw [e] at this;cases this
    | some x =>
     rw [e] at this
     cases x <;> simp [TV.Hp] at this
     rfl
   ·simp only [List.map_append,bh]
    rfl
 ·cases h
theorem zA (d:gD) (ins:List TV):(d.uq ins).av=d.erase.start (ins.map TV.av):=by
 unfold gD.uq FD.start
 have:d.erase.ref=d.ref:=rfl
 rw [this]
 have:d.erase.ps=d.ps:=rfl
 rw [this]
 cases d.ref with
 | none =>
  cases d.ps with
  | none=>exact nQ _ _
  | some q =>
   obtain ⟨i,k,s⟩:=q
   simp only [nQ,ak,List.map_set]
   congr 2
   simp only [aG,aL]
   cases ins[i]? <;> rfl
 | some q =>
  obtain ⟨i,m⟩:=q
  simp only [nQ,ak,List.map_set]
  congr 2
  simp only [aG,aL]
  cases ins[i]? <;> rfl
theorem GJ {E:eo} {d:gD} {ins outs:List TV} (h:d.run E ins=some outs):d.erase.runs E.env (ins.map TV.av) (outs.map TV.av):=by
 have h:ev (List TV) E d.m (d.uq ins) (gJ d)=some outs:=h
 rw [←gQ] at h
 have:=K0 h
 unfold FD.runs
 rw [←zA]
 refine kY (fun e σ q=>?_) this
 obtain ⟨jz,rfl,q⟩:=q
 cases e with
 | exit i=>cases q
 | normal=>exact yK q
 | ret=>exact yK q
theorem DN {P:Program} {E:eo} (hE:∀f,fH P E.env.gl f (fi.fs (E.fs f))) {f:Nat} {fn:Func} {d:gD} (hf:P.funcs[f]?=some fn)
  (hc:ga P (fun n=>(E.fs n).2) fn d.erase=true) {c:fi} (hG:∀ins outs,(c ins).holds outs→ins.length=d.np∧d.run E ins=some (outs++d.ps.toList.map fun q=>ins.getD q.1 .dead)):fH P E.env.gl f (fi.fs (c,d.erase.sg)):=by
 refine ur (E:=E.env) (sg:=fun n=>(E.fs n).2) (fun n=>⟨hE n,rfl⟩) hf hc rfl ?_
 rintro ins outs ⟨ti,gW,rfl,rfl,h⟩
 obtain ⟨h1,h2⟩:=hG ti gW h
 refine ⟨by simpa [gD.erase] using h1,?_⟩
 have:=GJ h2
 rw [List.map_append,bh] at this
 have e:d.ps.toList.map (TV.av ∘ fun q=>ti.getD q.1 .dead)=d.erase.ps.toList.map fun q=>(ti.map TV.av).getD q.1 .dead:=by
  show _=d.ps.toList.map _
  refine List.map_congr_left fun q _=>?_
  simp only [Function.comp_apply,aG,aL]
  cases ti[q.1]? <;> rfl
 rwa [e] at this
end Go.Eng
namespace Go.Eng
open Go.RowKit
def Old (w:World):Reach:=fun b _=>b<w.heap.size
theorem calls_of_spec {P:Program} {gl:Nat→AV} {f:Nat} {c:fi} {sg:dq} (QM:sg={}) (h:fH P gl f (fi.fs (c,sg))) {ti:List TV} {xs:List Value} {w:World}
  (xY:∀n,Rep (Old w) w (gl n) (.pointer (some ⟨n,0,none⟩))) (hc:(c ti).holds [.b true]) (ha:gP (Old w) w (ti.map TV.av) xs) :
  Calls P f ⟨xs⟩ w fun e w'=>e = .returned (.bool true)∧Below w.heap.size w w':=by
 subst QM
 refine (h.1 rfl w (Old w) (ti.map TV.av) [.v (.bool true)] xs ⟨ti,[.b true],rfl,rfl,hc⟩ (fun b o hb=>hb) xY ha).mono ?_
 rintro e w' ⟨x,R',rfl,hx,hr,ho⟩
 obtain ⟨ki,tr,gW,tn,bn,br,cn,cr,h1,h2,h3,h4,_⟩:=ho
 refine ⟨?_,hx.os,hx.tape,hx.output,hx.size,fun k hk=>hx.heap k hk id⟩
 congr 1
 rw [h2]
 have h1:ki.length=1:=h1
 match ki,h1 with
 | [y],_ =>
  have h4:gP R' w' [.v (.bool true)] [y]:=h4
  cases h4 with
  | cons a _=>cases a;rfl
theorem Fq {n:Int} (h:(Lit.int .u8 n).wf=true):((UInt8.ofInt n).toNat:Int)=n:=by
 have hx:0≤n∧n≤255:=by simpa [Lit.wf,IntKind.min,IntKind.max,IntKind.signed,IntKind.bits] using h
 rw [rT,wrap_u8'];omega
theorem rep_row {w:World} {a:Option Addr} {len cap:Nat} {zs:List Int}
  (h:(a=none∧len=0∧cap=0∧zs=[])∨∃x,a=some x∧len≤cap∧cap≤maxLen∧zs.length=cap∧(∀i,i<zs.length→w.cell? (x.add i)=some (.int .u8 (zs.getD i 0)))∧∀n∈zs,(Lit.int .u8 n).wf=true) :
  Rep (Old w) w (TV.av (.sl .bs ((zs.take len).map UInt8.ofInt))) (.slice a len cap):=by
 rcases h with ⟨rfl,rfl,rfl,rfl⟩ | ⟨x,rfl,h1,h2,h3,h4,h5⟩
 ·exact .nil 1
 ·by_cases h0:len=0
  ·subst h0;exact .em 1 h2
  ·have Pt:=h4 0 (by omega)
   obtain ⟨xb,xo,spot⟩:=x
   have y3:spot=none:=by simpa [Addr.add] using World.cell?_spot Pt
   subst y3
   have hb:xb<w.heap.size:=by
    by_cases gM:xb<w.heap.size
    ·exact gM
    ·have:w.heap[xb]?=none:=Array.getElem?_eq_none (by omega)
     simp [Addr.add,World.cell?,this] at Pt
   refine .sl (by simp;omega) h1 h2 ?_
   refine iU.write (ys:=(zs.take len).map (.int .u8)) ?_ ?_ (fun j _=>hb) ?_
   ·intro e he;simp only [aT] at he;obtain ⟨q,_,rfl⟩:=he;rfl
   ·have key:∀l:List Int,(∀n∈l,(Lit.int .u8 n).wf=true)→eL (Old w) w (((l.map UInt8.ofInt).map (eJ.av .bs)).flatMap AV.cells) (l.map (.int .u8)):=by
     intro l hl
     induction l with
     | nil=>exact .nil
     | cons n l ih =>
      refine .cons rfl ?_ (ih fun m hm=>hl m (List.mem_cons_of_mem _ hm))
      have:=Fq (hl n (List.mem_cons_self ..))
      simp only [eJ.av,fQ,this]
      exact .v _
    exact key _ fun n hn=>h5 n (List.mem_of_mem_take hn)
   ·intro j y hy
    simp only [aL] at hy
    cases e:(zs.take len)[j]? with
    | none=>rw [e] at hy;cases hy
    | some n =>
     rw [e] at hy
     cases hy
     rw [aR] at e
     split at e
     ·have hj:j<zs.length:=(aC.1 e).1
      have:=h4 j hj
      rw [gB] at this
      rw [this,aG,e];rfl
     ·cases e
def yO:fi × dq:=(fun _ => .err,{})
theorem qk {P:Program} {gl:Nat→AV} {f:Nat}:fH P gl f (fi.fs yO):=by
 refine ⟨fun _=>?_,fun i s lD=>by cases lD⟩
 intro w R ins outs xs hg
 obtain ⟨ti,gW,_,_,h⟩:=hg
 exact h.elim
def cK (gl:Nat→TV) (l:List (Nat × (fi × dq))):eo:=⟨fun n=>look l n,gl⟩
where look:List (Nat × (fi × dq))→Nat→fi × dq
 | [],_=>yO
 | (k,c) :: r,n=>cond (Nat.beq n k) c (look r n)
theorem HZ {P:Program} {gl:Nat→TV} {l:List (Nat × (fi × dq))} (h:∀p∈l,fH P (fun n=>(gl n).av) p.1 (fi.fs p.2)):∀f,fH P (cK gl l).env.gl f (fi.fs ((cK gl l).fs f)):=by
 intro f
 show fH P (fun n=>(gl n).av) f (fi.fs (cK.look l f))
 induction l with
 | nil=>exact qk
 | cons p r ih =>
  obtain ⟨k,c⟩:=p
  simp only [cK.look]
  cases hb:Nat.beq f k with
  | true=>rw [ay hb];exact h (k,c) (List.mem_cons_self ..)
  | false=>exact ih fun q hq=>h q (List.mem_cons_of_mem _ hq)
theorem meets {P:Program} {gl:Nat→TV} {l:List (Nat × (fi × dq))} (hE:∀p∈l,fH P (fun n=>(gl n).av) p.1 (fi.fs p.2)) {f:Nat} {d:gD}
  (hc:((P.funcs[f]?).any fun fn=>ga P (fun n=>((cK gl l).fs n).2) fn d.erase)=true) {c:fi} (hG:∀ins outs,(c ins).holds outs→ins.length=d.np∧d.run (cK gl l) ins=some (outs++d.ps.toList.map fun q=>ins.getD q.1 .dead)) :
  fH P (fun n=>(gl n).av) f (fi.fs (c,d.erase.sg)):=by
 cases hf:P.funcs[f]? with
 | none=>rw [hf] at hc;cases hc
 | some fn =>
  rw [hf] at hc
  exact DN (E:=cK gl l) (HZ hE) hf hc hG
theorem all_nil {A:Type} {p:A→Prop}:∀x∈([]:List A),p x:=fun _ h=>by cases h
theorem all_cons {A:Type} {p:A→Prop} {a:A} {l:List A} (h:p a) (t:∀x∈l,p x):∀x∈a :: l,p x:=fun x hx=>by
 rcases bq.1 hx with rfl | hx
 ·exact h
 ·exact t x hx
end Go.Eng
namespace Go.Eng
open Go.RowKit
theorem iR {P:Program} {gl:Nat→AV} {f:Nat} {sg:dq} {c':fi} (h:∀ti gW,(c' ti).holds gW→∃c:fi,fH P gl f (fi.fs (c,sg))∧(c ti).holds gW):fH P gl f (fi.fs (c',sg)):=by
 refine ⟨fun lD w R ins outs xs hG h1 h2 h3=>?_,fun i s lD w R ins outs xs v es hG h1 h2 h3 h4 h5 h6 h7=>?_⟩
 ·obtain ⟨ti,gW,e1,e2,hc⟩:=hG
  obtain ⟨c,hs,hc⟩:=h ti gW hc
  exact hs.1 lD w R ins outs xs ⟨ti,gW,e1,e2,hc⟩ h1 h2 h3
 ·obtain ⟨ti,gW,e1,e2,hc⟩:=hG
  obtain ⟨c,hs,hc⟩:=h ti gW hc
  exact hs.2 i s lD w R ins outs xs v es ⟨ti,gW,e1,e2,hc⟩ h1 h2 h3 h4 h5 h6 h7
theorem fI {P:Program} {gl:Nat→AV} {f:Nat} {sg:dq} {c:fi} (h:∀ti gW,¬(c ti).holds gW):fH P gl f (fi.fs (c,sg)) :=
 ⟨fun _ _ _ _ _ _ hG=>by obtain ⟨_,_,_,_,hc⟩:=hG;exact (h _ _ hc).elim,fun _ _ _ _ _ _ _ _ _ _ hG=>by obtain ⟨_,_,_,_,hc⟩:=hG;exact (h _ _ hc).elim⟩
theorem nL (j k:Nat):(lk j=lk k)=(j=k):=propext ⟨jZ,fun e=>by rw [e]⟩
theorem nK {k n:Nat} (h:n<1000000):(lk k=n)=False:=by have:=hU k;simp;omega
theorem lq {k n:Nat} (h:n<1000000):(n=lk k)=False:=by have:=hU k;simp;omega
section
variable {E:Env} {Q:MX→Sg→Prop} {σ:Sg}
theorem rg {m:ov} {ms:List ov} {ws:List AV} (hg:m.gd=none) (hs:gf E m.k (m.rs.map (eB.ev E σ)) ws) (hl:ws.length=m.ds.length) (h:oo E (.fK ms) Q (cQ σ m.ds ws)):oo E (.fK (m :: ms)) Q σ:=by
 obtain ⟨eO,h1,h2⟩:=h
 refine ⟨eO,⟨cQ σ m.ds ws,⟨ws,?_,hl,rfl⟩,h1⟩,h2⟩
 rw [hg];exact hs
theorem lO (h:Q .normal σ):oo E (.fK []) Q σ:=⟨σ,rfl,h⟩
theorem sq {a b:M} (h:oo E a (fun e eO=>match e with | .normal=>oo E b Q eO | e=>Q e eO) σ):oo E (.seq a b) Q σ:=by
 show oo E a _ σ
 refine kY (fun e eO q=>?_) h
 cases e with
 | normal=>exact ⟨eO,fun _ => .inl rfl,q⟩
 | exit i=>exact q
 | ret=>exact q
end
def Ib (s:Nat):M := .seq (.fK [⟨.mv,[.s 0],[3],none⟩,⟨.Ju,[.s 3],[4],none⟩]) (.cond (.s 4) [] (.seq (.fK [⟨.nl 101 s,[.s (lk 101)],[2,lk 101],none⟩]) .ret) .skip)
def Dd (s b:Nat):M := .seq (.fK [⟨.blt s 0 102,[.s (lk 102)],[5,lk 102],none⟩,⟨.mv,[.s 0],[6],none⟩,
 ⟨.ap 102 103 s b,[.s 5,.s 6,.s (lk 102),.s (lk 103)],[7,lk 102,lk 103],none⟩,⟨.mv,[.s 7],[2],none⟩]) .ret
def sP (s b:Nat):FD:={ np:=1,m := .seq (.fK [⟨.mv,[.c (.sl s [])],[2],none⟩]) (.seq (Ib s) (Dd s b)),res:=[.t 2],own:=[(0,s)] }
theorem yk (E:Env) (s b:Nat) (es:List AV) (hc:∀x∈es,x.cells.length=s) (h1:es.length≤maxLen) (h2:es.length * b≤140737488355328):(sP s b).runs E [.sl s es] [.sl s es]:=by
 have hB:∀σ:Sg,σ 0 = .sl s es→oo E (Dd s b) (fun e σ=>match e with | .exit _=>False | _=>(sP s b).vp σ [.sl s es]) σ:=by
  intro σ h0
  refine sq (rg (ws:=[.sl s [],.dead]) rfl ⟨rfl,fun x hx=>(by cases hx),rfl⟩ rfl ?_)
  refine rg (ws:=[.sl s es]) rfl (by simp [gf,eB.ev,cQ,dJ,nL,nK,lq,h0]) rfl ?_
  refine rg (ws:=[.sl s es,.dead,.dead]) rfl ⟨rfl,rfl,hc,by simpa using h1,by simpa using h2,by simp⟩ rfl ?_
  refine rg (ws:=[.sl s es]) rfl rfl rfl ?_
  refine lO ?_
  exact ⟨[.sl s es],rfl,fun q hq=>(by simp [sP] at hq;subst hq;exact ⟨s,es,rfl⟩),fun q hq=>(by cases hq),rfl⟩
 refine sq (rg (ws:=[.sl s []]) rfl rfl rfl (lO ?_))
 refine sq ?_
 refine sq (rg (ws:=[.sl s es]) rfl rfl rfl ?_)
 cases es with
 | nil =>
  refine rg (ws:=[.ab]) rfl rfl rfl (lO ?_)
  refine .inr ⟨rfl,?_,?_⟩
  ·refine sq (rg (ws:=[.sl s [],.dead]) rfl rfl rfl (lO ?_))
   exact ⟨[.sl s []],rfl,fun q hq=>(by simp [sP] at hq;subst hq;exact ⟨s,[],rfl⟩),fun q hq=>(by cases hq),rfl⟩
  ·exact hB _ rfl
 | cons e es =>
  refine rg (ws:=[.v (.bool false)]) rfl rfl rfl (lO ?_)
  refine .inl ⟨false,rfl,fun h=>(by cases h),fun _=>?_⟩
  exact hB _ rfl
def E4 (s:Nat):M := .seq (.fK [⟨.mv,[.s 0],[3],none⟩,⟨.Fx 999999,[.s 3,.s (lk 999999)],[4],none⟩]) (.cond (.s 4) [] (.seq (.fK [⟨.mv,[.c (.sl s [])],[2],none⟩]) .ret) .skip)
def zi (s b:Nat):M := .seq (.fK [⟨.blt s 0 102,[.s (lk 102)],[5,lk 102],none⟩,⟨.mv,[.s 0],[6],none⟩,
 ⟨.Fi 102 103 999999 s b,[.s 5,.s 6,.s (lk 102),.s (lk 103),.s (lk 999999)],[7,lk 102,lk 103],none⟩,⟨.mv,[.s 7],[2],none⟩]) .ret
def ka (s b:Nat):FD:={ np:=1,m := .seq (.fK [⟨.mv,[.c (.sl s [])],[2],none⟩]) (.seq (E4 s) (zi s b)),res:=[.t 2],ps:=some (0,999999,s) }
theorem xk (E:Env) (s b:Nat) (es:List AV) (h1:es.length≤maxLen) (h2:es.length * b≤140737488355328):(ka s b).runs E [.sl s es] ([.sl s es]++[.sl s es]):=by
 have hB:∀σ:Sg,σ 0 = .pt→σ (lk 999999) = .sl s es→oo E (zi s b) (fun e σ=>match e with | .exit _=>False | _=>(ka s b).vp σ ([.sl s es]++[.sl s es])) σ:=by
  intro σ h0 h9
  refine sq (rg (ws:=[.sl s [],.dead]) rfl ⟨rfl,fun x hx=>(by cases hx),rfl⟩ rfl ?_)
  refine rg (ws:=[.pt]) rfl (by simp [gf,eB.ev,cQ,dJ,nL,nK,lq,h0]) rfl ?_
  refine rg (ws:=[.sl s es,.dead,.dead]) rfl ?_ rfl ?_
  ·simp [gf,eB.ev,cQ,dJ,nL,nK,lq,h9]
   exact ⟨h1,h2⟩
  refine rg (ws:=[.sl s es]) rfl rfl rfl ?_
  refine lO ?_
  refine ⟨[.sl s es],rfl,fun q hq=>(by cases hq),fun q hq=>(by cases hq),?_⟩
  simp [ka,cQ,dJ,nL,nK,lq,h9]
 have Ez:(ka s b).start [.sl s es] 0 = .pt:=by simp [ka,FD.start,head,cQ,dJ,nL,nK,lq,List.range,List.range.loop]
 have QN:(ka s b).start [.sl s es] (lk 999999) = .sl s es:=by simp [ka,FD.start,head,cQ,dJ,nL,nK,lq,List.range,List.range.loop]
 have go:∀σ:Sg,σ 0 = .pt→σ (lk 999999) = .sl s es→oo E (ka s b).m (fun e σ=>match e with | .exit _=>False | _=>(ka s b).vp σ ([.sl s es]++[.sl s es])) σ:=by
  intro σ h0 h9
  refine sq (rg (ws:=[.sl s []]) rfl rfl rfl (lO ?_))
  refine sq ?_
  refine sq (rg (ws:=[.pt]) rfl (by simp [gf,eB.ev,cQ,dJ,h0]) rfl ?_)
  cases es with
  | nil =>
   refine rg (ws:=[.ab]) rfl (by simp [gf,eB.ev,cQ,dJ,nL,nK,lq,h9]) rfl (lO ?_)
   refine .inr ⟨rfl,?_,?_⟩
   ·refine sq (rg (ws:=[.sl s []]) rfl rfl rfl (lO ?_))
    refine ⟨[.sl s []],rfl,fun q hq=>(by cases hq),fun q hq=>(by cases hq),?_⟩
    simp [ka,cQ,dJ,nL,nK,lq,h9]
   ·exact hB _ (by simp [cQ,dJ,h0]) (by simp [cQ,dJ,nL,nK,lq,h9])
  | cons e es =>
   refine rg (ws:=[.v (.bool false)]) rfl (by simp [gf,eB.ev,cQ,dJ,nL,nK,lq,h9]) rfl (lO ?_)
   refine .inl ⟨false,rfl,fun h=>(by cases h),fun _=>?_⟩
   exact hB _ (by simp [cQ,dJ,h0]) (by simp [cQ,dJ,nL,nK,lq,h9])
 exact go _ Ez QN
def nV (t:eJ) (b:Nat):fi:=fun l=>match l with
 | [.sl t' l]=>if t'=t then .fJ (fS l.length b) [.sl t' l] else .err
 | _ => .err
theorem eJ.Ij (t:eJ) (l:List t.El):∀x∈l.map t.av,x.cells.length=t.size:=by
 intro x hx;obtain ⟨y,_,rfl⟩:=aT.1 hx;exact (t.mJ y).2
theorem Dc {P:Program} {gl:Nat→AV} {t:eJ} {b f:Nat} (hc:((P.funcs[f]?).any fun fn=>ga P (fun _=>{}) fn (sP t.size b))=true):fH P gl f (fi.fs (nV t b,{ own:=[(0,t.size)] })):=by
 cases hf:P.funcs[f]? with
 | none=>rw [hf] at hc;cases hc
 | some fn =>
  rw [hf] at hc
  refine ur (E:=⟨fun _=>fi.fs yO,gl⟩) (sg:=fun _=>{}) (fun n=>⟨qk,rfl⟩) hf hc rfl ?_
  rintro ins outs ⟨ti,gW,rfl,rfl,h⟩
  replace h:(nV t b ti).holds gW:=h
  unfold nV at h
  split at h
  ·rename_i t' l
   split at h
   ·rename_i e
    subst e
    obtain ⟨h1,rfl⟩:=h
    obtain ⟨h1,h2⟩:=kf.1 h1
    refine ⟨rfl,?_⟩
    exact yk _ _ _ _ (eJ.Ij _ l) (by simpa using h1) (by simpa using h2)
   ·exact h.elim
  ·exact h.elim
theorem Az {P:Program} {gl:Nat→AV} {t:eJ} {b f:Nat} (hc:((P.funcs[f]?).any fun fn=>ga P (fun _=>{}) fn (ka t.size b))=true):fH P gl f (fi.fs (nV t b,{ ps:=some (0,t.size) })):=by
 cases hf:P.funcs[f]? with
 | none=>rw [hf] at hc;cases hc
 | some fn =>
  rw [hf] at hc
  refine ur (E:=⟨fun _=>fi.fs yO,gl⟩) (sg:=fun _=>{}) (fun n=>⟨qk,rfl⟩) hf hc rfl ?_
  rintro ins outs ⟨ti,gW,rfl,rfl,h⟩
  replace h:(nV t b ti).holds gW:=h
  unfold nV at h
  split at h
  ·rename_i t' l
   split at h
   ·rename_i e
    subst e
    obtain ⟨h1,rfl⟩:=h
    obtain ⟨h1,h2⟩:=kf.1 h1
    refine ⟨rfl,?_⟩
    exact xk _ _ _ _ (by simpa using h1) (by simpa using h2)
   ·exact h.elim
  ·exact h.elim
end Go.Eng
namespace Go.Eng
open Go.RowKit
def lK (P:Program) (n:Nat) (t:TypeId) (A:Type) (g:A→List AV):Prop :=
 ∀(H:Type) (enc:TypeId × Value→H) (w:World) (base:Nat) (spare:Nat→Bool) (held:Bool) (cs:List Value) (x:DataW H × List MemPlace),DataW.trod enc P w base spare held n t cs=some x→∃a:A,eL (Old w) w (g a) cs
section
variable {P:Program} {n:Nat} {t:TypeId}
theorem qt {k:IntKind} (ht:P.underlying t=some (.int k)):lK P n t Int fun m=>[.v (.int k m)]:=by
 intro H enc w base spare held cs x h
 obtain ⟨m,rfl,_,_⟩:=DataW.trod_int ht h
 exact ⟨m,.cons rfl (.v _) .nil⟩
theorem A2 {n:Int} (h:(Lit.int .u64 n).wf=true):((UInt64.ofInt n).toNat:Int)=n:=by
 have hx:0≤n∧n≤18446744073709551615:=by simpa [Lit.wf,IntKind.min,IntKind.max,IntKind.signed,IntKind.bits] using h
 have e:IntKind.u64.wrap n=n % (18446744073709551616:Nat):=by simp [IntKind.wrap,IntKind.bits,IntKind.signed]
 rw [kp,e];omega
theorem od (ht:P.underlying t=some (.int .u64)):lK P n t UInt64 fun m=>[jU m]:=by
 intro H enc w base spare held cs x h
 obtain ⟨m,rfl,_,hw⟩:=DataW.trod_int ht h
 refine ⟨UInt64.ofInt m,.cons rfl ?_ .nil⟩
 rw [jU,A2 hw];exact .v _
theorem BF (ht:P.underlying t=some (.int .u8)):lK P n t UInt8 fun m=>[fQ m]:=by
 intro H enc w base spare held cs x h
 obtain ⟨m,rfl,_,hw⟩:=DataW.trod_int ht h
 refine ⟨UInt8.ofInt m,.cons rfl ?_ .nil⟩
 rw [fQ,Fq hw];exact .v _
theorem oe (ht:P.underlying t=some .string):lK P n t bS fun m=>[iE m]:=by
 intro H enc w base spare held cs x h
 obtain ⟨m,rfl,_,_⟩:=DataW.trod_string ht h
 exact ⟨m.data.toList,.cons rfl (.v _) .nil⟩
theorem nI {e:TypeId} {A:Type} {av:A→AV} {s:Nat} (ht:P.underlying t=some (.slice e)) (hs:P.cellsOf e=s) (N4:0<s) (Rn:∀a,(av a).cells.length=s) (he:∀m,m<n→lK P m e A fun a=>(av a).cells):lK P n t (List A) fun l=>[.sl s (l.map av)]:=by
 intro H enc w base spare held cs x h
 rcases DataW.trod_slice ht h with ⟨rfl,_⟩ | ⟨a,len,cap,elems,rest,m,rfl,rfl,_,_,h2,h3,h4,h5,_,_⟩
 ·exact ⟨[],.cons rfl (.nil _) .nil⟩
 ·by_cases h0:len=0
  ·subst h0;exact ⟨[],.cons rfl (.em _ h3) .nil⟩
  ·have get:∀i,i<len→∃ys,w.cells? base (a.add (i * s)) s=some ys∧∃y:A,eL (Old w) w (av y).cells ys:=fun i hi=>by
    have:=h5 i hi
    rw [hs] at this
    have gM:i<elems.length:=by omega
    rw [aE gM] at this
    obtain ⟨ys,h6,h7⟩:=bt.1 this
    exact ⟨ys,h6,he m (Nat.lt_succ_self m) H enc w base spare held ys _ h7⟩
   have y3:a.spot=none:=by
    obtain ⟨ys,h6,_⟩:=get 0 (by omega)
    obtain ⟨_,h7,h8⟩:=World.cells?_some h6
    have h9:=h8 0 N4
    cases hy:ys[0]? with
    | none=>rw [List.getElem?_eq_none_iff] at hy;omega
    | some y=>rw [hy] at h9;simpa [Addr.add] using World.cell?_spot h9
   obtain ⟨b,off,spot⟩:=a
   simp only at y3
   subst y3
   have key:∀k i,i+k=len→∃l:List A,l.length=k∧iU (Old w) w s (l.map av) b (off+i * s):=by
    intro k
    induction k with
    | zero=>exact fun i _=>⟨[],rfl,.nil _ _ _⟩
    | succ k ih =>
     intro i hi
     obtain ⟨l,hl,hE⟩:=ih (i+1) (by omega)
     obtain ⟨ys,h6,y,h7⟩:=get i (by omega)
     obtain ⟨_,h8,h9⟩:=World.cells?_some h6
     refine ⟨y :: l,by simp [hl],.cons (kU.write (Rn y) h7 (fun j hj=>?_) (fun j z hz=>?_)) ?_⟩
     ·have lZ:=h9 j hj
      have Q4:j<ys.length:=by omega
      rw [aE Q4] at lZ
      have gM:b<w.heap.size:=by
       by_cases gM:b<w.heap.size
       ·exact gM
       ·have:w.heap[b]?=none:=Array.getElem?_eq_none (by omega)
        rw [gB,gB] at lZ
        simp only [World.cell?,this] at lZ
        cases lZ
      exact gM
     ·have hj:j<s:=by have:=(aC.1 hz).1;omega
      have lZ:=h9 j hj
      rw [hz,gB,gB] at lZ
      exact lZ
     ·rw [show off+i * s+s=off+(i+1) * s by rw [Nat.succ_mul];omega];exact hE
   obtain ⟨l,hl,hE⟩:=key len 0 (by omega)
   refine ⟨l,.cons rfl (.sl (by simp [hl]) h2 h3 ?_) .nil⟩
   simpa using hE
def lC (P:Program) (n:Nat) (fs:List (TypeId × Nat)) (off:Nat) (A:Type) (g:A→List AV):Prop :=
 ∀(H:Type) (enc:TypeId × Value→H) (w:World) (base:Nat) (spare:Nat→Bool) (held:Bool) (cs:List Value),(∀f∈fs,∃x:DataW H × List MemPlace,DataW.trod enc P w base spare held n f.1 ((cs.drop f.2).take (P.cellsOf f.1))=some x)→cs.length=off+(fs.map fun f=>P.cellsOf f.1).sum→∃a:A,eL (Old w) w (g a) (cs.drop off)
theorem uz {off:Nat}:lC P n [] off Unit fun _=>[]:=by
 intro H enc w base spare held cs _ hl
 refine ⟨(),?_⟩
 rw [aI (by simp at hl;omega)];exact .nil
theorem gV {t:TypeId} {fs:List (TypeId × Nat)} {off c:Nat} {A B:Type} {g:A→List AV} {g':B→List AV} (hc:P.cellsOf t=c) (h:lK P n t A g) (hr:lC P n fs (off+c) B g'):lC P n ((t,off) :: fs) off (A × B) fun p=>g p.1++g' p.2:=by
 subst hc
 intro H enc w base spare held cs hx hl
 obtain ⟨x,h1⟩:=hx (t,off) (List.mem_cons_self ..)
 obtain ⟨a,ha⟩:=h H enc w base spare held _ x h1
 obtain ⟨b,hb⟩:=hr H enc w base spare held cs (fun f' wG=>hx f' (List.mem_cons_of_mem _ wG)) (by simp only [ak,List.sum_cons] at hl;omega)
 refine ⟨(a,b),?_⟩
 have e:cs.drop off=(cs.drop off).take (P.cellsOf t)++cs.drop (off+P.cellsOf t):=by
  rw [←List.drop_drop];exact (List.take_append_drop _ _).symm
 rw [e];exact ha.append hb
theorem mQ {fs:Array Field} {l:List (TypeId × Nat)} {A B:Type} {g:A→List AV} {g':B→List AV} (ht:P.underlying t=some (.struct fs)) (hl:(fs.toList.map fun f=>(f.type,f.offset))=l) (hc:P.cellsOf t=(l.map fun f=>P.cellsOf f.1).sum) (hr:∀m,m<n→lC P m l 0 A g) (f:A→B) (hf:∀a,g a=g' (f a)):lK P n t B g':=by
 intro H enc w base spare held cs x h
 obtain ⟨xs,m,rfl,_,h1,h2,h3⟩:=DataW.trod_struct ht h
 obtain ⟨a,ha⟩:=hr m (Nat.lt_succ_self m) H enc w base spare held cs (fun p hp=>by
  rw [←hl] at hp
  obtain ⟨f,hf,rfl⟩:=aT.1 hp
  obtain ⟨i,hi⟩:=bz hf
  have gM:=(aC.1 hi).1
  have:=h3 i f (by simpa using hi)
  have xW:i<xs.length:=by rw [h2];simpa using gM
  rw [aE xW] at this
  exact ⟨_,this⟩) (by rw [h1,hc];simp)
 exact ⟨f a,by rw [←hf];simpa using ha⟩
def fieldsOf (P:Program) (t:TypeId):Option (List (TypeId × Nat)):=match P.underlying t with
 | some (.struct fs)=>some (fs.toList.map fun f=>(f.type,f.offset))
 | _=>none
theorem lW {l:List (TypeId × Nat)} (h:fieldsOf P t=some l):∃fs,P.underlying t=some (.struct fs)∧(fs.toList.map fun f=>(f.type,f.offset))=l:=by
 unfold fieldsOf at h
 split at h
 ·rename_i fs e;cases h;exact ⟨fs,e,rfl⟩
 ·cases h
structure vo (P:Program) (tv tf tk ti tu ts tb ty:TypeId):Prop where
 v:fieldsOf P tv=some [(ti,0),(tu,1),(tu,2),(tu,3),(ts,4),(ts,5),(ti,6),(tb,7),(tk,8)]
 f:fieldsOf P tf=some [(ts,0),(tv,1)]
 k:P.underlying tk=some (.slice tf)
 i:P.underlying ti=some (.int .i64)
 u:P.underlying tu=some (.int .u64)
 s:P.underlying ts=some .string
 b:P.underlying tb=some (.slice ty)
 y:P.underlying ty=some (.int .u8)
 cv:P.cellsOf tv=9
 cf:P.cellsOf tf=10
 ck:P.cellsOf tk=1
 ci:P.cellsOf ti=1
 cu:P.cellsOf tu=1
 cs:P.cellsOf ts=1
 cb:P.cellsOf tb=1
 cy:P.cellsOf ty=1
def bE.yq (v:bE):List AV:=(bE.cells v).map TV.av
theorem qO {y:TypeId} (ht:P.underlying t=some (.slice y)) (hy:P.underlying y=some (.int .u8)) (hc:P.cellsOf y=1):lK P n t bS fun l=>[kd l] :=
 nI (av:=fQ) ht hc (by omega) (fun _=>rfl) fun _ _=>BF hy
theorem vo.val {tv tf tk ti tu ts tb ty:TypeId} (T:vo P tv tf tk ti tu ts tb ty):∀n,lK P n tv bE bE.yq∧lK P n tf bG fun f=>(pT f).cells:=by
 intro n
 induction n using Nat.strongRecOn with
 | _ n ih =>
  have hv:∀m,m≤n→(∀k,k<m→lK P k tf bG fun f=>(pT f).cells)→lK P m tv bE bE.yq:=fun m hm Qs=>by
   obtain ⟨fs,h1,h2⟩:=lW T.v
   have R:=fun (k:Nat) (hk:k<m)=>(gV (off:=0) T.ci (qt T.i) (gV T.cu (od T.u) (gV T.cu (od T.u) (gV T.cu (od T.u) (gV T.cs (oe T.s) (gV T.cs (oe T.s) (gV T.ci (qt T.i) (gV T.cb (qO T.b T.y T.cy)
     (gV T.ck (nI (av:=pT) T.k T.cf (by omega) (fun f=>by cases f;rfl) fun j hj=>Qs j (by omega)) uz)))))))):lC P k _ 0 _ _)
   exact mQ h1 h2 (by simp [T.cv,T.ci,T.cu,T.cs,T.cb,T.ck]) R (fun a=>(⟨a.1,a.2.1,a.2.2.1,a.2.2.2.1,a.2.2.2.2.1,a.2.2.2.2.2.1,a.2.2.2.2.2.2.1,a.2.2.2.2.2.2.2.1,a.2.2.2.2.2.2.2.2.1⟩:bE)) (fun a=>rfl)
  refine ⟨hv n (Nat.le_refl n) fun k hk=>(ih k hk).2,?_⟩
  obtain ⟨fs,h1,h2⟩:=lW T.f
  have R:=fun (k:Nat) (hk:k<n)=>(gV (off:=0) T.cs (oe T.s) (gV T.cv (hv k (by omega) fun j hj=>(ih j (by omega)).2) uz):lC P k _ 0 _ _)
  exact mQ h1 h2 (by simp [T.cf,T.cv,T.cs]) R (fun a=>bG.of a.1 a.2.1) (fun a=>by
   simp [pT,bG.of,AV.cells,bE.yq,bE.cells,TV.av,mT,eJ.size,eJ.av,iE,tU,jU,kd])
theorem vo.rep {tv tf tk ti tu ts tb ty:TypeId} (T:vo P tv tf tk ti tu ts tb ty) {H:Type} {enc:TypeId × Value→H} {w:World} {base:Nat} {spare:Nat→Bool} {held:Bool} {cs:Array Value} {d:DataW H} {p:List MemPlace} (h:DataW.Trod enc P w base spare held tv (.agg cs) d p) :
  ∃v:bE,Rep (Old w) w (TV.av (.ag (bE.cells v))) (.agg cs):=by
 obtain ⟨n,h⟩:=h
 obtain ⟨v,hv⟩:=(T.val n).1 H enc w base spare held _ _ h
 refine ⟨v,?_⟩
 simp only [TV.av,TV.gj]
 exact .ag (by have hv:eL (Old w) w (v.cells.map TV.av) _:=hv;simpa [Value.cells] using hv)
end
end Go.Eng
namespace Go.Eng
open Go.IntWalk
theorem bK {R:Type} {p:Bool} {x:Option R} (h:p=true):ck p x=x:=by rw [h];rfl
theorem RO (a b:Bool):(!a || (a&&(b || (a&&!b))))=true:=by cases a <;> cases b <;> rfl
theorem RN (a b:Bool):(!a || (a&&(!b || (a&&b))))=true:=by cases a <;> cases b <;> rfl
theorem qu:maxLen=9223372036854775807:=by decide
theorem rM {n:Nat} (h:n≤1099511627776):kJ n=true:=mE.2 (by rw [qu];omega)
theorem fE {n b:Nat} (h:n * b≤140737488355328) (h2:n≤140737488355328):fS n b=true:=kf.2 ⟨by rw [qu];omega,h⟩
theorem fO {n:Int} {l:Nat} (h0:0≤n) (h1:n<l):eK n l=true:=kv.2 ⟨h0,h1⟩
theorem j9 {a b:Int} {l:Nat} (h0:0≤a) (h1:a≤b) (h2:b≤l):ja a b l=true:=kA.2 ⟨h0,h1,h2⟩
theorem lG (n:Nat):(BitVec.ofInt 64 (n:Int))=BitVec.ofNat 64 n:=by
 apply BitVec.eq_of_toNat_eq;rw [BitVec.toNat_ofInt,BitVec.toNat_ofNat];omega
theorem Fk (a b:Nat) (ha:a<9223372036854775808) (hb:b<9223372036854775808):eA .and .i64 a b=((a &&& b:Nat):Int):=by
 have h1:a &&& b≤a:=Nat.and_le_left
 have e:eA .and .i64 a b=IntKind.i64.wrap (((BitVec.ofInt 64 (a:Int) &&& BitVec.ofInt 64 (b:Int)).toNat:Nat):Int):=rfl
 rw [e,lG,lG,BitVec.toNat_and,BitVec.toNat_ofNat,BitVec.toNat_ofNat,Nat.mod_eq_of_lt (by omega),Nat.mod_eq_of_lt (by omega)]
 exact i64_in _ (by omega)
theorem I5 {a b k:Nat} (ha:a<2 ^ k) (hb:b<2 ^ k):a ||| b<2 ^ k:=Nat.or_lt_two_pow ha hb
theorem GX (a b:Nat) (ha:a<9223372036854775808) (hb:b<9223372036854775808):eA .or .i64 a b=((a ||| b:Nat):Int):=by
 have h1:a ||| b<9223372036854775808:=I5 (k:=63) (by simpa using ha) (by simpa using hb)
 have e:eA .or .i64 a b=IntKind.i64.wrap (((BitVec.ofInt 64 (a:Int) ||| BitVec.ofInt 64 (b:Int)).toNat:Nat):Int):=rfl
 rw [e,lG,lG,BitVec.toNat_or,BitVec.toNat_ofNat,BitVec.toNat_ofNat,Nat.mod_eq_of_lt (by omega),Nat.mod_eq_of_lt (by omega)]
 exact i64_in _ (by omega)
theorem BE {a b k:Nat} (hb:b<2 ^ k):(a * 2 ^ k) ||| b=a * 2 ^ k+b:=by
 rw [←Nat.shiftLeft_eq,Nat.shiftLeft_add_eq_or_of_lt hb]
theorem drop_cons {α:Type} {l:List α} {i:Nat} (hi:i<l.length) (d:α):l.drop i=l.getD i d :: l.drop (i+1):=by
 rw [List.drop_eq_getElem_cons hi,aG,aE hi];rfl
theorem jA (n:Nat):(UInt64.ofInt (n:Int)).toNat=n % 18446744073709551616:=by
 have h:=kp (n:Int)
 rw [iC] at h;omega
theorem nA (n:Nat):(UInt8.ofInt (n:Int)).toNat=n % 256:=by
 have h:=rT (n:Int)
 rw [wrap_u8'] at h;omega
end Go.Eng
namespace Go.Eng
namespace dK
def ku (r:Int):Bool:=decide (0≤r∧r≤1114111∧(r<55296∨57343<r))
def cont:Nat→Nat→bS→Option Nat
 | r,0,_=>some r
 | _,_+1,[]=>none
 | r,k+1,c :: l=>if 128≤c.toNat∧c.toNat<192 then cont (r * 64+(c.toNat - 128)) k l else none
def mA (r more least:Nat) (l:bS):Int × Int :=
 match cont r more l with
 | some r=>if r<least∨ku r=false then (0,0) else ((r:Int),(more+1:Int))
 | none=>(0,0)
def rune:bS→Int × Int
 | []=>(0,0)
 | c :: l =>
  if c.toNat<128 then ((c.toNat:Int),1)
  else if 192≤c.toNat∧c.toNat<224 then mA (c.toNat - 192) 1 128 l
  else if 224≤c.toNat∧c.toNat<240 then mA (c.toNat - 224) 2 2048 l
  else if 240≤c.toNat∧c.toNat<248 then mA (c.toNat - 240) 3 65536 l
  else (0,0)
def iF (b:bS) (i:Int):Int × Int:=if i<0∨(b.length:Int)≤i then (0,0) else rune (b.drop i.toNat)
def mC:Nat→bS→Nat × Nat
 | 0,_=>(0,0)
 | n+1,l=>if (rune l).2=0 then (0,0) else let q:=mC n (l.drop (rune l).2.toNat);(q.1+(rune l).2.toNat,q.2+1)
def look (l:bS):Nat × Nat:=mC l.length l
def whole (l:bS):Bool:=decide ((look l).1=l.length)
def zero (l:bS):Bool:=l.contains 0
end dK
end Go.Eng
namespace Go.Eng
mutual
def bG.cA:bG→Nat
 | .mk n _ _ _ _ t m _ y ks=>1+n.length+t.length+m.length+y.length+bG.cE ks
def bG.cE:List bG→Nat
 | []=>0
 | f :: r=>bG.cA f+bG.cE r
end
namespace Tree
def zQ:List bS:=[[],[100,111,117,98,108,101],[115,116,114,105,110,103],[100,111,99,117,109,101,110,116],[97,114,114,97,121],[98,105,110,97,114,121],[117,110,100,101,102,105,110,101,100],[111,98,106,101,99,116,105,100],[98,111,111,108],[100,97,116,101],[110,117,108,108],[114,101,103,101,120],[112,111,105,110,116,101,114],[99,111,100,101],[115,121,109,98,111,108],[115,99,111,112,101,100],[105,110,116,51,50],[116,105,109,101,115,116,97,109,112],[105,110,116,54,52],[100,101,99,105,109,97,108]]
def name (k:Int):bS :=
 if k=127 then [109,97,120,107,101,121]
 else if k=255 then [109,105,110,107,101,121]
 else if k<0∨20≤k then []
 else zQ.getD k.toNat []
def kinds:List Int:=[1,2,3,4,5,6,7,8,9,10,11,12,13,14,15,16,17,18,19,127,255]
def kind (s:bS):Int × Bool :=
 match kinds.find? (fun k=>decide (name k=s)) with
 | some k=>(k,true)
 | none=>(0,false)
def gN (i:Nat) (k:Int):Bool :=
 match i with
 | 0=>decide (k∈[1,9,17,18,16,8])
 | 1=>decide (k=19)
 | 2=>decide (k∈[2,13,14,11,12,15])
 | 3=>decide (k=11)
 | 4=>decide (k=5)
 | 5=>decide (k∈[5,7,12])
 | _=>decide (k∈[3,4,15])
def dR (v:bE):Bool :=
 (gN 0 v.kind || decide (v.bits=0))&&(gN 1 v.kind || (decide (v.high=0)&&decide (v.low=0)))&&(gN 2 v.kind || decide (v.text=[]))&&(gN 3 v.kind || decide (v.more=[])) &&
 (gN 4 v.kind || decide (v.sub=0))&&(gN 5 v.kind || decide (v.bytes=[]))&&(gN 6 v.kind || decide (v.kids=[])) &&
 (!decide (v.kind=16) || decide (v.bits<4294967296))&&(!decide (v.kind=8) || decide (v.bits<2))&&(decide (0≤v.sub)&&decide (v.sub≤255))&&(!(decide (v.kind=7) || decide (v.kind=12)) || decide (v.bytes.length=12))
def eP (s:bS) (plain:Bool):Bool:=dK.whole s&&!(plain&&dK.zero s)
def own (v:bE):Int :=
 if name v.kind=[] then 5
 else if dR v=false then 1
 else if eP v.text (decide (v.kind=11))=false∨eP v.more (decide (v.kind=11))=false then 4
 else 0
def qq (v:bE) (n:bS):Int:=if own v≠0 then own v else if eP n true=false then 4 else 0
mutual
def ga:bG→List Int→List Int × Int
 | .mk n k b h l t m s y ks,p=>if qq ⟨k,b,h,l,t,m,s,y,ks⟩ n≠0 then (p,qq ⟨k,b,h,l,t,m,s,y,ks⟩ n) else rq ks 0 p
def rq:List bG→Nat→List Int→List Int × Int
 | [],_,_=>([],0)
 | f :: r,i,p=>if (ga f (p++[(i:Int)])).2≠0 then ga f (p++[(i:Int)]) else rq r (i+1) p
end
mutual
def count:bG→Nat
 | .mk _ _ _ _ _ _ _ _ _ ks=>1+Da ks
def Da:List bG→Nat
 | []=>0
 | f :: r=>count f+Da r
end
mutual
def depth:bG→Nat
 | .mk _ k _ _ _ _ _ _ _ ks=>if k=3∨k=4∨k=15 then iP ks+1 else 0
def iP:List bG→Nat
 | []=>0
 | f :: r=>max (depth f) (iP r)
end
noncomputable def same (a b:bE):Bool:=@decide (a=b) (Classical.propDecidable _)
end Tree
namespace Lk
def room (left:Int):List Int→Int
 | []=>left
 | s :: r=>if left<0∨left<s then -1 else room (left - s) r
mutual
def value (left:Int):bG→Int
 | .mk _ _ _ _ _ t m _ y ks=>values (room left [2,t.length,m.length,y.length]) ks
def values (left:Int):List bG→Int
 | []=>left
 | f :: r=>if left<0 then left else values (value (room left [(f.name.length:Int)]) f) r
end
end Lk
end Go.Eng
namespace Go.Eng
open Go.RowKit
theorem AD {w w':World} {R:Reach} (hR:∀b o,R b o→b<w.heap.size) (h:Below w.heap.size w w'):Ext w R (fun _=>False) w' R :=
 ⟨h.os,h.tape,h.output,h.size,fun b hb _=>h.block b hb,fun b o hr=>⟨hr,by simp only [World.cell?,h.block b (hR b o hr)]⟩,fun b o hr => .inl hr⟩
theorem rZ {P:Program} {gl:Nat→AV} {f:Nat} {c:fi} (h:∀(ti gW:List TV) (w:World) (R:Reach) (xs:List Value),(c ti).holds gW→gP R w (ti.map TV.av) xs→(∀b o,R b o→b<w.heap.size)→(∀n,Rep R w (gl n) (.pointer (some ⟨n,0,none⟩))) →
  Calls P f ⟨xs⟩ w fun e w'=>∃x,e = .returned x∧Below w.heap.size w w'∧∀R w',gP R w' (gW.map TV.av) [x]):fH P gl f (fi.fs (c,{})):=by
 refine ⟨fun _ w R ins outs xs hG hR xY ha=>?_,fun _ _ h=>by cases h⟩
 obtain ⟨ti,gW,rfl,rfl,hc⟩:=hG
 refine (h ti gW w R xs hc ha hR xY).mono ?_
 rintro e w' ⟨x,rfl,hb,hx⟩
 refine ⟨x,R,rfl,AD hR hb,fun b o hr=>Nat.lt_of_lt_of_le (hR b o hr) hb.size,?_⟩
 have hl:gW.length=1:=by
  have:=(hx R w').length
  simpa using this
 refine ⟨[x],[],[],[],0,0,[],[],rfl,rfl,by simp [hl,fi.fs],?_,fun j hj=>by simp [fi.fs] at hj,fun j hj=>by simp [fi.fs] at hj,rfl,rfl,rfl,?_,?_,?_,?_,?_,?_⟩
 ·have e:(List.mapIdx (fun i y=>if (fi.fs (c,{})).sg.new=some i then AV.pt else y) ((gW.map TV.av).take (fi.fs (c,{})).sg.cS))=gW.map TV.av:=by
   match gW,hl with
   | [a],_=>rfl
  rw [e];exact hx R w'
 all_goals intros
 all_goals simp_all [fi.fs,lP]
def uj (t:eJ):TV→TV
 | .c (.slice none 0 0) => .sl t []
 | v=>v
def ui:List (Nat × eJ)→List TV→List TV
 | [],vs=>vs
 | (k,t) :: r,vs=>ui r (vs.modify k (uj t))
def Me (l:List (Nat × eJ)):TV→TV
 | .ag vs => .ag (ui l vs)
 | v=>v
def qg:Nat→List (Nat × eJ)→List TV→List TV
 | _,_,[]=>[]
 | 0,l,v :: r=>Me l v :: r
 | j+1,l,v :: r=>v :: qg j l r
def Md (j:Nat) (l:List (Nat × eJ)) (c:fi):fi:=fun ti=>c (qg j l ti)
section
variable {R:Reach} {w:World}
theorem xA {t:eJ} {v:TV} {x:Value} (h:Rep R w v.av x):Rep R w (uj t v).av x:=by
 unfold uj
 split
 ·have h:Rep R w (.v (.slice none 0 0)) x:=h
  cases h;exact .nil _
 ·exact h
theorem pA {t:eJ}:∀(k:Nat) {vs:List TV} {ys:List Value},eL R w (vs.map TV.av) ys→eL R w ((vs.modify k (uj t)).map TV.av) ys
 | _,[],_,h=>by simpa using h
 | 0,v :: r,_,h=>by
  simp only [ak] at h
  cases h with | cons a b c=>simp only [List.modify_zero_cons,ak];exact .cons a (xA b) c
 | k+1,v :: r,_,h=>by
  simp only [ak] at h
  cases h with | cons a b c=>simp only [List.modify_succ_cons,ak];exact .cons a b (pA k c)
theorem qH:∀(l:List (Nat × eJ)) {vs:List TV} {ys:List Value},eL R w (vs.map TV.av) ys→eL R w ((ui l vs).map TV.av) ys
 | [],_,_,h=>h
 | (k,t) :: r,_,_,h=>qH r (pA k h)
theorem yx {l:List (Nat × eJ)} {v:TV} {x:Value} (h:Rep R w v.av x):Rep R w (Me l v).av x:=by
 unfold Me
 split
 ·simp only [TV.av,TV.gj] at h ⊢
  cases h with | ag h=>exact .ag (qH l h)
 ·exact h
theorem rR {l:List (Nat × eJ)}:∀(j:Nat) {ti:List TV} {xs:List Value},gP R w (ti.map TV.av) xs→gP R w ((qg j l ti).map TV.av) xs
 | _,[],_,h=>by simpa [qg] using h
 | 0,v :: r,_,h=>by
  simp only [ak] at h
  cases h with | cons a b=>exact .cons (yx a) b
 | j+1,v :: r,_,h=>by
  simp only [ak] at h
  cases h with | cons a b=>exact .cons a (rR j b)
theorem vw {l:List (Nat × eJ)}:∀(j i:Nat) {ti:List TV} {xs:List Value},gP R w ((ti.map TV.av).set i .pt) xs→gP R w (((qg j l ti).map TV.av).set i .pt) xs
 | _,_,[],_,h=>by simpa [qg] using h
 | 0,0,v :: r,_,h=>by
  simp only [ak,List.set_cons_zero] at h
  cases h with | cons a b=>exact .cons a b
 | 0,i+1,v :: r,_,h=>by
  simp only [ak,List.set_cons_succ] at h
  cases h with | cons a b=>exact .cons (yx a) b
 | j+1,0,v :: r,_,h=>by
  simp only [ak,List.set_cons_zero] at h
  cases h with | cons a b=>exact .cons a (rR j b)
 | j+1,i+1,v :: r,_,h=>by
  simp only [ak,List.set_cons_succ] at h
  cases h with | cons a b=>exact .cons a (vw j i b)
end
theorem vx {l:List (Nat × eJ)}:∀(j i:Nat) (ti:List TV),i≠j→((qg j l ti).map TV.av)[i]?=(ti.map TV.av)[i]?
 | _,_,[],_=>by simp [qg]
 | 0,0,_ :: _,h=>(h rfl).elim
 | 0,i+1,v :: r,_=>by simp [qg]
 | j+1,0,v :: r,_=>by simp [qg]
 | j+1,i+1,v :: r,h=>by simpa [qg] using vx j i r (by omega)
theorem yB {P:Program} {gl:Nat→AV} {f j:Nat} {l:List (Nat × eJ)} {sg:dq} {c:fi} (lD:sg.ps=none) (hj:sg.ref≠some j) (h:fH P gl f (fi.fs (c,sg))):fH P gl f (fi.fs (Md j l c,sg)):=by
 refine ⟨fun _ w R ins outs xs hG h1 h2 h3=>?_,fun i s hp=>by simp [fi.fs,lD] at hp⟩
 obtain ⟨ti,gW,rfl,rfl,hc⟩:=hG
 refine h.1 lD w R _ (gW.map TV.av) xs ⟨qg j l ti,gW,rfl,rfl,hc⟩ h1 h2 ?_
 have h3:jG sg R w (ti.map TV.av) xs:=h3
 show jG sg R w ((qg j l ti).map TV.av) xs
 unfold jG at h3 ⊢
 cases hr:sg.ref with
 | none=>rw [hr] at h3;exact rR j h3
 | some i =>
  rw [hr] at h3
  obtain ⟨b,cs,x,tv,a1,a2,a3,a4,a5,a6,a7⟩:=h3
  exact ⟨b,cs,x,tv,a1,(vx j i ti (fun e=>hj (by rw [hr,e]))).trans a2,a3,vw j i a4,a5,a6,a7⟩
structure vq (P:Program) (t tk ti tu ts tb ty:TypeId):Prop where
 v:fieldsOf P t=some [(ti,0),(tu,1),(tb,2),(ts,3),(tk,4)]
 k:P.underlying tk=some (.slice t)
 i:P.underlying ti=some (.int .i64)
 u:P.underlying tu=some (.int .u64)
 s:P.underlying ts=some .string
 b:P.underlying tb=some (.slice ty)
 y:P.underlying ty=some (.int .u8)
 cv:P.cellsOf t=5
 ck:P.cellsOf tk=1
 ci:P.cellsOf ti=1
 cu:P.cellsOf tu=1
 cs:P.cellsOf ts=1
 cb:P.cellsOf tb=1
 cy:P.cellsOf ty=1
section
variable {P:Program} {t tk ti tu ts tb ty:TypeId}
theorem vq.Qo (T:vq P t tk ti tu ts tb ty):∀n,lK P n t bD fun f=>(nN f).cells:=by
 intro n
 induction n using Nat.strongRecOn with
 | _ n ih =>
  obtain ⟨fs,h1,h2⟩:=lW T.v
  have R:=fun (k:Nat) (hk:k<n)=>(gV (off:=0) T.ci (qt T.i) (gV T.cu (od T.u) (gV T.cb (qO T.b T.y T.cy) (gV T.cs (oe T.s)
   (gV T.ck (nI (av:=nN) T.k T.cv (by omega) (fun f=>by cases f;rfl) fun j hj=>ih j (by omega)) uz)))):lC P k _ 0 _ _)
  exact mQ h1 h2 (by simp [T.cv,T.ci,T.cu,T.cs,T.cb,T.ck]) R (fun a=>bD.mk a.1 a.2.1 a.2.2.1 a.2.2.2.1 a.2.2.2.2.1) (fun a=>by
   simp [nN,AV.cells,lx,iE,tU,jU,kd])
theorem vq.rep (T:vq P t tk ti tu ts tb ty) {H:Type} {enc:TypeId × Value→H} {w:World} {base:Nat} {spare:Nat→Bool} {held:Bool} {cs:Array Value} {d:DataW H} {p:List MemPlace} (h:DataW.Trod enc P w base spare held t (.agg cs) d p) :
  ∃v:bM,Rep (Old w) w (TV.av (.ag (bM.cells v))) (.agg cs):=by
 obtain ⟨n,h⟩:=h
 obtain ⟨v,hv⟩:=T.Qo n H enc w base spare held _ _ h
 refine ⟨v.val,?_⟩
 cases v with | mk k n b s ks =>
 simp only [TV.av,TV.gj,bM.cells,bD.val,bD.kind,bD.n,bD.bytes,bD.text,bD.kids,ak,au,eJ.size,eJ.av]
 refine .ag ?_
 have hv:eL (Old w) w (nN (bD.mk k n b s ks)).cells _:=hv
 show eL (Old w) w [tU k,jU n,kd b,iE s,.sl 5 (ks.map nN)] _
 simpa [nN,AV.cells,lx,iE,tU,jU,kd,Value.cells] using hv
end
theorem rep_u64 {R:Reach} {w:World} {n:Int} (h:(Lit.int .u64 n).wf=true):Rep R w (TV.av (.u64 (UInt64.ofInt n))) (.int .u64 n):=by
 have e:TV.av (.u64 (UInt64.ofInt n)) = .v (.int .u64 ((UInt64.ofInt n).toNat:Int)):=rfl
 rw [e,A2 h];exact .v _
end Go.Eng
namespace Go.Eng
open Go.RowKit Go.Sort
def LV:List (Nat × TV)→Nat→TV
 | [],_ => .dead
 | (k,v) :: r,n=>cond (Nat.beq n k) v (LV r n)
def A8 (k:IntKind) (zs:List Int):TV := .gv (zs.map fun z=>Value.int k z)
theorem Ak {P:Program} {w:World} {name:String} {k:IntKind} {zs:List Int} {g:Nat} (h:Lib.TabIs P w name k zs) (hg:P.globalNamed name=some g):Rep (Old w) w (A8 k zs).av (.pointer (some ⟨g,0,none⟩)):=by
 have hs:g<w.heap.size:=by
  unfold Lib.TabIs World.var? at h
  rw [hg] at h
  simp only [Option.bind_some] at h
  cases hh:w.heap[g]? with
  | none=>rw [hh] at h;cases h
  | some x=>exact (Array.getElem?_eq_some_iff.1 hh).1
 exact .gv (fun _=>hs) (fun o=>by have:=World.var?_cell hg h o;simpa using this)
theorem zz {P:Program} {R:Reach} {w:World} {name:String} {k:IntKind} {z:Int} {zs:List Int} {g:Nat} (h:Rep R w (A8 k (z :: zs)).av (.pointer (some ⟨g,0,none⟩))) (hg:P.globalNamed name=some g):Lib.TabIs P w name k (z :: zs):=by
 have h:Rep R w (.gv ((z :: zs).map fun z=>Value.int k z)) (.pointer (some ⟨g,0,none⟩)):=h
 cases h with
 | gv h1 h2 =>
  have h0:=h2 0
  unfold Lib.TabIs World.var?
  rw [hg]
  simp only [Option.bind_some]
  simp only [World.cell?] at h0 h2
  cases hh:w.heap[g]? with
  | none=>rw [hh] at h0;cases h0
  | some x =>
   rw [hh] at h0 h2
   cases x with
   | cells cs e f =>
    simp only at h2 ⊢
    congr 1
    apply Array.ext_getElem?
    intro i
    have:=h2 i
    simp only [Option.isSome_none,bk,if_false] at this
    rw [this]
    simp
   | _=>cases h0
theorem gl_one {P:Program} {w:World} {name:String} {k:IntKind} {zs:List Int} {g:Nat} (h:Lib.TabIs P w name k zs) (hg:P.globalNamed name=some g):∀n,Rep (Old w) w ((LV [(g,A8 k zs)] n).av) (.pointer (some ⟨n,0,none⟩)):=by
 intro n
 unfold LV
 cases hb:Nat.beq n g with
 | true=>rw [ay hb];exact Ak h hg
 | false=>exact .dead _
theorem yo (w:World) (k:Nat) (os:Array Obj):Below w.heap.size w (grow (w.drewN k) os) :=
 ⟨rfl,rfl,rfl,by show w.heap.size≤(w.heap++os).size;simp,fun i hi=>heap_grow_old (w.drewN k) os hi⟩
def Cp:fi:=fun l=>match l with
 | [.i .i64 n] => .fJ (decide (-9223372036854775808≤n∧n≤9223372036854775807)) [.s (Lib.itoa n)]
 | _ => .err
theorem Ej {P:Program} {gl:Nat→TV} {f g:Nat} {k:IntKind} {z:Int} {zs:List Int} (xY:(gl g)=A8 k (z :: zs))
  (h:∃name,P.globalNamed name=some g∧∀(n:Int),-9223372036854775808≤n→n≤9223372036854775807→∀w:World,Lib.TabIs P w name k (z :: zs)→Calls P f #[.int .i64 n] w fun e w'=>e = .returned (.string ⟨(Lib.itoa n).toArray⟩)∧∃k os,w'=grow (w.drewN k) os) :
  fH P (fun n=>(gl n).av) f (fi.fs (Cp,{})):=by
 obtain ⟨name,hg,h⟩:=h
 refine rZ fun ti gW w R xs hc ha hR hG=>?_
 unfold Cp at hc
 split at hc
 ·rename_i n
  obtain ⟨hp,rfl⟩:=hc
  have hp:=aD hp
  have e:xs=[.int .i64 n]:=by
   have ha:gP R w [.v (.int .i64 n)] xs:=ha
   cases ha with
   | cons a b=>cases a;cases b;rfl
  subst e
  have mN:=hG g
  rw [xY] at mN
  refine (h n hp.1 hp.2 w (zz mN hg)).mono ?_
  rintro e w' ⟨rfl,q,os,rfl⟩
  refine ⟨_,rfl,yo _ _ _,fun R w'=>?_⟩
  have:Rep R w' (.v (.string ⟨⟨Lib.itoa n⟩⟩)) (.string ⟨(Lib.itoa n).toArray⟩) := .v _
  exact .cons this .nil
 ·exact hc.elim
def ky (n:Nat):bS:=if h:n<10 then [UInt8.ofNat (48+n)] else ky (n / 10)++[UInt8.ofNat (48+n % 10)]
termination_by n
decreasing_by omega
theorem C5 (n:Nat):Lib.decDigits n=ky n:=by
 induction n using Nat.strongRecOn with
 | _ n ih =>
  rw [Lib.decDigits,ky]
  by_cases h:n<10
  ·rw [dif_pos h,dif_pos h]
  ·rw [dif_neg h,dif_neg h,ih (n / 10) (by omega)]
theorem we (n:Nat):Lib.itoa (n:Int)=ky n:=by
 rw [Lib.itoa,ah (by omega),aK,C5]
end Go.Eng
namespace Go.Eng
namespace Tree
def gL:Nat→List bG→Bool
 | _,[]=>true
 | i,f :: r=>decide (f.name=ky i)&&gL (i+1) r
def regular (l:List bG):Bool:=gL 0 l
end Tree
end Go.Eng
namespace Go.Eng
namespace cM
def be (l:bS):UInt64:=l.foldl (fun v x=>v * 256+x.toUInt64) 0
def iy (v:UInt64):Nat→bS
 | 0=>[]
 | n+1=>v.toUInt8 :: iy (v / 256) n
def eb (v:UInt64) (n:Nat):bS:=(iy v n).reverse
def ie (r:dj):Bool:=decide (0≤r.at_∧r.at_≤r.b.length∧r.b.length≤1099511627776)
def left (r:dj):Int:=r.b.length - r.at_
def more (r:dj):Bool:=decide (r.at_<r.b.length)
def byte (r:dj):Int:=if r.at_<r.b.length then ((r.b.getD r.at_.toNat 0).toNat:Int) else 0
def oO (r:dj) (n:Int) (ok:Bool):dj:=cond ok ⟨r.b,r.at_+n⟩ r
def pd (r:dj) (n:Int):Bool:=decide (1≤n∧n≤8∧n≤r.b.length - r.at_)
def rj (r:dj) (n:Int):Bool:=decide (0≤n∧n≤r.b.length - r.at_)
def nx (r:dj) (n:Int) (ok:Bool):bS:=cond ok ((r.b.drop r.at_.toNat).take n.toNat) []
def high (v:UInt64) (n:Int):bS:=if 1≤n∧n≤8 then eb v n.toNat else []
end cM
namespace bD
mutual
def cA:bD→Nat
 | .mk _ _ b t ks=>1+b.length+t.length+cE ks
def cE:List bD→Nat
 | []=>0
 | k :: r=>cA k+cE r
end
mutual
def nest:bD→Nat
 | .mk _ _ _ _ ks=>qQ ks+1
def qQ:List bD→Nat
 | []=>0
 | k :: r=>max (nest k) (qQ r)
end
mutual
def same:bD→bD→Bool
 | .mk k n b t ks,.mk k' n' b' t' Qn=>decide (k=k')&&decide (n=n')&&decide (t=t')&&decide (b=b')&&nf ks Qn
def nf:List bD→List bD→Bool
 | [],[]=>true
 | k :: r,k' :: r'=>same k k'&&nf r r'
 | [],_ :: _=>false
 | _ :: _,[]=>false
end
mutual
def room (left:Int):bD→Int
 | .mk _ _ b t ks=>Ft (Lk.room left [2,(t.length:Int),(b.length:Int)]) ks
def Ft (left:Int):List bD→Int
 | []=>left
 | k :: r=>if left<0 then left else Ft (room left k) r
end
end bD
namespace Mp
def own:bD→Int
 | .mk k n b t ks =>
  if k<1∨10<k∨k=7 then 5
  else if ((k=3∨k=4∨k=5∨k=6)∧n≠0)∨(k≠3∧k≠10∧b≠[])∨(k≠4∧t≠[]) then 1
  else if k≠5∧k≠6∧ks≠[] then 1
  else if (k=2∧9223372036854775808≤n)∨(k=8∧(n<20∨22<n))∨(k=10∧127<n)∨(k=6∧ks.length % 2≠0) then 1
  else if 4294967296≤b.length∨4294967296≤t.length∨(k=5∧4294967296≤ks.length)∨4294967296≤ks.length / 2 then 1
  else if dK.whole t then 0 else 4
mutual
def di:bD→Int
 | .mk k n b t ks=>if own (.mk k n b t ks)=0 then gw ks else own (.mk k n b t ks)
def gw:List bD→Int
 | []=>0
 | k :: r=>if di k=0 then gw r else di k
end
def dR:bD→Bool
 | .mk k n b t ks =>
  if k=1∨k=9 then decide (b=[]∧t=[]∧ks=[])
  else if k=2 then decide (n<9223372036854775808∧b=[]∧t=[]∧ks=[])
  else if k=3 then decide (b.length<4294967296∧n=0∧t=[]∧ks=[])
  else if k=4 then decide (t.length<4294967296∧n=0∧b=[]∧ks=[])
  else if k=5 then decide (ks.length<4294967296∧n=0∧b=[]∧t=[])
  else if k=6 then decide (ks.length % 2=0∧ks.length / 2<4294967296∧n=0∧b=[]∧t=[])
  else if k=8 then decide (20≤n∧n≤22∧b=[]∧t=[]∧ks=[])
  else if k=10 then decide (n≤127∧b.length<4294967296∧t=[]∧ks=[])
  else decide (n=0∧b=[]∧t=[]∧ks=[])
def base (k:Int):Int:=if k=4 then 217 else if k=3 then 196 else if k=5 then 220 else if k=6 then 222 else 199
def fix (k:Int):Int:=if k=4 then 32 else if k=5∨k=6 then 16 else 0
def tq (k:Int):Int:=if k=4 then 160 else if k=5 then 144 else 128
def fixed (k n:Int):Int:=if k=10 then (if n=1 then 212 else if n=2 then 213 else if n=4 then 214 else if n=8 then 215 else if n=16 then 216 else 0) else 0
def sized (k n:Int):Int × Int :=
 if fixed k n≠0 then (fixed k n,0) else if n<fix k then (tq k+n,0)
 else if k=5∨k=6 then (if n<65536 then (base k,2) else (base k+1,4))
 else if n<256 then (base k,1) else if n<65536 then (base k+1,2) else (base k+2,4)
def lN (k:Int):Bool:=decide (k=3∨k=4∨k=5∨k=6∨k=10)
def eD (n:UInt64):Int × Int :=
 if n<128 then ((n.toNat:Int),0) else if n<256 then (204,1) else if n<65536 then (205,2) else if n<4294967296 then (206,4) else (207,8)
def signed (n:UInt64):Int × Int :=
 if n<32 then (255 - (n.toNat:Int),0) else if n<128 then (208,1) else if n<32768 then (209,2) else if n<2147483648 then (210,4) else (211,8)
def put (f:Int × Int) (n:UInt64):bS:=UInt8.ofInt f.1 :: cM.high n f.2
def head:bD→bS
 | .mk k n b t ks =>
  if k=1 then put (eD n) n
  else if k=2 then put (signed n) (~~~ n)
  else if k=8 then [if n=20 then 194 else if n=21 then 195 else 192]
  else if k=9 then put (203,8) n
  else if k=4 then put (sized 4 t.length) (UInt64.ofNat t.length)
  else if k=3 then put (sized 3 b.length) (UInt64.ofNat b.length)
  else if k=5 then put (sized 5 ks.length) (UInt64.ofNat ks.length)
  else if k=6 then put (sized 6 (ks.length / 2:Nat)) (UInt64.ofNat (ks.length / 2))
  else put (sized 10 b.length) (UInt64.ofNat b.length)++[n.toUInt8]
mutual
def lay:bD→bS
 | .mk k n b t ks=>head (.mk k n b t ks)++b++t++fF ks
def fF:List bD→bS
 | []=>[]
 | k :: r=>lay k++fF r
end
def enc (it:bD):bS:=if di it=0 then lay it else []
def wide (n:UInt64):Int:=if n<256 then 1 else if n<65536 then 2 else if n<4294967296 then 4 else 8
def step (n:Int):UInt8:=if n=1 then 0 else if n=2 then 1 else if n=4 then 2 else 3
def form (f:UInt8) (n:UInt64) (least:Int):bS:=(f+step (max (wide n) least) - step least) :: cM.eb n (max (wide n) least).toNat
def ext (n k:UInt64):bS :=
 if n=1 then [212,k.toUInt8] else if n=2 then [213,k.toUInt8] else if n=4 then [214,k.toUInt8] else if n=8 then [215,k.toUInt8] else if n=16 then [216,k.toUInt8] else form 199 n 1++[k.toUInt8]
def want (k:Int) (n types:UInt64):bS :=
 if k=3 then form 196 n 1 else if k=10 then ext n types
 else if k=4 then (if n<32 then [160+n.toUInt8] else form 217 n 1)
 else if k=5 then (if n<16 then [144+n.toUInt8] else form 220 n 2)
 else if k=6 then (if n<16 then [128+n.toUInt8] else form 222 n 2)
 else head (.mk k n [] [] [])
def IW (b:bS) (a n:Int):Bool:=decide (1≤n∧n≤8∧0≤a∧a≤b.length∧n≤b.length - a)
def nr (b:bS) (a n:Int):bS:=cond (IW b a n) ((b.drop a.toNat).take n.toNat) []
def first (c:Int):Int × UInt64 × Int :=
 if c<128 then (1,UInt64.ofInt c,0)
 else if c<144 then (6,UInt64.ofInt (c - 128),0)
 else if c<160 then (5,UInt64.ofInt (c - 144),0)
 else if c<192 then (4,UInt64.ofInt (c - 160),0)
 else if 224≤c then (2,UInt64.ofInt (255 - c),0)
 else if c=192 then (8,22,0)
 else if c=193 then (0,0,0)
 else if c≤195 then (8,UInt64.ofInt (c - 174),0)
 else if c≤198 then (3,0,if c=196 then 1 else if c=197 then 2 else 4)
 else if c≤201 then (10,0,if c=199 then 1 else if c=200 then 2 else 4)
 else if c=202 then (0,0,0)
 else if c=203 then (9,0,8)
 else if c≤207 then (1,0,if c=204 then 1 else if c=205 then 2 else if c=206 then 4 else 8)
 else if c≤211 then (2,0,if c=208 then 1 else if c=209 then 2 else if c=210 then 4 else 8)
 else if c≤216 then (10,if c=212 then 1 else if c=213 then 2 else if c=214 then 4 else if c=215 then 8 else 16,0)
 else if c≤219 then (4,0,if c=217 then 1 else if c=218 then 2 else 4)
 else if c≤221 then (5,0,if c=220 then 2 else 4)
 else (6,0,if c=222 then 2 else 4)
def zero:bD := .mk 0 0 [] [] []
def below (n:UInt64) (size:Int):Option UInt64 :=
 let top:UInt64:=if size=1 then 128 else if size=2 then 32768 else if size=4 then 2147483648 else 9223372036854775808
 if n<top then none else some (top - 1 - (n - top))
structure jd where
 it:bD
 err:Int
 at_:Int
 pos:Int
def bad (e p q:Int):jd:=⟨zero,e,p,q⟩
def row (b:bS) (it:bD) (p q n:Int):jd :=
 if n<0∨(b.length:Int) - q<n then bad 2 p q
 else if it.kind≠4 then ⟨.mk it.kind it.n ((b.drop q.toNat).take n.toNat) it.text it.kids,0,0,q+n⟩
 else if dK.whole ((b.drop q.toNat).take n.toNat) then ⟨.mk it.kind it.n it.bytes ((b.drop q.toNat).take n.toNat) it.kids,0,0,q+n⟩
 else bad 4 p (q+n)
def kids (f:Int→jd) (it:bD):Nat→Int→jd
 | 0,q=>⟨it,0,0,q⟩
 | n+1,q =>
  let g:=f q
  if g.err≠0 then ⟨zero,g.err,g.at_,g.pos⟩
  else kids f (.mk it.kind it.n it.bytes it.text (it.kids++[g.it])) n g.pos
def num (it:bD) (p c f q:Int):jd:=if f≠c then bad 3 p q else ⟨it,0,0,q⟩
def iX (b:bS) (sub:Int→jd) (p c k:Int) (n:UInt64) (long:Int) (t:UInt64) (q:Int):jd :=
 if k=8∨k=9 then ⟨.mk k n [] [] [],0,0,q⟩
 else if k=1 then num (.mk k n [] [] []) p c (eD n).1 q
 else if k=2 then (if long=0 then num (.mk k n [] [] []) p c (signed n).1 q else match below n long with
  | none=>bad 3 p q
  | some m=>num (.mk k m [] [] []) p c (signed m).1 q)
 else if (sized k n.toNat).1≠c∨127<t then bad 3 p q
 else if k=5 then kids sub (.mk k t [] [] []) n.toNat q
 else if k=6 then kids sub (.mk k t [] [] []) (2 * n.toNat) q
 else row b (.mk k t [] [] []) p q n.toNat
def mj (b:bS) (sub:Int→jd) (p c k:Int) (n:UInt64) (long q:Int):jd :=
 if k=10 then (if (b.length:Int) - q<1 then bad 2 p q else iX b sub p c k n long (b.getD q.toNat 0).toUInt64 (q+1))
 else iX b sub p c k n long 0 q
def sd (b:bS) (sub:Int→jd) (p c k:Int) (n0:UInt64) (long:Int):jd :=
 if k=0 then bad 3 p (p+1)
 else if (b.length:Int) - (p+1)<long then bad 2 p (p+1)
 else mj b sub p c k (if long=0 then n0 else cM.be ((b.drop (p+1).toNat).take long.toNat)) long (p+1+long)
def read (b:bS):Nat→Int→jd
 | 0,p=>bad 8 p p
 | d+1,p =>
  if (b.length:Int)≤p then bad 2 p p
  else sd b (read b d) p ((b.getD p.toNat 0).toNat:Int) (first ((b.getD p.toNat 0).toNat:Int)).1 (first ((b.getD p.toNat 0).toNat:Int)).2.1 (first ((b.getD p.toNat 0).toNat:Int)).2.2
def many (k n:Int):Nat:=if k=6 then 2 * n.toNat else n.toNat
def dec (b:bS) (depth:Int):bD × ez :=
 if depth<0∨1000<depth then (zero,⟨1,0,[]⟩)
 else
  let g:=read b depth.toNat 0
  if g.err≠0 then (zero,⟨g.err,g.at_,[]⟩)
  else if g.pos<b.length then (zero,⟨7,g.pos,[]⟩)
  else (g.it,⟨0,0,[]⟩)
end Mp
end Go.Eng
namespace Go.Eng
namespace Cb
def own:bD→Int
 | .mk k n b t ks =>
  if k<1∨9<k then 5
  else if ((k=3∨k=4∨k=5∨k=6)∧n≠0)∨(k≠3∧b≠[])∨(k≠4∧t≠[]) then 1
  else if k≠5∧k≠6∧k≠7∧ks≠[] then 1
  else if (k=8∧(n<20∨23<n))∨(k=6∧ks.length % 2≠0)∨(k=7∧ks.length≠1) then 1
  else if dK.whole t then 0 else 4
mutual
def di:bD→Int
 | .mk k n b t ks=>if own (.mk k n b t ks)=0 then gw ks else own (.mk k n b t ks)
def gw:List bD→Int
 | []=>0
 | k :: r=>if di k=0 then gw r else di k
end
def dR:bD→Bool
 | .mk k n b t ks =>
  decide ((k=1∨k=2∨k=9∨k=7∨k=8)∨n=0)&&decide (k=3∨b=[])&&decide (k=4∨t=[])&&decide ((k=5∨k=6∨k=7)∨ks=[]) &&
  decide (k≠8∨(20≤n∧n≤23))&&decide (k≠6∨ks.length % 2=0)&&decide (k≠7∨ks.length=1)
end Cb
namespace Db
def text (s:bS):bD := .mk 4 0 [] s []
def raw (b:bS):bD := .mk 3 0 b [] []
def plus (n:UInt64):bD := .mk 1 n [] [] []
def simple (n:UInt64):bD := .mk 8 n [] [] []
def list (l:List bD):bD := .mk 5 0 [] [] l
def map (l:List bD):bD := .mk 6 0 [] [] l
def integer (v:Int):bD:=if v<0 then .mk 2 (UInt64.ofInt (-(v+1))) [] [] [] else .mk 1 (UInt64.ofInt v) [] [] []
def i32 (n:UInt64):Int:=IntKind.i32.wrap (n.toNat:Int)
def i64 (n:UInt64):Int:=IntKind.i64.wrap (n.toNat:Int)
def words (high low:UInt64):bS:=cM.eb high 8++cM.eb low 8
def tagged (v:bE) (m:List bD):bD :=
 if v.kind=4 then map m
 else if v.kind=5 then list [plus (UInt64.ofInt v.sub),raw v.bytes]
 else if v.kind=7 then raw v.bytes
 else if v.kind=9∨v.kind=18 then integer (i64 v.bits)
 else if v.kind=11 then list [text v.text,text v.more]
 else if v.kind=12 then list [text v.text,raw v.bytes]
 else if v.kind=13∨v.kind=14 then text v.text
 else if v.kind=15 then list [text v.text,map m]
 else if v.kind=17 then plus v.bits
 else if v.kind=19 then raw (words v.high v.low)
 else simple 22
def gz (v:bE) (m l:List bD):bD :=
 if v.kind=1 then .mk 9 v.bits [] [] []
 else if v.kind=2 then text v.text
 else if v.kind=3 then map m
 else if v.kind=4∧Tree.regular v.kids then list l
 else if v.kind=5∧v.sub=0 then raw v.bytes
 else if v.kind=6 then simple 23
 else if v.kind=10 then simple 22
 else if v.kind=8 then simple (20+v.bits)
 else if v.kind=16 then integer (i32 v.bits)
 else .mk 7 (UInt64.ofInt (1000+v.kind)) [] [] [tagged v m]
mutual
def item:bG→bD
 | .mk _ k b h l t m s y ks=>gz ⟨k,b,h,l,t,m,s,y,ks⟩ (mapped ks) (items ks)
def mapped:List bG→List bD
 | []=>[]
 | f :: r=>text f.name :: item f :: mapped r
def items:List bG→List bD
 | []=>[]
 | f :: r=>item f :: items r
end
def enc (v:bE):bD × ez :=
 if (Tree.ga (bG.of [] v) []).2≠0 then (Mp.zero,⟨(Tree.ga (bG.of [] v) []).2,0,(Tree.ga (bG.of [] v) []).1⟩)
 else if v.kind≠3 then (Mp.zero,⟨5,0,[]⟩)
 else (map (mapped v.kids),⟨0,0,[]⟩)
def zero:bE:=⟨0,0,0,0,[],[],0,[],[]⟩
inductive jd where
 | ok (v:bE)
 | bad (p:List Int)
inductive ir where
 | ok (l:List bG)
 | bad (p:List Int)
def jd.val:jd→bE
 | .ok v=>v
 | .bad _=>zero
def jd.yd:jd→ez
 | .ok _=>⟨0,0,[]⟩
 | .bad p=>⟨12,0,p⟩
def ir.yd:ir→ez
 | .ok _=>⟨0,0,[]⟩
 | .bad p=>⟨12,0,p⟩
def ir.qZ (v:bE):ir→jd
 | .ok l => .ok { v with kids:=l }
 | .bad p => .bad p
def number (it:bD):Option Int :=
 if 9223372036854775808≤it.n then none
 else if it.kind=1 then some (it.n.toNat:Int)
 else if it.kind=2 then some (-1 - (it.n.toNat:Int))
 else none
def gL:Nat→List bD→Bool
 | _,[]=>true
 | i,[k]=>decide (k.kind=4∧k.text=ky i)
 | i,k :: _ :: r=>decide (k.kind=4∧k.text=ky i)&&gL (i+1) r
def regular (l:List bD):Bool:=gL 0 l
def fst (it:bD):bD:=it.kids.getD 0 Mp.zero
def snd (it:bD):bD:=it.kids.getD 1 Mp.zero
def kinds (it:bD) (a b:Int):Bool:=decide (it.kind=5∧it.kids.length=2∧(fst it).kind=a∧(snd it).kind=b)
def iB (it:bD):Int:=if 9223372036854775808≤it.n then 0 else if it.kind=2 then -1 - (it.n.toNat:Int) else (it.n.toNat:Int)
def doc (k:Int) (t:bS):bE:=⟨k,0,0,0,t,[],0,[],[]⟩
def Bb (n:UInt64) (it:bD):bE × Bool :=
 if n<1000∨1255<n then (zero,false)
 else if n=1005 then
  (if kinds it 1 3∧1≤(fst it).n∧(fst it).n≤255 then (⟨5,0,0,0,[],[],((fst it).n.toNat:Int),(snd it).bytes,[]⟩,true) else (doc 5 [],false))
 else if n=1007 then (⟨7,0,0,0,[],[],0,it.bytes,[]⟩,decide (it.kind=3∧it.bytes.length=12))
 else if n=1009∨n=1018 then (⟨(n.toNat:Int) - 1000,UInt64.ofInt ((number it).getD 0),0,0,[],[],0,[],[]⟩,(number it).isSome)
 else if n=1011 then
  (if kinds it 4 4∧¬dK.zero (fst it).text∧¬dK.zero (snd it).text then (⟨11,0,0,0,(fst it).text,(snd it).text,0,[],[]⟩,true) else (doc 11 [],false))
 else if n=1012 then
  (if kinds it 4 3∧(snd it).bytes.length=12 then (⟨12,0,0,0,(fst it).text,[],0,(snd it).bytes,[]⟩,true) else (doc 12 [],false))
 else if n=1013∨n=1014 then (doc ((n.toNat:Int) - 1000) it.text,decide (it.kind=4))
 else if n=1017 then (⟨17,it.n,0,0,[],[],0,[],[]⟩,decide (it.kind=1))
 else if n=1019 then
  (if it.kind=3∧it.bytes.length=16 then (⟨19,0,cM.be (it.bytes.take 8),cM.be (it.bytes.drop 8),[],[],0,[],[]⟩,true) else (doc 19 [],false))
 else if n=1127∨n=1255 then (doc ((n.toNat:Int) - 1000) [],decide (it.kind=8∧it.n=22))
 else (doc ((n.toNat:Int) - 1000) [],false)
def small (n:UInt64) (it:bD):Option bE:=if (Bb n it).2 then some (Bb n it).1 else none
def half (it:bD):bE × Bool:=(⟨16,UInt64.ofInt (iB it % 4294967296),0,0,[],[],0,[],[]⟩,(number it).isSome&&decide (-2147483648≤iB it∧iB it<2147483648))
def leaf (k:Int) (n:UInt64) (b t:bS):Option bE :=
 if k=9 then some ⟨1,n,0,0,[],[],0,[],[]⟩
 else if k=4 then some ⟨2,0,0,0,t,[],0,[],[]⟩
 else if k=3 then some ⟨5,0,0,0,[],[],0,b,[]⟩
 else if k=8 then some (if n=22 then ⟨10,0,0,0,[],[],0,[],[]⟩ else if n=23 then ⟨6,0,0,0,[],[],0,[],[]⟩ else ⟨8,n - 20,0,0,[],[],0,[],[]⟩)
 else if (half (.mk k n b t [])).2 then some (half (.mk k n b t [])).1 else none
def opt (o:Option bE) (p:List Int):jd:=match o with | some v => .ok v | none => .bad p
mutual
def value:bD→List Int→jd
 | .mk k n b t ks,p =>
  if k=6 then (fields ks 0 p).qZ (doc 3 [])
  else if k=5 then (elems ks 0 p).qZ (doc 4 [])
  else if k=7 then tags n ks p
  else opt (leaf k n b t) p
def tags (n:UInt64):List bD→List Int→jd
 | [],p => .bad p
 | x :: _,p=>Mk n x p
def Mk (n:UInt64):bD→List Int→jd
 | .mk k m b t ks,p =>
  if n=1004 then (if k=6∧¬regular ks then (fields ks 0 (p++[0])).qZ (doc 4 []) else .bad p)
  else if n=1015 then (if kinds (.mk k m b t ks) 4 6 then I0 ks p else .bad p)
  else opt (small n (.mk k m b t ks)) p
def I0:List bD→List Int→jd
 | [],p => .bad p
 | [_],p => .bad p
 | a :: m :: _,p=>GR a.text m p
def GR (t:bS):bD→List Int→jd
 | .mk _ _ _ _ ks,p=>(fields ks 0 (p++[0,1])).qZ (doc 15 t)
def fields:List bD→Nat→List Int→ir
 | [],_,_ => .ok []
 | [k],i,p => .bad (p++[(i:Int)])
 | k :: x :: r,i,p =>
  if k.kind≠4∨dK.zero k.text then .bad (p++[(i:Int)])
  else match value x (p++[((i+1:Nat):Int)]) with
   | .bad q => .bad q
   | .ok v=>match fields r (i+2) p with
    | .bad q => .bad q
    | .ok l => .ok (bG.of k.text v :: l)
def elems:List bD→Nat→List Int→ir
 | [],_,_ => .ok []
 | x :: r,i,p =>
  match value x (p++[(i:Int)]) with
   | .bad q => .bad q
   | .ok v=>match elems r (i+1) p with
    | .bad q => .bad q
    | .ok l => .ok (bG.of (ky i) v :: l)
end
def dec (it:bD):bE × ez :=
 if Cb.di it≠0 then (zero,⟨Cb.di it,0,[]⟩)
 else if it.kind≠6 then (zero,⟨12,0,[]⟩)
 else ((value it []).val,(value it []).yd)
end Db
end Go.Eng
namespace Go.Eng
namespace Tree
mutual
def jF:bG→Bool
 | .mk n k b h l t m s y ks=>decide (qq ⟨k,b,h,l,t,m,s,y,ks⟩ n=0)&&gg ks
def gg:List bG→Bool
 | []=>true
 | f :: r=>jF f&&gg r
end
end Tree
namespace Dk
def sort (k:Int):UInt64:=if k=255 then 126 else UInt64.ofInt k
def ext (k:Int) (b:bS):bD := .mk 10 (sort k) b [] []
def inner (v:bE) (m:bS):bS :=
 if v.kind=4 then m
 else if v.kind=5 then UInt8.ofInt v.sub :: v.bytes
 else if v.kind=7 then v.bytes
 else if v.kind=9∨v.kind=17∨v.kind=18 then cM.eb v.bits 8
 else if v.kind=11 then v.text++0 :: v.more
 else if v.kind=12 then v.bytes++v.text
 else if v.kind=13∨v.kind=14 then v.text
 else if v.kind=15 then cM.eb (UInt64.ofInt v.text.length) 4++v.text++m
 else if v.kind=19 then Db.words v.high v.low
 else []
def gz (v:bE) (m l:List bD):bD :=
 if v.kind=1 then .mk 9 v.bits [] [] []
 else if v.kind=2 then Db.text v.text
 else if v.kind=3 then Db.map m
 else if v.kind=4∧Tree.regular v.kids then Db.list l
 else if v.kind=5∧v.sub=0 then Db.raw v.bytes
 else if v.kind=10 then Db.simple 22
 else if v.kind=8 then Db.simple (20+v.bits)
 else if v.kind=16 then Db.integer (Db.i32 v.bits)
 else ext v.kind (inner v (Mp.lay (Db.map m)))
mutual
def item:bG→bD
 | .mk _ k b h l t m s y ks=>gz ⟨k,b,h,l,t,m,s,y,ks⟩ (mapped ks) (items ks)
def mapped:List bG→List bD
 | []=>[]
 | f :: r=>Db.text f.name :: item f :: mapped r
def items:List bG→List bD
 | []=>[]
 | f :: r=>item f :: items r
end
def enc (v:bE):bD × ez :=
 if (Tree.ga (bG.of [] v) []).2≠0 then (Mp.zero,⟨(Tree.ga (bG.of [] v) []).2,0,(Tree.ga (bG.of [] v) []).1⟩)
 else if v.kind≠3 then (Mp.zero,⟨5,0,[]⟩)
 else if 200<Tree.depth (bG.of [] v) then (Mp.zero,⟨8,0,[]⟩)
 else (Db.map (mapped v.kids),⟨0,0,[]⟩)
def cut (s:bS) (c:UInt8):bS × bS × Bool:=if 0≤Lib.indexByte s c then (s.take (Lib.indexByte s c).toNat,s.drop ((Lib.indexByte s c).toNat+1),true) else (s,[],false)
mutual
def je (E:UInt64→bS→bE × Bool):bD→List Int→Db.jd
 | .mk k n b t ks,p =>
  if k=6 then (fP E ks 0 p).qZ (Db.doc 3 [])
  else if k=5 then (jj E ks 0 p).qZ (Db.doc 4 [])
  else if k=10 then Db.opt (if (E n b).2 then some (E n b).1 else none) p
  else Db.opt (Db.leaf k n b t) p
def fP (E:UInt64→bS→bE × Bool):List bD→Nat→List Int→Db.ir
 | [],_,_ => .ok []
 | [k],i,p => .bad (p++[(i:Int)])
 | k :: x :: r,i,p =>
  if k.kind≠4∨dK.zero k.text then .bad (p++[(i:Int)])
  else match je E x (p++[((i+1:Nat):Int)]) with
   | .bad q => .bad q
   | .ok v=>match fP E r (i+2) p with
    | .bad q => .bad q
    | .ok l => .ok (bG.of k.text v :: l)
def jj (E:UInt64→bS→bE × Bool):List bD→Nat→List Int→Db.ir
 | [],_,_ => .ok []
 | x :: r,i,p =>
  match je E x (p++[(i:Int)]) with
   | .bad q => .bad q
   | .ok v=>match jj E r (i+1) p with
    | .bad q => .bad q
    | .ok l => .ok (bG.of (ky i) v :: l)
end
def Ct (E:UInt64→bS→bE × Bool) (c:bS):Option (List bG) :=
 if (Mp.dec c 1000).2.err≠0∨(Mp.dec c 1000).1.kind≠6 then none
 else match fP E (Mp.dec c 1000).1.kids 0 [] with
  | .ok l=>some l
  | .bad _=>none
def qL (E:UInt64→bS→bE × Bool) (v:bE) (c:bS):bE × Bool :=
 match Ct E c with
  | some l=>({ v with kids:=l },true)
  | none=>(Db.zero,false)
def kindOf (n:UInt64):Int:=if n=126 then 255 else (n.toNat:Int)
def iS (b:bS):Nat:=(cM.be (b.take 4)).toNat
def jV (b:bS):bS:=(b.drop 4).take (iS b)
def mG (R : bE → bS → bE × Bool) (k : Int) (b : bS) : bE × Bool :=
  if k = 4 then ((R (Db.doc 4 []) b).1, (R (Db.doc 4 []) b).2 && !Tree.regular (R (Db.doc 4 []) b).1.kids)
  else if k = 15 then
    (if b.length < 4 ∨ b.length < 4 + iS b then (Db.zero, false)
     else ((R (Db.doc 15 (jV b)) (b.drop (4 + iS b))).1, (R (Db.doc 15 (jV b)) (b.drop (4 + iS b))).2 && dK.whole (jV b)))
  else if k = 5 then (if 0 < b.length ∧ b.getD 0 0 ≠ 0 then (⟨5, 0, 0, 0, [], [], ((b.getD 0 0).toNat : Int), b.drop 1, []⟩, true) else (Db.doc 5 [], false))
  else if k = 7 then (⟨7, 0, 0, 0, [], [], 0, b, []⟩, decide (b.length = 12))
  else if k = 9 ∨ k = 17 ∨ k = 18 then (⟨k, cM.be b, 0, 0, [], [], 0, [], []⟩, decide (b.length = 8))
  else if k = 11 then (⟨11, 0, 0, 0, (cut b 0).1, (cut b 0).2.1, 0, [], []⟩, (cut b 0).2.2 && !dK.zero (cut b 0).2.1 && dK.whole (cut b 0).1 && dK.whole (cut b 0).2.1)
  else if k = 12 then (if 12 ≤ b.length ∧ dK.whole (b.drop 12) then (⟨12, 0, 0, 0, b.drop 12, [], 0, b.take 12, []⟩, true) else (Db.doc 12 [], false))
  else if k = 13 ∨ k = 14 then (Db.doc k b, dK.whole b)
  else if k = 19 then (if b.length = 16 then (⟨19, 0, cM.be (b.take 8), cM.be (b.drop 8), [], [], 0, [], []⟩, true) else (Db.doc 19 [], false))
  else if k = 6 ∨ k = 127 ∨ k = 255 then (Db.doc k [], decide (b.length = 0))
  else (Db.doc k [], false)
def ig:Nat→UInt64→bS→bE × Bool
 | 0=>fun _ _=>(Db.zero,false)
 | d+1=>fun n b=>mG (qL (ig d)) (kindOf n) b
def kH (d:Nat):bE→bS→bE × Bool:=qL (ig d)
def Ls (d:Nat):bS→Option (List bG):=Ct (ig d)
def value (d:Nat):bD→List Int→Db.jd:=je (ig d)
def fields (d:Nat):List bD→Nat→List Int→Db.ir:=fP (ig d)
def elems (d:Nat):List bD→Nat→List Int→Db.ir:=jj (ig d)
def dec (it:bD):bE × ez :=
 if Mp.di it≠0 then (Db.zero,⟨Mp.di it,0,[]⟩)
 else if it.kind≠6 then (Db.zero,⟨12,0,[]⟩)
 else ((value 200 it []).val,(value 200 it []).yd)
end Dk
end Go.Eng
namespace Go.Proofs
open Go.Shelf
def Tryz.uQ:Go.Shelf.Ren:=⟨fun | 171=>69 | 243=>83 | 246=>102 | 283=>114 | 284=>115 | 285=>116 | 286=>117 | 129=>131 | 317=>130 | 318=>132 | 319=>133 | 320=>134 | 337=>145 | 338=>146 | n=>n,fun | 3=>3 | 9=>9 | 2=>2 | 4=>4 | 171=>129 | 0=>0 | 53=>22 | 37=>23 | 5=>5 | 173=>131 | 212=>151 | 51=>83 | 20=>20 | 213=>152 | 46=>116 | 232=>171 | 233=>172 | n=>n,fun | 17=>1 | 18=>2 | 19=>3 | n=>n⟩
theorem Tryz.Ce:Go.Proofs.LaysM.n171 Tryz.prog Tryz.uQ:={
 mixed:=by kernel_rfl
 f129:=Tryz.func131.trans (congrArg some (by kernel_rfl))
 f171:=Tryz.func69.trans (congrArg some (by kernel_rfl))
 f243:=Tryz.func83.trans (congrArg some (by kernel_rfl))
 f246:=Tryz.func102.trans (congrArg some (by kernel_rfl))
 f283:=Tryz.func114.trans (congrArg some (by kernel_rfl))
 f284:=Tryz.func115.trans (congrArg some (by kernel_rfl))
 f285:=Tryz.func116.trans (congrArg some (by kernel_rfl))
 f286:=Tryz.func117.trans (congrArg some (by kernel_rfl))
 f317:=Tryz.func130.trans (congrArg some (by kernel_rfl))
 f318:=Tryz.func132.trans (congrArg some (by kernel_rfl))
 f319:=Tryz.func133.trans (congrArg some (by kernel_rfl))
 f320:=Tryz.func134.trans (congrArg some (by kernel_rfl))
 f337:=Tryz.func145.trans (congrArg some (by kernel_rfl))
 f338:=Tryz.func146.trans (congrArg some (by kernel_rfl))
 t0:=Tryz.underlying0
 a0:=Tryz.isAgg0
 z0:=Tryz.sizeOf0
 v0:=Tryz.zeroValue0
 t2:=Tryz.underlying2
 a2:=Tryz.isAgg2
 z2:=Tryz.sizeOf2
 v2:=Tryz.zeroValue2
 t3:=Tryz.underlying3
 a3:=Tryz.isAgg3
 z3:=Tryz.sizeOf3
 v3:=Tryz.zeroValue3
 t4:=Tryz.underlying4
 a4:=Tryz.isAgg4
 z4:=Tryz.sizeOf4
 v4:=Tryz.zeroValue4
 t5:=Tryz.underlying5
 a5:=Tryz.isAgg5
 z5:=Tryz.sizeOf5
 v5:=Tryz.zeroValue5
 t9:=Tryz.underlying9
 a9:=Tryz.isAgg9
 z9:=Tryz.sizeOf9
 v9:=Tryz.zeroValue9
 t20:=Tryz.underlying20
 a20:=Tryz.isAgg20
 z20:=Tryz.sizeOf20
 v20:=Tryz.zeroValue20
 t37:=Tryz.underlying23
 a37:=Tryz.isAgg23
 z37:=Tryz.sizeOf23
 v37:=Tryz.zeroValue23
 t46:=Tryz.underlying116
 a46:=Tryz.isAgg116
 z46:=Tryz.sizeOf116
 v46:=Tryz.zeroValue116
 t51:=Tryz.underlying83
 a51:=Tryz.isAgg83
 z51:=Tryz.sizeOf83
 v51:=Tryz.zeroValue83
 t53:=Tryz.underlying22
 a53:=Tryz.isAgg22
 z53:=Tryz.sizeOf22
 v53:=Tryz.zeroValue22
 t171:=Tryz.underlying129
 a171:=Tryz.isAgg129
 z171:=Tryz.sizeOf129
 v171:=Tryz.zeroValue129
 t173:=Tryz.underlying131
 a173:=Tryz.isAgg131
 z173:=Tryz.sizeOf131
 v173:=Tryz.zeroValue131
 t212:=Tryz.underlying151
 a212:=Tryz.isAgg151
 z212:=Tryz.sizeOf151
 v212:=Tryz.zeroValue151
 t213:=Tryz.underlying152
 a213:=Tryz.isAgg152
 z213:=Tryz.sizeOf152
 t232:=Tryz.underlying171
 a232:=Tryz.isAgg171
 z232:=Tryz.sizeOf171
 v232:=Tryz.zeroValue171
 t233:=Tryz.underlying172
 a233:=Tryz.isAgg172
 z233:=Tryz.sizeOf172
 v233:=Tryz.zeroValue172
 g17:=by kernel_rfl
 g18:=by kernel_rfl
 g19:=by kernel_rfl
 i0:=by kernel_rfl
 i2:=by kernel_rfl
 i3:=by kernel_rfl
 i4:=by kernel_rfl
 i5:=by kernel_rfl
 i9:=by kernel_rfl
 i20:=by kernel_rfl
 i37:=by kernel_rfl
 i46:=by kernel_rfl
 i51:=by kernel_rfl
 i53:=by kernel_rfl
 i171:=by kernel_rfl
 i173:=by kernel_rfl
 i212:=by kernel_rfl
 i232:=by kernel_rfl
 i233:=by kernel_rfl
 m17:=by kernel_rfl
 m18:=by kernel_rfl
 m19:=by kernel_rfl }
open Go.RowKit Go.Sort Go.Lib in
theorem Tryz.itoa:∃name:String,Tryz.prog.globalNamed name=some 1∧∀(n:Int),-9223372036854775808≤n→n≤9223372036854775807→∀w:World,Lib.TabIs Tryz.prog w name .u64 Lib.pow10Tab →
  Calls Tryz.prog 69 #[.int .i64 n] w fun e w'=>e = .returned (.string ⟨(Lib.itoa n).toArray⟩)∧∃k os,w'=grow (w.drewN k) os:=by
 refine ⟨_,?_,fun n h0 h1 w NU=>Any.strconv_Itoa Tryz.Ce n h0 h1 w NU⟩
 kernel_rfl
end Go.Proofs
namespace Go.Eng
def zI:List TV:=[(.i .i64 (0 : Int)), (.u64 (0 : UInt64)), (.sl .bs ([] : List UInt8)), (.s ([] : bS)), (.sl .il ([] : List bD))]
def zV:List TV:=[(.i .i64 (0 : Int)), (.u64 (0 : UInt64)), (.u64 (0 : UInt64)), (.u64 (0 : UInt64)), (.s ([] : bS)), (.s ([] : bS)), (.i .i64 (0 : Int)), (.sl .bs ([] : List UInt8)), (.sl .fl ([] : List bG))]
def zD:List TV:=[(.s ([] : bS)), (.i .i64 (0 : Int)), (.u64 (0 : UInt64)), (.u64 (0 : UInt64)), (.u64 (0 : UInt64)), (.s ([] : bS)), (.s ([] : bS)), (.i .i64 (0 : Int)), (.sl .bs ([] : List UInt8)), (.sl .fl ([] : List bG))]
def zT:List TV:=[(.i .i64 (0 : Int)), (.i .i64 (0 : Int)), (.sl .is ([] : List Int))]
def oK (k:TK) (a d:List Nat):py:=⟨k,a.map .s,d,none⟩
def oX (k:TK) (a:List nk) (d:List Nat):py:=⟨k,a,d,none⟩
def oG (n:Nat) (b:Bool) (o:py):py:=⟨o.k,o.rs,o.ds,some (n,b)⟩
def oA (m o f a d:Nat):py:=⟨.k (.fa m o f),[.s a],[d],none⟩
def oL (m o n a d:Nat):py:=⟨.k (.ld m o n false),[.s a,.s m],[d],none⟩
def oM (m o n a d:Nat):py:=⟨.k (.ld m o n true),[.s a,.s m],[d],none⟩
def oT (m o n a x:Nat):py:=⟨.k (.st m o n),[.s a,.s m,.s x],[m],none⟩
def oV (a d:Nat):py:=⟨.k .mv,[.s a],[d],none⟩
def oW (c:TV) (d:Nat):py:=⟨.k .mv,[.c c],[d],none⟩
def oC (f n r:Nat) (a:List Nat) (d:Nat):py:=⟨.k (.call f (.plain n r)),a.map .s,[d],none⟩
def oE (i a d:Nat):py:=⟨.k (.ex i),[.s a],[d],none⟩
def oB (o:BinOp) (a b d:Nat):py:=⟨.k (.bin o),[.s a,.s b],[d],none⟩
def oI (o:BinOp) (a:Nat) (c:TV) (d:Nat):py:=⟨.k (.bin o),[.s a,.c c],[d],none⟩
def oP (g a:Nat) (b:Bool) (d:Nat):py:=⟨.k .pick,[.s g,.s a,.c (.b b)],[d],none⟩
def oN (m:Nat) (z:List TV) (a:Nat):py:=⟨.al m z [],[.s m],[a,m],none⟩
def D0 (n:Nat) (m:TM) (r:List RV):gD:={np:=n,m:=m,ref:=none,fA:=[],res:=r,own:=[],new:=none,fx:=[]}
def oS (l:List py) (b:TM):TM:=.seq (.fK l) none b
end Go.Eng
namespace Go.Eng
abbrev OT:=Option (List TV)
abbrev EV:=List (Nat × (fi × dq))
theorem i4 {a b c d e:Prop} (h:e):a∨b∨c∨d∨e:=.inr (.inr (.inr (.inr h)))
theorem i12 {a b c d e f g h i j k l m:Prop} (x:m):a∨b∨c∨d∨e∨f∨g∨h∨i∨j∨k∨l∨m:=i4 (i4 (i4 x))
end Go.Eng
namespace Go.Eng
open Go.Proofs
noncomputable def tryzGl:Nat→TV:=LV [(1,A8 .u64 Lib.pow10Tab)]
abbrev FT (d:gD) (E:eo) (i o:List TV):Prop:=i.length=d.np∧d.run E i=some (o++d.ps.toList.map fun q=>i.getD q.1 .dead)
abbrev CK (i:Nat) (e:EV) (d:gD):Prop:=((Go.Proofs.Tryz.prog.funcs[i]?).any fun fn=>ga Go.Proofs.Tryz.prog (fun k=>((cK tryzGl e).fs k).2) fn d.erase)=true
theorem eI {i:Nat} {e:EV} {d:gD} (h:((Go.Proofs.Tryz.prog.funcs[i]?).any fun fn=>ga Go.Proofs.Tryz.prog (fun k=>((cK tryzGl e).fs k).2) fn d.erase)=true):CK i e d:=h
abbrev KO (i:Nat) (c:fi) (g:dq):Prop:=fH Go.Proofs.Tryz.prog (fun n=>(tryzGl n).av) i (fi.fs (c,g))
noncomputable section
def fV.sg:dq:={}
def fV.c:fi:=fun l=>match l with
 | [.i .i64 r] => .ok [(.b (dK.ku r))]
 | _ => .err
def bT.sg:dq:={ cS:=2 }
def bT.c:fi:=fun l=>match l with
 | [.sl .bs b,.i .i64 at_] => .fJ (decide (b.length≤1099511627776)) [(.i .i64 ((dK.iF b at_).1)),(.i .i64 ((dK.iF b at_).2))]
 | _ => .err
def cN.sg:dq:={ cS:=2 }
def cN.c:fi:=fun l=>match l with
 | [.sl .bs b] => .fJ (decide (b.length≤1099511627776)) [(.i .i64 (((dK.look b).1:Int))),(.i .i64 (((dK.look b).2:Int)))]
 | _ => .err
def dr.sg:dq:={ cS:=2 }
def dr.c:fi:=fun l=>match l with
 | [.sl .bs b] => .fJ (decide (b.length≤1099511627776)) [(.i .i64 (((dK.look b).1:Int))),(.b (dK.whole b))]
 | _ => .err
def cg.sg:dq:={ cS:=2 }
def cg.c:fi:=fun l=>match l with
 | [.sl .bs b,.i .i64 at_] => .fJ (decide (b.length≤1099511627776)) [(.i .i64 ((dK.iF b at_).1)),(.i .i64 ((dK.iF b at_).2))]
 | _ => .err
def cG.sg:dq:={ cS:=2 }
def cG.c:fi:=fun l=>match l with
 | [.sl .bs b] => .fJ (decide (b.length≤1099511627776)) [(.i .i64 (((dK.look b).1:Int))),(.b (dK.whole b))]
 | _ => .err
def dt.sg:dq:={}
def dt.c:fi:=fun l=>match l with
 | [.s s] => .fJ (decide (s.length≤1099511627776)) [(.b (dK.whole s))]
 | _ => .err
def cO.sg:dq:={}
def cO.c:fi:=fun l=>match l with
 | [.s s] => .fJ (decide (s.length≤1099511627776)) [(.b (dK.zero s))]
 | _ => .err
def fG.sg:dq:={ own:=[(0,1)] }
def fG.c:fi:=nV .bs 1
def gH.sg:dq:={}
def gH.c:fi:=fun l=>match l with
 | [.ro (.ag [.sl .bs ft,.i .i64 c8])] => .ok [(.i .i64 ((((dj.mk ft c8)).at_)))]
 | _ => .err
def eG.sg:dq:={}
def eG.c:fi:=fun l=>match l with
 | [.ro (.ag [.sl .bs ft,.i .i64 c8])] => .fJ (cM.ie (dj.mk ft c8)) [(.i .i64 (cM.left (dj.mk ft c8)))]
 | _ => .err
def fm.sg:dq:={ ref:=some 0,cS:=2 }
def fm.c:fi:=fun l=>match l with
 | [.ag [.sl .bs ft,.i .i64 c8]] => .fJ (cM.ie (dj.mk ft c8)) [(.i .i64 (cM.byte (dj.mk ft c8))),(.b (cM.more (dj.mk ft c8))),(.ag (dj.cells (cM.oO (dj.mk ft c8) 1 (cM.more (dj.mk ft c8)))))]
 | _ => .err
def fj.sg:dq:={ ref:=some 0,cS:=2 }
def fj.c:fi:=fun l=>match l with
 | [.ag [.sl .bs ft,.i .i64 c8],.i .i64 n] => .fJ (cM.ie (dj.mk ft c8)) [(.sl .bs (cM.nx (dj.mk ft c8) n (cM.pd (dj.mk ft c8) n))),(.b (cM.pd (dj.mk ft c8) n)),(.ag (dj.cells (cM.oO (dj.mk ft c8) n (cM.pd (dj.mk ft c8) n))))]
 | _ => .err
def fk.sg:dq:={ ref:=some 0,cS:=2 }
def fk.c:fi:=fun l=>match l with
 | [.ag [.sl .bs ft,.i .i64 c8],.i .i64 n] => .fJ (cM.ie (dj.mk ft c8)) [(.sl .bs (cM.nx (dj.mk ft c8) n (cM.rj (dj.mk ft c8) n))),(.b (cM.rj (dj.mk ft c8) n)),(.ag (dj.cells (cM.oO (dj.mk ft c8) n (cM.rj (dj.mk ft c8) n))))]
 | _ => .err
def dL.sg:dq:={ ref:=some 0,cS:=2 }
def dL.c:fi:=fun l=>match l with
 | [.ag [.sl .bs ft,.i .i64 c8],.i .i64 n] => .fJ (cM.ie (dj.mk ft c8)) [(.u64 (cM.be (cM.nx (dj.mk ft c8) n (cM.pd (dj.mk ft c8) n)))),(.b (cM.pd (dj.mk ft c8) n)),(.ag (dj.cells (cM.oO (dj.mk ft c8) n (cM.pd (dj.mk ft c8) n))))]
 | _ => .err
def fq.sg:dq:={ new:=some 0 }
def fq.c:fi:=fun l=>match l with
 | [.sl .bs b] => .fJ (decide ((b).length≤1099511627776)) [.pt,(.ag (dj.cells ((dj.mk b 0))))]
 | _ => .err
def dI.sg:dq:={}
def dI.c:fi:=fun l=>match l with
 | [.i .i64 n] => .ok [(.b (decide (1≤n∧n≤8)))]
 | _ => .err
def ff.sg:dq:={ new:=some 0,fx:=[(0,1)] }
def ff.c:fi:=fun l=>match l with
 | [] => .ok [.pt,(.ag (fh.cells ((fh.mk []))))]
 | _ => .err
def eM.sg:dq:={ ref:=some 0,fA:=[(0,1)],cS:=0 }
def eM.c:fi:=fun l=>match l with
 | [.ag [.sl .bs kh],.i .i64 v] => .fJ (decide (((fh.mk kh)).b.length≤1099511627776)) [(.ag (fh.cells ((fh.mk (((fh.mk kh)).b++[UInt8.ofInt v])))))]
 | _ => .err
def fU.sg:dq:={ ref:=some 0,fA:=[(0,1)],cS:=0 }
def fU.c:fi:=fun l=>match l with
 | [.ag [.sl .bs kh],.sl .bs b] => .fJ (decide (((fh.mk kh)).b.length+(b).length≤1099511627776)) [(.ag (fh.cells ((fh.mk (((fh.mk kh)).b++b)))))]
 | _ => .err
def dS.sg:dq:={ ref:=some 0,fA:=[(0,1)],cS:=0 }
def dS.c:fi:=fun l=>match l with
 | [.ag [.sl .bs kh],.u64 v,.i .i64 n] => .fJ (decide (((fh.mk kh)).b.length≤1099511627776)) [(.ag (fh.cells ((fh.mk (((fh.mk kh)).b++cM.high v n)))))]
 | _ => .err
def eC.sg:dq:={ ref:=some 0,fA:=[(0,1)] }
def eC.c:fi:=fun l=>match l with
 | [.ag [.sl .bs kh]] => .fJ (decide (((fh.mk kh)).b.length≤1099511627776)) [(.sl .bs ((((fh.mk kh)).b))),(.ag (fh.cells ((fh.mk kh))))]
 | _ => .err
def fZ.sg:dq:={}
def fZ.c:fi:=fun l=>match l with
 | [.i .i64 n] => .fJ (decide (0≤n∧n≤1099511627776)) [(.b (decide (n<4294967296)))]
 | _ => .err
def bV.sg:dq:={}
def bV.c:fi:=fun l=>match l with
 | [.ag [.i .i64 c7,.u64 cZ,.sl .bs dx,.s cY,.sl .il dy]] => .fJ (decide (bD.cA (bD.of (bM.mk c7 cZ dx cY dy))≤1099511627776)) [(.b (Mp.dR (bD.of (bM.mk c7 cZ dx cY dy))))]
 | _ => .err
def cP.sg:dq:={}
def cP.c:fi:=fun l=>match l with
 | [.ag [.i .i64 c7,.u64 cZ,.sl .bs dx,.s cY,.sl .il dy]] => .fJ (decide (bD.cA (bD.of (bM.mk c7 cZ dx cY dy))≤1099511627776)) [(.i .i64 (Mp.di (bD.of (bM.mk c7 cZ dx cY dy))))]
 | _ => .err
def cP.cn (n:Nat):fi:=fun l=>match l with
 | [.ag [.i .i64 c7,.u64 cZ,.sl .bs dx,.s cY,.sl .il dy]] => .fJ ((decide (bD.cA (bD.of (bM.mk c7 cZ dx cY dy))≤1099511627776))&&decide ((bD.cA (bD.of (bM.mk c7 cZ dx cY dy)))<n)) [(.i .i64 (Mp.di (bD.of (bM.mk c7 cZ dx cY dy))))]
 | _ => .err
def dQ.sg:dq:={ cS:=2 }
def dQ.c:fi:=fun l=>match l with
 | [.i .i64 e,.i .i64 at_] => .ok [(.ag (bM.cells (bD.val (Mp.zero)))),(.ag (ez.cells ((ez.mk e at_ []))))]
 | _ => .err
def c9.sg:dq:={}
def c9.c:fi:=fun l=>match l with
 | [.u64 n] => .ok [(.ag [(.i .i64 (Mp.eD n).1),(.i .i64 (Mp.eD n).2)])]
 | _ => .err
def dP.sg:dq:={}
def dP.c:fi:=fun l=>match l with
 | [.u64 n] => .ok [(.ag [(.i .i64 (Mp.signed n).1),(.i .i64 (Mp.signed n).2)])]
 | _ => .err
def jg.sg:dq:={}
def jg.c:fi:=fun l=>match l with
 | [.i .i64 k,.i .i64 n] => .fJ (Mp.lN k&&decide (0≤n∧n<4294967296)) [(.ag [(.i .i64 (Mp.sized k n).1),(.i .i64 (Mp.sized k n).2)])]
 | _ => .err
def fY.sg:dq:={ ref:=some 0,fA:=[(0,1)],cS:=0 }
def fY.c:fi:=fun l=>match l with
 | [.ag [.sl .bs kh],.ag [.i .i64 mV,.i .i64 j8],.u64 n] => .fJ (decide (((fh.mk kh)).b.length+10≤1099511627776)) [(.ag (fh.cells ((fh.mk (((fh.mk kh)).b++Mp.put (((kP.mk mV j8)).at_,((kP.mk mV j8)).end_) n)))))]
 | _ => .err
def df.sg:dq:={ ref:=some 0,fA:=[(0,1)],cS:=0 }
def df.c:fi:=fun l=>match l with
 | [.ag [.sl .bs kh],.ag [.i .i64 c7,.u64 cZ,.sl .bs dx,.s cY,.sl .il dy]] => .fJ (decide (((fh.mk kh)).b.length+16 * bD.cA (bD.of (bM.mk c7 cZ dx cY dy))≤1099511627776)&&decide (Mp.di (bD.of (bM.mk c7 cZ dx cY dy))=0)) [(.ag (fh.cells ((fh.mk (((fh.mk kh)).b++Mp.lay (bD.of (bM.mk c7 cZ dx cY dy)))))))]
 | _ => .err
def df.cn (n:Nat):fi:=fun l=>match l with
 | [.ag [.sl .bs kh],.ag [.i .i64 c7,.u64 cZ,.sl .bs dx,.s cY,.sl .il dy]] => .fJ ((decide (((fh.mk kh)).b.length+16 * bD.cA (bD.of (bM.mk c7 cZ dx cY dy))≤1099511627776)&&decide (Mp.di (bD.of (bM.mk c7 cZ dx cY dy))=0))&&decide ((bD.cA (bD.of (bM.mk c7 cZ dx cY dy)))<n)) [(.ag (fh.cells ((fh.mk (((fh.mk kh)).b++Mp.lay (bD.of (bM.mk c7 cZ dx cY dy)))))))]
 | _ => .err
def eh.sg:dq:={ cS:=2 }
def eh.c:fi:=fun l=>match l with
 | [.ag [.i .i64 c7,.u64 cZ,.sl .bs dx,.s cY,.sl .il dy]] => .fJ (decide (bD.cA (bD.of (bM.mk c7 cZ dx cY dy))≤1073741824)) [(.sl .bs (Mp.enc (bD.of (bM.mk c7 cZ dx cY dy)))),(.i .i64 (Mp.di (bD.of (bM.mk c7 cZ dx cY dy))))]
 | _ => .err
def bH.sg:dq:={ cS:=3 }
def bH.c:fi:=fun l=>match l with
 | [.i .i64 c] => .fJ (decide (0≤c∧c≤255)) [(.i .i64 ((Mp.first c).1)),(.u64 ((Mp.first c).2.1)),(.i .i64 ((Mp.first c).2.2))]
 | _ => .err
def dz.sg:dq:={ cS:=2 }
def dz.c:fi:=fun l=>match l with
 | [.ag [.i .i64 c7,.u64 cZ,.sl .bs dx,.s cY,.sl .il dy],.i .i64 p,.i .i64 c,.ag [.i .i64 mV,.i .i64 j8]] => .ok [(.ag (bM.cells (bD.val ((Mp.num (bD.of (bM.mk c7 cZ dx cY dy)) p c ((kP.mk mV j8)).at_ 0).it)))),(.ag (ez.cells ((ez.mk (Mp.num (bD.of (bM.mk c7 cZ dx cY dy)) p c ((kP.mk mV j8)).at_ 0).err (Mp.num (bD.of (bM.mk c7 cZ dx cY dy)) p c ((kP.mk mV j8)).at_ 0).at_ []))))]
 | _ => .err
def dz.cw:fi:=Md 0 [(2,.bs),(4,.il)] dz.c
def fB.sg:dq:={ ref:=some 0,cS:=2 }
def fB.c:fi:=fun l=>match l with
 | [.ag [.sl .bs ft,.i .i64 c8],.ag [.i .i64 c7,.u64 cZ,.sl .bs dx,.s cY,.sl .il dy],.i .i64 p,.i .i64 n] => .fJ (cM.ie (dj.mk ft c8)) [(.ag (bM.cells (bD.val ((Mp.row ((dj.mk ft c8)).b (bD.of (bM.mk c7 cZ dx cY dy)) p ((dj.mk ft c8)).at_ n).it)))),(.ag (ez.cells ((ez.mk (Mp.row ((dj.mk ft c8)).b (bD.of (bM.mk c7 cZ dx cY dy)) p ((dj.mk ft c8)).at_ n).err (Mp.row ((dj.mk ft c8)).b (bD.of (bM.mk c7 cZ dx cY dy)) p ((dj.mk ft c8)).at_ n).at_ [])))),(.ag (dj.cells ((dj.mk ((dj.mk ft c8)).b (Mp.row ((dj.mk ft c8)).b (bD.of (bM.mk c7 cZ dx cY dy)) p ((dj.mk ft c8)).at_ n).pos))))]
 | _ => .err
def fB.cw:fi:=Md 1 [(2,.bs),(4,.il)] fB.c
def de.sg:dq:={ ref:=some 0,cS:=2 }
def de.cn (n:Nat):fi:=fun l=>match l with
 | [.ag [.sl .bs ft,.i .i64 c8],.ag [.i .i64 c7,.u64 cZ,.c (.slice none 0 0),.s cY,.c (.slice none 0 0)],.i .i64 m,.i .i64 depth] => .fJ ((cM.ie (dj.mk ft c8)&&decide (0≤m∧m≤4294967296∧1≤depth∧depth≤1000))&&decide ((2 * (depth).toNat)<n)) [(.ag (bM.cells (bD.val ((Mp.kids (Mp.read ((dj.mk ft c8)).b (depth - 1).toNat) (bD.of (bM.mk c7 cZ [] cY [])) (Mp.many ((bM.mk c7 cZ [] cY [])).kind m) ((dj.mk ft c8)).at_).it)))),(.ag (ez.cells ((ez.mk (Mp.kids (Mp.read ((dj.mk ft c8)).b (depth - 1).toNat) (bD.of (bM.mk c7 cZ [] cY [])) (Mp.many ((bM.mk c7 cZ [] cY [])).kind m) ((dj.mk ft c8)).at_).err (Mp.kids (Mp.read ((dj.mk ft c8)).b (depth - 1).toNat) (bD.of (bM.mk c7 cZ [] cY [])) (Mp.many ((bM.mk c7 cZ [] cY [])).kind m) ((dj.mk ft c8)).at_).at_ [])))),(.ag (dj.cells ((dj.mk ((dj.mk ft c8)).b (Mp.kids (Mp.read ((dj.mk ft c8)).b (depth - 1).toNat) (bD.of (bM.mk c7 cZ [] cY [])) (Mp.many ((bM.mk c7 cZ [] cY [])).kind m) ((dj.mk ft c8)).at_).pos))))]
 | _ => .err
def bZ.sg:dq:={ ref:=some 0,cS:=2 }
def bZ.c:fi:=fun l=>match l with
 | [.ag [.sl .bs ft,.i .i64 c8],.i .i64 depth] => .fJ (cM.ie (dj.mk ft c8)&&decide (0≤depth∧depth≤1000)) [(.ag (bM.cells (bD.val ((Mp.read ((dj.mk ft c8)).b (depth).toNat ((dj.mk ft c8)).at_).it)))),(.ag (ez.cells ((ez.mk (Mp.read ((dj.mk ft c8)).b (depth).toNat ((dj.mk ft c8)).at_).err (Mp.read ((dj.mk ft c8)).b (depth).toNat ((dj.mk ft c8)).at_).at_ [])))),(.ag (dj.cells ((dj.mk ((dj.mk ft c8)).b (Mp.read ((dj.mk ft c8)).b (depth).toNat ((dj.mk ft c8)).at_).pos))))]
 | _ => .err
def bZ.cn (n:Nat):fi:=fun l=>match l with
 | [.ag [.sl .bs ft,.i .i64 c8],.i .i64 depth] => .fJ ((cM.ie (dj.mk ft c8)&&decide (0≤depth∧depth≤1000))&&decide ((2 * (depth).toNat+1)<n)) [(.ag (bM.cells (bD.val ((Mp.read ((dj.mk ft c8)).b (depth).toNat ((dj.mk ft c8)).at_).it)))),(.ag (ez.cells ((ez.mk (Mp.read ((dj.mk ft c8)).b (depth).toNat ((dj.mk ft c8)).at_).err (Mp.read ((dj.mk ft c8)).b (depth).toNat ((dj.mk ft c8)).at_).at_ [])))),(.ag (dj.cells ((dj.mk ((dj.mk ft c8)).b (Mp.read ((dj.mk ft c8)).b (depth).toNat ((dj.mk ft c8)).at_).pos))))]
 | _ => .err
def ei.sg:dq:={ cS:=2 }
def ei.c:fi:=fun l=>match l with
 | [.sl .bs b,.i .i64 depth] => .fJ (decide ((b).length≤1099511627776)) [(.ag (bM.cells (bD.val ((Mp.dec b depth).1)))),(.ag (ez.cells ((Mp.dec b depth).2)))]
 | _ => .err
def cz.sg:dq:={}
def cz.c:fi:=fun l=>match l with
 | [.u64 v,.i .i64 n] => .fJ (decide (0≤n∧n≤8)) [(.sl .bs (cM.iy v (n).toNat))]
 | _ => .err
def bP.sg:dq:={ own:=[(0,1)] }
def bP.c:fi:=fun l=>match l with
 | [.u64 v,.i .i64 n] => .fJ (decide (0≤n∧n≤8)) [(.sl .bs (cM.eb v (n).toNat))]
 | _ => .err
def dC.sg:dq:={}
def dC.c:fi:=fun l=>match l with
 | [.u64 n] => .ok [(.i .i64 (Mp.wide n))]
 | _ => .err
def dD.sg:dq:={}
def dD.c:fi:=fun l=>match l with
 | [.i .i64 n] => .ok [(.u8 (Mp.step n))]
 | _ => .err
def dw.sg:dq:={ own:=[(0,1)] }
def dw.c:fi:=fun l=>match l with
 | [.u8 f,.u64 n,.i .i64 least] => .fJ (decide (least≤8)) [(.sl .bs (Mp.form f n least))]
 | _ => .err
def ef.sg:dq:={ own:=[(0,1)] }
def ef.c:fi:=fun l=>match l with
 | [.u64 n,.u64 k] => .ok [(.sl .bs (Mp.ext n k))]
 | _ => .err
def cJ.sg:dq:={ own:=[(0,1)] }
def cJ.c:fi:=fun l=>match l with
 | [.u64 n] => .ok [(.sl .bs (Mp.put (Mp.signed n) (~~~ n)))]
 | _ => .err
def dE.sg:dq:={ own:=[(0,1)] }
def dE.c:fi:=fun l=>match l with
 | [.ag [.i .i64 c7,.u64 cZ,.sl .bs dx,.s cY,.sl .il dy]] => .fJ (decide (bD.cA (bD.of (bM.mk c7 cZ dx cY dy))≤1099511627776)&&decide (Mp.own (bD.of (bM.mk c7 cZ dx cY dy))=0)) [(.sl .bs (Mp.head (bD.of (bM.mk c7 cZ dx cY dy))))]
 | _ => .err
def cF.sg:dq:={}
def cF.c:fi:=fun l=>match l with
 | [.ag [.i .i64 c7,.u64 cZ,.sl .bs dx,.s cY,.sl .il dy]] => .fJ (decide (16 * bD.cA (bD.of (bM.mk c7 cZ dx cY dy))≤1099511627776)&&decide (Mp.di (bD.of (bM.mk c7 cZ dx cY dy))=0)) [(.sl .bs (Mp.lay (bD.of (bM.mk c7 cZ dx cY dy))))]
 | _ => .err
def cF.cn (n:Nat):fi:=fun l=>match l with
 | [.ag [.i .i64 c7,.u64 cZ,.sl .bs dx,.s cY,.sl .il dy]] => .fJ ((decide (16 * bD.cA (bD.of (bM.mk c7 cZ dx cY dy))≤1099511627776)&&decide (Mp.di (bD.of (bM.mk c7 cZ dx cY dy))=0))&&decide ((bD.cA (bD.of (bM.mk c7 cZ dx cY dy)))<n)) [(.sl .bs (Mp.lay (bD.of (bM.mk c7 cZ dx cY dy))))]
 | _ => .err
def cq.sg:dq:={}
def cq.c:fi:=fun l=>match l with
 | [.ag [.i .i64 AK,.u64 AJ,.sl .bs AH,.s AI,.sl .il AL],.ag [.i .i64 Gl,.u64 Gk,.sl .bs Gi,.s Gj,.sl .il Gm]] => .fJ (decide (bD.cA (bD.of (bM.mk AK AJ AH AI AL))≤1099511627776)) [(.b (bD.same (bD.of (bM.mk AK AJ AH AI AL)) (bD.of (bM.mk Gl Gk Gi Gj Gm))))]
 | _ => .err
def cq.cn (n:Nat):fi:=fun l=>match l with
 | [.ag [.i .i64 AK,.u64 AJ,.sl .bs AH,.s AI,.sl .il AL],.ag [.i .i64 Gl,.u64 Gk,.sl .bs Gi,.s Gj,.sl .il Gm]] => .fJ ((decide (bD.cA (bD.of (bM.mk AK AJ AH AI AL))≤1099511627776))&&decide ((bD.cA (bD.of (bM.mk AK AJ AH AI AL)))<n)) [(.b (bD.same (bD.of (bM.mk AK AJ AH AI AL)) (bD.of (bM.mk Gl Gk Gi Gj Gm))))]
 | _ => .err
def cW.sg:dq:={}
def cW.c:fi:=fun l=>match l with
 | [.s s,.u8 c] => .ok [(.i .i64 (Lib.indexByte s c))]
 | _ => .err
def dW.sg:dq:={}
def dW.c:fi:=fun l=>match l with
 | [.s s,.s t] => .fJ (decide (t.length=1)) [(.i .i64 (Lib.indexByte s (t.getD 0 0)))]
 | _ => .err
def eE.sg:dq:={}
def eE.c:fi:=fun l=>match l with
 | [.s s,.s t] => .fJ (decide (t.length=1)) [(.i .i64 (Lib.indexByte s (t.getD 0 0)))]
 | _ => .err
def cT.sg:dq:={}
def cT.c:fi:=fun l=>match l with
 | [.s s,.s t] => .fJ (decide (t.length=1)) [(.b (decide (0≤Lib.indexByte s (t.getD 0 0))))]
 | _ => .err
def jx.sg:dq:={ ps:=some (0,1) }
def jx.c:fi:=nV .is 8
def ee.sg:dq:={}
def ee.c:fi:=fun l=>match l with
 | [.i .i64 k] => .ok [(.s (Tree.name k))]
 | _ => .err
def bF.sg:dq:={}
def bF.c:fi:=fun l=>match l with
 | [.ag [.i .i64 eX,.u64 eZ,.u64 eY,.u64 eW,.s eR,.s eV,.i .i64 eS,.sl .bs eQ,.sl .fl fy]] => .ok [(.b (Tree.dR (bE.mk eX eZ eY eW eR eV eS eQ fy)))]
 | _ => .err
def dA.sg:dq:={}
def dA.c:fi:=fun l=>match l with
 | [.s s,.b plain] => .fJ (decide (s.length≤1099511627776)) [(.b (Tree.eP s plain))]
 | _ => .err
def cj.sg:dq:={ cS:=2,ps:=some (2,1) }
def cj.c:fi:=fun l=>match l with
 | [.ag [.i .i64 eX,.u64 eZ,.u64 eY,.u64 eW,.s eR,.s eV,.i .i64 eS,.sl .bs eQ,.sl .fl fy],.s name,.sl .is path] => .fJ (decide (bG.cA (bG.of name (bE.mk eX eZ eY eW eR eV eS eQ fy))+path.length≤1099511627776)) [(.sl .is ((Tree.ga (bG.of name (bE.mk eX eZ eY eW eR eV eS eQ fy)) path).1)),(.i .i64 ((Tree.ga (bG.of name (bE.mk eX eZ eY eW eR eV eS eQ fy)) path).2))]
 | _ => .err
def cj.cn (n:Nat):fi:=fun l=>match l with
 | [.ag [.i .i64 eX,.u64 eZ,.u64 eY,.u64 eW,.s eR,.s eV,.i .i64 eS,.sl .bs eQ,.sl .fl fy],.s name,.sl .is path] => .fJ ((decide (bG.cA (bG.of name (bE.mk eX eZ eY eW eR eV eS eQ fy))+path.length≤1099511627776))&&decide ((bG.cA (bG.of name (bE.mk eX eZ eY eW eR eV eS eQ fy)))<n)) [(.sl .is ((Tree.ga (bG.of name (bE.mk eX eZ eY eW eR eV eS eQ fy)) path).1)),(.i .i64 ((Tree.ga (bG.of name (bE.mk eX eZ eY eW eR eV eS eQ fy)) path).2))]
 | _ => .err
def dB.sg:dq:={ cS:=2 }
def dB.c:fi:=fun l=>match l with
 | [.ag [.i .i64 eX,.u64 eZ,.u64 eY,.u64 eW,.s eR,.s eV,.i .i64 eS,.sl .bs eQ,.sl .fl fy]] => .fJ (decide (bG.cA (bG.of [] (bE.mk eX eZ eY eW eR eV eS eQ fy))≤1099511627776)) [(.sl .is ((Tree.ga (bG.of [] (bE.mk eX eZ eY eW eR eV eS eQ fy)) []).1)),(.i .i64 ((Tree.ga (bG.of [] (bE.mk eX eZ eY eW eR eV eS eQ fy)) []).2))]
 | _ => .err
def cm.sg:dq:={}
def cm.c:fi:=fun l=>match l with
 | [.ag [.i .i64 eX,.u64 eZ,.u64 eY,.u64 eW,.s eR,.s eV,.i .i64 eS,.sl .bs eQ,.sl .fl fy]] => .fJ (decide (bG.cA (bG.of [] (bE.mk eX eZ eY eW eR eV eS eQ fy))≤1099511627776)) [(.i .i64 ((Tree.depth (bG.of [] (bE.mk eX eZ eY eW eR eV eS eQ fy)):Int)))]
 | _ => .err
def cm.cn (n:Nat):fi:=fun l=>match l with
 | [.ag [.i .i64 eX,.u64 eZ,.u64 eY,.u64 eW,.s eR,.s eV,.i .i64 eS,.sl .bs eQ,.sl .fl fy]] => .fJ ((decide (bG.cA (bG.of [] (bE.mk eX eZ eY eW eR eV eS eQ fy))≤1099511627776))&&decide ((bG.cA (bG.of [] (bE.mk eX eZ eY eW eR eV eS eQ fy)))<n)) [(.i .i64 ((Tree.depth (bG.of [] (bE.mk eX eZ eY eW eR eV eS eQ fy)):Int)))]
 | _ => .err
def da.sg:dq:={}
def da.c:fi:=fun l=>match l with
 | [] => .ok [(.sl .is (Tree.kinds))]
 | _ => .err
def cH.sg:dq:={}
def cH.c:fi:=fun l=>match l with
 | [.i .i64 k] => .ok [(.s (Tree.name k))]
 | _ => .err
def bL.sg:dq:={ cS:=7 }
def bL.c:fi:=fun l=>match l with
 | [.i .i64 k] => .ok [(.b (Tree.gN 0 k)),(.b (Tree.gN 1 k)),(.b (Tree.gN 2 k)),(.b (Tree.gN 3 k)),(.b (Tree.gN 4 k)),(.b (Tree.gN 5 k)),(.b (Tree.gN 6 k))]
 | _ => .err
def eg.sg:dq:={}
def eg.c:fi:=fun l=>match l with
 | [.ag [.i .i64 eX,.u64 eZ,.u64 eY,.u64 eW,.s eR,.s eV,.i .i64 eS,.sl .bs eQ,.sl .fl fy]] => .fJ (decide (bG.cA (bG.of [] (bE.mk eX eZ eY eW eR eV eS eQ fy))≤1099511627776)) [(.i .i64 (Tree.own (bE.mk eX eZ eY eW eR eV eS eQ fy)))]
 | _ => .err
def dn.sg:dq:={}
def dn.c:fi:=fun l=>match l with
 | [.s s] => .fJ (decide (s.length≤1099511627776)) [(.b (Tree.eP s true))]
 | _ => .err
def cX.sg:dq:={}
def cX.c:fi:=fun l=>match l with
 | [.sl .is p,.i .i64 k] => .fJ (decide (p.length≤1099511627776)) [(.sl .is ((p++[k])))]
 | _ => .err
def bN.sg:dq:={ cS:=2 }
def bN.c:fi:=fun l=>match l with
 | [.ag [.i .i64 eX,.u64 eZ,.u64 eY,.u64 eW,.s eR,.s eV,.i .i64 eS,.sl .bs eQ,.sl .fl fy],.s name,.sl .is p] => .fJ (decide (bG.cA (bG.of name (bE.mk eX eZ eY eW eR eV eS eQ fy))+p.length≤1099511627776)) [(.sl .is ((Tree.ga (bG.of name (bE.mk eX eZ eY eW eR eV eS eQ fy)) p).1)),(.i .i64 ((Tree.ga (bG.of name (bE.mk eX eZ eY eW eR eV eS eQ fy)) p).2))]
 | _ => .err
def bN.cn (n:Nat):fi:=fun l=>match l with
 | [.ag [.i .i64 eX,.u64 eZ,.u64 eY,.u64 eW,.s eR,.s eV,.i .i64 eS,.sl .bs eQ,.sl .fl fy],.s name,.sl .is p] => .fJ ((decide (bG.cA (bG.of name (bE.mk eX eZ eY eW eR eV eS eQ fy))+p.length≤1099511627776))&&decide ((bG.cA (bG.of name (bE.mk eX eZ eY eW eR eV eS eQ fy)))<n)) [(.sl .is ((Tree.ga (bG.of name (bE.mk eX eZ eY eW eR eV eS eQ fy)) p).1)),(.i .i64 ((Tree.ga (bG.of name (bE.mk eX eZ eY eW eR eV eS eQ fy)) p).2))]
 | _ => .err
def dp.sg:dq:={ cS:=2 }
def dp.c:fi:=fun l=>match l with
 | [.ag [.i .i64 eX,.u64 eZ,.u64 eY,.u64 eW,.s eR,.s eV,.i .i64 eS,.sl .bs eQ,.sl .fl fy]] => .fJ (decide (bG.cA (bG.of [] (bE.mk eX eZ eY eW eR eV eS eQ fy))≤1099511627776)) [(.sl .is ((Tree.ga (bG.of [] (bE.mk eX eZ eY eW eR eV eS eQ fy)) []).1)),(.i .i64 ((Tree.ga (bG.of [] (bE.mk eX eZ eY eW eR eV eS eQ fy)) []).2))]
 | _ => .err
def kE.sg:dq:={}
def kE.c:fi:=Cp
def cB.sg:dq:={}
def cB.c:fi:=fun l=>match l with
 | [.u64 v] => .ok [(.s (ky (v).toNat))]
 | _ => .err
def dG.sg:dq:={}
def dG.c:fi:=fun l=>match l with
 | [.i .i64 k] => .ok [(.b (decide (k=3∨k=4∨k=15)))]
 | _ => .err
def bX.sg:dq:={}
def bX.c:fi:=fun l=>match l with
 | [.ag [.i .i64 eX,.u64 eZ,.u64 eY,.u64 eW,.s eR,.s eV,.i .i64 eS,.sl .bs eQ,.sl .fl fy]] => .fJ (decide (bG.cA (bG.of [] (bE.mk eX eZ eY eW eR eV eS eQ fy))≤1099511627776)) [(.i .i64 ((Tree.depth (bG.of [] (bE.mk eX eZ eY eW eR eV eS eQ fy)):Int)))]
 | _ => .err
def bX.cn (n:Nat):fi:=fun l=>match l with
 | [.ag [.i .i64 eX,.u64 eZ,.u64 eY,.u64 eW,.s eR,.s eV,.i .i64 eS,.sl .bs eQ,.sl .fl fy]] => .fJ ((decide (bG.cA (bG.of [] (bE.mk eX eZ eY eW eR eV eS eQ fy))≤1099511627776))&&decide ((bG.cA (bG.of [] (bE.mk eX eZ eY eW eR eV eS eQ fy)))<n)) [(.i .i64 ((Tree.depth (bG.of [] (bE.mk eX eZ eY eW eR eV eS eQ fy)):Int)))]
 | _ => .err
def bW.sg:dq:={}
def bW.c:fi:=fun l=>match l with
 | [.sl .fl l] => .fJ (decide (l.length≤1099511627776)) [(.b (Tree.regular l))]
 | _ => .err
def bU.sg:dq:={}
def bU.c:fi:=fun l=>match l with
 | [.sl .fl l] => .fJ (decide (l.length≤1099511627776)) [(.b (Tree.regular l))]
 | _ => .err
def cR.sg:dq:={}
def cR.c:fi:=fun l=>match l with
 | [.i .i64 n] => .fJ (decide (-9223372036854775808≤n∧n≤9223372036854775807)) [(.ag (bM.cells (bD.val (Db.integer n))))]
 | _ => .err
def fW.sg:dq:={ cS:=3 }
def fW.c:fi:=fun l=>match l with
 | [.s s,.s t] => .fJ (decide (t.length=1∧s.length≤1099511627776)) [(.s ((Dk.cut s (t.getD 0 0)).1)),(.s ((Dk.cut s (t.getD 0 0)).2.1)),(.b ((Dk.cut s (t.getD 0 0)).2.2))]
 | _ => .err
def fX.sg:dq:={ cS:=3 }
def fX.c:fi:=fun l=>match l with
 | [.s s,.s t] => .fJ (decide (t.length=1∧s.length≤1099511627776)) [(.s ((Dk.cut s (t.getD 0 0)).1)),(.s ((Dk.cut s (t.getD 0 0)).2.1)),(.b ((Dk.cut s (t.getD 0 0)).2.2))]
 | _ => .err
def eN.sg:dq:={}
def eN.c:fi:=fun l=>match l with
 | [.s s] => .ok [(.ag (bM.cells (bD.val (Db.text s))))]
 | _ => .err
def ej.sg:dq:={}
def ej.c:fi:=fun l=>match l with
 | [.u64 n] => .ok [(.ag (bM.cells (bD.val (Db.simple n))))]
 | _ => .err
def dO.sg:dq:={ own:=[(0,1)] }
def dO.c:fi:=fun l=>match l with
 | [.u64 v,.i .i64 n] => .fJ (decide (0≤n∧n≤8)) [(.sl .bs (cM.eb v (n).toNat))]
 | _ => .err
def dH.sg:dq:={}
def dH.c:fi:=fun l=>match l with
 | [.i .i64 v] => .fJ (decide (-9223372036854775808≤v∧v≤9223372036854775807)) [(.ag (bM.cells (bD.val (Db.integer v))))]
 | _ => .err
def cD.sg:dq:={}
def cD.c:fi:=fun l=>match l with
 | [.sl .fl l] => .fJ (decide (bG.cE l≤1048576)&&Tree.gg l) [(.ag (bM.cells (bD.val (Db.map (Dk.mapped l)))))]
 | _ => .err
def cD.cn (n:Nat):fi:=fun l=>match l with
 | [.sl .fl l] => .fJ ((decide (bG.cE l≤1048576)&&Tree.gg l)&&decide ((4 * bG.cE l+3)<n)) [(.ag (bM.cells (bD.val (Db.map (Dk.mapped l)))))]
 | _ => .err
def fw.sg:dq:={}
def fw.cn (n:Nat):fi:=fun l=>match l with
 | [.sl .fl l] => .fJ ((decide (bG.cE l≤1048576)&&Tree.gg l)&&decide ((4 * bG.cE l+4)<n)) [(.sl .bs (Mp.lay (Db.map (Dk.mapped l))))]
 | _ => .err
def cU.sg:dq:={}
def cU.cn (n:Nat):fi:=fun l=>match l with
 | [.ag [.i .i64 eX,.u64 eZ,.u64 eY,.u64 eW,.s eR,.s eV,.i .i64 eS,.sl .bs eQ,.sl .fl fy]] => .fJ ((decide (bG.cA (bG.of [] (bE.mk eX eZ eY eW eR eV eS eQ fy))≤1048576)&&Tree.jF (bG.of [] (bE.mk eX eZ eY eW eR eV eS eQ fy)))&&decide ((4 * bG.cA (bG.of [] (bE.mk eX eZ eY eW eR eV eS eQ fy))+2)<n)) [(.ag (bM.cells (bD.val (Dk.item (bG.of [] (bE.mk eX eZ eY eW eR eV eS eQ fy))))))]
 | _ => .err
def cL.sg:dq:={}
def cL.cn (n:Nat):fi:=fun l=>match l with
 | [.ag [.i .i64 eX,.u64 eZ,.u64 eY,.u64 eW,.s eR,.s eV,.i .i64 eS,.sl .bs eQ,.sl .fl fy]] => .fJ ((decide (bG.cA (bG.of [] (bE.mk eX eZ eY eW eR eV eS eQ fy))≤1048576)&&Tree.jF (bG.of [] (bE.mk eX eZ eY eW eR eV eS eQ fy)))&&decide ((4 * bG.cA (bG.of [] (bE.mk eX eZ eY eW eR eV eS eQ fy))+1)<n)) [(.sl .bs (Dk.inner (bE.mk eX eZ eY eW eR eV eS eQ fy) (Mp.lay (Db.map (Dk.mapped ((bE.mk eX eZ eY eW eR eV eS eQ fy)).kids)))))]
 | _ => .err
def fo.sg:dq:={}
def fo.c:fi:=fun l=>match l with
 | [.i .i64 k] => .ok [(.u64 (Dk.sort k))]
 | _ => .err
def fp.sg:dq:={ cS:=2 }
def fp.c:fi:=fun l=>match l with
 | [.ag [.i .i64 eX,.u64 eZ,.u64 eY,.u64 eW,.s eR,.s eV,.i .i64 eS,.sl .bs eQ,.sl .fl fy]] => .fJ (decide (bG.cA (bG.of [] (bE.mk eX eZ eY eW eR eV eS eQ fy))≤1048576)) [(.ag (bM.cells (bD.val ((Dk.enc (bE.mk eX eZ eY eW eR eV eS eQ fy)).1)))),(.ag (ez.cells ((Dk.enc (bE.mk eX eZ eY eW eR eV eS eQ fy)).2)))]
 | _ => .err
def eH.sg:dq:={ ps:=some (0,1) }
def eH.c:fi:=fun l=>match l with
 | [.sl .is path] => .fJ (decide ((path).length≤1099511627776)) [(.ag (ez.cells ((ez.mk 12 0 path))))]
 | _ => .err
def dm.sg:dq:={ cS:=2,ps:=some (2,1) }
def dm.c:fi:=fun l=>match l with
 | [.ag [.i .i64 eX,.u64 eZ,.u64 eY,.u64 eW,.s eR,.s eV,.i .i64 eS,.sl .bs eQ,.c (.slice none 0 0)],.sl .il l,.sl .is path,.i .i64 within] => .fJ (decide ((Mp.fF l).length+(path).length≤536870912)&&decide (Mp.gw l=0∧(l).length % 2=0∧0≤within∧within≤200)) [(.ag (bE.cells (Db.jd.val (Db.ir.qZ (bE.mk eX eZ eY eW eR eV eS eQ []) (Dk.fields (200 - within).toNat l 0 path))))),(.ag (ez.cells (Db.jd.yd (Db.ir.qZ (bE.mk eX eZ eY eW eR eV eS eQ []) (Dk.fields (200 - within).toNat l 0 path)))))]
 | _ => .err
def dm.cn (n:Nat):fi:=fun l=>match l with
 | [.ag [.i .i64 eX,.u64 eZ,.u64 eY,.u64 eW,.s eR,.s eV,.i .i64 eS,.sl .bs eQ,.c (.slice none 0 0)],.sl .il l,.sl .is path,.i .i64 within] => .fJ ((decide ((Mp.fF l).length+(path).length≤536870912)&&decide (Mp.gw l=0∧(l).length % 2=0∧0≤within∧within≤200))&&decide ((4 * (Mp.fF l).length+3)<n)) [(.ag (bE.cells (Db.jd.val (Db.ir.qZ (bE.mk eX eZ eY eW eR eV eS eQ []) (Dk.fields (200 - within).toNat l 0 path))))),(.ag (ez.cells (Db.jd.yd (Db.ir.qZ (bE.mk eX eZ eY eW eR eV eS eQ []) (Dk.fields (200 - within).toNat l 0 path)))))]
 | _ => .err
def cC.sg:dq:={ cS:=2,ps:=some (1,1) }
def cC.cn (n:Nat):fi:=fun l=>match l with
 | [.ag [.i .i64 c7,.u64 cZ,.sl .bs dx,.s cY,.sl .il dy],.sl .is path,.i .i64 within] => .fJ ((decide ((Mp.lay (bD.of (bM.mk c7 cZ dx cY dy))).length+(path).length≤536870912)&&decide (Mp.di (bD.of (bM.mk c7 cZ dx cY dy))=0∧0≤within∧within≤200))&&decide ((4 * (Mp.lay (bD.of (bM.mk c7 cZ dx cY dy))).length)<n)) [(.ag (bE.cells (Db.jd.val (Dk.value (200 - within).toNat (bD.of (bM.mk c7 cZ dx cY dy)) path)))),(.ag (ez.cells (Db.jd.yd (Dk.value (200 - within).toNat (bD.of (bM.mk c7 cZ dx cY dy)) path))))]
 | _ => .err
def bY.sg:dq:={ cS:=2 }
def bY.cn (n:Nat):fi:=fun l=>match l with
 | [.ag [.i .i64 c7,.u64 cZ,.sl .bs dx,.s cY,.sl .il dy],.i .i64 within] => .fJ ((decide (((bM.mk c7 cZ dx cY dy)).bytes.length≤536870912∧((bM.mk c7 cZ dx cY dy)).n≤127∧0≤within∧within≤200))&&decide ((4 * ((bM.mk c7 cZ dx cY dy)).bytes.length+2)<n)) [(.ag (bE.cells ((Dk.ig (200 - within).toNat ((bM.mk c7 cZ dx cY dy)).n ((bM.mk c7 cZ dx cY dy)).bytes).1))),(.b ((Dk.ig (200 - within).toNat ((bM.mk c7 cZ dx cY dy)).n ((bM.mk c7 cZ dx cY dy)).bytes).2))]
 | _ => .err
def fv.sg:dq:={ cS:=2 }
def fv.cn (n:Nat):fi:=fun l=>match l with
 | [.ag [.i .i64 eX,.u64 eZ,.u64 eY,.u64 eW,.s eR,.s eV,.i .i64 eS,.sl .bs eQ,.c (.slice none 0 0)],.sl .bs b,.i .i64 within] => .fJ ((decide ((b).length≤536870912∧0≤within∧within<200))&&decide ((4 * (b).length+1)<n)) [(.ag (bE.cells ((Dk.kH (199 - within).toNat (bE.mk eX eZ eY eW eR eV eS eQ []) b).1))),(.b ((Dk.kH (199 - within).toNat (bE.mk eX eZ eY eW eR eV eS eQ []) b).2))]
 | _ => .err
def dN.sg:dq:={}
def dN.c:fi:=fun l=>match l with
 | [.sl .bs b] => .fJ (decide ((b).length≤1099511627776)) [(.u64 (cM.be b))]
 | _ => .err
def eF.sg:dq:={}
def eF.c:fi:=fun l=>match l with
 | [.sl .bs b] => .fJ (decide ((b).length≤1099511627776)) [(.b (dK.whole b))]
 | _ => .err
def eu.sg:dq:={ cS:=2 }
def eu.c:fi:=fun l=>match l with
 | [.ag [.i .i64 c7,.u64 cZ,.sl .bs dx,.s cY,.sl .il dy]] => .fJ (decide (bD.cA (bD.of (bM.mk c7 cZ dx cY dy))≤1048576)) [(.ag (bE.cells ((Dk.dec (bD.of (bM.mk c7 cZ dx cY dy))).1))),(.ag (ez.cells ((Dk.dec (bD.of (bM.mk c7 cZ dx cY dy))).2)))]
 | _ => .err
def dv.sg:dq:={}
def dv.c:fi:=fun l=>match l with
 | [.s s] => .ok [(.ag (bM.cells (bD.val (Db.text s))))]
 | _ => .err
def cI.sg:dq:={}
def cI.c:fi:=fun l=>match l with
 | [.i .i64 k,.sl .bs b] => .ok [(.ag (bM.cells (bD.val (Dk.ext k b))))]
 | _ => .err
def bR.sg:dq:={}
def bR.c:fi:=fun l=>match l with
 | [.sl .fl l] => .fJ (decide (bG.cE l≤1048576)&&Tree.gg l) [(.ag (bM.cells (bD.val (Db.map (Dk.mapped l)))))]
 | _ => .err
def bR.cn (n:Nat):fi:=fun l=>match l with
 | [.sl .fl l] => .fJ ((decide (bG.cE l≤1048576)&&Tree.gg l)&&decide ((2 * bG.cE l+2)<n)) [(.ag (bM.cells (bD.val (Db.map (Dk.mapped l)))))]
 | _ => .err
def bJ.sg:dq:={}
def bJ.cn (n:Nat):fi:=fun l=>match l with
 | [.ag [.i .i64 eX,.u64 eZ,.u64 eY,.u64 eW,.s eR,.s eV,.i .i64 eS,.sl .bs eQ,.sl .fl fy]] => .fJ ((decide (bG.cA (bG.of [] (bE.mk eX eZ eY eW eR eV eS eQ fy))≤1048576)&&Tree.jF (bG.of [] (bE.mk eX eZ eY eW eR eV eS eQ fy)))&&decide ((2 * bG.cA (bG.of [] (bE.mk eX eZ eY eW eR eV eS eQ fy))+1)<n)) [(.ag (bM.cells (bD.val (Dk.item (bG.of [] (bE.mk eX eZ eY eW eR eV eS eQ fy))))))]
 | _ => .err
def dF.sg:dq:={ cS:=2 }
def dF.c:fi:=fun l=>match l with
 | [.ag [.i .i64 eX,.u64 eZ,.u64 eY,.u64 eW,.s eR,.s eV,.i .i64 eS,.sl .bs eQ,.sl .fl fy]] => .fJ (decide (bG.cA (bG.of [] (bE.mk eX eZ eY eW eR eV eS eQ fy))≤1048576)) [(.ag (bM.cells (bD.val ((Dk.enc (bE.mk eX eZ eY eW eR eV eS eQ fy)).1)))),(.ag (ez.cells ((Dk.enc (bE.mk eX eZ eY eW eR eV eS eQ fy)).2)))]
 | _ => .err
def dc.sg:dq:={}
def dc.c:fi:=fun l=>match l with
 | [] => .ok [(.b (true))]
 | _ => .err
def fV.env:EV:=[]
def fV.E:eo:=cK tryzGl fV.env
def fV.m:TM:=oS [oW (.b false) 2] (oS [oV 0 3,oI .geq 3 (.i .i64 0) 4,oV 4 5,oG 5 true (oV 0 6),oG 5 true (oI .leq 6 (.i .i64 1114111) 7),oP 5 7 false 8,oV 8 9,oG 9 true (oV 0 10),oG 9 true (oI .lss 10 (.i .i64 55296) 11),oG 9 true (oV 11 12),oG 12 false (oV 0 13),oG 12 false (oI .gtr 13 (.i .i64 57343) 14),oG 9 true (oX (.k .pick) [.s 12,.c (.b true),.s 14] [15]),oP 9 15 false 16,oV 16 2] .ret)
def fV.d:gD:=D0 1 fV.m [.t 2]
def fV.F (r:Int):OT:=fV.d.run fV.E [(.i .i64 r)]
theorem fV.dV (r:Int) {ρ:OT} (K:∀(v1:Bool) (h1:v1=(cond (decide ((0:Int)≤r)) (decide (r≤(1114111:Int))) false)) (v2:Bool) (h2:v2=(v1&&(!(decide (r<(55296:Int)))))) (v3:Bool) (h3:v3=(cond (decide (r<(55296:Int))) true (decide ((57343:Int)<r)))),ck (!(decide ((0:Int)≤r)) || (decide ((0:Int)≤r))) (ck (!(decide ((0:Int)≤r)) || (decide ((0:Int)≤r))) (ck (!v1 || v1) (ck (!v1 || v1) (ck (!v2 || v2) (ck (!v1 || (v1&&((decide (r<(55296:Int))) || v2))) (ck (!v1 || v1) (some [(.b (cond v1 v3 false))])))))))=ρ):fV.F r=ρ:=Eq.trans (by kernel_rfl) (K _ rfl _ rfl _ rfl)
theorem fV.di:CK 97 fV.env fV.d:=eI (by kernel_rfl)
def bT.env:EV:=[(97,(fV.c,fV.sg))]
def bT.E:eo:=cK tryzGl bT.env
def bT.m1:TM := .seq (oS [oV 7 54,oV 0 55,oK (.k .len) [55] [56],oV 1 57,oB .sub 56 57 58,oI .sub 58 (.i .i64 1) 59,oB .gtr 54 59 60] (.cond (.s 60) [] (.exit (gid 0)) .skip)) none (oS [oW (.i .i64 1) 9] (.seq .skip none (.seq (oS [oV 9 61,oV 7 62,oB .leq 61 62 63] (.cond (.s 63) [] (.seq (oS [oV 0 64,oV 1 65,oV 9 66,oB .add 65 66 67,oK (.k (.ix 1)) [64,67] [68],oK (.k (.lr 1 false)) [68] [69],oI .and 69 (.u8 192) 70,oI .neq 70 (.u8 128) 71] (.cond (.s 71) [] (.exit (gid 0)) .skip)) none (oS [oV 4 72,oI .shl 72 (.u64 6) 73,oV 0 74,oV 1 75,oV 9 76,oB .add 75 76 77,oK (.k (.ix 1)) [74,77] [78],oK (.k (.lr 1 false)) [78] [79],oI .and 79 (.u8 63) 80,oK (.k (.ci .i64)) [80] [81],oB .or 73 81 82,oV 82 4] (oS [oV 9 83,oI .add 83 (.i .i64 1) 84,oV 84 9] (.exit (gid 1))))) .skip)) none (.seq (oS [oV 4 85,oV 8 86,oB .lss 85 86 87,oV 87 88,oG 88 false (oV 4 89),oG 88 false (oC 97 1 1 [89] 90),oG 88 false (oK (.k (.un .not)) [90] [91]),oX (.k .pick) [.s 88,.c (.b true),.s 91] [92]] (.cond (.s 92) [] (.exit (gid 0)) .skip)) none (.seq (oS [oV 4 93,oV 7 94,oI .add 94 (.i .i64 1) 95,oV 93 4,oV 95 5] .ret) none .skip)))))
def bT.m2:TM := .seq .skip none (.seq (oS [oV 9 61,oV 7 62,oB .leq 61 62 63] (.cond (.s 63) [] (.seq (oS [oV 0 64,oV 1 65,oV 9 66,oB .add 65 66 67,oK (.k (.ix 1)) [64,67] [68],oK (.k (.lr 1 false)) [68] [69],oI .and 69 (.u8 192) 70,oI .neq 70 (.u8 128) 71] (.cond (.s 71) [] (.exit (gid 0)) .skip)) none (oS [oV 4 72,oI .shl 72 (.u64 6) 73,oV 0 74,oV 1 75,oV 9 76,oB .add 75 76 77,oK (.k (.ix 1)) [74,77] [78],oK (.k (.lr 1 false)) [78] [79],oI .and 79 (.u8 63) 80,oK (.k (.ci .i64)) [80] [81],oB .or 73 81 82,oV 82 4] (oS [oV 9 83,oI .add 83 (.i .i64 1) 84,oV 84 9] (.exit (gid 1))))) .skip)) none (.seq (oS [oV 4 85,oV 8 86,oB .lss 85 86 87,oV 87 88,oG 88 false (oV 4 89),oG 88 false (oC 97 1 1 [89] 90),oG 88 false (oK (.k (.un .not)) [90] [91]),oX (.k .pick) [.s 88,.c (.b true),.s 91] [92]] (.cond (.s 92) [] (.exit (gid 0)) .skip)) none (.seq (oS [oV 4 93,oV 7 94,oI .add 94 (.i .i64 1) 95,oV 93 4,oV 95 5] .ret) none .skip)))
def bT.m3:TM := .seq .skip none (oS [oW (.i .i64 0) 4,oW (.i .i64 0) 5] .ret)
def bT.m:TM:=oS [oW (.i .i64 0) 4,oW (.i .i64 0) 5] (.Bp (.AP 0 [] [] bT.m3 (.AP 1 [0,1,4,7,8,9] [] bT.m2 (.Bo (oS [oW (.i .i64 0) 6,oW (.i .i64 0) 7,oW (.i .i64 0) 8,oW (.i .i64 0) 9] (.seq (oS [oV 1 10,oI .lss 10 (.i .i64 0) 11,oV 11 12,oG 12 false (oV 1 13),oG 12 false (oV 0 14),oG 12 false (oK (.k .len) [14] [15]),oG 12 false (oB .geq 13 15 16),oX (.k .pick) [.s 12,.c (.b true),.s 16] [17]] (.cond (.s 17) [] (.exit (gid 0)) .skip)) none (oS [oV 0 18,oV 1 19,oK (.k (.ix 1)) [18,19] [20],oK (.k (.lr 1 false)) [20] [21],oK (.k (.ci .i64)) [21] [22],oV 22 6] (.seq (.block 0 [] (oS [oV 6 24,oI .lss 24 (.i .i64 128) 25,oV 25 23] (.cond (.s 23) [] (oS [oV 6 26,oV 26 4,oW (.i .i64 1) 5] .ret) (oS [oV 6 28,oI .geq 28 (.i .i64 192) 29,oV 29 30,oG 30 true (oV 6 31),oG 30 true (oI .lss 31 (.i .i64 224) 32),oP 30 32 false 33,oV 33 27] (.cond (.s 27) [] (.fK [oV 6 34,oI .and 34 (.i .i64 31) 35,oV 35 4,oW (.i .i64 1) 7,oW (.i .i64 128) 8]) (oS [oV 6 37,oI .geq 37 (.i .i64 224) 38,oV 38 39,oG 39 true (oV 6 40),oG 39 true (oI .lss 40 (.i .i64 240) 41),oP 39 41 false 42,oV 42 36] (.cond (.s 36) [] (.fK [oV 6 43,oI .and 43 (.i .i64 15) 44,oV 44 4,oW (.i .i64 2) 7,oW (.i .i64 2048) 8]) (oS [oV 6 46,oI .geq 46 (.i .i64 240) 47,oV 47 48,oG 48 true (oV 6 49),oG 48 true (oI .lss 49 (.i .i64 248) 50),oP 48 50 false 51,oV 51 45] (.cond (.s 45) [] (.fK [oV 6 52,oI .and 52 (.i .i64 7) 53,oV 53 4,oW (.i .i64 3) 7,oW (.i .i64 65536) 8]) (.exit (gid 0))))))))))) (some [0,1,4,7,8]) bT.m1))))))))
def bT.d:gD:=D0 2 bT.m [.t 4,.t 5]
def bT.F (b:List UInt8) (at_:Int):OT:=bT.d.run bT.E [(.sl .bs b),(.i .i64 at_)]
def bT.k1:fT (List TV):=kg (gY _ bT.E bT.m3) (uV 0) [] (gJ bT.d)
def bT.k2:fT (List TV):=kg (gY _ bT.E bT.m2) (uV 1) [0,1,4,7,8,9] bT.k1
def bT.l1:OT:=gx (gY _ bT.E bT.m3) (uV 0) [] (dT [] []) (gJ bT.d)
def bT.j2 (x0:List UInt8) (x1:Int) (x2:Int) (x3:Int) (x4:Int):OT:=gY _ bT.E bT.m1 (dT [0,1,4,7,8] [(.sl .bs x0),(.i .i64 x1),(.i .i64 x2),(.i .i64 x3),(.i .i64 x4)]) bT.k2
def bT.l3 (x0:List UInt8) (x1:Int) (x2:Int) (x3:Int) (x4:Int) (x5:Int):OT:=gx (gY _ bT.E bT.m2) (uV 1) [0,1,4,7,8,9] (dT [0,1,4,7,8,9] [(.sl .bs x0),(.i .i64 x1),(.i .i64 x2),(.i .i64 x3),(.i .i64 x4),(.i .i64 x5)]) bT.k1
theorem bT.tN:bT.l1=some [(.i .i64 0),(.i .i64 0)]:=((fD _ _ _ _ _ _).trans (by kernel_rfl))
theorem bT.ng (x0:List UInt8) (x1:Int) (x2:Int) (x3:Int) (x4:Int) {ρ:OT} (K:∀(v1:Int) (h1:v1=(IntKind.i64.wrap (((x0).length:Int) - x1))) (v2:Int) (h2:v2=(IntKind.i64.wrap (v1 - (1:Int)))) (v3:Int) (h3:v3=(IntKind.i64.wrap (x1+(1:Int)))) (v4:UInt8) (h4:v4=(List.getD x0 (v3).toNat (0:UInt8))) (v5:Bool) (h5:v5=(!decide ((v4 &&& (192:UInt8))=(128:UInt8)))) (v6:Int) (h6:v6=(IntKind.i64.wrap (x2 * 2 ^ (min (((6:UInt64)).toNat) (IntKind.i64.bits))))) (v7:Int) (h7:v7=(IntKind.i64.wrap (((v4 &&& (63:UInt8))).toNat:Int))) (v8:Int) (h8:v8=(IntKind.i64.wrap ((1:Int)+(1:Int)))) (v9:Bool) (h9:v9=(cond (decide (x2<x4)) true (!(dK.ku x2)))) (v10:Int) (lZ:v10=(IntKind.i64.wrap (x3+(1:Int)))),cond (decide (v2<x3))
  (bT.l1)
  (cond (decide ((1:Int)≤x3))
  (ck (eK v3 (x0).length) (cond v5
  (bT.l1)
  (ck (eK v3 (x0).length) (bT.l3 x0 x1 (eA .or .i64 v6 v7) x3 x4 v8))))
  (ck (!(!(decide (x2<x4))) || (!(decide (x2<x4)))) (ck (!(!(decide (x2<x4))) || (!(decide (x2<x4)))) (ck ((decide (x2<x4)) || (!(decide (x2<x4)))) (cond v9
  (bT.l1)
  (some [(.i .i64 x2),(.i .i64 v10)]))))))=ρ):bT.j2 x0 x1 x2 x3 x4=ρ:=((congrFun (congrFun (gQ _ _) _) _).trans (by kernel_rfl)).trans (K _ rfl _ rfl _ rfl _ rfl _ rfl _ rfl _ rfl _ rfl _ rfl _ rfl)
theorem bT.Ci (x0:List UInt8) (x1:Int) (x2:Int) (x3:Int) (x4:Int) (x5:Int) {ρ:OT} (K:∀(v1:UInt8) (h1:v1=(List.getD x0 ((IntKind.i64.wrap (x1+x5))).toNat (0:UInt8))) (v2:Bool) (h2:v2=(!decide ((v1 &&& (192:UInt8))=(128:UInt8)))) (v3:Int) (h3:v3=(IntKind.i64.wrap (x2 * 2 ^ (min (((6:UInt64)).toNat) (IntKind.i64.bits))))) (v4:Int) (h4:v4=(IntKind.i64.wrap (((v1 &&& (63:UInt8))).toNat:Int))) (v5:Int) (h5:v5=(IntKind.i64.wrap (x5+(1:Int)))) (v6:Bool) (h6:v6=(cond (decide (x2<x4)) true (!(dK.ku x2)))) (v7:Int) (h7:v7=(IntKind.i64.wrap (x3+(1:Int)))),cond (decide (x5≤x3))
  (ck (eK (IntKind.i64.wrap (x1+x5)) (x0).length) (cond v2
  (bT.l1)
  (ck (eK (IntKind.i64.wrap (x1+x5)) (x0).length) (bT.l3 x0 x1 (eA .or .i64 v3 v4) x3 x4 v5))))
  (ck (!(!(decide (x2<x4))) || (!(decide (x2<x4)))) (ck (!(!(decide (x2<x4))) || (!(decide (x2<x4)))) (ck ((decide (x2<x4)) || (!(decide (x2<x4)))) (cond v6
  (bT.l1)
  (some [(.i .i64 x2),(.i .i64 v7)])))))=ρ):bT.l3 x0 x1 x2 x3 x4 x5=ρ:=((fD _ _ _ _ _ _).trans (by kernel_rfl)).trans (K _ rfl _ rfl _ rfl _ rfl _ rfl _ rfl _ rfl)
theorem bT.dV (b:List UInt8) (at_:Int) {ρ:OT} (K:∀(v1:Bool) (h1:v1=(cond (decide (at_<(0:Int))) true (decide (((b).length:Int)≤at_)))) (v2:UInt8) (h2:v2=(List.getD b (at_).toNat (0:UInt8))) (v3:Int) (h3:v3=(IntKind.i64.wrap ((v2).toNat:Int))) (v4:Bool) (h4:v4=(cond (decide ((192:Int)≤v3)) (decide (v3<(224:Int))) false)) (v5:Int) (h5:v5=(eA .and .i64 v3 (31:Int))) (v6:Bool) (h6:v6=(cond (decide ((224:Int)≤v3)) (decide (v3<(240:Int))) false)) (v7:Int) (h7:v7=(eA .and .i64 v3 (15:Int))) (v8:Bool) (h8:v8=(cond (decide ((240:Int)≤v3)) (decide (v3<(248:Int))) false)) (v9:Int) (h9:v9=(eA .and .i64 v3 (7:Int))),ck (!(!(decide (at_<(0:Int)))) || (!(decide (at_<(0:Int))))) (ck (!(!(decide (at_<(0:Int)))) || ((!(decide (at_<(0:Int))))&&(!(decide (at_<(0:Int)))))) (ck ((decide (at_<(0:Int))) || (!(decide (at_<(0:Int))))) (cond v1
  (bT.l1)
  (ck (eK at_ (b).length) (cond (decide (v3<(128:Int)))
  (some [(.i .i64 v3),(.i .i64 1)])
  (ck (!(decide ((192:Int)≤v3)) || (decide ((192:Int)≤v3))) (ck (!(decide ((192:Int)≤v3)) || (decide ((192:Int)≤v3))) (cond v4
  (bT.j2 b at_ v5 (1:Int) (128:Int))
  (ck (!(decide ((224:Int)≤v3)) || (decide ((224:Int)≤v3))) (ck (!(decide ((224:Int)≤v3)) || (decide ((224:Int)≤v3))) (cond v6
  (bT.j2 b at_ v7 (2:Int) (2048:Int))
  (ck (!(decide ((240:Int)≤v3)) || (decide ((240:Int)≤v3))) (ck (!(decide ((240:Int)≤v3)) || (decide ((240:Int)≤v3))) (cond v8
  (bT.j2 b at_ v9 (3:Int) (65536:Int))
  (bT.l1)))))))))))))))=ρ):bT.F b at_=ρ:=Eq.trans (by kernel_rfl) (K _ rfl _ rfl _ rfl _ rfl _ rfl _ rfl _ rfl _ rfl _ rfl)
theorem bT.di:CK 81 bT.env bT.d:=eI (by kernel_rfl)
def cN.env:EV:=[(81,(bT.c,bT.sg))]
def cN.E:eo:=cK tryzGl cN.env
def cN.m1:TM := .seq (oS [oV 2 6,oV 0 7,oK (.k .len) [7] [8],oB .lss 6 8 9] (.cond (.s 9) [] .skip (.exit 0))) none (.block 1 [] (oS [oV 0 11,oV 2 12,oC 81 2 2 [11,12] 13,oV 13 10,oE 0 10 14,oE 1 10 15,oV 14 4,oV 15 5] (.seq (oS [oV 5 16,oI .eql 16 (.i .i64 0) 17] (.cond (.s 17) [] (.exit 0) .skip)) none (oS [oV 2 18,oV 5 19,oB .add 18 19 20,oV 20 2] (.fK [oV 3 21,oI .add 21 (.i .i64 1) 22,oV 22 3])))))
def cN.m2:TM:=oS [oV 2 23,oV 3 24,oV 23 2,oV 24 3] .ret
def cN.m:TM:=oS [oW (.i .i64 0) 2,oW (.i .i64 0) 3] (.seq (.block 0 [] (.loop [0,2,3] [] cN.m1)) (some [2,3]) cN.m2)
def cN.d:gD:=D0 1 cN.m [.t 2,.t 3]
def cN.F (b:List UInt8):OT:=cN.d.run cN.E [(.sl .bs b)]
def cN.k1:fT (List TV):=iw (gY _ cN.E cN.m2) (some [2,3]) (gJ cN.d)
def cN.l1 (x0:List UInt8) (x1:Int) (x2:Int):OT:=gx (gY _ cN.E cN.m1) oz [0,2,3] (dT [0,2,3] [(.sl .bs x0),(.i .i64 x1),(.i .i64 x2)]) (er 0 cN.k1)
def cN.j2 (x0:Int) (x1:Int):OT:=gY _ cN.E cN.m2 (dT [2,3] [(.i .i64 x0),(.i .i64 x1)]) (gJ cN.d)
theorem cN.ew (x0:List UInt8) (x1:Int) (x2:Int) {ρ:OT} (K:∀(v1:Int) (h1:v1=(IntKind.i64.wrap (x1+((dK.iF x0 x1).2)))) (v2:Int) (h2:v2=(IntKind.i64.wrap (x2+(1:Int)))),cond (decide (x1<((x0).length:Int)))
  (ck (decide (x0.length≤1099511627776)) (cond (decide (((dK.iF x0 x1).2)=(0:Int)))
  (cN.j2 x1 x2)
  (cN.l1 x0 v1 v2)))
  (cN.j2 x1 x2)=ρ):cN.l1 x0 x1 x2=ρ:=((fD _ _ _ _ _ _).trans (by kernel_rfl)).trans (K _ rfl _ rfl)
theorem cN.jw (x0:Int) (x1:Int):cN.j2 x0 x1=some [(.i .i64 x0),(.i .i64 x1)]:=((congrFun (congrFun (gQ _ _) _) _).trans (by kernel_rfl))
theorem cN.fR (b:List UInt8):cN.F b=cN.l1 b (0:Int) (0:Int):=by kernel_rfl
theorem cN.di:CK 67 cN.env cN.d:=eI (by kernel_rfl)
def dr.env:EV:=[(67,(cN.c,cN.sg))]
def dr.E:eo:=cK tryzGl dr.env
def dr.m:TM:=oS [oW (.i .i64 0) 2,oW (.b false) 3] (oS [oV 0 7,oC 67 1 2 [7] 8,oV 8 6,oE 0 6 9,oE 1 6 10,oV 9 4,oV 10 5] (oS [oV 4 11,oV 4 12,oV 0 13,oK (.k .len) [13] [14],oB .eql 12 14 15,oV 11 2,oV 15 3] .ret))
def dr.d:gD:=D0 1 dr.m [.t 2,.t 3]
def dr.F (b:List UInt8):OT:=dr.d.run dr.E [(.sl .bs b)]
theorem dr.fR (b:List UInt8):dr.F b=ck (decide (b.length≤1099511627776)) (some [(.i .i64 (((dK.look b).1:Int))),(.b (decide ((((dK.look b).1:Int))=((b).length:Int))))]):=by kernel_rfl
theorem dr.di:CK 41 dr.env dr.d:=eI (by kernel_rfl)
def cg.env:EV:=[]
def cg.E:eo:=cK tryzGl cg.env
def cg.m1:TM := .seq (oS [oV 10 62,oV 7 63,oB .lss 62 63 64] (.cond (.s 64) [] .skip (.exit 1))) none (.seq (.block 2 [] (oS [oV 0 67,oV 1 68,oV 10 69,oB .add 68 69 70,oK (.k (.ix 1)) [67,70] [71],oK (.k (.lr 1 false)) [71] [72],oK (.k (.ci .i64)) [72] [73],oV 73 11] (.seq (oS [oV 11 74,oI .lss 74 (.i .i64 128) 75,oV 75 76,oG 76 false (oV 11 77),oG 76 false (oI .geq 77 (.i .i64 192) 78),oX (.k .pick) [.s 76,.c (.b true),.s 78] [79]] (.cond (.s 79) [] (oS [oW (.i .i64 0) 4,oW (.i .i64 0) 5] .ret) .skip)) none (.fK [oV 8 80,oI .mul 80 (.i .i64 64) 81,oV 11 82,oB .add 81 82 83,oI .sub 83 (.i .i64 128) 84,oV 84 8])))) none (.fK [oV 10 65,oI .add 65 (.i .i64 1) 66,oV 66 10]))
def cg.m2:TM := .seq (oS [oV 0 56,oK (.k .len) [56] [57],oV 1 58,oB .sub 57 58 59,oV 7 60,oB .lss 59 60 61] (.cond (.s 61) [] (oS [oW (.i .i64 0) 4,oW (.i .i64 0) 5] .ret) .skip)) none (.seq (oS [oW (.i .i64 1) 10] (.block 1 [] (.loop [0,1,7,8,9,10] [] cg.m1))) none (.seq (oS [oV 8 85,oV 9 86,oB .lss 85 86 87,oV 87 88,oG 88 false (oV 8 89),oG 88 false (oI .gtr 89 (.i .i64 1114111) 90),oX (.k .pick) [.s 88,.c (.b true),.s 90] [91],oV 91 92,oG 92 false (oV 8 93),oG 92 false (oI .geq 93 (.i .i64 55296) 94),oG 92 false (oV 94 95),oG 95 true (oV 8 96),oG 95 true (oI .leq 96 (.i .i64 57343) 97),oG 92 false (oP 95 97 false 98),oX (.k .pick) [.s 92,.c (.b true),.s 98] [99]] (.cond (.s 99) [] (oS [oW (.i .i64 0) 4,oW (.i .i64 0) 5] .ret) .skip)) none (oS [oV 8 100,oV 7 101,oV 100 4,oV 101 5] .ret)))
def cg.m:TM:=oS [oW (.i .i64 0) 4,oW (.i .i64 0) 5] (.seq (oS [oV 1 12,oI .lss 12 (.i .i64 0) 13,oV 13 14,oG 14 false (oV 1 15),oG 14 false (oV 0 16),oG 14 false (oK (.k .len) [16] [17]),oG 14 false (oB .geq 15 17 18),oX (.k .pick) [.s 14,.c (.b true),.s 18] [19]] (.cond (.s 19) [] (oS [oW (.i .i64 0) 4,oW (.i .i64 0) 5] .ret) .skip)) none (oS [oV 0 20,oV 1 21,oK (.k (.ix 1)) [20,21] [22],oK (.k (.lr 1 false)) [22] [23],oK (.k (.ci .i64)) [23] [24],oV 24 6] (oS [oW (.i .i64 0) 7,oW (.i .i64 0) 8,oW (.i .i64 0) 9] (.seq (.block 0 [] (oS [oV 6 26,oI .lss 26 (.i .i64 128) 27,oV 27 25] (.cond (.s 25) [] (oS [oV 6 28,oV 28 4,oW (.i .i64 1) 5] .ret) (oS [oV 6 30,oI .geq 30 (.i .i64 192) 31,oV 31 32,oG 32 true (oV 6 33),oG 32 true (oI .lss 33 (.i .i64 224) 34),oP 32 34 false 35,oV 35 29] (.cond (.s 29) [] (.fK [oV 6 36,oI .sub 36 (.i .i64 192) 37,oW (.i .i64 2) 7,oV 37 8,oW (.i .i64 128) 9]) (oS [oV 6 39,oI .geq 39 (.i .i64 224) 40,oV 40 41,oG 41 true (oV 6 42),oG 41 true (oI .lss 42 (.i .i64 240) 43),oP 41 43 false 44,oV 44 38] (.cond (.s 38) [] (.fK [oV 6 45,oI .sub 45 (.i .i64 224) 46,oW (.i .i64 3) 7,oV 46 8,oW (.i .i64 2048) 9]) (oS [oV 6 48,oI .geq 48 (.i .i64 240) 49,oV 49 50,oG 50 true (oV 6 51),oG 50 true (oI .lss 51 (.i .i64 248) 52),oP 50 52 false 53,oV 53 47] (.cond (.s 47) [] (.fK [oV 6 54,oI .sub 54 (.i .i64 240) 55,oW (.i .i64 4) 7,oV 55 8,oW (.i .i64 65536) 9]) (oS [oW (.i .i64 0) 4,oW (.i .i64 0) 5] .ret)))))))))) (some [0,1,7,8,9]) cg.m2))))
def cg.d:gD:=D0 2 cg.m [.t 4,.t 5]
def cg.F (b:List UInt8) (at_:Int):OT:=cg.d.run cg.E [(.sl .bs b),(.i .i64 at_)]
def cg.k1:fT (List TV):=iw (ev _ cg.E (.seq (oS [oV 8 85,oV 9 86,oB .lss 85 86 87,oV 87 88,oG 88 false (oV 8 89),oG 88 false (oI .gtr 89 (.i .i64 1114111) 90),oX (.k .pick) [.s 88,.c (.b true),.s 90] [91],oV 91 92,oG 92 false (oV 8 93),oG 92 false (oI .geq 93 (.i .i64 55296) 94),oG 92 false (oV 94 95),oG 95 true (oV 8 96),oG 95 true (oI .leq 96 (.i .i64 57343) 97),oG 92 false (oP 95 97 false 98),oX (.k .pick) [.s 92,.c (.b true),.s 98] [99]] (.cond (.s 99) [] (oS [oW (.i .i64 0) 4,oW (.i .i64 0) 5] .ret) .skip)) none (oS [oV 8 100,oV 7 101,oV 100 4,oV 101 5] .ret))) none (gJ cg.d)
def cg.j1 (x0:List UInt8) (x1:Int) (x2:Int) (x3:Int) (x4:Int):OT:=gY _ cg.E cg.m2 (dT [0,1,7,8,9] [(.sl .bs x0),(.i .i64 x1),(.i .i64 x2),(.i .i64 x3),(.i .i64 x4)]) (gJ cg.d)
def cg.l2 (x0:List UInt8) (x1:Int) (x2:Int) (x3:Int) (x4:Int) (x5:Int):OT:=gx (gY _ cg.E cg.m1) oz [0,1,7,8,9,10] (dT [0,1,7,8,9,10] [(.sl .bs x0),(.i .i64 x1),(.i .i64 x2),(.i .i64 x3),(.i .i64 x4),(.i .i64 x5)]) (er 1 cg.k1)
theorem cg.pL (x0:List UInt8) (x1:Int) (x2:Int) (x3:Int) (x4:Int) {ρ:OT} (K:∀(v1:Int) (h1:v1=(IntKind.i64.wrap (((x0).length:Int) - x1))),cond (decide (v1<x2))
  (some [(.i .i64 0),(.i .i64 0)])
  (cg.l2 x0 x1 x2 x3 x4 (1:Int))=ρ):cg.j1 x0 x1 x2 x3 x4=ρ:=((congrFun (congrFun (gQ _ _) _) _).trans (by kernel_rfl)).trans (K _ rfl)
theorem cg.lH (x0:List UInt8) (x1:Int) (x2:Int) (x3:Int) (x4:Int) (x5:Int) {ρ:OT} (K:∀(v1:UInt8) (h1:v1=(List.getD x0 ((IntKind.i64.wrap (x1+x5))).toNat (0:UInt8))) (v2:Int) (h2:v2=(IntKind.i64.wrap ((v1).toNat:Int))) (v3:Bool) (h3:v3=(cond (decide (v2<(128:Int))) true (decide ((192:Int)≤v2)))) (v4:Int) (h4:v4=(IntKind.i64.wrap (x3 * (64:Int)))) (v5:Int) (h5:v5=(IntKind.i64.wrap ((IntKind.i64.wrap (v4+v2)) - (128:Int)))) (v6:Int) (h6:v6=(IntKind.i64.wrap (x5+(1:Int)))) (v7:Bool) (h7:v7=(cond (decide (x3<x4)) true (decide ((1114111:Int)<x3)))) (v8:Bool) (h8:v8=((!v7)&&(decide ((55296:Int)≤x3)))) (v9:Bool) (h9:v9=(cond (decide ((55296:Int)≤x3)) (decide (x3≤(57343:Int))) false)),cond (decide (x5<x2))
  (ck (eK (IntKind.i64.wrap (x1+x5)) (x0).length) (ck (!(!(decide (v2<(128:Int)))) || (!(decide (v2<(128:Int))))) (ck ((decide (v2<(128:Int))) || (!(decide (v2<(128:Int))))) (cond v3
  (some [(.i .i64 0),(.i .i64 0)])
  (cg.l2 x0 x1 x2 v5 x4 v6)))))
  (ck (!(!(decide (x3<x4))) || (!(decide (x3<x4)))) (ck ((decide (x3<x4)) || (!(decide (x3<x4)))) (ck (!(!v7) || (!v7)) (ck (!(!v7) || (!v7)) (ck (!v8 || v8) (ck (!(!v7) || ((!v7)&&(!(decide ((55296:Int)≤x3)) || v8))) (ck (v7 || (!v7)) (cond (cond v7 true v9)
  (some [(.i .i64 0),(.i .i64 0)])
  (some [(.i .i64 x3),(.i .i64 x2)])))))))))=ρ):cg.l2 x0 x1 x2 x3 x4 x5=ρ:=((fD _ _ _ _ _ _).trans (by kernel_rfl)).trans (K _ rfl _ rfl _ rfl _ rfl _ rfl _ rfl _ rfl _ rfl _ rfl)
theorem cg.dV (b:List UInt8) (at_:Int) {ρ:OT} (K:∀(v1:Bool) (h1:v1=(cond (decide (at_<(0:Int))) true (decide (((b).length:Int)≤at_)))) (v2:UInt8) (h2:v2=(List.getD b (at_).toNat (0:UInt8))) (v3:Int) (h3:v3=(IntKind.i64.wrap ((v2).toNat:Int))) (v4:Bool) (h4:v4=(cond (decide ((192:Int)≤v3)) (decide (v3<(224:Int))) false)) (v5:Int) (h5:v5=(IntKind.i64.wrap (v3 - (192:Int)))) (v6:Bool) (h6:v6=(cond (decide ((224:Int)≤v3)) (decide (v3<(240:Int))) false)) (v7:Int) (h7:v7=(IntKind.i64.wrap (v3 - (224:Int)))) (v8:Bool) (h8:v8=(cond (decide ((240:Int)≤v3)) (decide (v3<(248:Int))) false)) (v9:Int) (h9:v9=(IntKind.i64.wrap (v3 - (240:Int)))),ck (!(!(decide (at_<(0:Int)))) || (!(decide (at_<(0:Int))))) (ck (!(!(decide (at_<(0:Int)))) || ((!(decide (at_<(0:Int))))&&(!(decide (at_<(0:Int)))))) (ck ((decide (at_<(0:Int))) || (!(decide (at_<(0:Int))))) (cond v1
  (some [(.i .i64 0),(.i .i64 0)])
  (ck (eK at_ (b).length) (cond (decide (v3<(128:Int)))
  (some [(.i .i64 v3),(.i .i64 1)])
  (ck (!(decide ((192:Int)≤v3)) || (decide ((192:Int)≤v3))) (ck (!(decide ((192:Int)≤v3)) || (decide ((192:Int)≤v3))) (cond v4
  (cg.j1 b at_ (2:Int) v5 (128:Int))
  (ck (!(decide ((224:Int)≤v3)) || (decide ((224:Int)≤v3))) (ck (!(decide ((224:Int)≤v3)) || (decide ((224:Int)≤v3))) (cond v6
  (cg.j1 b at_ (3:Int) v7 (2048:Int))
  (ck (!(decide ((240:Int)≤v3)) || (decide ((240:Int)≤v3))) (ck (!(decide ((240:Int)≤v3)) || (decide ((240:Int)≤v3))) (cond v8
  (cg.j1 b at_ (4:Int) v9 (65536:Int))
  (some [(.i .i64 0),(.i .i64 0)])))))))))))))))=ρ):cg.F b at_=ρ:=Eq.trans (by kernel_rfl) (K _ rfl _ rfl _ rfl _ rfl _ rfl _ rfl _ rfl _ rfl _ rfl)
theorem cg.di:CK 105 cg.env cg.d:=eI (by kernel_rfl)
def cG.env:EV:=[(105,(cg.c,cg.sg))]
def cG.E:eo:=cK tryzGl cG.env
def cG.m1:TM := .seq (oS [oV 4 7,oV 0 8,oK (.k .len) [8] [9],oB .lss 7 9 10] (.cond (.s 10) [] .skip (.exit 0))) none (.block 1 [] (oS [oV 0 12,oV 4 13,oC 105 2 2 [12,13] 14,oV 14 11,oE 0 11 15,oE 1 11 16,oV 15 5,oV 16 6] (.seq (oS [oV 6 17,oI .eql 17 (.i .i64 0) 18] (.cond (.s 18) [] (oS [oV 4 19,oV 19 2,oW (.b false) 3] .ret) .skip)) none (.fK [oV 4 20,oV 6 21,oB .add 20 21 22,oV 22 4]))))
def cG.m:TM:=oS [oW (.i .i64 0) 2,oW (.b false) 3] (.seq (oS [oW (.i .i64 0) 4] (.block 0 [] (.loop [0,4] [] cG.m1))) none (oS [oV 0 23,oK (.k .len) [23] [24],oV 24 2,oW (.b true) 3] .ret))
def cG.d:gD:=D0 1 cG.m [.t 2,.t 3]
def cG.F (b:List UInt8):OT:=cG.d.run cG.E [(.sl .bs b)]
def cG.k1:fT (List TV):=iw (ev _ cG.E (oS [oV 0 23,oK (.k .len) [23] [24],oV 24 2,oW (.b true) 3] .ret)) none (gJ cG.d)
def cG.l1 (x0:List UInt8) (x1:Int):OT:=gx (gY _ cG.E cG.m1) oz [0,4] (dT [0,4] [(.sl .bs x0),(.i .i64 x1)]) (er 0 cG.k1)
theorem cG.ew (x0:List UInt8) (x1:Int) {ρ:OT} (K:∀(v1:Int) (h1:v1=(IntKind.i64.wrap (x1+((dK.iF x0 x1).2)))),cond (decide (x1<((x0).length:Int)))
  (ck (decide (x0.length≤1099511627776)) (cond (decide (((dK.iF x0 x1).2)=(0:Int)))
  (some [(.i .i64 x1),(.b false)])
  (cG.l1 x0 v1)))
  (some [(.i .i64 ((x0).length:Int)),(.b true)])=ρ):cG.l1 x0 x1=ρ:=((fD _ _ _ _ _ _).trans (by kernel_rfl)).trans (K _ rfl)
theorem cG.fR (b:List UInt8):cG.F b=cG.l1 b (0:Int):=by kernel_rfl
theorem cG.di:CK 88 cG.env cG.d:=eI (by kernel_rfl)
def dt.env:EV:=[(88,(cG.c,cG.sg))]
def dt.E:eo:=cK tryzGl dt.env
def dt.m:TM:=oS [oW (.b false) 2] (oS [oV 0 6,oK (.k .sb) [6] [7],oC 88 1 2 [7] 8,oV 8 5,oE 0 5 9,oE 1 5 10,oV 9 3,oV 10 4] (oS [oV 4 11,oV 11 2] .ret))
def dt.d:gD:=D0 1 dt.m [.t 2]
def dt.F (s:bS):OT:=dt.d.run dt.E [(.s s)]
theorem dt.fR (s:bS):dt.F s=ck (kJ (s).length) (ck (decide (s.length≤1099511627776)) (some [(.b (dK.whole s))])):=by kernel_rfl
theorem dt.di:CK 71 dt.env dt.d:=eI (by kernel_rfl)
def cO.env:EV:=[]
def cO.E:eo:=cK tryzGl cO.env
def cO.m1:TM := .seq (oS [oV 3 4,oV 0 5,oK (.k .uO) [5] [6],oB .lss 4 6 7] (.cond (.s 7) [] .skip (.exit 0))) none (.seq (.block 1 [] (oS [oV 0 10,oV 3 11,oK (.k .si) [10,11] [12],oI .eql 12 (.u8 0) 13] (.cond (.s 13) [] (oS [oW (.b true) 2] .ret) .skip))) none (.fK [oV 3 8,oI .add 8 (.i .i64 1) 9,oV 9 3]))
def cO.m:TM:=oS [oW (.b false) 2] (.seq (oS [oW (.i .i64 0) 3] (.block 0 [] (.loop [0,3] [] cO.m1))) none (oS [oW (.b false) 2] .ret))
def cO.d:gD:=D0 1 cO.m [.t 2]
def cO.F (s:bS):OT:=cO.d.run cO.E [(.s s)]
def cO.k1:fT (List TV):=iw (ev _ cO.E (oS [oW (.b false) 2] .ret)) none (gJ cO.d)
def cO.l1 (x0:bS) (x1:Int):OT:=gx (gY _ cO.E cO.m1) oz [0,3] (dT [0,3] [(.s x0),(.i .i64 x1)]) (er 0 cO.k1)
theorem cO.ew (x0:bS) (x1:Int) {ρ:OT} (K:∀(v1:UInt8) (h1:v1=(List.getD x0 (x1).toNat (0:UInt8))) (v2:Int) (h2:v2=(IntKind.i64.wrap (x1+(1:Int)))),cond (decide (x1<((x0).length:Int)))
  (ck (eK x1 (x0).length) (cond (decide (v1=(0:UInt8)))
  (some [(.b true)])
  (cO.l1 x0 v2)))
  (some [(.b false)])=ρ):cO.l1 x0 x1=ρ:=((fD _ _ _ _ _ _).trans (by kernel_rfl)).trans (K _ rfl _ rfl)
theorem cO.fR (s:bS):cO.F s=cO.l1 s (0:Int):=by kernel_rfl
theorem cO.di:CK 46 cO.env cO.d:=eI (by kernel_rfl)
theorem fG.ok:KO 56 (fG.c) fG.sg:=Dc (t := .bs) (b:=1) (by kernel_rfl)
def gH.env:EV:=[]
def gH.E:eo:=cK tryzGl gH.env
def gH.m:TM:=oS [oW (.i .i64 0) 2] (oS [oV 0 3,oK (.k .FK) [3] [4],oK (.k (.fr 1 1 false)) [4] [5],oK (.k (.lr 1 false)) [5] [6],oV 6 2] .ret)
def gH.d:gD:=D0 1 gH.m [.t 2]
def gH.F (r:dj):OT:=gH.d.run gH.E [(.ro (.ag (dj.cells r)))]
theorem gH.fR (r:dj):gH.F r=some [(.i .i64 (dj.at_ r))]:=by kernel_rfl
theorem gH.di:CK 122 gH.env gH.d:=eI (by kernel_rfl)
def eG.env:EV:=[]
def eG.E:eo:=cK tryzGl eG.env
def eG.m:TM:=oS [oW (.i .i64 0) 2] (oS [oV 0 3,oK (.k .FK) [3] [4],oK (.k (.fr 0 1 false)) [4] [5],oK (.k (.lr 1 false)) [5] [6],oK (.k .len) [6] [7],oV 0 8,oK (.k .FK) [8] [9],oK (.k (.fr 1 1 false)) [9] [10],oK (.k (.lr 1 false)) [10] [11],oB .sub 7 11 12,oV 12 2] .ret)
def eG.d:gD:=D0 1 eG.m [.t 2]
def eG.F (r:dj):OT:=eG.d.run eG.E [(.ro (.ag (dj.cells r)))]
theorem eG.dV (r:dj) {ρ:OT} (K:∀(v1:Int) (h1:v1=(IntKind.i64.wrap ((((dj.b r)).length:Int) - (dj.at_ r)))),some [(.i .i64 v1)]=ρ):eG.F r=ρ:=Eq.trans (by kernel_rfl) (K _ rfl)
theorem eG.di:CK 121 eG.env eG.d:=eI (by kernel_rfl)
def fm.env:EV:=[]
def fm.E:eo:=cK tryzGl fm.env
def fm.m:TM:=oS [oW (.i .i64 0) 2,oW (.b false) 3] (.seq (oS [oV 0 4,oK (.k (.nc 999999 0)) [4] [5],oA 999999 0 1 5 6,oL 999999 1 1 6 7,oV 0 8,oK (.k (.nc 999999 0)) [8] [9],oA 999999 0 0 9 10,oL 999999 0 1 10 11,oK (.k .len) [11] [12],oB .eql 7 12 13] (.cond (.s 13) [] (oS [oW (.i .i64 0) 2,oW (.b false) 3] .ret) .skip)) none (oS [oV 0 14,oK (.k (.nc 999999 0)) [14] [15],oA 999999 0 1 15 16,oL 999999 1 1 16 17,oI .add 17 (.i .i64 1) 18,oK (.k (.nc 999999 0)) [14] [19],oA 999999 0 1 19 20,oT 999999 1 1 20 18] (oS [oV 0 21,oK (.k (.nc 999999 0)) [21] [22],oA 999999 0 0 22 23,oL 999999 0 1 23 24,oV 0 25,oK (.k (.nc 999999 0)) [25] [26],oA 999999 0 1 26 27,oL 999999 1 1 27 28,oI .sub 28 (.i .i64 1) 29,oK (.k (.ix 1)) [24,29] [30],oK (.k (.lr 1 false)) [30] [31],oK (.k (.ci .i64)) [31] [32],oV 32 2,oW (.b true) 3] .ret)))
def fm.d:gD:={ np:=1,m:=fm.m,ref:=some (0,999999),fA:=[],res:=[.t 2,.t 3],own:=[],new:=none,fx:=[] }
def fm.F (r:dj):OT:=fm.d.run fm.E [(.ag (dj.cells r))]
theorem fm.dV (r:dj) {ρ:OT} (K:∀(v1:Int) (h1:v1=(IntKind.i64.wrap ((dj.at_ r)+(1:Int)))) (v2:Int) (h2:v2=(IntKind.i64.wrap (v1 - (1:Int)))) (v3:UInt8) (h3:v3=(List.getD (dj.b r) (v2).toNat (0:UInt8))) (v4:Int) (h4:v4=(IntKind.i64.wrap ((v3).toNat:Int))),cond (decide ((dj.at_ r)=(((dj.b r)).length:Int)))
  (some [(.i .i64 0),(.b false),(.ag (dj.cells r))])
  (ck (eK v2 ((dj.b r)).length) (some [(.i .i64 v4),(.b true),(.ag [(.sl .bs (dj.b r)),(.i .i64 v1)])]))=ρ):fm.F r=ρ:=Eq.trans (by kernel_rfl) (K _ rfl _ rfl _ rfl _ rfl)
theorem fm.di:CK 135 fm.env fm.d:=eI (by kernel_rfl)
def fj.env:EV:=[(121,(eG.c,eG.sg))]
def fj.E:eo:=cK tryzGl fj.env
def fj.m:TM:=oS [oW (.sl .bs ([]:List UInt8)) 4,oW (.b false) 5] (.seq (oS [oV 1 6,oI .lss 6 (.i .i64 1) 7,oV 7 8,oG 8 false (oV 1 9),oG 8 false (oI .gtr 9 (.i .i64 8) 10),oX (.k .pick) [.s 8,.c (.b true),.s 10] [11],oV 11 12,oG 12 false (oV 1 13),oG 12 false (oV 0 14),oG 12 false (oK (.k (.lj 121 1 1 0 999999)) [14,999999] [15]),oG 12 false (oB .gtr 13 15 16),oX (.k .pick) [.s 12,.c (.b true),.s 16] [17]] (.cond (.s 17) [] (oS [oW (.sl .bs ([]:List UInt8)) 4,oW (.b false) 5] .ret) .skip)) none (oS [oV 0 18,oK (.k (.nc 999999 0)) [18] [19],oA 999999 0 1 19 20,oL 999999 1 1 20 21,oV 1 22,oB .add 21 22 23,oK (.k (.nc 999999 0)) [18] [24],oA 999999 0 1 24 25,oT 999999 1 1 25 23] (oS [oV 0 26,oK (.k (.nc 999999 0)) [26] [27],oA 999999 0 0 27 28,oL 999999 0 1 28 29,oV 0 30,oK (.k (.nc 999999 0)) [30] [31],oA 999999 0 1 31 32,oL 999999 1 1 32 33,oV 1 34,oB .sub 33 34 35,oV 0 36,oK (.k (.nc 999999 0)) [36] [37],oA 999999 0 1 37 38,oL 999999 1 1 38 39,oK (.k (.sc 1 true true)) [29,35,39] [40],oV 40 4,oW (.b true) 5] .ret)))
def fj.d:gD:={ np:=2,m:=fj.m,ref:=some (0,999999),fA:=[],res:=[.t 4,.t 5],own:=[],new:=none,fx:=[] }
def fj.F (r:dj) (n:Int):OT:=fj.d.run fj.E [(.ag (dj.cells r)),(.i .i64 n)]
theorem fj.dV (r:dj) (n:Int) {ρ:OT} (K:∀(v1:Bool) (h1:v1=(cond (decide (n<(1:Int))) true (decide ((8:Int)<n)))) (v2:Bool) (h2:v2=(cond v1 true (decide ((cM.left r)<n)))) (v3:Int) (h3:v3=(IntKind.i64.wrap ((dj.at_ r)+n))) (v4:List UInt8) (h4:v4=(List.drop ((IntKind.i64.wrap (v3 - n))).toNat (List.take (v3).toNat (dj.b r)))),ck (!(!(decide (n<(1:Int)))) || (!(decide (n<(1:Int))))) (ck ((decide (n<(1:Int))) || (!(decide (n<(1:Int))))) (ck (!(!v1) || ((!v1)&&(cM.ie r))) (ck (!(!v1) || ((!v1)&&(!v1))) (ck (v1 || (!v1)) (cond v2
  (some [(.sl .bs ([]:List UInt8)),(.b false),(.ag (dj.cells r))])
  (ck (ja (IntKind.i64.wrap (v3 - n)) v3 ((dj.b r)).length) (some [(.sl .bs v4),(.b true),(.ag [(.sl .bs (dj.b r)),(.i .i64 v3)])])))))))=ρ):fj.F r n=ρ:=Eq.trans (by kernel_rfl) (K _ rfl _ rfl _ rfl _ rfl)
theorem fj.di:CK 147 fj.env fj.d:=eI (by kernel_rfl)
def fk.env:EV:=[(56,(fG.c,fG.sg)),(121,(eG.c,eG.sg))]
def fk.E:eo:=cK tryzGl fk.env
def fk.m:TM:=oS [oW (.sl .bs ([]:List UInt8)) 4,oW (.b false) 5] (.seq (oS [oV 1 6,oI .lss 6 (.i .i64 0) 7,oV 7 8,oG 8 false (oV 1 9),oG 8 false (oV 0 10),oG 8 false (oK (.k (.lj 121 1 1 0 999999)) [10,999999] [11]),oG 8 false (oB .gtr 9 11 12),oX (.k .pick) [.s 8,.c (.b true),.s 12] [13]] (.cond (.s 13) [] (oS [oW (.sl .bs ([]:List UInt8)) 4,oW (.b false) 5] .ret) .skip)) none (oS [oV 0 14,oK (.k (.nc 999999 0)) [14] [15],oA 999999 0 1 15 16,oL 999999 1 1 16 17,oV 1 18,oB .add 17 18 19,oK (.k (.nc 999999 0)) [14] [20],oA 999999 0 1 20 21,oT 999999 1 1 21 19] (oS [oV 0 22,oK (.k (.nc 999999 0)) [22] [23],oA 999999 0 0 23 24,oL 999999 0 1 24 25,oV 0 26,oK (.k (.nc 999999 0)) [26] [27],oA 999999 0 1 27 28,oL 999999 1 1 28 29,oV 1 30,oB .sub 29 30 31,oV 0 32,oK (.k (.nc 999999 0)) [32] [33],oA 999999 0 1 33 34,oL 999999 1 1 34 35,oK (.k (.sc 1 true true)) [25,31,35] [36],oK (.k (.call 56 ⟨1,none,[],[],1,[(0,102,1)],none,[]⟩)) [36,(lk 102)] [37,lk 102],oV 37 4,oW (.b true) 5] .ret)))
def fk.d:gD:={ np:=2,m:=fk.m,ref:=some (0,999999),fA:=[],res:=[.t 4,.t 5],own:=[],new:=none,fx:=[] }
def fk.F (r:dj) (n:Int):OT:=fk.d.run fk.E [(.ag (dj.cells r)),(.i .i64 n)]
theorem fk.dV (r:dj) (n:Int) {ρ:OT} (K:∀(v1:Bool) (h1:v1=(cond (decide (n<(0:Int))) true (decide ((cM.left r)<n)))) (v2:Int) (h2:v2=(IntKind.i64.wrap ((dj.at_ r)+n))) (v3:List UInt8) (h3:v3=(List.drop ((IntKind.i64.wrap (v2 - n))).toNat (List.take (v2).toNat (dj.b r)))),ck (!(!(decide (n<(0:Int)))) || ((!(decide (n<(0:Int))))&&(cM.ie r))) (ck (!(!(decide (n<(0:Int)))) || ((!(decide (n<(0:Int))))&&(!(decide (n<(0:Int)))))) (ck ((decide (n<(0:Int))) || (!(decide (n<(0:Int))))) (cond v1
  (some [(.sl .bs ([]:List UInt8)),(.b false),(.ag (dj.cells r))])
  (ck (ja (IntKind.i64.wrap (v2 - n)) v2 ((dj.b r)).length) (ck (fS (v3).length 1) (some [(.sl .bs (v3)),(.b true),(.ag [(.sl .bs (dj.b r)),(.i .i64 v2)])]))))))=ρ):fk.F r n=ρ:=Eq.trans (by kernel_rfl) (K _ rfl _ rfl _ rfl)
theorem fk.di:CK 148 fk.env fk.d:=eI (by kernel_rfl)
def dL.env:EV:=[(147,(fj.c,fj.sg))]
def dL.E:eo:=cK tryzGl dL.env
def dL.m1:TM:=oS [oB .lss 19 18 20] (.seq (.cond (.s 20) [] .skip (.exit 0)) none (.seq (.block 1 [(999999,.cl [])] (oS [oK (.k (.ix 1)) [17,19] [21],oK (.k (.lr 1 false)) [21] [22],oV 22 10] (.fK [oV 8 23,oI .shl 23 (.u64 8) 24,oV 10 25,oK (.k (.ci .u64)) [25] [26],oB .or 24 26 27,oV 27 8]))) none (.fK [oI .add 19 (.i .i64 1) 28,oV 28 19])))
def dL.m:TM:=oS [oW (.u64 0) 4,oW (.b false) 5] (oS [oV 0 12,oV 1 13,oK (.k (.call 147 ⟨2,(some (0,999999)),[],[],2,[],none,[]⟩)) [12,13,999999] [14,999999],oV 14 11,oE 0 11 15,oE 1 11 16,oV 15 6,oV 16 7] (oS [oW (.u64 0) 8] (.seq (oS [oV 6 17,oK (.k .len) [17] [18],oW (.i .i64 0) 19] (.block 0 [(999999,.cl [])] (.loop [7,8,17,18,19,999999] [(999999,.cl [])] dL.m1))) none (oS [oV 8 29,oV 7 30,oV 29 4,oV 30 5] .ret))))
def dL.d:gD:={ np:=2,m:=dL.m,ref:=some (0,999999),fA:=[],res:=[.t 4,.t 5],own:=[],new:=none,fx:=[] }
def dL.F (r:dj) (n:Int):OT:=dL.d.run dL.E [(.ag (dj.cells r)),(.i .i64 n)]
def dL.k1:fT (List TV):=iw (ev _ dL.E (oS [oV 8 29,oV 7 30,oV 29 4,oV 30 5] .ret)) none (gJ dL.d)
def dL.l1 (x0:Bool) (x1:UInt64) (x2:List UInt8) (x3:Int) (x4:Int) (x5:dj):OT:=gx (gY _ dL.E dL.m1) oz [7,8,17,18,19,999999] (dT [7,8,17,18,19,999999] [(.b x0),(.u64 x1),(.sl .bs x2),(.i .i64 x3),(.i .i64 x4),(.ag (dj.cells x5))]) (er 0 dL.k1)
theorem dL.ew (x0:Bool) (x1:UInt64) (x2:List UInt8) (x3:Int) (x4:Int) (x5:dj) {ρ:OT} (K:∀(v1:UInt8) (h1:v1=(List.getD x2 (x4).toNat (0:UInt8))) (v2:UInt64) (h2:v2=(mf x1 (((8:UInt64)).toNat))) (v3:UInt64) (h3:v3=(UInt64.ofInt ((v1).toNat:Int))) (v4:Int) (h4:v4=(IntKind.i64.wrap (x4+(1:Int)))),cond (decide (x4<x3))
  (ck (eK x4 (x2).length) (dL.l1 x0 (v2 ||| v3) x2 x3 v4 x5))
  (some [(.u64 x1),(.b x0),(.ag (dj.cells x5))])=ρ):dL.l1 x0 x1 x2 x3 x4 x5=ρ:=((fD _ _ _ _ _ _).trans (by kernel_rfl)).trans (K _ rfl _ rfl _ rfl _ rfl)
theorem dL.dV (r:dj) (n:Int) {ρ:OT} (K:∀(v1:Int) (h1:v1=(((cM.nx r n (cM.pd r n))).length:Int)),ck (cM.ie r) (dL.l1 (cM.pd r n) (0:UInt64) (cM.nx r n (cM.pd r n)) v1 (0:Int) (cM.oO r n (cM.pd r n)))=ρ):dL.F r n=ρ:=Eq.trans (by kernel_rfl) (K _ rfl)
theorem dL.di:CK 137 dL.env dL.d:=eI (by kernel_rfl)
def fq.env:EV:=[(56,(fG.c,fG.sg))]
def fq.E:eo:=cK tryzGl fq.env
def fq.m:TM:=oS [oW (.c (.pointer none)) 2] (oS [oV 0 3,oK (.k (.call 56 ⟨1,none,[],[],1,[(0,100,1)],none,[]⟩)) [3,(lk 100)] [4,lk 100],oK (.bd [(.sl .bs ([]:List UInt8)),(.i .i64 0)] [(0,1)]) [4] [5],oK (.k (.bx 1007)) [5,1007] [6,1007],oV 6 2] .ret)
def fq.d:gD:={ np:=1,m:=fq.m,ref:=none,fA:=[],res:=[.t 2],own:=[],new:=some (0,1007),fx:=[] }
def fq.F (b:List UInt8):OT:=fq.d.run fq.E [(.sl .bs b)]
theorem fq.fR (b:List UInt8):fq.F b=ck (fS (b).length 1) (some [.pt,(.ag [(.sl .bs (b)),(.i .i64 0)])]):=by kernel_rfl
theorem fq.di:CK 119 fq.env fq.d:=eI (by kernel_rfl)
def dI.env:EV:=[]
def dI.E:eo:=cK tryzGl dI.env
def dI.m:TM:=oS [oW (.b false) 2] (oS [oV 0 3,oI .geq 3 (.i .i64 1) 4,oV 4 5,oG 5 true (oV 0 6),oG 5 true (oI .leq 6 (.i .i64 8) 7),oP 5 7 false 8,oV 8 2] .ret)
def dI.d:gD:=D0 1 dI.m [.t 2]
def dI.F (n:Int):OT:=dI.d.run dI.E [(.i .i64 n)]
theorem dI.dV (n:Int) {ρ:OT} (K:∀(v1:Bool) (h1:v1=(cond (decide ((1:Int)≤n)) (decide (n≤(8:Int))) false)),ck (!(decide ((1:Int)≤n)) || (decide ((1:Int)≤n))) (ck (!(decide ((1:Int)≤n)) || (decide ((1:Int)≤n))) (some [(.b v1)]))=ρ):dI.F n=ρ:=Eq.trans (by kernel_rfl) (K _ rfl)
theorem dI.di:CK 149 dI.env dI.d:=eI (by kernel_rfl)
def ff.env:EV:=[]
def ff.E:eo:=cK tryzGl ff.env
def ff.m:TM:=oS [oW (.c (.pointer none)) 0] (oS [oK (.bd [(.c (.slice none 0 0))] []) [] [1],oK (.yn 1003 [(0,100,.bs)]) [1,1003,(lk 100)] [2,1003,lk 100],oV 2 0] .ret)
def ff.d:gD:={ np:=0,m:=ff.m,ref:=none,fA:=[],res:=[.t 0],own:=[],new:=some (0,1003),fx:=[(0,1)] }
def ff.F  : OT:=ff.d.run ff.E []
theorem ff.fR  : ff.F  = some [.pt,(.ag [(.sl .bs ([]:List UInt8))])]:=by kernel_rfl
theorem ff.di:CK 107 ff.env ff.d:=eI (by kernel_rfl)
def eM.env:EV:=[]
def eM.E:eo:=cK tryzGl eM.env
def eM.m:TM := .fK [oV 0 4,oV 0 5,oK (.k (.nc 999999 0)) [5] [6],oA 999999 0 0 6 7,oL 999999 0 1 7 8,oV 1 9,oK (.k (.ci .u8)) [9] [10],oK (.bl .bs 1) [10] [11],oK (.k (.ap 100 102 1 1)) [8,11,(lk 100),(lk 102)] [12,lk 100,lk 102],oK (.k (.nc 999999 0)) [4] [13],oA 999999 0 0 13 14,oT 999999 0 1 14 12]
def eM.d:gD:={ np:=2,m:=eM.m,ref:=some (0,999999),fA:=[(0,100,1)],res:=[],own:=[],new:=none,fx:=[] }
def eM.F (w:fh) (v:Int):OT:=eM.d.run eM.E [(.ag (fh.cells w)),(.i .i64 v)]
theorem eM.dV (w:fh) (v:Int) {ρ:OT} (K:∀(v1:List UInt8) (h1:v1=([(UInt8.ofInt v)]:List UInt8)),ck (fS (((fh.b w)).length+(v1).length) 1) (some [(.ag [(.sl .bs ((fh.b w)++v1))])])=ρ):eM.F w v=ρ:=Eq.trans (by kernel_rfl) (K _ rfl)
theorem eM.di:CK 127 eM.env eM.d:=eI (by kernel_rfl)
def fU.env:EV:=[]
def fU.E:eo:=cK tryzGl fU.env
def fU.m:TM := .fK [oV 0 4,oV 0 5,oK (.k (.nc 999999 0)) [5] [6],oA 999999 0 0 6 7,oL 999999 0 1 7 8,oV 1 9,oK (.k (.ap 100 101 1 1)) [8,9,(lk 100),(lk 101)] [10,lk 100,lk 101],oK (.k (.nc 999999 0)) [4] [11],oA 999999 0 0 11 12,oT 999999 0 1 12 10]
def fU.d:gD:={ np:=2,m:=fU.m,ref:=some (0,999999),fA:=[(0,100,1)],res:=[],own:=[],new:=none,fx:=[] }
def fU.F (w:fh) (b:List UInt8):OT:=fU.d.run fU.E [(.ag (fh.cells w)),(.sl .bs b)]
theorem fU.fR (w:fh) (b:List UInt8):fU.F w b=ck (fS (((fh.b w)).length+(b).length) 1) (some [(.ag [(.sl .bs ((fh.b w)++b))])]):=by kernel_rfl
theorem fU.di:CK 129 fU.env fU.d:=eI (by kernel_rfl)
def dS.env:EV:=[(149,(dI.c,dI.sg))]
def dS.E:eo:=cK tryzGl dS.env
def dS.m1:TM := .seq (oS [oV 2 9,oC 149 1 1 [9] 10,oV 10 11,oG 11 true (oV 6 12),oG 11 true (oI .geq 12 (.i .i64 0) 13),oP 11 13 false 14] (.cond (.s 14) [] .skip (.exit 0))) none (.seq (.block 1 [(0,.ptr 999999 0),(999999,.cl [(0,102,1)]),(lk 102,.live 1)] (.fK [oV 0 17,oV 0 18,oK (.k (.nc 999999 0)) [18] [19],oA 999999 0 0 19 20,oL 999999 0 1 20 21,oV 1 22,oV 6 23,oX (.k (.bin .mul)) [.c (.i .i64 8),.s 23] [24],oB .shr 22 24 25,oK (.k (.ci .u8)) [25] [26],oK (.bl .bs 1) [26] [27],oK (.k (.ap 100 102 1 1)) [21,27,(lk 100),(lk 102)] [28,lk 100,lk 102],oK (.k (.nc 999999 0)) [17] [29],oA 999999 0 0 29 30,oT 999999 0 1 30 28])) none (.fK [oV 6 15,oI .sub 15 (.i .i64 1) 16,oV 16 6]))
def dS.m:TM:=oS [oV 2 7,oI .sub 7 (.i .i64 1) 8,oV 8 6] (.block 0 [(999999,.cl [(0,100,1)]),(lk 100,.live 1)] (.loop [0,1,2,6,999999] [(0,.ptr 999999 0),(999999,.cl [(0,100,1)]),(lk 100,.live 1)] dS.m1))
def dS.d:gD:={ np:=3,m:=dS.m,ref:=some (0,999999),fA:=[(0,100,1)],res:=[],own:=[],new:=none,fx:=[] }
def dS.F (w:fh) (v:UInt64) (n:Int):OT:=dS.d.run dS.E [(.ag (fh.cells w)),(.u64 v),(.i .i64 n)]
def dS.l1 (x0:UInt64) (x1:Int) (x2:Int) (x3:fh):OT:=gx (gY _ dS.E dS.m1) oz [0,1,2,6,999999] (dT [0,1,2,6,999999] [.pt,(.u64 x0),(.i .i64 x1),(.i .i64 x2),(.ag (fh.cells x3))]) (er 0 (gJ dS.d))
theorem dS.ew (x0:UInt64) (x1:Int) (x2:Int) (x3:fh) {ρ:OT} (K:∀(v1:Bool) (h1:v1=(cond (decide (1≤x1∧x1≤8)) (decide ((0:Int)≤x2)) false)) (v2:Int) (h2:v2=(IntKind.i64.wrap ((8:Int) * x2))) (v3:UInt8) (h3:v3=(UInt8.ofInt (((me x0 ((v2).toNat))).toNat:Int))) (v4:List UInt8) (h4:v4=((fh.b x3)++([v3]:List UInt8))) (v5:Int) (h5:v5=(IntKind.i64.wrap (x2 - (1:Int)))),ck (!(decide (1≤x1∧x1≤8)) || (decide (1≤x1∧x1≤8))) (ck (!(decide (1≤x1∧x1≤8)) || (decide (1≤x1∧x1≤8))) (cond v1
  (ck (decide (0≤v2)) (ck (fS (((fh.b x3)).length+(([v3]:List UInt8)).length) 1) (dS.l1 x0 x1 v5 (fh.mk v4))))
  (some [(.ag (fh.cells x3))])))=ρ):dS.l1 x0 x1 x2 x3=ρ:=((fD _ _ _ _ _ _).trans (by kernel_rfl)).trans (K _ rfl _ rfl _ rfl _ rfl _ rfl)
theorem dS.dV (w:fh) (v:UInt64) (n:Int) {ρ:OT} (K:∀(v1:Int) (h1:v1=(IntKind.i64.wrap (n - (1:Int)))),dS.l1 v n v1 w=ρ):dS.F w v n=ρ:=Eq.trans (by kernel_rfl) (K _ rfl)
theorem dS.di:CK 144 dS.env dS.d:=eI (by kernel_rfl)
def eC.env:EV:=[(56,(fG.c,fG.sg))]
def eC.E:eo:=cK tryzGl eC.env
def eC.m:TM:=oS [oW (.sl .bs ([]:List UInt8)) 2] (oS [oV 0 3,oK (.k (.nc 999999 0)) [3] [4],oA 999999 0 0 4 5,oL 999999 0 1 5 6,oK (.k (.call 56 ⟨1,none,[],[],1,[(0,102,1)],none,[]⟩)) [6,(lk 102)] [7,lk 102],oV 7 2] .ret)
def eC.d:gD:={ np:=1,m:=eC.m,ref:=some (0,999999),fA:=[(0,100,1)],res:=[.t 2],own:=[],new:=none,fx:=[] }
def eC.F (w:fh):OT:=eC.d.run eC.E [(.ag (fh.cells w))]
theorem eC.fR (w:fh):eC.F w=ck (fS (((fh.b w))).length 1) (some [(.sl .bs (((fh.b w)))),(.ag (fh.cells w))]):=by kernel_rfl
theorem eC.di:CK 109 eC.env eC.d:=eI (by kernel_rfl)
def fZ.env:EV:=[]
def fZ.E:eo:=cK tryzGl fZ.env
def fZ.m:TM:=oS [oW (.b false) 2] (oS [oV 0 3,oK (.k (.ci .u64)) [3] [4],oI .lss 4 (.u64 4294967296) 5,oV 5 2] .ret)
def fZ.d:gD:=D0 1 fZ.m [.t 2]
def fZ.F (n:Int):OT:=fZ.d.run fZ.E [(.i .i64 n)]
theorem fZ.fR (n:Int):fZ.F n=some [(.b (decide ((UInt64.ofInt n)<(4294967296:UInt64))))]:=by kernel_rfl
theorem fZ.di:CK 66 fZ.env fZ.d:=eI (by kernel_rfl)
def bV.env:EV:=[(66,(fZ.c,fZ.sg))]
def bV.E:eo:=cK tryzGl bV.env
def bV.m1:TM := .cond (.s 14) [(1,.ptr 1089 0),(1089,.cl [])] (.fK [oA 1089 0 1 1 17,oX (.k (.st 1089 1 1)) [.s 17,.s 1089,.c (.u64 0)] [1089]]) (oS [oI .eql 13 (.i .i64 2) 19,oV 19 18] (.cond (.s 18) [(1,.ptr 1089 0),(1089,.cl [])] (.fK [oA 1089 0 1 1 20,oL 1089 1 1 20 21,oI .lss 21 (.u64 9223372036854775808) 22,oV 22 5,oA 1089 0 1 1 23,oX (.k (.st 1089 1 1)) [.s 23,.s 1089,.c (.u64 0)] [1089]]) (oS [oI .eql 13 (.i .i64 3) 25,oV 25 24] (.cond (.s 24) [(1,.ptr 1089 0),(1089,.cl [])] (.fK [oV 4 26,oC 66 1 1 [26] 27,oV 27 5,oW (.i .i64 0) 4]) (oS [oI .eql 13 (.i .i64 4) 29,oV 29 28] (.cond (.s 28) [(1,.ptr 1089 0),(1089,.cl [])] (.fK [oA 1089 0 3 1 30,oL 1089 3 1 30 31,oK (.k .uO) [31] [32],oC 66 1 1 [32] 33,oV 33 5,oA 1089 0 3 1 34,oX (.k (.st 1089 3 1)) [.s 34,.s 1089,.c (.s [])] [1089]]) (oS [oI .eql 13 (.i .i64 5) 36,oV 36 35] (.cond (.s 35) [(1,.ptr 1089 0),(1089,.cl [])] (.fK [oV 3 37,oC 66 1 1 [37] 38,oV 38 5,oW (.i .i64 0) 3]) (oS [oI .eql 13 (.i .i64 6) 40,oV 40 39] (.cond (.s 39) [(1,.ptr 1089 0),(1089,.cl [])] (.fK [oV 3 41,oI .rem 41 (.i .i64 2) 42,oI .eql 42 (.i .i64 0) 43,oV 43 44,oG 44 true (oV 3 45),oG 44 true (oI .quo 45 (.i .i64 2) 46),oG 44 true (oC 66 1 1 [46] 47),oP 44 47 false 48,oV 48 5,oW (.i .i64 0) 3]) (oS [oI .eql 13 (.i .i64 8) 50,oV 50 49] (.cond (.s 49) [(1,.ptr 1089 0),(1089,.cl [])] (.fK [oA 1089 0 1 1 51,oL 1089 1 1 51 52,oI .geq 52 (.u64 20) 53,oV 53 54,oG 54 true (oA 1089 0 1 1 55),oG 54 true (oL 1089 1 1 55 56),oG 54 true (oI .leq 56 (.u64 22) 57),oP 54 57 false 58,oV 58 5,oA 1089 0 1 1 59,oX (.k (.st 1089 1 1)) [.s 59,.s 1089,.c (.u64 0)] [1089]]) (oS [oI .eql 13 (.i .i64 10) 61,oV 61 60] (.cond (.s 60) [(1,.ptr 1089 0),(1089,.cl [])] (.fK [oA 1089 0 1 1 62,oL 1089 1 1 62 63,oI .leq 63 (.u64 127) 64,oV 64 65,oG 65 true (oV 4 66),oG 65 true (oC 66 1 1 [66] 67),oP 65 67 false 68,oV 68 5,oA 1089 0 1 1 69,oX (.k (.st 1089 1 1)) [.s 69,.s 1089,.c (.u64 0)] [1089],oW (.i .i64 0) 4]) .skip))))))))))))))
def bV.m2:TM:=oS [oV 5 70,oV 70 71,oG 71 true (oA 1089 0 1 1 72),oG 71 true (oL 1089 1 1 72 73),oG 71 true (oI .eql 73 (.u64 0) 74),oP 71 74 false 75,oV 75 76,oG 76 true (oV 4 77),oG 76 true (oI .eql 77 (.i .i64 0) 78),oP 76 78 false 79,oV 79 80,oG 80 true (oA 1089 0 3 1 81),oG 80 true (oL 1089 3 1 81 82),oG 80 true (oI .eql 82 (.s []) 83),oP 80 83 false 84,oV 84 85,oG 85 true (oV 3 86),oG 85 true (oI .eql 86 (.i .i64 0) 87),oP 85 87 false 88,oV 88 2] .ret
def bV.m:TM:=oS [oK (.k (.bx 1089)) [0,1089] [1,1089],oW (.b false) 2] (oS [oA 1089 0 4 1 6,oL 1089 4 1 6 7,oK (.k .len) [7] [8],oA 1089 0 2 1 9,oL 1089 2 1 9 10,oK (.k .len) [10] [11],oV 8 3,oV 11 4] (oS [oW (.b true) 5] (.seq (oS [oA 1089 0 0 1 12,oL 1089 0 1 12 13] (.block 0 [(1,.ptr 1089 0),(1089,.cl [])] (.seq (oS [oI .eql 13 (.i .i64 1) 15,oV 15 14] (.cond (.s 14) [(1,.ptr 1089 0),(1089,.cl [])] .skip (.fK [oI .eql 13 (.i .i64 9) 16,oV 16 14]))) (some [1,3,4,5,13,14,1089]) bV.m1))) (some [1,3,4,5,1089]) bV.m2)))
def bV.d:gD:=D0 1 bV.m [.t 2]
def bV.F (it:bM):OT:=bV.d.run bV.E [(.ag (bM.cells it))]
def bV.k1:fT (List TV):=iw (gY _ bV.E bV.m2) (some [1,3,4,5,1089]) (gJ bV.d)
def bV.j1 (x0:Int) (x1:Int) (x2:Bool) (x3:Int) (x4:Bool) (x5:bM):OT:=gY _ bV.E bV.m1 (dT [1,3,4,5,13,14,1089] [.pt,(.i .i64 x0),(.i .i64 x1),(.b x2),(.i .i64 x3),(.b x4),(.ag (bM.cells x5))]) (er 0 bV.k1)
def bV.j2 (x0:Int) (x1:Int) (x2:Bool) (x3:bM):OT:=gY _ bV.E bV.m2 (dT [1,3,4,5,1089] [.pt,(.i .i64 x0),(.i .i64 x1),(.b x2),(.ag (bM.cells x3))]) (gJ bV.d)
theorem bV.pL (x0:Int) (x1:Int) (x2:Bool) (x3:Int) (x4:Bool) (x5:bM) {ρ:OT} (K:∀(v1:Int) (h1:v1=(((bM.text x5)).length:Int)) (v2:Int) (h2:v2=(IntKind.i64.wrap (Int.tdiv x0 (2:Int)))) (v3:Bool) (h3:v3=(cond (decide ((Int.tmod x0 (2:Int))=(0:Int))) (decide (v2<4294967296)) false)) (v4:Bool) (h4:v4=(cond (decide ((20:UInt64)≤(bM.n x5))) (decide ((bM.n x5)≤(22:UInt64))) false)) (v5:Bool) (h5:v5=(cond (decide ((bM.n x5)≤(127:UInt64))) (decide (x1<4294967296)) false)),cond x4
  (bV.j2 x0 x1 x2 (bM.mk (bM.kind x5) 0 (bM.bytes x5) (bM.text x5) (bM.kids x5)))
  (cond (decide (x3=(2:Int)))
  (bV.j2 x0 x1 (decide ((bM.n x5)<(9223372036854775808:UInt64))) (bM.mk (bM.kind x5) 0 (bM.bytes x5) (bM.text x5) (bM.kids x5)))
  (cond (decide (x3=(3:Int)))
  (ck (decide (0≤x1∧x1≤1099511627776)) (bV.j2 x0 (0:Int) (decide (x1<4294967296)) x5))
  (cond (decide (x3=(4:Int)))
  (ck (decide (0≤v1∧v1≤1099511627776)) (bV.j2 x0 x1 (decide (v1<4294967296)) (bM.mk (bM.kind x5) (bM.n x5) (bM.bytes x5) [] (bM.kids x5))))
  (cond (decide (x3=(5:Int)))
  (ck (decide (0≤x0∧x0≤1099511627776)) (bV.j2 (0:Int) x1 (decide (x0<4294967296)) x5))
  (cond (decide (x3=(6:Int)))
  (ck (!decide ((2:Int)=0)) (ck (!(decide ((Int.tmod x0 (2:Int))=(0:Int))) || ((decide ((Int.tmod x0 (2:Int))=(0:Int)))&&(!decide ((2:Int)=0)))) (ck (!(decide ((Int.tmod x0 (2:Int))=(0:Int))) || ((decide ((Int.tmod x0 (2:Int))=(0:Int)))&&(decide (0≤v2∧v2≤1099511627776)))) (ck (!(decide ((Int.tmod x0 (2:Int))=(0:Int))) || (decide ((Int.tmod x0 (2:Int))=(0:Int)))) (bV.j2 (0:Int) x1 v3 x5)))))
  (cond (decide (x3=(8:Int)))
  (ck (!(decide ((20:UInt64)≤(bM.n x5))) || (decide ((20:UInt64)≤(bM.n x5)))) (ck (!(decide ((20:UInt64)≤(bM.n x5))) || (decide ((20:UInt64)≤(bM.n x5)))) (ck (!(decide ((20:UInt64)≤(bM.n x5))) || (decide ((20:UInt64)≤(bM.n x5)))) (bV.j2 x0 x1 v4 (bM.mk (bM.kind x5) 0 (bM.bytes x5) (bM.text x5) (bM.kids x5))))))
  (cond (decide (x3=(10:Int)))
  (ck (!(decide ((bM.n x5)≤(127:UInt64))) || ((decide ((bM.n x5)≤(127:UInt64)))&&(decide (0≤x1∧x1≤1099511627776)))) (ck (!(decide ((bM.n x5)≤(127:UInt64))) || (decide ((bM.n x5)≤(127:UInt64)))) (bV.j2 x0 (0:Int) v5 (bM.mk (bM.kind x5) 0 (bM.bytes x5) (bM.text x5) (bM.kids x5)))))
  (bV.j2 x0 x1 x2 x5))))))))=ρ):bV.j1 x0 x1 x2 x3 x4 x5=ρ:=((congrFun (congrFun (gQ _ _) _) _).trans (by kernel_rfl)).trans (K _ rfl _ rfl _ rfl _ rfl _ rfl)
theorem bV.ng (x0:Int) (x1:Int) (x2:Bool) (x3:bM) {ρ:OT} (K:∀(v1:Bool) (h1:v1=(cond x2 (decide ((bM.n x3)=(0:UInt64))) false)) (v2:Bool) (h2:v2=(cond v1 (decide (x1=(0:Int))) false)) (v3:Bool) (h3:v3=(cond v2 (decide ((bM.text x3)=([]:bS))) false)) (v4:Bool) (h4:v4=(cond v3 (decide (x0=(0:Int))) false)),ck (!x2 || x2) (ck (!x2 || x2) (ck (!x2 || x2) (ck (!v1 || v1) (ck (!v1 || v1) (ck (!v2 || v2) (ck (!v2 || v2) (ck (!v2 || v2) (ck (!v3 || v3) (ck (!v3 || v3) (some [(.b v4)]))))))))))=ρ):bV.j2 x0 x1 x2 x3=ρ:=((congrFun (congrFun (gQ _ _) _) _).trans (by kernel_rfl)).trans (K _ rfl _ rfl _ rfl _ rfl)
theorem bV.dV (it:bM) {ρ:OT} (K:∀(v1:Int) (h1:v1=(((bM.kids it)).length:Int)) (v2:Int) (h2:v2=(((bM.bytes it)).length:Int)),cond (decide ((bM.kind it)=(1:Int)))
  (bV.j1 v1 v2 true (bM.kind it) (decide ((bM.kind it)=(1:Int))) it)
  (bV.j1 v1 v2 true (bM.kind it) (decide ((bM.kind it)=(9:Int))) it)=ρ):bV.F it=ρ:=Eq.trans (by kernel_rfl) (K _ rfl _ rfl)
theorem bV.di:CK 40 bV.env bV.d:=eI (by kernel_rfl)
def cP.env (n:Nat):EV:=[(26,(cP.cn n,cP.sg)),(40,(bV.c,bV.sg)),(41,(dr.c,dr.sg))]
def cP.E (n:Nat):eo:=cK tryzGl (cP.env n)
def cP.m1:TM:=oS [oB .lss 36 35 37] (.seq (.cond (.s 37) [] .skip (.exit 0)) none (.seq (.block 1 [] (oS [oK (.k (.ix 5)) [34,36] [38],oK (.k (.lr 5 true)) [38] [39],oN 1047 zI 6,oT 1047 0 5 6 39] (oS [oM 1047 0 5 6 40,oC 26 1 1 [40] 41,oV 41 7] (oS [oV 7 42,oI .neq 42 (.i .i64 0) 43] (.cond (.s 43) [] (oS [oV 7 44,oV 44 2] .ret) .skip))))) none (.fK [oI .add 36 (.i .i64 1) 45,oV 45 36])))
def cP.m:TM:=oS [oK (.k (.bx 1046)) [0,1046] [1,1046],oW (.i .i64 0) 2] (.seq (oS [oA 1046 0 0 1 8,oL 1046 0 1 8 9,oI .lss 9 (.i .i64 1) 10,oV 10 11,oG 11 false (oA 1046 0 0 1 12),oG 11 false (oL 1046 0 1 12 13),oG 11 false (oI .gtr 13 (.i .i64 10) 14),oX (.k .pick) [.s 11,.c (.b true),.s 14] [15],oV 15 16,oG 16 false (oA 1046 0 0 1 17),oG 16 false (oL 1046 0 1 17 18),oG 16 false (oI .eql 18 (.i .i64 7) 19),oX (.k .pick) [.s 16,.c (.b true),.s 19] [20]] (.cond (.s 20) [] (oS [oW (.i .i64 5) 2] .ret) .skip)) none (.seq (oS [oM 1046 0 5 1 21,oC 40 1 1 [21] 22,oK (.k (.un .not)) [22] [23]] (.cond (.s 23) [] (oS [oW (.i .i64 1) 2] .ret) .skip)) none (.seq (oS [oA 1046 0 3 1 25,oL 1046 3 1 25 26,oK (.k .sb) [26] [27],oC 41 1 2 [27] 28,oV 28 24,oE 0 24 29,oE 1 24 30,oV 29 3,oV 30 4] (oS [oV 4 31,oK (.k (.un .not)) [31] [32]] (.cond (.s 32) [] (oS [oW (.i .i64 4) 2] .ret) .skip))) none (.seq (oS [oA 1046 0 4 1 33,oL 1046 4 1 33 34,oK (.k .len) [34] [35],oW (.i .i64 0) 36] (.block 0 [] (.loop [34,35,36] [] cP.m1))) none (oS [oW (.i .i64 0) 2] .ret)))))
def cP.d:gD:=D0 1 cP.m [.t 2]
def cP.F (n:Nat) (it:bM):OT:=cP.d.run (cP.E n) [(.ag (bM.cells it))]
def cP.k1 (n:Nat):fT (List TV):=iw (ev _ (cP.E n) (oS [oW (.i .i64 0) 2] .ret)) none (gJ cP.d)
def cP.l1 (n:Nat) (x0:List bD) (x1:Int) (x2:Int):OT:=gx (gY _ (cP.E n) cP.m1) oz [34,35,36] (dT [34,35,36] [(.sl .il x0),(.i .i64 x1),(.i .i64 x2)]) (er 0 (cP.k1 n))
theorem cP.ew (n:Nat) (x0:List bD) (x1:Int) (x2:Int) {ρ:OT} (K:∀(v1:Int) (h1:v1=(Mp.di (bD.of (bD.val (List.getD x0 (x2).toNat (eJ.fc .il)))))) (v2:Int) (h2:v2=(IntKind.i64.wrap (x2+(1:Int)))),cond (decide (x2<x1))
  (ck (eK x2 (x0).length) (ck ((decide (bD.cA (bD.of (bD.val (List.getD x0 (x2).toNat (eJ.fc .il))))≤1099511627776))&&decide ((bD.cA (bD.of (bD.val (List.getD x0 (x2).toNat (eJ.fc .il)))))<n)) (cond (!decide (v1=(0:Int)))
  (some [(.i .i64 v1)])
  (cP.l1 n x0 x1 v2))))
  (some [(.i .i64 0)])=ρ):cP.l1 n x0 x1 x2=ρ:=((fD _ _ _ _ _ _).trans (by kernel_rfl)).trans (K _ rfl _ rfl)
theorem cP.dV (n:Nat) (it:bM) {ρ:OT} (K:∀(v1:Bool) (h1:v1=(cond (decide ((bM.kind it)<(1:Int))) true (decide ((10:Int)<(bM.kind it))))) (v2:Bool) (h2:v2=(cond v1 true (decide ((bM.kind it)=(7:Int))))) (v3:Int) (h3:v3=(((dK.look ((bM.text it))).1:Int))) (v4:Bool) (h4:v4=(!(dK.whole ((bM.text it))))) (v5:Int) (h5:v5=(((bM.kids it)).length:Int)),ck (!(!(decide ((bM.kind it)<(1:Int)))) || (!(decide ((bM.kind it)<(1:Int))))) (ck (!(!(decide ((bM.kind it)<(1:Int)))) || (!(decide ((bM.kind it)<(1:Int))))) (ck ((decide ((bM.kind it)<(1:Int))) || (!(decide ((bM.kind it)<(1:Int))))) (ck (!(!v1) || (!v1)) (ck (!(!v1) || (!v1)) (ck (v1 || (!v1)) (cond v2
  (some [(.i .i64 5)])
  (ck (decide (bD.cA (bD.of it)≤1099511627776)) (cond (!(Mp.dR (bD.of it)))
  (some [(.i .i64 1)])
  (ck (kJ ((bM.text it)).length) (ck (decide (((bM.text it)).length≤1099511627776)) (cond v4
  (some [(.i .i64 4)])
  (cP.l1 n (bM.kids it) v5 (0:Int)))))))))))))=ρ):cP.F n it=ρ:=Eq.trans (by kernel_rfl) (K _ rfl _ rfl _ rfl _ rfl _ rfl)
theorem cP.di (n:Nat):CK 26 (cP.env n) cP.d:=eI (by kernel_rfl)
def dQ.env:EV:=[]
def dQ.E:eo:=cK tryzGl dQ.env
def dQ.m:TM:=oS [oN 1010 zI 4,oN 1011 zT 5] (oS [oK (.bd zI []) [] [6],oV 0 7,oV 1 8,oK (.bd zT [(0,1),(1,1)]) [7,8] [9],oT 1010 0 5 4 6,oT 1011 0 3 5 9] .ret)
def dQ.d:gD:=D0 2 dQ.m [.c 4 1010 5 true,.c 5 1011 3 true]
def dQ.F (e:Int) (at_:Int):OT:=dQ.d.run dQ.E [(.i .i64 e),(.i .i64 at_)]
theorem dQ.fR (e:Int) (at_:Int):dQ.F e at_=some [(.ag [(.i .i64 0),(.u64 0),(.sl .bs ([]:List UInt8)),(.s []),(.sl .il ([]:List bD))]),(.ag [(.i .i64 e),(.i .i64 at_),(.sl .is ([]:List Int))])]:=by kernel_rfl
theorem dQ.di:CK 118 dQ.env dQ.d:=eI (by kernel_rfl)
def c9.env:EV:=[]
def c9.E:eo:=cK tryzGl c9.env
def c9.m:TM:=oS [oN 1022 [(.i .i64 0),(.i .i64 0)] 2] (.seq (.block 0 [(2,.ptr 1022 0),(1022,.cl [])] (oS [oV 0 4,oI .lss 4 (.u64 128) 5,oV 5 3] (.cond (.s 3) [] (oS [oV 0 6,oK (.k (.ci .i64)) [6] [7],oX (.bd [(.i .i64 0),(.i .i64 0)] [(0,1),(1,1)]) [.s 7,.c (.i .i64 0)] [8],oT 1022 0 2 2 8] .ret) (oS [oV 0 10,oI .lss 10 (.u64 256) 11,oV 11 9] (.cond (.s 9) [] (oS [oX (.bd [(.i .i64 0),(.i .i64 0)] [(0,1),(1,1)]) [.c (.i .i64 204),.c (.i .i64 1)] [12],oT 1022 0 2 2 12] .ret) (oS [oV 0 14,oI .lss 14 (.u64 65536) 15,oV 15 13] (.cond (.s 13) [] (oS [oX (.bd [(.i .i64 0),(.i .i64 0)] [(0,1),(1,1)]) [.c (.i .i64 205),.c (.i .i64 2)] [16],oT 1022 0 2 2 16] .ret) (oS [oV 0 18,oI .lss 18 (.u64 4294967296) 19,oV 19 17] (.cond (.s 17) [] (oS [oX (.bd [(.i .i64 0),(.i .i64 0)] [(0,1),(1,1)]) [.c (.i .i64 206),.c (.i .i64 4)] [20],oT 1022 0 2 2 20] .ret) .skip))))))))) none (oS [oX (.bd [(.i .i64 0),(.i .i64 0)] [(0,1),(1,1)]) [.c (.i .i64 207),.c (.i .i64 8)] [21],oT 1022 0 2 2 21] .ret))
def c9.d:gD:=D0 1 c9.m [.c 2 1022 2 true]
def c9.F (n:UInt64):OT:=c9.d.run c9.E [(.u64 n)]
theorem c9.dV (n:UInt64) {ρ:OT} (K:∀(v1:Int) (h1:v1=(IntKind.i64.wrap ((n).toNat:Int))),cond (decide (n<(128:UInt64)))
  (some [(.ag [(.i .i64 v1),(.i .i64 0)])])
  (cond (decide (n<(256:UInt64)))
  (some [(.ag [(.i .i64 204),(.i .i64 1)])])
  (cond (decide (n<(65536:UInt64)))
  (some [(.ag [(.i .i64 205),(.i .i64 2)])])
  (cond (decide (n<(4294967296:UInt64)))
  (some [(.ag [(.i .i64 206),(.i .i64 4)])])
  (some [(.ag [(.i .i64 207),(.i .i64 8)])]))))=ρ):c9.F n=ρ:=Eq.trans (by kernel_rfl) (K _ rfl)
theorem c9.di:CK 125 c9.env c9.d:=eI (by kernel_rfl)
def dP.env:EV:=[]
def dP.E:eo:=cK tryzGl dP.env
def dP.m:TM:=oS [oN 1023 [(.i .i64 0),(.i .i64 0)] 2] (.seq (.block 0 [(2,.ptr 1023 0),(1023,.cl [])] (oS [oV 0 4,oI .lss 4 (.u64 32) 5,oV 5 3] (.cond (.s 3) [] (oS [oV 0 6,oK (.k (.ci .i64)) [6] [7],oX (.k (.bin .sub)) [.c (.i .i64 255),.s 7] [8],oX (.bd [(.i .i64 0),(.i .i64 0)] [(0,1),(1,1)]) [.s 8,.c (.i .i64 0)] [9],oT 1023 0 2 2 9] .ret) (oS [oV 0 11,oI .lss 11 (.u64 128) 12,oV 12 10] (.cond (.s 10) [] (oS [oX (.bd [(.i .i64 0),(.i .i64 0)] [(0,1),(1,1)]) [.c (.i .i64 208),.c (.i .i64 1)] [13],oT 1023 0 2 2 13] .ret) (oS [oV 0 15,oI .lss 15 (.u64 32768) 16,oV 16 14] (.cond (.s 14) [] (oS [oX (.bd [(.i .i64 0),(.i .i64 0)] [(0,1),(1,1)]) [.c (.i .i64 209),.c (.i .i64 2)] [17],oT 1023 0 2 2 17] .ret) (oS [oV 0 19,oI .lss 19 (.u64 2147483648) 20,oV 20 18] (.cond (.s 18) [] (oS [oX (.bd [(.i .i64 0),(.i .i64 0)] [(0,1),(1,1)]) [.c (.i .i64 210),.c (.i .i64 4)] [21],oT 1023 0 2 2 21] .ret) .skip))))))))) none (oS [oX (.bd [(.i .i64 0),(.i .i64 0)] [(0,1),(1,1)]) [.c (.i .i64 211),.c (.i .i64 8)] [22],oT 1023 0 2 2 22] .ret))
def dP.d:gD:=D0 1 dP.m [.c 2 1023 2 true]
def dP.F (n:UInt64):OT:=dP.d.run dP.E [(.u64 n)]
theorem dP.dV (n:UInt64) {ρ:OT} (K:∀(v1:Int) (h1:v1=(IntKind.i64.wrap ((n).toNat:Int))) (v2:Int) (h2:v2=(IntKind.i64.wrap ((255:Int) - v1))),cond (decide (n<(32:UInt64)))
  (some [(.ag [(.i .i64 v2),(.i .i64 0)])])
  (cond (decide (n<(128:UInt64)))
  (some [(.ag [(.i .i64 208),(.i .i64 1)])])
  (cond (decide (n<(32768:UInt64)))
  (some [(.ag [(.i .i64 209),(.i .i64 2)])])
  (cond (decide (n<(2147483648:UInt64)))
  (some [(.ag [(.i .i64 210),(.i .i64 4)])])
  (some [(.ag [(.i .i64 211),(.i .i64 8)])]))))=ρ):dP.F n=ρ:=Eq.trans (by kernel_rfl) (K _ rfl _ rfl)
theorem dP.di:CK 126 dP.env dP.d:=eI (by kernel_rfl)
def fY.env:EV:=[(127,(eM.c,eM.sg)),(144,(dS.c,dS.sg))]
def fY.E:eo:=cK tryzGl fY.env
def fY.m:TM:=oS [oK (.k (.bx 1015)) [1,1015] [4,1015]] (oS [oV 0 6,oA 1015 0 0 4 7,oL 1015 0 1 7 8,oK (.k (.call 127 ⟨2,(some (0,999999)),[(0,100,1)],[(0,101,1)],0,[],none,[]⟩)) [6,8,999999,(lk 100),(lk 101)] [9,999999,lk 100,lk 101]] (.fK [oV 0 10,oV 2 11,oA 1015 0 1 4 12,oL 1015 1 1 12 13,oK (.k (.call 144 ⟨3,(some (0,999999)),[(0,101,1)],[(0,102,1)],0,[],none,[]⟩)) [10,11,13,999999,(lk 101),(lk 102)] [14,999999,lk 101,lk 102]]))
def fY.d:gD:={ np:=3,m:=fY.m,ref:=some (0,999999),fA:=[(0,100,1)],res:=[],own:=[],new:=none,fx:=[] }
def fY.F (w:fh) (f:kP) (n:UInt64):OT:=fY.d.run fY.E [(.ag (fh.cells w)),(.ag (kP.cells f)),(.u64 n)]
theorem fY.dV (w:fh) (f:kP) (n:UInt64) {ρ:OT} (K:∀(v1:fh) (h1:v1=((fh.mk ((w).b++[UInt8.ofInt ((kP.at_ f))])))) (v2:fh) (h2:v2=((fh.mk ((v1).b++cM.high n ((kP.end_ f)))))),ck (decide ((w).b.length≤1099511627776)) (ck (decide ((v1).b.length≤1099511627776)) (some [(.ag (fh.cells v2))]))=ρ):fY.F w f n=ρ:=Eq.trans (by kernel_rfl) (K _ rfl _ rfl)
theorem fY.di:CK 124 fY.env fY.d:=eI (by kernel_rfl)
def df.env (n:Nat):EV:=[(108,(df.cn n,df.sg)),(124,(fY.c,fY.sg)),(125,(c9.c,c9.sg)),(126,(dP.c,dP.sg)),(127,(eM.c,eM.sg)),(128,(jg.c,jg.sg)),(129,(fU.c,fU.sg))]
def df.E (n:Nat):eo:=cK tryzGl (df.env n)
def df.m1:TM:=oS [oB .lss 136 135 137] (.seq (.cond (.s 137) [] .skip (.exit 1)) none (.seq (.block 2 [(0,.ptr 999999 0),(999999,.cl [(0,117,1)]),(lk 117,.live 1)] (oS [oK (.k (.ix 5)) [134,136] [138],oK (.k (.lr 5 true)) [138] [139],oN 1145 zI 5,oT 1145 0 5 5 139] (.fK [oV 0 140,oM 1145 0 5 5 141,oK (.k (.call 108 ⟨2,(some (0,999999)),[(0,101,1)],[(0,117,1)],0,[],none,[]⟩)) [140,141,999999,(lk 101),(lk 117)] [142,999999,lk 101,lk 117]]))) none (.fK [oI .add 136 (.i .i64 1) 143,oV 143 136])))
def df.m2:TM:=oS [oA 1144 0 4 3 133,oL 1144 4 1 133 134,oK (.k .len) [134] [135],oW (.i .i64 0) 136] (.block 1 [(999999,.cl [(0,101,1)]),(lk 101,.live 1)] (.loop [0,134,135,136,999999] [(0,.ptr 999999 0),(999999,.cl [(0,101,1)]),(lk 101,.live 1)] df.m1))
def df.m:TM:=oS [oK (.k (.bx 1144)) [1,1144] [3,1144]] (.seq (oS [oA 1144 0 0 3 6,oL 1144 0 1 6 7] (.block 0 [(0,.ptr 999999 0),(3,.ptr 1144 0),(1144,.cl []),(999999,.cl [(0,101,1)]),(lk 101,.live 1)] (oS [oI .eql 7 (.i .i64 1) 9,oV 9 8] (.cond (.s 8) [(0,.ptr 999999 0),(3,.ptr 1144 0),(1144,.cl []),(999999,.cl [(0,101,1)]),(lk 101,.live 1)] (.fK [oV 0 10,oA 1144 0 1 3 11,oL 1144 1 1 11 12,oC 125 1 1 [12] 13,oA 1144 0 1 3 14,oL 1144 1 1 14 15,oK (.k (.call 124 ⟨3,(some (0,999999)),[(0,100,1)],[(0,101,1)],0,[],none,[]⟩)) [10,13,15,999999,(lk 100),(lk 101)] [16,999999,lk 100,lk 101]]) (oS [oI .eql 7 (.i .i64 2) 18,oV 18 17] (.cond (.s 17) [(0,.ptr 999999 0),(3,.ptr 1144 0),(1144,.cl []),(999999,.cl [(0,102,1)]),(lk 102,.live 1)] (.fK [oV 0 19,oA 1144 0 1 3 20,oL 1144 1 1 20 21,oC 126 1 1 [21] 22,oA 1144 0 1 3 23,oL 1144 1 1 23 24,oK (.k (.un .xor)) [24] [25],oK (.k (.call 124 ⟨3,(some (0,999999)),[(0,100,1)],[(0,102,1)],0,[],none,[]⟩)) [19,22,25,999999,(lk 100),(lk 102)] [26,999999,lk 100,lk 102]]) (oS [oI .eql 7 (.i .i64 8) 28,oV 28 27] (.cond (.s 27) [(0,.ptr 999999 0),(3,.ptr 1144 0),(1144,.cl []),(999999,.cl [(0,103,1)]),(lk 103,.live 1)] (.fK [oV 0 29,oX (.bd [(.i .i64 0),(.i .i64 0),(.i .i64 0)] [(0,1),(1,1),(2,1)]) [.c (.i .i64 194),.c (.i .i64 195),.c (.i .i64 192)] [30],oA 1144 0 1 3 31,oL 1144 1 1 31 32,oI .sub 32 (.u64 20) 33,oK (.k (.ai 3 1 false)) [30,33] [34],oK (.k (.call 127 ⟨2,(some (0,999999)),[(0,100,1)],[(0,103,1)],0,[],none,[]⟩)) [29,34,999999,(lk 100),(lk 103)] [35,999999,lk 100,lk 103]]) (oS [oI .eql 7 (.i .i64 9) 37,oV 37 36] (.cond (.s 36) [(0,.ptr 999999 0),(3,.ptr 1144 0),(1144,.cl []),(999999,.cl [(0,104,1)]),(lk 104,.live 1)] (.fK [oV 0 38,oX (.bd [(.i .i64 0),(.i .i64 0)] [(0,1),(1,1)]) [.c (.i .i64 203),.c (.i .i64 8)] [39],oA 1144 0 1 3 40,oL 1144 1 1 40 41,oK (.k (.call 124 ⟨3,(some (0,999999)),[(0,100,1)],[(0,104,1)],0,[],none,[]⟩)) [38,39,41,999999,(lk 100),(lk 104)] [42,999999,lk 100,lk 104]]) (oS [oI .eql 7 (.i .i64 4) 44,oV 44 43] (.cond (.s 43) [(0,.ptr 999999 0),(3,.ptr 1144 0),(1144,.cl []),(999999,.cl [(0,107,1)]),(lk 107,.live 1)] (oS [oV 0 45,oA 1144 0 0 3 46,oL 1144 0 1 46 47,oA 1144 0 3 3 48,oL 1144 3 1 48 49,oK (.k .uO) [49] [50],oC 128 2 1 [47,50] 51,oA 1144 0 3 3 52,oL 1144 3 1 52 53,oK (.k .uO) [53] [54],oK (.k (.ci .u64)) [54] [55],oK (.k (.call 124 ⟨3,(some (0,999999)),[(0,100,1)],[(0,105,1)],0,[],none,[]⟩)) [45,51,55,999999,(lk 100),(lk 105)] [56,999999,lk 100,lk 105]] (.fK [oV 0 57,oA 1144 0 3 3 58,oL 1144 3 1 58 59,oK (.k .sb) [59] [60],oK (.k (.call 129 ⟨2,(some (0,999999)),[(0,105,1)],[(0,107,1)],0,[],none,[]⟩)) [57,60,999999,(lk 105),(lk 107)] [61,999999,lk 105,lk 107]])) (oS [oI .eql 7 (.i .i64 3) 63,oV 63 62] (.cond (.s 62) [(0,.ptr 999999 0),(3,.ptr 1144 0),(1144,.cl []),(999999,.cl [(0,109,1)]),(lk 109,.live 1)] (oS [oV 0 64,oA 1144 0 0 3 65,oL 1144 0 1 65 66,oA 1144 0 2 3 67,oL 1144 2 1 67 68,oK (.k .len) [68] [69],oC 128 2 1 [66,69] 70,oA 1144 0 2 3 71,oL 1144 2 1 71 72,oK (.k .len) [72] [73],oK (.k (.ci .u64)) [73] [74],oK (.k (.call 124 ⟨3,(some (0,999999)),[(0,100,1)],[(0,108,1)],0,[],none,[]⟩)) [64,70,74,999999,(lk 100),(lk 108)] [75,999999,lk 100,lk 108]] (.fK [oV 0 76,oA 1144 0 2 3 77,oL 1144 2 1 77 78,oK (.k (.call 129 ⟨2,(some (0,999999)),[(0,108,1)],[(0,109,1)],0,[],none,[]⟩)) [76,78,999999,(lk 108),(lk 109)] [79,999999,lk 108,lk 109]])) (oS [oI .eql 7 (.i .i64 10) 81,oV 81 80] (.cond (.s 80) [(0,.ptr 999999 0),(3,.ptr 1144 0),(1144,.cl []),(999999,.cl [(0,112,1)]),(lk 112,.live 1)] (oS [oV 0 82,oA 1144 0 0 3 83,oL 1144 0 1 83 84,oA 1144 0 2 3 85,oL 1144 2 1 85 86,oK (.k .len) [86] [87],oC 128 2 1 [84,87] 88,oA 1144 0 2 3 89,oL 1144 2 1 89 90,oK (.k .len) [90] [91],oK (.k (.ci .u64)) [91] [92],oK (.k (.call 124 ⟨3,(some (0,999999)),[(0,100,1)],[(0,110,1)],0,[],none,[]⟩)) [82,88,92,999999,(lk 100),(lk 110)] [93,999999,lk 100,lk 110]] (oS [oV 0 94,oA 1144 0 1 3 95,oL 1144 1 1 95 96,oK (.k (.ci .i64)) [96] [97],oK (.k (.call 127 ⟨2,(some (0,999999)),[(0,110,1)],[(0,111,1)],0,[],none,[]⟩)) [94,97,999999,(lk 110),(lk 111)] [98,999999,lk 110,lk 111]] (.fK [oV 0 99,oA 1144 0 2 3 100,oL 1144 2 1 100 101,oK (.k (.call 129 ⟨2,(some (0,999999)),[(0,111,1)],[(0,112,1)],0,[],none,[]⟩)) [99,101,999999,(lk 111),(lk 112)] [102,999999,lk 111,lk 112]]))) (oS [oI .eql 7 (.i .i64 5) 104,oV 104 103] (.cond (.s 103) [(0,.ptr 999999 0),(3,.ptr 1144 0),(1144,.cl []),(999999,.cl [(0,113,1)]),(lk 113,.live 1)] (.fK [oV 0 105,oA 1144 0 0 3 106,oL 1144 0 1 106 107,oA 1144 0 4 3 108,oL 1144 4 1 108 109,oK (.k .len) [109] [110],oC 128 2 1 [107,110] 111,oA 1144 0 4 3 112,oL 1144 4 1 112 113,oK (.k .len) [113] [114],oK (.k (.ci .u64)) [114] [115],oK (.k (.call 124 ⟨3,(some (0,999999)),[(0,100,1)],[(0,113,1)],0,[],none,[]⟩)) [105,111,115,999999,(lk 100),(lk 113)] [116,999999,lk 100,lk 113]]) (oS [oI .eql 7 (.i .i64 6) 118,oV 118 117] (.cond (.s 117) [(0,.ptr 999999 0),(3,.ptr 1144 0),(1144,.cl []),(999999,.cl [(0,114,1)]),(lk 114,.live 1)] (.fK [oV 0 119,oA 1144 0 0 3 120,oL 1144 0 1 120 121,oA 1144 0 4 3 122,oL 1144 4 1 122 123,oK (.k .len) [123] [124],oI .quo 124 (.i .i64 2) 125,oC 128 2 1 [121,125] 126,oA 1144 0 4 3 127,oL 1144 4 1 127 128,oK (.k .len) [128] [129],oI .quo 129 (.i .i64 2) 130,oK (.k (.ci .u64)) [130] [131],oK (.k (.call 124 ⟨3,(some (0,999999)),[(0,100,1)],[(0,114,1)],0,[],none,[]⟩)) [119,126,131,999999,(lk 100),(lk 114)] [132,999999,lk 100,lk 114]]) .skip)))))))))))))))))))) (some [0,3,1144,999999]) df.m2)
def df.d:gD:={ np:=2,m:=df.m,ref:=some (0,999999),fA:=[(0,100,1)],res:=[],own:=[],new:=none,fx:=[] }
def df.F (n:Nat) (w:fh) (it:bM):OT:=df.d.run (df.E n) [(.ag (fh.cells w)),(.ag (bM.cells it))]
def df.j1 (n:Nat) (x0:bM) (x1:fh):OT:=gY _ (df.E n) df.m2 (dT [0,3,1144,999999] [.pt,.pt,(.ag (bM.cells x0)),(.ag (fh.cells x1))]) (gJ df.d)
def df.l2 (n:Nat) (x0:List bD) (x1:Int) (x2:Int) (x3:fh):OT:=gx (gY _ (df.E n) df.m1) oz [0,134,135,136,999999] (dT [0,134,135,136,999999] [.pt,(.sl .il x0),(.i .i64 x1),(.i .i64 x2),(.ag (fh.cells x3))]) (er 1 (gJ df.d))
theorem df.pL (n:Nat) (x0:bM) (x1:fh) {ρ:OT} (K:∀(v1:Int) (h1:v1=(((bM.kids x0)).length:Int)),df.l2 n (bM.kids x0) v1 (0:Int) x1=ρ):df.j1 n x0 x1=ρ:=((congrFun (congrFun (gQ _ _) _) _).trans (by kernel_rfl)).trans (K _ rfl)
theorem df.lH (n:Nat) (x0:List bD) (x1:Int) (x2:Int) (x3:fh) {ρ:OT} (K:∀(v1:fh) (h1:v1=((fh.mk ((x3).b++Mp.lay (bD.of (bD.val (List.getD x0 (x2).toNat (eJ.fc .il)))))))) (v2:Int) (h2:v2=(IntKind.i64.wrap (x2+(1:Int)))),cond (decide (x2<x1))
  (ck (eK x2 (x0).length) (ck ((decide ((x3).b.length+16 * bD.cA (bD.of (bD.val (List.getD x0 (x2).toNat (eJ.fc .il))))≤1099511627776)&&decide (Mp.di (bD.of (bD.val (List.getD x0 (x2).toNat (eJ.fc .il))))=0))&&decide ((bD.cA (bD.of (bD.val (List.getD x0 (x2).toNat (eJ.fc .il)))))<n)) (df.l2 n x0 x1 v2 v1)))
  (some [(.ag (fh.cells x3))])=ρ):df.l2 n x0 x1 x2 x3=ρ:=((fD _ _ _ _ _ _).trans (by kernel_rfl)).trans (K _ rfl _ rfl)
theorem df.dV (n:Nat) (w:fh) (it:bM) {ρ:OT} (K:∀(v1:fh) (h1:v1=((fh.mk ((w).b++Mp.put (((kP.mk (Mp.eD ((bM.n it))).1 (Mp.eD ((bM.n it))).2)).at_,((kP.mk (Mp.eD ((bM.n it))).1 (Mp.eD ((bM.n it))).2)).end_) ((bM.n it)))))) (v2:fh) (h2:v2=((fh.mk ((w).b++Mp.put (((kP.mk (Mp.signed ((bM.n it))).1 (Mp.signed ((bM.n it))).2)).at_,((kP.mk (Mp.signed ((bM.n it))).1 (Mp.signed ((bM.n it))).2)).end_) ((~~~(bM.n it))))))) (v3:Int) (h3:v3=(List.getD [(194:Int),(195:Int),(192:Int)] ((((((bM.n it) - (20:UInt64))).toNat:Int)).toNat) (0:Int))) (v4:fh) (h4:v4=((fh.mk ((w).b++[UInt8.ofInt v3])))) (v5:fh) (h5:v5=((fh.mk ((w).b++Mp.put (((kP.mk (203:Int) (8:Int))).at_,((kP.mk (203:Int) (8:Int))).end_) ((bM.n it)))))) (v6:Int) (h6:v6=(((bM.text it)).length:Int)) (v7:Int) (h7:v7=((Mp.sized ((bM.kind it)) v6).1)) (v8:Int) (h8:v8=((Mp.sized ((bM.kind it)) v6).2)) (v9:fh) (h9:v9=((fh.mk ((w).b++Mp.put (((kP.mk v7 v8)).at_,((kP.mk v7 v8)).end_) ((UInt64.ofInt v6)))))) (v10:fh) (lZ:v10=((fh.mk ((v9).b++((bM.text it)))))) (v11:Int) (yb:v11=(((bM.bytes it)).length:Int)) (v12:Int) (ya:v12=((Mp.sized ((bM.kind it)) v11).1)) (kN:Int) (wN:kN=((Mp.sized ((bM.kind it)) v11).2)) (jc:fh) (xZ:jc=((fh.mk ((w).b++Mp.put (((kP.mk v12 kN)).at_,((kP.mk v12 kN)).end_) ((UInt64.ofInt v11)))))) (mM:fh) (Ai:mM=((fh.mk ((jc).b++((bM.bytes it)))))) (lf:Int) (sH:lf=(IntKind.i64.wrap (((bM.n it)).toNat:Int))) (pC:fh) (tg:pC=((fh.mk ((jc).b++[UInt8.ofInt lf])))) (mL:fh) (ET:mL=((fh.mk ((pC).b++((bM.bytes it)))))) (oq:Int) (ES:oq=(((bM.kids it)).length:Int)) (v20:Int) (KT:v20=((Mp.sized ((bM.kind it)) oq).1)) (v21:Int) (HV:v21=((Mp.sized ((bM.kind it)) oq).2)) (ow:fh) (HU:ow=((fh.mk ((w).b++Mp.put (((kP.mk v20 v21)).at_,((kP.mk v20 v21)).end_) ((UInt64.ofInt oq)))))) (tm:Int) (LU:tm=(IntKind.i64.wrap (Int.tdiv oq (2:Int)))) (v24:Int) (F8:v24=((Mp.sized ((bM.kind it)) tm).1)) (vt:Int) (KS:vt=((Mp.sized ((bM.kind it)) tm).2)) (nq:fh) (KR:nq=((fh.mk ((w).b++Mp.put (((kP.mk v24 vt)).at_,((kP.mk v24 vt)).end_) ((UInt64.ofInt tm)))))),cond (decide ((bM.kind it)=(1:Int)))
  (ck (decide ((w).b.length+10≤1099511627776)) (df.j1 n it v1))
  (cond (decide ((bM.kind it)=(2:Int)))
  (ck (decide ((w).b.length+10≤1099511627776)) (df.j1 n it v2))
  (cond (decide ((bM.kind it)=(8:Int)))
  (ck (eK ((((bM.n it) - (20:UInt64))).toNat:Int) 3) (ck (decide ((w).b.length≤1099511627776)) (df.j1 n it v4)))
  (cond (decide ((bM.kind it)=(9:Int)))
  (ck (decide ((w).b.length+10≤1099511627776)) (df.j1 n it v5))
  (cond (decide ((bM.kind it)=(4:Int)))
  (ck (Mp.lN ((bM.kind it))&&decide (0≤v6∧v6<4294967296)) (ck (decide ((w).b.length+10≤1099511627776)) (ck (kJ ((bM.text it)).length) (ck (decide ((v9).b.length+(((bM.text it))).length≤1099511627776)) (df.j1 n it v10)))))
  (cond (decide ((bM.kind it)=(3:Int)))
  (ck (Mp.lN ((bM.kind it))&&decide (0≤v11∧v11<4294967296)) (ck (decide ((w).b.length+10≤1099511627776)) (ck (decide ((jc).b.length+(((bM.bytes it))).length≤1099511627776)) (df.j1 n it mM))))
  (cond (decide ((bM.kind it)=(10:Int)))
  (ck (Mp.lN ((bM.kind it))&&decide (0≤v11∧v11<4294967296)) (ck (decide ((w).b.length+10≤1099511627776)) (ck (decide ((jc).b.length≤1099511627776)) (ck (decide ((pC).b.length+(((bM.bytes it))).length≤1099511627776)) (df.j1 n it mL)))))
  (cond (decide ((bM.kind it)=(5:Int)))
  (ck (Mp.lN ((bM.kind it))&&decide (0≤oq∧oq<4294967296)) (ck (decide ((w).b.length+10≤1099511627776)) (df.j1 n it ow)))
  (cond (decide ((bM.kind it)=(6:Int)))
  (ck (!decide ((2:Int)=0)) (ck (Mp.lN ((bM.kind it))&&decide (0≤tm∧tm<4294967296)) (ck (!decide ((2:Int)=0)) (ck (decide ((w).b.length+10≤1099511627776)) (df.j1 n it nq)))))
  (df.j1 n it w)))))))))=ρ):df.F n w it=ρ:=Eq.trans (by kernel_rfl) (K _ rfl _ rfl _ rfl _ rfl _ rfl _ rfl _ rfl _ rfl _ rfl _ rfl _ rfl _ rfl _ rfl _ rfl _ rfl _ rfl _ rfl _ rfl _ rfl _ rfl _ rfl _ rfl _ rfl _ rfl _ rfl _ rfl)
theorem df.di (n:Nat):CK 108 (df.env n) df.d:=eI (by kernel_rfl)
def eh.env:EV:=[(26,(cP.c,cP.sg)),(107,(ff.c,ff.sg)),(108,(df.c,df.sg)),(109,(eC.c,eC.sg))]
def eh.E:eo:=cK tryzGl eh.env
def eh.m:TM:=oS [oK (.k (.bx 1017)) [0,1017] [1,1017],oW (.sl .bs ([]:List UInt8)) 2,oW (.i .i64 0) 3] (.seq (oS [oM 1017 0 5 1 6,oC 26 1 1 [6] 7,oV 7 4] (oS [oV 4 8,oI .neq 8 (.i .i64 0) 9] (.cond (.s 9) [] (oS [oV 4 10,oW (.sl .bs ([]:List UInt8)) 2,oV 10 3] .ret) .skip))) none (oS [oK (.k (.call 107 ⟨0,none,[],[],1,[],(some (0,1018)),[(0,102,1)]⟩)) [1018,(lk 102)] [11,1018,lk 102],oV 11 5] (oS [oV 5 12,oM 1017 0 5 1 13,oK (.k (.call 108 ⟨2,(some (0,1018)),[(0,102,1)],[(0,103,1)],0,[],none,[]⟩)) [12,13,1018,(lk 102),(lk 103)] [14,1018,lk 102,lk 103]] (oS [oV 5 15,oK (.k (.call 109 ⟨1,(some (0,1018)),[(0,103,1)],[(0,104,1)],1,[],none,[]⟩)) [15,1018,(lk 103),(lk 104)] [16,1018,lk 103,lk 104],oV 16 2,oW (.i .i64 0) 3] .ret))))
def eh.d:gD:=D0 1 eh.m [.t 2,.t 3]
def eh.F (it:bM):OT:=eh.d.run eh.E [(.ag (bM.cells it))]
theorem eh.dV (it:bM) {ρ:OT} (K:∀(v1:fh) (h1:v1=((fh.mk ((((fh.mk []))).b++Mp.lay (bD.of it))))),ck (decide (bD.cA (bD.of it)≤1099511627776)) (cond (!decide ((Mp.di (bD.of it))=(0:Int)))
  (some [(.sl .bs ([]:List UInt8)),(.i .i64 (Mp.di (bD.of it)))])
  (ck (decide ((((fh.mk []))).b.length+16 * bD.cA (bD.of it)≤1099511627776)&&decide (Mp.di (bD.of it)=0)) (ck (decide ((v1).b.length≤1099511627776)) (some [(.sl .bs (((v1).b))),(.i .i64 0)]))))=ρ):eh.F it=ρ:=Eq.trans (by kernel_rfl) (K _ rfl)
theorem eh.di:CK 93 eh.env eh.d:=eI (by kernel_rfl)
def bH.env:EV:=[]
def bH.E:eo:=cK tryzGl bH.env
def bH.m:TM:=oS [oW (.i .i64 0) 2,oW (.u64 0) 3,oW (.i .i64 0) 4] (.seq (.block 0 [] (oS [oV 0 6,oI .lss 6 (.i .i64 128) 7,oV 7 5] (.cond (.s 5) [] (oS [oV 0 8,oK (.k (.ci .u64)) [8] [9],oW (.i .i64 1) 2,oV 9 3,oW (.i .i64 0) 4] .ret) (oS [oV 0 11,oI .lss 11 (.i .i64 144) 12,oV 12 10] (.cond (.s 10) [] (oS [oV 0 13,oI .sub 13 (.i .i64 128) 14,oK (.k (.ci .u64)) [14] [15],oW (.i .i64 6) 2,oV 15 3,oW (.i .i64 0) 4] .ret) (oS [oV 0 17,oI .lss 17 (.i .i64 160) 18,oV 18 16] (.cond (.s 16) [] (oS [oV 0 19,oI .sub 19 (.i .i64 144) 20,oK (.k (.ci .u64)) [20] [21],oW (.i .i64 5) 2,oV 21 3,oW (.i .i64 0) 4] .ret) (oS [oV 0 23,oI .lss 23 (.i .i64 192) 24,oV 24 22] (.cond (.s 22) [] (oS [oV 0 25,oI .sub 25 (.i .i64 160) 26,oK (.k (.ci .u64)) [26] [27],oW (.i .i64 4) 2,oV 27 3,oW (.i .i64 0) 4] .ret) (oS [oV 0 29,oI .geq 29 (.i .i64 224) 30,oV 30 28] (.cond (.s 28) [] (oS [oV 0 31,oX (.k (.bin .sub)) [.c (.i .i64 255),.s 31] [32],oK (.k (.ci .u64)) [32] [33],oW (.i .i64 2) 2,oV 33 3,oW (.i .i64 0) 4] .ret) (oS [oV 0 35,oI .eql 35 (.i .i64 192) 36,oV 36 34] (.cond (.s 34) [] (oS [oW (.i .i64 8) 2,oW (.u64 22) 3,oW (.i .i64 0) 4] .ret) (oS [oV 0 38,oI .eql 38 (.i .i64 194) 39,oV 39 40,oG 40 false (oV 0 41),oG 40 false (oI .eql 41 (.i .i64 195) 42),oX (.k .pick) [.s 40,.c (.b true),.s 42] [43],oV 43 37] (.cond (.s 37) [] (oS [oV 0 44,oI .sub 44 (.i .i64 194) 45,oI .add 45 (.i .i64 20) 46,oK (.k (.ci .u64)) [46] [47],oW (.i .i64 8) 2,oV 47 3,oW (.i .i64 0) 4] .ret) (oS [oV 0 49,oI .geq 49 (.i .i64 196) 50,oV 50 51,oG 51 true (oV 0 52),oG 51 true (oI .leq 52 (.i .i64 198) 53),oP 51 53 false 54,oV 54 48] (.cond (.s 48) [] (oS [oV 0 55,oI .sub 55 (.i .i64 196) 56,oX (.k (.bin .shl)) [.c (.i .i64 1),.s 56] [57],oW (.i .i64 3) 2,oW (.u64 0) 3,oV 57 4] .ret) (oS [oV 0 59,oI .geq 59 (.i .i64 199) 60,oV 60 61,oG 61 true (oV 0 62),oG 61 true (oI .leq 62 (.i .i64 201) 63),oP 61 63 false 64,oV 64 58] (.cond (.s 58) [] (oS [oV 0 65,oI .sub 65 (.i .i64 199) 66,oX (.k (.bin .shl)) [.c (.i .i64 1),.s 66] [67],oW (.i .i64 10) 2,oW (.u64 0) 3,oV 67 4] .ret) (oS [oV 0 69,oI .eql 69 (.i .i64 203) 70,oV 70 68] (.cond (.s 68) [] (oS [oW (.i .i64 9) 2,oW (.u64 0) 3,oW (.i .i64 8) 4] .ret) (oS [oV 0 72,oI .geq 72 (.i .i64 204) 73,oV 73 74,oG 74 true (oV 0 75),oG 74 true (oI .leq 75 (.i .i64 207) 76),oP 74 76 false 77,oV 77 71] (.cond (.s 71) [] (oS [oV 0 78,oI .sub 78 (.i .i64 204) 79,oX (.k (.bin .shl)) [.c (.i .i64 1),.s 79] [80],oW (.i .i64 1) 2,oW (.u64 0) 3,oV 80 4] .ret) (oS [oV 0 82,oI .geq 82 (.i .i64 208) 83,oV 83 84,oG 84 true (oV 0 85),oG 84 true (oI .leq 85 (.i .i64 211) 86),oP 84 86 false 87,oV 87 81] (.cond (.s 81) [] (oS [oV 0 88,oI .sub 88 (.i .i64 208) 89,oX (.k (.bin .shl)) [.c (.i .i64 1),.s 89] [90],oW (.i .i64 2) 2,oW (.u64 0) 3,oV 90 4] .ret) (oS [oV 0 92,oI .geq 92 (.i .i64 212) 93,oV 93 94,oG 94 true (oV 0 95),oG 94 true (oI .leq 95 (.i .i64 216) 96),oP 94 96 false 97,oV 97 91] (.cond (.s 91) [] (oS [oV 0 98,oI .sub 98 (.i .i64 212) 99,oX (.k (.bin .shl)) [.c (.u64 1),.s 99] [100],oW (.i .i64 10) 2,oV 100 3,oW (.i .i64 0) 4] .ret) (oS [oV 0 102,oI .geq 102 (.i .i64 217) 103,oV 103 104,oG 104 true (oV 0 105),oG 104 true (oI .leq 105 (.i .i64 219) 106),oP 104 106 false 107,oV 107 101] (.cond (.s 101) [] (oS [oV 0 108,oI .sub 108 (.i .i64 217) 109,oX (.k (.bin .shl)) [.c (.i .i64 1),.s 109] [110],oW (.i .i64 4) 2,oW (.u64 0) 3,oV 110 4] .ret) (oS [oV 0 112,oI .eql 112 (.i .i64 220) 113,oV 113 114,oG 114 false (oV 0 115),oG 114 false (oI .eql 115 (.i .i64 221) 116),oX (.k .pick) [.s 114,.c (.b true),.s 116] [117],oV 117 111] (.cond (.s 111) [] (oS [oV 0 118,oI .sub 118 (.i .i64 220) 119,oX (.k (.bin .shl)) [.c (.i .i64 2),.s 119] [120],oW (.i .i64 5) 2,oW (.u64 0) 3,oV 120 4] .ret) (oS [oV 0 122,oI .eql 122 (.i .i64 222) 123,oV 123 124,oG 124 false (oV 0 125),oG 124 false (oI .eql 125 (.i .i64 223) 126),oX (.k .pick) [.s 124,.c (.b true),.s 126] [127],oV 127 121] (.cond (.s 121) [] (oS [oV 0 128,oI .sub 128 (.i .i64 222) 129,oX (.k (.bin .shl)) [.c (.i .i64 2),.s 129] [130],oW (.i .i64 6) 2,oW (.u64 0) 3,oV 130 4] .ret) .skip))))))))))))))))))))))))))))))))) none (oS [oW (.i .i64 0) 2,oW (.u64 0) 3,oW (.i .i64 0) 4] .ret))
def bH.d:gD:=D0 1 bH.m [.t 2,.t 3,.t 4]
def bH.F (c:Int):OT:=bH.d.run bH.E [(.i .i64 c)]
theorem bH.dV (c:Int) {ρ:OT} (K:∀(v1:Int) (h1:v1=(IntKind.i64.wrap (c - (128:Int)))) (v2:Int) (h2:v2=(IntKind.i64.wrap (c - (144:Int)))) (v3:Int) (h3:v3=(IntKind.i64.wrap (c - (160:Int)))) (v4:Int) (h4:v4=(IntKind.i64.wrap ((255:Int) - c))) (v5:Bool) (h5:v5=(cond (decide (c=(194:Int))) true (decide (c=(195:Int))))) (v6:Int) (h6:v6=(IntKind.i64.wrap (c - (194:Int)))) (v7:Int) (h7:v7=(IntKind.i64.wrap (v6+(20:Int)))) (v8:Bool) (h8:v8=(cond (decide ((196:Int)≤c)) (decide (c≤(198:Int))) false)) (v9:Int) (h9:v9=(IntKind.i64.wrap (c - (196:Int)))) (v10:Int) (lZ:v10=(IntKind.i64.wrap ((1:Int) * 2 ^ (min ((v9).toNat) (IntKind.i64.bits))))) (v11:Bool) (yb:v11=(cond (decide ((199:Int)≤c)) (decide (c≤(201:Int))) false)) (v12:Int) (ya:v12=(IntKind.i64.wrap (c - (199:Int)))) (kN:Int) (wN:kN=(IntKind.i64.wrap ((1:Int) * 2 ^ (min ((v12).toNat) (IntKind.i64.bits))))) (jc:Bool) (xZ:jc=(cond (decide ((204:Int)≤c)) (decide (c≤(207:Int))) false)) (mM:Int) (Ai:mM=(IntKind.i64.wrap (c - (204:Int)))) (lf:Int) (sH:lf=(IntKind.i64.wrap ((1:Int) * 2 ^ (min ((mM).toNat) (IntKind.i64.bits))))) (pC:Bool) (tg:pC=(cond (decide ((208:Int)≤c)) (decide (c≤(211:Int))) false)) (mL:Int) (ET:mL=(IntKind.i64.wrap (c - (208:Int)))) (oq:Int) (ES:oq=(IntKind.i64.wrap ((1:Int) * 2 ^ (min ((mL).toNat) (IntKind.i64.bits))))) (v20:Bool) (KT:v20=(cond (decide ((212:Int)≤c)) (decide (c≤(216:Int))) false)) (v21:Int) (HV:v21=(IntKind.i64.wrap (c - (212:Int)))) (ow:UInt64) (HU:ow=(mf (1:UInt64) ((v21).toNat))) (tm:Bool) (LU:tm=(cond (decide ((217:Int)≤c)) (decide (c≤(219:Int))) false)) (v24:Int) (F8:v24=(IntKind.i64.wrap (c - (217:Int)))) (vt:Int) (KS:vt=(IntKind.i64.wrap ((1:Int) * 2 ^ (min ((v24).toNat) (IntKind.i64.bits))))) (nq:Bool) (KR:nq=(cond (decide (c=(220:Int))) true (decide (c=(221:Int))))) (A0:Int) (OI:A0=(IntKind.i64.wrap (c - (220:Int)))) (v28:Int) (LS:v28=(IntKind.i64.wrap ((2:Int) * 2 ^ (min ((A0).toNat) (IntKind.i64.bits))))) (DH:Bool) (KQ:DH=(cond (decide (c=(222:Int))) true (decide (c=(223:Int))))) (v30:Int) (LR:v30=(IntKind.i64.wrap (c - (222:Int)))) (v31:Int) (LQ:v31=(IntKind.i64.wrap ((2:Int) * 2 ^ (min ((v30).toNat) (IntKind.i64.bits))))),cond (decide (c<(128:Int)))
  (some [(.i .i64 1),(.u64 (UInt64.ofInt c)),(.i .i64 0)])
  (cond (decide (c<(144:Int)))
  (some [(.i .i64 6),(.u64 (UInt64.ofInt v1)),(.i .i64 0)])
  (cond (decide (c<(160:Int)))
  (some [(.i .i64 5),(.u64 (UInt64.ofInt v2)),(.i .i64 0)])
  (cond (decide (c<(192:Int)))
  (some [(.i .i64 4),(.u64 (UInt64.ofInt v3)),(.i .i64 0)])
  (cond (decide ((224:Int)≤c))
  (some [(.i .i64 2),(.u64 (UInt64.ofInt v4)),(.i .i64 0)])
  (cond (decide (c=(192:Int)))
  (some [(.i .i64 8),(.u64 22),(.i .i64 0)])
  (ck (!(!(decide (c=(194:Int)))) || (!(decide (c=(194:Int))))) (ck ((decide (c=(194:Int))) || (!(decide (c=(194:Int))))) (cond v5
  (some [(.i .i64 8),(.u64 (UInt64.ofInt v7)),(.i .i64 0)])
  (ck (!(decide ((196:Int)≤c)) || (decide ((196:Int)≤c))) (ck (!(decide ((196:Int)≤c)) || (decide ((196:Int)≤c))) (cond v8
  (ck (decide (0≤v9)) (some [(.i .i64 3),(.u64 0),(.i .i64 v10)]))
  (ck (!(decide ((199:Int)≤c)) || (decide ((199:Int)≤c))) (ck (!(decide ((199:Int)≤c)) || (decide ((199:Int)≤c))) (cond v11
  (ck (decide (0≤v12)) (some [(.i .i64 10),(.u64 0),(.i .i64 kN)]))
  (cond (decide (c=(203:Int)))
  (some [(.i .i64 9),(.u64 0),(.i .i64 8)])
  (ck (!(decide ((204:Int)≤c)) || (decide ((204:Int)≤c))) (ck (!(decide ((204:Int)≤c)) || (decide ((204:Int)≤c))) (cond jc
  (ck (decide (0≤mM)) (some [(.i .i64 1),(.u64 0),(.i .i64 lf)]))
  (ck (!(decide ((208:Int)≤c)) || (decide ((208:Int)≤c))) (ck (!(decide ((208:Int)≤c)) || (decide ((208:Int)≤c))) (cond pC
  (ck (decide (0≤mL)) (some [(.i .i64 2),(.u64 0),(.i .i64 oq)]))
  (ck (!(decide ((212:Int)≤c)) || (decide ((212:Int)≤c))) (ck (!(decide ((212:Int)≤c)) || (decide ((212:Int)≤c))) (cond v20
  (ck (decide (0≤v21)) (some [(.i .i64 10),(.u64 ow),(.i .i64 0)]))
  (ck (!(decide ((217:Int)≤c)) || (decide ((217:Int)≤c))) (ck (!(decide ((217:Int)≤c)) || (decide ((217:Int)≤c))) (cond tm
  (ck (decide (0≤v24)) (some [(.i .i64 4),(.u64 0),(.i .i64 vt)]))
  (ck (!(!(decide (c=(220:Int)))) || (!(decide (c=(220:Int))))) (ck ((decide (c=(220:Int))) || (!(decide (c=(220:Int))))) (cond nq
  (ck (decide (0≤A0)) (some [(.i .i64 5),(.u64 0),(.i .i64 v28)]))
  (ck (!(!(decide (c=(222:Int)))) || (!(decide (c=(222:Int))))) (ck ((decide (c=(222:Int))) || (!(decide (c=(222:Int))))) (cond DH
  (ck (decide (0≤v30)) (some [(.i .i64 6),(.u64 0),(.i .i64 v31)]))
  (some [(.i .i64 0),(.u64 0),(.i .i64 0)]))))))))))))))))))))))))))))))))))=ρ):bH.F c=ρ:=Eq.trans (by kernel_rfl) (K _ rfl _ rfl _ rfl _ rfl _ rfl _ rfl _ rfl _ rfl _ rfl _ rfl _ rfl _ rfl _ rfl _ rfl _ rfl _ rfl _ rfl _ rfl _ rfl _ rfl _ rfl _ rfl _ rfl _ rfl _ rfl _ rfl _ rfl _ rfl _ rfl _ rfl _ rfl)
theorem bH.di:CK 136 bH.env bH.d:=eI (by kernel_rfl)
def dz.env:EV:=[(118,(dQ.c,dQ.sg))]
def dz.E:eo:=cK tryzGl dz.env
def dz.m:TM:=oS [oK (.k (.bx 1020)) [0,1020] [4,1020],oK (.k (.bx 1021)) [3,1021] [7,1021],oN 1022 zI 8,oN 1023 zT 9] (.seq (oS [oA 1021 0 0 7 10,oL 1021 0 1 10 11,oV 2 12,oB .neq 11 12 13] (.cond (.s 13) [] (oS [oV 1 14,oX (.k (.call 118 (.plain 2 2))) [.c (.i .i64 3),.s 14] [15],oE 0 15 16,oE 1 15 17,oT 1022 0 5 8 16,oT 1023 0 3 9 17] .ret) .skip)) none (oS [oM 1020 0 5 4 18,oK (.bd zT []) [] [19],oT 1022 0 5 8 18,oT 1023 0 3 9 19] .ret))
def dz.d:gD:=D0 4 dz.m [.c 8 1022 5 true,.c 9 1023 3 true]
def dz.F (it:bM) (p:Int) (c:Int) (f:kP):OT:=dz.d.run dz.E [(.ag (bM.cells it)),(.i .i64 p),(.i .i64 c),(.ag (kP.cells f))]
theorem dz.fR (it:bM) (p:Int) (c:Int) (f:kP):dz.F it p c f=cond (!decide ((kP.at_ f)=c))
  (some [(.ag (bM.cells (bD.val (Mp.zero)))),(.ag (ez.cells ((ez.mk ((3:Int)) p []))))])
  (some [(.ag (bM.cells it)),(.ag [(.i .i64 0),(.i .i64 0),(.sl .is ([]:List Int))])]):=by kernel_rfl
theorem dz.di:CK 138 dz.env dz.d:=eI (by kernel_rfl)
def fB.env:EV:=[(41,(dr.c,dr.sg)),(118,(dQ.c,dQ.sg)),(148,(fk.c,fk.sg))]
def fB.E:eo:=cK tryzGl fB.env
def fB.m:TM:=oS [oK (.k (.bx 1049)) [1,1049] [5,1049],oN 1050 zI 8,oN 1051 zT 9] (oS [oV 0 15,oV 3 16,oK (.k (.call 148 ⟨2,(some (0,999999)),[],[],2,[],none,[]⟩)) [15,16,999999] [17,999999],oV 17 14,oE 0 14 18,oE 1 14 19,oV 18 10,oV 19 11] (.seq (oS [oV 11 20,oK (.k (.un .not)) [20] [21]] (.cond (.s 21) [] (oS [oV 2 22,oX (.k (.call 118 (.plain 2 2))) [.c (.i .i64 2),.s 22] [23],oE 0 23 24,oE 1 23 25,oT 1050 0 5 8 24,oT 1051 0 3 9 25] .ret) .skip)) none (.seq (oS [oA 1049 0 0 5 26,oL 1049 0 1 26 27,oI .neq 27 (.i .i64 4) 28] (.cond (.s 28) [] (oS [oV 10 29,oA 1049 0 2 5 30,oT 1049 2 1 30 29] (oS [oM 1049 0 5 5 31,oK (.bd zT []) [] [32],oT 1050 0 5 8 31,oT 1051 0 3 9 32] .ret)) .skip)) none (.seq (oS [oV 10 34,oC 41 1 2 [34] 35,oV 35 33,oE 0 33 36,oE 1 33 37,oV 36 12,oV 37 13] (oS [oV 13 38,oK (.k (.un .not)) [38] [39]] (.cond (.s 39) [] (oS [oV 2 40,oX (.k (.call 118 (.plain 2 2))) [.c (.i .i64 4),.s 40] [41],oE 0 41 42,oE 1 41 43,oT 1050 0 5 8 42,oT 1051 0 3 9 43] .ret) .skip))) none (oS [oV 10 44,oK (.k .bs) [44] [45],oA 1049 0 3 5 46,oT 1049 3 1 46 45] (oS [oM 1049 0 5 5 47,oK (.bd zT []) [] [48],oT 1050 0 5 8 47,oT 1051 0 3 9 48] .ret))))))
def fB.d:gD:={ np:=4,m:=fB.m,ref:=some (0,999999),fA:=[],res:=[.c 8 1050 5 true,.c 9 1051 3 true],own:=[],new:=none,fx:=[] }
def fB.F (r:dj) (it:bM) (p:Int) (n:Int):OT:=fB.d.run fB.E [(.ag (dj.cells r)),(.ag (bM.cells it)),(.i .i64 p),(.i .i64 n)]
theorem fB.dV (r:dj) (it:bM) (p:Int) (n:Int) {ρ:OT} (K:∀(v1:Int) (h1:v1=(((dK.look ((cM.nx r n (cM.rj r n)))).1:Int))) (v2:Bool) (h2:v2=(dK.whole ((cM.nx r n (cM.rj r n))))),ck (cM.ie r) (cond (!(cM.rj r n))
  (some [(.ag (bM.cells (bD.val (Mp.zero)))),(.ag (ez.cells ((ez.mk ((2:Int)) p [])))),(.ag (dj.cells (cM.oO r n (cM.rj r n))))])
  (cond (!decide ((bM.kind it)=(4:Int)))
  (some [(.ag [(.i .i64 (bM.kind it)),(.u64 (bM.n it)),(.sl .bs (cM.nx r n (cM.rj r n))),(.s (bM.text it)),(.sl .il (bM.kids it))]),(.ag [(.i .i64 0),(.i .i64 0),(.sl .is ([]:List Int))]),(.ag (dj.cells (cM.oO r n (cM.rj r n))))])
  (ck (decide (((cM.nx r n (cM.rj r n))).length≤1099511627776)) (cond (!v2)
  (some [(.ag (bM.cells (bD.val (Mp.zero)))),(.ag (ez.cells ((ez.mk ((4:Int)) p [])))),(.ag (dj.cells (cM.oO r n (cM.rj r n))))])
  (some [(.ag [(.i .i64 (bM.kind it)),(.u64 (bM.n it)),(.sl .bs (bM.bytes it)),(.s (cM.nx r n (cM.rj r n))),(.sl .il (bM.kids it))]),(.ag [(.i .i64 0),(.i .i64 0),(.sl .is ([]:List Int))]),(.ag (dj.cells (cM.oO r n (cM.rj r n))))])))))=ρ):fB.F r it p n=ρ:=Eq.trans (by kernel_rfl) (K _ rfl _ rfl)
theorem fB.di:CK 140 fB.env fB.d:=eI (by kernel_rfl)
def de.env (n:Nat):EV:=[(120,(bZ.cn n,bZ.sg))]
def de.E (n:Nat):eo:=cK tryzGl (de.env n)
def de.m1:TM:=oS [oB .lss 18 17 19] (.seq (.cond (.s 19) [] .skip (.exit 0)) none (.seq (.block 1 [(0,.ptr 999999 0),(5,.ptr 1041 0),(8,.ptr 1042 0),(9,.ptr 1043 0),(1041,.cl [(4,111,5)]),(1042,.cl []),(1043,.cl []),(999999,.cl []),(lk 111,.live 5)] (oS [oV 0 21,oV 3 22,oI .sub 22 (.i .i64 1) 23,oK (.k (.call 120 ⟨2,(some (0,999999)),[],[],2,[],none,[]⟩)) [21,23,999999] [24,999999],oV 24 20,oE 0 20 25,oE 1 20 26,oN 1044 zI 10,oN 1045 zT 11,oT 1044 0 5 10 25,oT 1045 0 3 11 26] (.seq (oS [oA 1045 0 0 11 27,oL 1045 0 1 27 28,oI .neq 28 (.i .i64 0) 29] (.cond (.s 29) [] (oS [oK (.bd zI []) [] [30],oM 1045 0 3 11 31,oT 1042 0 5 8 30,oT 1043 0 3 9 31] .ret) .skip)) none (.fK [oA 1041 0 4 5 32,oL 1041 4 1 32 33,oM 1044 0 5 10 34,oK (.bl .il 1) [34] [35],oK (.k (.ap 101 111 5 80)) [33,35,(lk 101),(lk 111)] [36,lk 101,lk 111],oA 1041 0 4 5 37,oT 1041 4 1 37 36])))) none (.fK [oI .add 18 (.i .i64 1) 38,oV 38 18])))
def de.m2:TM := .seq (oS [oV 2 17,oW (.i .i64 0) 18] (.block 0 [(5,.ptr 1041 0),(8,.ptr 1042 0),(9,.ptr 1043 0),(1041,.cl [(4,101,5)]),(1042,.cl []),(1043,.cl []),(999999,.cl []),(lk 101,.live 5)] (.loop [0,3,5,8,9,17,18,1041,1042,1043,999999] [(0,.ptr 999999 0),(5,.ptr 1041 0),(8,.ptr 1042 0),(9,.ptr 1043 0),(1041,.cl [(4,101,5)]),(1042,.cl []),(1043,.cl []),(999999,.cl []),(lk 101,.live 5)] de.m1))) none (oS [oM 1041 0 5 5 39,oK (.bd zT []) [] [40],oK (.pF 1042 0 5 [(2,112,.bs)]) [8,1042,39,(lk 112)] [1042,lk 112],oT 1043 0 3 9 40] .ret)
def de.m:TM:=oS [oK (.yn 1041 [(4,101,.il)]) [1,1041,(lk 101)] [5,1041,lk 101],oN 1042 zI 8,oN 1043 zT 9] (.seq (oS [oA 1041 0 0 5 12,oL 1041 0 1 12 13,oI .eql 13 (.i .i64 6) 14] (.cond (.s 14) [(0,.ptr 999999 0),(5,.ptr 1041 0),(8,.ptr 1042 0),(9,.ptr 1043 0),(1041,.cl [(4,101,5)]),(1042,.cl []),(1043,.cl []),(999999,.cl []),(lk 101,.live 5)] (.fK [oV 2 15,oI .mul 15 (.i .i64 2) 16,oV 16 2]) .skip)) (some [0,2,3,5,8,9,1041,1042,1043,999999]) de.m2)
def de.d:gD:={ np:=4,m:=de.m,ref:=some (0,999999),fA:=[],res:=[.c 8 1042 5 true,.c 9 1043 3 true],own:=[],new:=none,fx:=[] }
def de.F (n:Nat) (r:dj) (it:bM) (m:Int) (depth:Int):OT:=de.d.run (de.E n) [(.ag (dj.cells r)),(.ag [(.i .i64 (bM.kind it)),(.u64 (bM.n it)),(.c (.slice none 0 0)),(.s (bM.text it)),(.c (.slice none 0 0))]),(.i .i64 m),(.i .i64 depth)]
def de.k1 (n:Nat):fT (List TV):=iw (ev _ (de.E n) (oS [oM 1041 0 5 5 39,oK (.bd [(.i .i64 0),(.i .i64 0),(.sl .is ([]:List Int))] []) [] [40],oK (.pF 1042 0 5 [(2,112,.bs)]) [8,1042,39,(lk 112)] [1042,lk 112],oT 1043 0 3 9 40] .ret)) none (gJ de.d)
def de.j1 (n:Nat) (x0:Int) (x1:Int) (x2:Int) (x3:UInt64) (x4:bS) (x5:List bD) (x6:bM) (x7:ez) (x8:dj):OT:=gY _ (de.E n) de.m2 (dT [0,2,3,5,8,9,1041,1042,1043,999999] [.pt,(.i .i64 x0),(.i .i64 x1),.pt,.pt,.pt,(.ag [(.i .i64 x2),(.u64 x3),(.c (.slice none 0 0)),(.s x4),(.sl .il x5)]),(.ag (bM.cells x6)),(.ag (ez.cells x7)),(.ag (dj.cells x8))]) (gJ de.d)
def de.l2 (n:Nat) (x0:Int) (x1:Int) (x2:Int) (x3:Int) (x4:UInt64) (x5:bS) (x6:List bD) (x7:bM) (x8:ez) (x9:dj):OT:=gx (gY _ (de.E n) de.m1) oz [0,3,5,8,9,17,18,1041,1042,1043,999999] (dT [0,3,5,8,9,17,18,1041,1042,1043,999999] [.pt,(.i .i64 x0),.pt,.pt,.pt,(.i .i64 x1),(.i .i64 x2),(.ag [(.i .i64 x3),(.u64 x4),(.c (.slice none 0 0)),(.s x5),(.sl .il x6)]),(.ag (bM.cells x7)),(.ag (ez.cells x8)),(.ag (dj.cells x9))]) (er 0 (de.k1 n))
theorem de.lv (n:Nat) (x0:Int) (x1:Int) (x2:Int) (x3:UInt64) (x4:bS) (x5:List bD) (x6:bM) (x7:ez) (x8:dj):de.j1 n x0 x1 x2 x3 x4 x5 x6 x7 x8=de.l2 n x1 x0 (0:Int) x2 x3 x4 x5 x6 x7 x8:=((congrFun (congrFun (gQ _ _) _) _).trans (by kernel_rfl))
theorem de.lH (n:Nat) (x0:Int) (x1:Int) (x2:Int) (x3:Int) (x4:UInt64) (x5:bS) (x6:List bD) (x7:bM) (x8:ez) (x9:dj) {ρ:OT} (K:∀(v1:Int) (h1:v1=(IntKind.i64.wrap (x0 - (1:Int)))) (v2:ez) (h2:v2=((ez.mk (Mp.read (x9).b (v1).toNat (x9).at_).err (Mp.read (x9).b (v1).toNat (x9).at_).at_ []))) (v3:dj) (h3:v3=((dj.mk (x9).b (Mp.read (x9).b (v1).toNat (x9).at_).pos))) (v4:List bD) (h4:v4=([(bD.of (bD.val ((Mp.read (x9).b (v1).toNat (x9).at_).it)))]:List bD)) (v5:Int) (h5:v5=(IntKind.i64.wrap (x2+(1:Int)))),cond (decide (x2<x1))
  (ck ((cM.ie x9&&decide (0≤v1∧v1≤1000))&&decide ((2 * (v1).toNat+1)<n)) (cond (!decide ((ez.err v2)=(0:Int)))
  (some [(.ag [(.i .i64 0),(.u64 0),(.sl .bs ([]:List UInt8)),(.s []),(.sl .il ([]:List bD))]),(.ag (ez.cells v2)),(.ag (dj.cells v3))])
  (ck (fS ((x6).length+(v4).length) 80) (de.l2 n x0 x1 v5 x3 x4 x5 (x6++v4) x7 x8 v3))))
  (some [(.ag [(.i .i64 x3),(.u64 x4),(.sl .bs ([]:List UInt8)),(.s x5),(.sl .il x6)]),(.ag [(.i .i64 0),(.i .i64 0),(.sl .is ([]:List Int))]),(.ag (dj.cells x9))])=ρ):de.l2 n x0 x1 x2 x3 x4 x5 x6 x7 x8 x9=ρ:=((fD _ _ _ _ _ _).trans (by kernel_rfl)).trans (K _ rfl _ rfl _ rfl _ rfl _ rfl)
theorem de.dV (n:Nat) (r:dj) (it:bM) (m:Int) (depth:Int) {ρ:OT} (K:∀(v1:Int) (h1:v1=(IntKind.i64.wrap (m * (2:Int)))),cond (decide ((bM.kind it)=(6:Int)))
  (de.j1 n v1 depth (bM.kind it) (bM.n it) (bM.text it) ([]:List bD) (bM.mk 0 0 [] [] []) (ez.mk 0 0 []) r)
  (de.j1 n m depth (bM.kind it) (bM.n it) (bM.text it) ([]:List bD) (bM.mk 0 0 [] [] []) (ez.mk 0 0 []) r)=ρ):de.F n r it m depth=ρ:=Eq.trans (by kernel_rfl) (K _ rfl)
theorem de.di (n:Nat):CK 139 (de.env n) de.d:=eI (by kernel_rfl)
def bZ.env (n:Nat):EV:=[(118,(dQ.c,dQ.sg)),(122,(gH.c,gH.sg)),(125,(c9.c,c9.sg)),(126,(dP.c,dP.sg)),(128,(jg.c,jg.sg)),(135,(fm.c,fm.sg)),(136,(bH.c,bH.sg)),(137,(dL.c,dL.sg)),(138,(dz.cw,dz.sg)),(139,(de.cn n,de.sg)),(140,(fB.cw,fB.sg))]
def bZ.E (n:Nat):eo:=cK tryzGl (bZ.env n)
def bZ.m1:TM := .seq (oS [oV 10 114,oI .geq 114 (.u64 9223372036854775808) 115] (.cond (.s 115) [] (oS [oV 6 116,oX (.k (.call 118 (.plain 2 2))) [.c (.i .i64 3),.s 116] [117],oE 0 117 118,oE 1 117 119,oT 1168 0 5 4 118,oT 1169 0 3 5 119] .ret) .skip)) none (oS [oV 10 120,oA 1170 0 1 12 121,oT 1170 1 1 121 120] (oS [oM 1170 0 5 12 122,oV 6 123,oV 7 124,oV 10 125,oC 126 1 1 [125] 126,oC 138 4 2 [122,123,124,126] 127,oE 0 127 128,oE 1 127 129,oT 1168 0 5 4 128,oT 1169 0 3 5 129] .ret))
def bZ.m2:TM := .cond (.s 79) [] (oS [oV 10 82,oA 1170 0 1 12 83,oT 1170 1 1 83 82] (oS [oM 1170 0 5 12 84,oK (.bd zT []) [] [85],oK (.pF 1168 0 5 [(2,107,.bs),(4,108,.il)]) [4,1168,84,(lk 107),(lk 108)] [1168,lk 107,lk 108],oT 1169 0 3 5 85] .ret)) (oS [oI .eql 78 (.i .i64 1) 87,oV 87 86] (.cond (.s 86) [] (oS [oV 10 88,oA 1170 0 1 12 89,oT 1170 1 1 89 88] (oS [oM 1170 0 5 12 90,oV 6 91,oV 7 92,oV 10 93,oC 125 1 1 [93] 94,oC 138 4 2 [90,91,92,94] 95,oE 0 95 96,oE 1 95 97,oT 1168 0 5 4 96,oT 1169 0 3 5 97] .ret)) (oS [oI .eql 78 (.i .i64 2) 99,oV 99 98] (.cond (.s 98) [] (.seq (oS [oV 11 100,oI .gtr 100 (.i .i64 0) 101] (.cond (.s 101) [(4,.ptr 1168 0),(5,.ptr 1169 0),(12,.ptr 1170 0),(1168,.cl []),(1169,.cl []),(1170,.cl []),(999999,.cl [])] (.fK [oV 10 102,oV 11 103,oX (.k (.bin .mul)) [.c (.i .i64 8),.s 103] [104],oX (.k (.bin .sub)) [.c (.i .i64 64),.s 104] [105],oB .shl 102 105 106,oK (.k (.ci .i64)) [106] [107],oV 11 108,oX (.k (.bin .mul)) [.c (.i .i64 8),.s 108] [109],oX (.k (.bin .sub)) [.c (.i .i64 64),.s 109] [110],oB .shr 107 110 111,oK (.k (.ci .u64)) [111] [112],oK (.k (.un .xor)) [112] [113],oV 113 10]) .skip)) (some [4,5,6,7,10,12,1168,1169,1170,999999]) bZ.m1) .skip))))
def bZ.m3:TM := .seq (oS [oV 9 78] (.block 0 [(0,.ptr 999999 0),(4,.ptr 1168 0),(5,.ptr 1169 0),(12,.ptr 1170 0),(1168,.cl []),(1169,.cl []),(1170,.cl []),(999999,.cl [])] (.seq (oS [oI .eql 78 (.i .i64 8) 80,oV 80 79] (.cond (.s 79) [(0,.ptr 999999 0),(4,.ptr 1168 0),(5,.ptr 1169 0),(12,.ptr 1170 0),(1168,.cl []),(1169,.cl []),(1170,.cl []),(999999,.cl [])] .skip (.fK [oI .eql 78 (.i .i64 9) 81,oV 81 79]))) (some [0,1,4,5,6,7,9,10,11,12,78,79,1168,1169,1170,999999]) bZ.m2))) none (.seq (oS [oV 9 130,oV 10 131,oK (.k (.ci .i64)) [131] [132],oC 128 2 1 [130,132] 133,oK (.k (.fe 0 1 false)) [133] [134],oV 7 135,oB .neq 134 135 136,oV 136 137,oG 137 false (oA 1170 0 1 12 138),oG 137 false (oL 1170 1 1 138 139),oG 137 false (oI .gtr 139 (.u64 127) 140),oX (.k .pick) [.s 137,.c (.b true),.s 140] [141]] (.cond (.s 141) [] (oS [oV 6 142,oX (.k (.call 118 (.plain 2 2))) [.c (.i .i64 3),.s 142] [143],oE 0 143 144,oE 1 143 145,oT 1168 0 5 4 144,oT 1169 0 3 5 145] .ret) .skip)) none (.seq (oS [oV 9 146,oI .eql 146 (.i .i64 5) 147,oV 147 148,oG 148 false (oV 9 149),oG 148 false (oI .eql 149 (.i .i64 6) 150),oX (.k .pick) [.s 148,.c (.b true),.s 150] [151]] (.cond (.s 151) [] (oS [oV 0 152,oM 1170 0 5 12 153,oV 10 154,oK (.k (.ci .i64)) [154] [155],oV 1 156,oK (.k (.call 139 ⟨4,(some (0,999999)),[],[],2,[],none,[]⟩)) [152,153,155,156,999999] [157,999999],oE 0 157 158,oE 1 157 159,oT 1168 0 5 4 158,oT 1169 0 3 5 159] .ret) .skip)) none (oS [oV 0 160,oM 1170 0 5 12 161,oV 6 162,oV 10 163,oK (.k (.ci .i64)) [163] [164],oK (.k (.call 140 ⟨4,(some (0,999999)),[],[],2,[],none,[]⟩)) [160,161,162,164,999999] [165,999999],oE 0 165 166,oE 1 165 167,oT 1168 0 5 4 166,oT 1169 0 3 5 167] .ret)))
def bZ.m4:TM:=oS [oV 9 60,oK (.bd [(.i .i64 0),(.u64 0),(.c (.slice none 0 0)),(.s []),(.c (.slice none 0 0))] [(0,1)]) [60] [61],oN 1170 zI 12,oT 1170 0 5 12 61] (.seq (oS [oV 9 62,oI .eql 62 (.i .i64 10) 63] (.cond (.s 63) [(0,.ptr 999999 0),(4,.ptr 1168 0),(5,.ptr 1169 0),(12,.ptr 1170 0),(1168,.cl []),(1169,.cl []),(1170,.cl []),(999999,.cl [])] (oS [oV 0 65,oK (.k (.call 135 ⟨1,(some (0,999999)),[],[],2,[],none,[]⟩)) [65,999999] [66,999999],oV 66 64,oE 0 64 67,oE 1 64 68,oV 67 13,oV 68 14] (.seq (oS [oV 14 69,oK (.k (.un .not)) [69] [70]] (.cond (.s 70) [] (oS [oV 6 71,oX (.k (.call 118 (.plain 2 2))) [.c (.i .i64 2),.s 71] [72],oE 0 72 73,oE 1 72 74,oT 1168 0 5 4 73,oT 1169 0 3 5 74] .ret) .skip)) none (.fK [oV 13 75,oK (.k (.ci .u64)) [75] [76],oA 1170 0 1 12 77,oT 1170 1 1 77 76]))) .skip)) (some [0,1,4,5,6,7,9,10,11,12,1168,1169,1170,999999]) bZ.m3)
def bZ.m:TM:=oS [oN 1168 zI 4,oN 1169 zT 5] (oS [oV 0 15,oK (.k (.lj 122 1 1 0 999999)) [15,999999] [16],oV 16 6] (.seq (oS [oV 1 17,oI .eql 17 (.i .i64 0) 18] (.cond (.s 18) [] (oS [oV 6 19,oX (.k (.call 118 (.plain 2 2))) [.c (.i .i64 8),.s 19] [20],oE 0 20 21,oE 1 20 22,oT 1168 0 5 4 21,oT 1169 0 3 5 22] .ret) .skip)) none (oS [oV 0 24,oK (.k (.call 135 ⟨1,(some (0,999999)),[],[],2,[],none,[]⟩)) [24,999999] [25,999999],oV 25 23,oE 0 23 26,oE 1 23 27,oV 26 7,oV 27 8] (.seq (oS [oV 8 28,oK (.k (.un .not)) [28] [29]] (.cond (.s 29) [] (oS [oV 6 30,oX (.k (.call 118 (.plain 2 2))) [.c (.i .i64 2),.s 30] [31],oE 0 31 32,oE 1 31 33,oT 1168 0 5 4 32,oT 1169 0 3 5 33] .ret) .skip)) none (oS [oV 7 35,oC 136 1 3 [35] 36,oV 36 34,oE 0 34 37,oE 1 34 38,oE 2 34 39,oV 37 9,oV 38 10,oV 39 11] (.seq (oS [oV 9 40,oI .eql 40 (.i .i64 0) 41] (.cond (.s 41) [] (oS [oV 6 42,oX (.k (.call 118 (.plain 2 2))) [.c (.i .i64 3),.s 42] [43],oE 0 43 44,oE 1 43 45,oT 1168 0 5 4 44,oT 1169 0 3 5 45] .ret) .skip)) none (.seq (oS [oV 11 46,oI .gtr 46 (.i .i64 0) 47] (.cond (.s 47) [(0,.ptr 999999 0),(4,.ptr 1168 0),(5,.ptr 1169 0),(1168,.cl []),(1169,.cl []),(999999,.cl [])] (oS [oV 0 49,oV 11 50,oK (.k (.call 137 ⟨2,(some (0,999999)),[],[],2,[],none,[]⟩)) [49,50,999999] [51,999999],oV 51 48,oE 0 48 52,oE 1 48 53,oV 52 10,oV 53 8] (oS [oV 8 54,oK (.k (.un .not)) [54] [55]] (.cond (.s 55) [] (oS [oV 6 56,oX (.k (.call 118 (.plain 2 2))) [.c (.i .i64 2),.s 56] [57],oE 0 57 58,oE 1 57 59,oT 1168 0 5 4 58,oT 1169 0 3 5 59] .ret) .skip))) .skip)) (some [0,1,4,5,6,7,9,10,11,1168,1169,999999]) bZ.m4)))))))
def bZ.d:gD:={ np:=2,m:=bZ.m,ref:=some (0,999999),fA:=[],res:=[.c 4 1168 5 true,.c 5 1169 3 true],own:=[],new:=none,fx:=[] }
def bZ.F (n:Nat) (r:dj) (depth:Int):OT:=bZ.d.run (bZ.E n) [(.ag (dj.cells r)),(.i .i64 depth)]
def bZ.k1 (n:Nat):fT (List TV):=iw (ev _ (bZ.E n) (.seq (oS [oV 9 130,oV 10 131,oK (.k (.ci .i64)) [131] [132],oC 128 2 1 [130,132] 133,oK (.k (.fe 0 1 false)) [133] [134],oV 7 135,oB .neq 134 135 136,oV 136 137,oG 137 false (oA 1170 0 1 12 138),oG 137 false (oL 1170 1 1 138 139),oG 137 false (oI .gtr 139 (.u64 127) 140),oX (.k .pick) [.s 137,.c (.b true),.s 140] [141]] (.cond (.s 141) [] (oS [oV 6 142,oX (.k (.call 118 (.plain 2 2))) [.c (.i .i64 3),.s 142] [143],oE 0 143 144,oE 1 143 145,oT 1168 0 5 4 144,oT 1169 0 3 5 145] .ret) .skip)) none (.seq (oS [oV 9 146,oI .eql 146 (.i .i64 5) 147,oV 147 148,oG 148 false (oV 9 149),oG 148 false (oI .eql 149 (.i .i64 6) 150),oX (.k .pick) [.s 148,.c (.b true),.s 150] [151]] (.cond (.s 151) [] (oS [oV 0 152,oM 1170 0 5 12 153,oV 10 154,oK (.k (.ci .i64)) [154] [155],oV 1 156,oK (.k (.call 139 ⟨4,(some (0,999999)),[],[],2,[],none,[]⟩)) [152,153,155,156,999999] [157,999999],oE 0 157 158,oE 1 157 159,oT 1168 0 5 4 158,oT 1169 0 3 5 159] .ret) .skip)) none (oS [oV 0 160,oM 1170 0 5 12 161,oV 6 162,oV 10 163,oK (.k (.ci .i64)) [163] [164],oK (.k (.call 140 ⟨4,(some (0,999999)),[],[],2,[],none,[]⟩)) [160,161,162,164,999999] [165,999999],oE 0 165 166,oE 1 165 167,oT 1168 0 5 4 166,oT 1169 0 3 5 167] .ret)))) none (gJ bZ.d)
def bZ.j1 (n:Nat) (x0:Int) (x1:Int) (x2:Int) (x3:Int) (x4:UInt64) (x5:Int) (x6:bM) (x7:ez) (x8:dj):OT:=gY _ (bZ.E n) bZ.m4 (dT [0,1,4,5,6,7,9,10,11,1168,1169,999999] [.pt,(.i .i64 x0),.pt,.pt,(.i .i64 x1),(.i .i64 x2),(.i .i64 x3),(.u64 x4),(.i .i64 x5),(.ag (bM.cells x6)),(.ag (ez.cells x7)),(.ag (dj.cells x8))]) (gJ bZ.d)
def bZ.j2 (n:Nat) (x0:Int) (x1:Int) (x2:Int) (x3:Int) (x4:UInt64) (x5:Int) (x6:bM) (x7:ez) (x8:Int) (x9:UInt64) (jt:bS) (jH:dj):OT:=gY _ (bZ.E n) bZ.m3 (dT [0,1,4,5,6,7,9,10,11,12,1168,1169,1170,999999] [.pt,(.i .i64 x0),.pt,.pt,(.i .i64 x1),(.i .i64 x2),(.i .i64 x3),(.u64 x4),(.i .i64 x5),.pt,(.ag (bM.cells x6)),(.ag (ez.cells x7)),(.ag [(.i .i64 x8),(.u64 x9),(.c (.slice none 0 0)),(.s jt),(.c (.slice none 0 0))]),(.ag (dj.cells jH))]) (gJ bZ.d)
def bZ.j3 (n:Nat) (x0:Int) (x1:Int) (x2:Int) (x3:Int) (x4:UInt64) (x5:Int) (x6:Int) (x7:Bool) (x8:bM) (x9:ez) (jt:Int) (jH:UInt64) (mK:bS) (qe:dj):OT:=gY _ (bZ.E n) bZ.m2 (dT [0,1,4,5,6,7,9,10,11,12,78,79,1168,1169,1170,999999] [.pt,(.i .i64 x0),.pt,.pt,(.i .i64 x1),(.i .i64 x2),(.i .i64 x3),(.u64 x4),(.i .i64 x5),.pt,(.i .i64 x6),(.b x7),(.ag (bM.cells x8)),(.ag (ez.cells x9)),(.ag [(.i .i64 jt),(.u64 jH),(.c (.slice none 0 0)),(.s mK),(.c (.slice none 0 0))]),(.ag (dj.cells qe))]) (er 0 (bZ.k1 n))
def bZ.j4 (n:Nat) (x0:Int) (x1:Int) (x2:UInt64) (x3:bM) (x4:ez) (x5:Int) (x6:UInt64) (x7:bS) (x8:dj):OT:=gY _ (bZ.E n) bZ.m1 (dT [4,5,6,7,10,12,1168,1169,1170,999999] [.pt,.pt,(.i .i64 x0),(.i .i64 x1),(.u64 x2),.pt,(.ag (bM.cells x3)),(.ag (ez.cells x4)),(.ag [(.i .i64 x5),(.u64 x6),(.c (.slice none 0 0)),(.s x7),(.c (.slice none 0 0))]),(.ag (dj.cells x8))]) (er 0 (bZ.k1 n))
theorem bZ.lv (n:Nat) (x0:Int) (x1:Int) (x2:Int) (x3:Int) (x4:UInt64) (x5:Int) (x6:bM) (x7:ez) (x8:dj):bZ.j1 n x0 x1 x2 x3 x4 x5 x6 x7 x8=cond (decide (x3=(10:Int)))
  (ck (cM.ie x8) (cond (!(cM.more x8))
  (some [(.ag (bM.cells (bD.val (Mp.zero)))),(.ag (ez.cells ((ez.mk ((2:Int)) x1 [])))),(.ag (dj.cells (cM.oO x8 1 (cM.more x8))))])
  (bZ.j2 n x0 x1 x2 x3 x4 x5 x6 x7 x3 (UInt64.ofInt (cM.byte x8)) ([]:bS) (cM.oO x8 1 (cM.more x8)))))
  (bZ.j2 n x0 x1 x2 x3 x4 x5 x6 x7 x3 (0:UInt64) ([]:bS) x8):=((congrFun (congrFun (gQ _ _) _) _).trans (by kernel_rfl))
theorem bZ.jw (n:Nat) (x0:Int) (x1:Int) (x2:Int) (x3:Int) (x4:UInt64) (x5:Int) (x6:bM) (x7:ez) (x8:Int) (x9:UInt64) (jt:bS) (jH:dj):bZ.j2 n x0 x1 x2 x3 x4 x5 x6 x7 x8 x9 jt jH=cond (decide (x3=(8:Int)))
  (bZ.j3 n x0 x1 x2 x3 x4 x5 x3 (decide (x3=(8:Int))) x6 x7 x8 x9 jt jH)
  (bZ.j3 n x0 x1 x2 x3 x4 x5 x3 (decide (x3=(9:Int))) x6 x7 x8 x9 jt jH):=((congrFun (congrFun (gQ _ _) _) _).trans (by kernel_rfl))
theorem bZ.sA (n:Nat) (x0:Int) (x1:Int) (x2:Int) (x3:Int) (x4:UInt64) (x5:Int) (x6:Int) (x7:Bool) (x8:bM) (x9:ez) (jt:Int) (jH:UInt64) (mK:bS) (qe:dj) {ρ:OT} (K:∀(v1:ez) (h1:v1=((ez.mk (Mp.num (bD.of (bM.mk jt x4 [] mK [])) x1 x2 ((kP.mk (Mp.eD x4).1 (Mp.eD x4).2)).at_ 0).err (Mp.num (bD.of (bM.mk jt x4 [] mK [])) x1 x2 ((kP.mk (Mp.eD x4).1 (Mp.eD x4).2)).at_ 0).at_ []))) (v2:Int) (h2:v2=(IntKind.i64.wrap ((8:Int) * x5))) (v3:Int) (h3:v3=(IntKind.i64.wrap ((64:Int) - v2))) (v4:Int) (h4:v4=(IntKind.i64.wrap (((mf x4 ((v3).toNat))).toNat:Int))) (v5:Int) (h5:v5=(Int.fdiv v4 (2 ^ (min ((v3).toNat) (IntKind.i64.bits))))) (v6:Int) (h6:v6=(IntKind.i64.wrap ((x4).toNat:Int))) (v7:Bool) (h7:v7=(!(!decide ((Mp.sized x3 v6).1=x2)))) (v8:Bool) (h8:v8=(cond (!decide ((Mp.sized x3 v6).1=x2)) true (decide ((127:UInt64)<jH)))) (v9:Bool) (h9:v9=(cond (decide (x3=(5:Int))) true (decide (x3=(6:Int))))) (v10:ez) (lZ:v10=((ez.mk (Mp.kids (Mp.read (qe).b (x0 - 1).toNat) (bD.of (bM.mk jt jH [] mK [])) (Mp.many ((bM.mk jt jH [] mK [])).kind v6) (qe).at_).err (Mp.kids (Mp.read (qe).b (x0 - 1).toNat) (bD.of (bM.mk jt jH [] mK [])) (Mp.many ((bM.mk jt jH [] mK [])).kind v6) (qe).at_).at_ []))) (v11:dj) (yb:v11=((dj.mk (qe).b (Mp.kids (Mp.read (qe).b (x0 - 1).toNat) (bD.of (bM.mk jt jH [] mK [])) (Mp.many ((bM.mk jt jH [] mK [])).kind v6) (qe).at_).pos))) (v12:ez) (ya:v12=((ez.mk (Mp.row (qe).b (bD.of (bM.mk jt jH [] mK [])) x1 (qe).at_ v6).err (Mp.row (qe).b (bD.of (bM.mk jt jH [] mK [])) x1 (qe).at_ v6).at_ []))) (kN:dj) (wN:kN=((dj.mk (qe).b (Mp.row (qe).b (bD.of (bM.mk jt jH [] mK [])) x1 (qe).at_ v6).pos))),cond x7
  (some [(.ag [(.i .i64 jt),(.u64 x4),(.sl .bs ([]:List UInt8)),(.s mK),(.sl .il ([]:List bD))]),(.ag [(.i .i64 0),(.i .i64 0),(.sl .is ([]:List Int))]),(.ag (dj.cells qe))])
  (cond (decide (x6=(1:Int)))
  (some [(.ag (bM.cells (bD.val ((Mp.num (bD.of (bM.mk jt x4 [] mK [])) x1 x2 ((kP.mk (Mp.eD x4).1 (Mp.eD x4).2)).at_ 0).it)))),(.ag (ez.cells v1)),(.ag (dj.cells qe))])
  (cond (decide (x6=(2:Int)))
  (cond (decide ((0:Int)<x5))
  (ck (decide (0≤v3)) (ck (decide (0≤v3)) (bZ.j4 n x1 x2 (~~~(UInt64.ofInt v5)) x8 x9 jt jH mK qe)))
  (bZ.j4 n x1 x2 x4 x8 x9 jt jH mK qe))
  (ck (Mp.lN x3&&decide (0≤v6∧v6<4294967296)) (ck (!v7 || v7) (ck (!v7 || v7) (ck ((!decide ((Mp.sized x3 v6).1=x2)) || v7) (cond v8
  (some [(.ag (bM.cells (bD.val (Mp.zero)))),(.ag (ez.cells ((ez.mk ((3:Int)) x1 [])))),(.ag (dj.cells qe))])
  (ck (!(!(decide (x3=(5:Int)))) || (!(decide (x3=(5:Int))))) (ck ((decide (x3=(5:Int))) || (!(decide (x3=(5:Int))))) (cond v9
  (ck ((cM.ie qe&&decide (0≤v6∧v6≤4294967296∧1≤x0∧x0≤1000))&&decide ((2 * (x0).toNat)<n)) (some [(.ag (bM.cells (bD.val ((Mp.kids (Mp.read (qe).b (x0 - 1).toNat) (bD.of (bM.mk jt jH [] mK [])) (Mp.many ((bM.mk jt jH [] mK [])).kind v6) (qe).at_).it)))),(.ag (ez.cells v10)),(.ag (dj.cells v11))]))
  (ck (cM.ie qe) (some [(.ag (bM.cells (bD.val ((Mp.row (qe).b (bD.of (bM.mk jt jH [] mK [])) x1 (qe).at_ v6).it)))),(.ag (ez.cells v12)),(.ag (dj.cells kN))]))))))))))))=ρ):bZ.j3 n x0 x1 x2 x3 x4 x5 x6 x7 x8 x9 jt jH mK qe=ρ:=((congrFun (congrFun (gQ _ _) _) _).trans (by kernel_rfl)).trans (K _ rfl _ rfl _ rfl _ rfl _ rfl _ rfl _ rfl _ rfl _ rfl _ rfl _ rfl _ rfl _ rfl)
theorem bZ.Cn (n:Nat) (x0:Int) (x1:Int) (x2:UInt64) (x3:bM) (x4:ez) (x5:Int) (x6:UInt64) (x7:bS) (x8:dj) {ρ:OT} (K:∀(v1:ez) (h1:v1=((ez.mk (Mp.num (bD.of (bM.mk x5 x2 [] x7 [])) x0 x1 ((kP.mk (Mp.signed x2).1 (Mp.signed x2).2)).at_ 0).err (Mp.num (bD.of (bM.mk x5 x2 [] x7 [])) x0 x1 ((kP.mk (Mp.signed x2).1 (Mp.signed x2).2)).at_ 0).at_ []))),cond (decide ((9223372036854775808:UInt64)≤x2))
  (some [(.ag (bM.cells (bD.val (Mp.zero)))),(.ag (ez.cells ((ez.mk ((3:Int)) x0 [])))),(.ag (dj.cells x8))])
  (some [(.ag (bM.cells (bD.val ((Mp.num (bD.of (bM.mk x5 x2 [] x7 [])) x0 x1 ((kP.mk (Mp.signed x2).1 (Mp.signed x2).2)).at_ 0).it)))),(.ag (ez.cells v1)),(.ag (dj.cells x8))])=ρ):bZ.j4 n x0 x1 x2 x3 x4 x5 x6 x7 x8=ρ:=((congrFun (congrFun (gQ _ _) _) _).trans (by kernel_rfl)).trans (K _ rfl)
theorem bZ.dV (n:Nat) (r:dj) (depth:Int) {ρ:OT} (K:∀(v1:ez) (h1:v1=((ez.mk ((8:Int)) ((((r).at_))) []))) (v2:ez) (h2:v2=((ez.mk ((2:Int)) ((((r).at_))) []))) (v3:Int) (h3:v3=((Mp.first ((cM.byte r))).1)) (v4:UInt64) (h4:v4=((Mp.first ((cM.byte r))).2.1)) (v5:Int) (h5:v5=((Mp.first ((cM.byte r))).2.2)) (v6:ez) (h6:v6=((ez.mk ((3:Int)) ((((r).at_))) []))) (v7:UInt64) (h7:v7=(cM.be (cM.nx (cM.oO r 1 (cM.more r)) v5 (cM.pd (cM.oO r 1 (cM.more r)) v5)))) (v8:Bool) (h8:v8=(cM.pd (cM.oO r 1 (cM.more r)) v5)) (v9:dj) (h9:v9=(cM.oO (cM.oO r 1 (cM.more r)) v5 (cM.pd (cM.oO r 1 (cM.more r)) v5))),cond (decide (depth=(0:Int)))
  (some [(.ag (bM.cells (bD.val (Mp.zero)))),(.ag (ez.cells v1)),(.ag (dj.cells r))])
  (ck (cM.ie r) (cond (!(cM.more r))
  (some [(.ag (bM.cells (bD.val (Mp.zero)))),(.ag (ez.cells v2)),(.ag (dj.cells (cM.oO r 1 (cM.more r))))])
  (ck (decide (0≤((cM.byte r))∧((cM.byte r))≤255)) (cond (decide (v3=(0:Int)))
  (some [(.ag (bM.cells (bD.val (Mp.zero)))),(.ag (ez.cells v6)),(.ag (dj.cells (cM.oO r 1 (cM.more r))))])
  (cond (decide ((0:Int)<v5))
  (ck (cM.ie (cM.oO r 1 (cM.more r))) (cond (!v8)
  (some [(.ag (bM.cells (bD.val (Mp.zero)))),(.ag (ez.cells v2)),(.ag (dj.cells v9))])
  (bZ.j1 n depth (((r).at_)) (cM.byte r) v3 v7 v5 (bM.mk 0 0 [] [] []) (ez.mk 0 0 []) v9)))
  (bZ.j1 n depth (((r).at_)) (cM.byte r) v3 v4 v5 (bM.mk 0 0 [] [] []) (ez.mk 0 0 []) (cM.oO r 1 (cM.more r))))))))=ρ):bZ.F n r depth=ρ:=Eq.trans (by kernel_rfl) (K _ rfl _ rfl _ rfl _ rfl _ rfl _ rfl _ rfl _ rfl _ rfl)
theorem bZ.di (n:Nat):CK 120 (bZ.env n) bZ.d:=eI (by kernel_rfl)
def ei.env:EV:=[(118,(dQ.c,dQ.sg)),(119,(fq.c,fq.sg)),(120,(bZ.c,bZ.sg)),(121,(eG.c,eG.sg)),(122,(gH.c,gH.sg))]
def ei.E:eo:=cK tryzGl ei.env
def ei.m:TM:=oS [oN 1041 zI 4,oN 1042 zT 5] (.seq (oS [oV 1 9,oI .lss 9 (.i .i64 0) 10,oV 10 11,oG 11 false (oV 1 12),oG 11 false (oI .gtr 12 (.i .i64 1000) 13),oX (.k .pick) [.s 11,.c (.b true),.s 13] [14]] (.cond (.s 14) [] (oS [oX (.k (.call 118 (.plain 2 2))) [.c (.i .i64 1),.c (.i .i64 0)] [15],oE 0 15 16,oE 1 15 17,oT 1041 0 5 4 16,oT 1042 0 3 5 17] .ret) .skip)) none (oS [oV 0 18,oK (.k (.call 119 ⟨1,none,[],[],1,[],(some (0,1043)),[]⟩)) [18,1043] [19,1043],oV 19 6] (oS [oV 6 21,oV 1 22,oK (.k (.call 120 ⟨2,(some (0,1043)),[],[],2,[],none,[]⟩)) [21,22,1043] [23,1043],oV 23 20,oE 0 20 24,oE 1 20 25,oN 1044 zI 7,oN 1045 zT 8,oT 1044 0 5 7 24,oT 1045 0 3 8 25] (.seq (oS [oA 1045 0 0 8 26,oL 1045 0 1 26 27,oI .neq 27 (.i .i64 0) 28] (.cond (.s 28) [] (oS [oK (.bd zI []) [] [29],oM 1045 0 3 8 30,oT 1041 0 5 4 29,oT 1042 0 3 5 30] .ret) .skip)) none (.seq (oS [oV 6 31,oK (.k (.lj 121 1 1 0 1043)) [31,1043] [32],oI .gtr 32 (.i .i64 0) 33] (.cond (.s 33) [] (oS [oV 6 34,oK (.k (.lj 122 1 1 0 1043)) [34,1043] [35],oX (.k (.call 118 (.plain 2 2))) [.c (.i .i64 7),.s 35] [36],oE 0 36 37,oE 1 36 38,oT 1041 0 5 4 37,oT 1042 0 3 5 38] .ret) .skip)) none (oS [oM 1044 0 5 7 39,oK (.bd zT []) [] [40],oT 1041 0 5 4 39,oT 1042 0 3 5 40] .ret))))))
def ei.d:gD:=D0 2 ei.m [.c 4 1041 5 true,.c 5 1042 3 true]
def ei.F (b:List UInt8) (depth:Int):OT:=ei.d.run ei.E [(.sl .bs b),(.i .i64 depth)]
theorem ei.dV (b:List UInt8) (depth:Int) {ρ:OT} (K:∀(v1:Bool) (h1:v1=(cond (decide (depth<(0:Int))) true (decide ((1000:Int)<depth)))) (v2:ez) (h2:v2=((ez.mk ((1:Int)) ((0:Int)) []))) (v3:ez) (h3:v3=((ez.mk (Mp.read (((dj.mk b 0))).b (depth).toNat (((dj.mk b 0))).at_).err (Mp.read (((dj.mk b 0))).b (depth).toNat (((dj.mk b 0))).at_).at_ []))) (v4:dj) (h4:v4=((dj.mk (((dj.mk b 0))).b (Mp.read (((dj.mk b 0))).b (depth).toNat (((dj.mk b 0))).at_).pos))) (v5:ez) (h5:v5=((ez.mk ((7:Int)) ((((v4).at_))) []))),ck (!(!(decide (depth<(0:Int)))) || (!(decide (depth<(0:Int))))) (ck ((decide (depth<(0:Int))) || (!(decide (depth<(0:Int))))) (cond v1
  (some [(.ag (bM.cells (bD.val (Mp.zero)))),(.ag (ez.cells v2))])
  (ck (decide ((b).length≤1099511627776)) (ck (cM.ie ((dj.mk b 0))&&decide (0≤depth∧depth≤1000)) (cond (!decide ((ez.err v3)=(0:Int)))
  (some [(.ag [(.i .i64 0),(.u64 0),(.sl .bs ([]:List UInt8)),(.s []),(.sl .il ([]:List bD))]),(.ag (ez.cells v3))])
  (ck (cM.ie v4) (cond (decide ((0:Int)<(cM.left v4)))
  (some [(.ag (bM.cells (bD.val (Mp.zero)))),(.ag (ez.cells v5))])
  (some [(.ag (bM.cells (bD.val ((Mp.read (((dj.mk b 0))).b (depth).toNat (((dj.mk b 0))).at_).it)))),(.ag [(.i .i64 0),(.i .i64 0),(.sl .is ([]:List Int))])]))))))))=ρ):ei.F b depth=ρ:=Eq.trans (by kernel_rfl) (K _ rfl _ rfl _ rfl _ rfl _ rfl)
theorem ei.di:CK 103 ei.env ei.d:=eI (by kernel_rfl)
end
end Go.Eng
