/- Texts of my own, one behind the other: EvE, EvF, EvG, EvH, EvI, EvJ, ArithP, UtfPure, TreePure, EvK, EvL, RegPure, MpPure, DbPure, DkPure, DdItoa, DdGp0. -/
import Derived.Test.YtoadlhkggdbfkaaDoorT2
import Derived.ChangeShapes
import Derived.ProofKit
import Derived.ChangeSlices
import Derived.ChangeArms
import Derived.DataReads
import Derived.IntWalk
import Derived.Lib.Bytealg
import Derived.Below
import Derived.Lib.LaidTab
import Derived.Lib.ItoaNum
import Derived.Sort.Grow
import Derived.Deep.Draws
import Derived.Shelf.Strconv.Itoa0
import Derived.Shelf.Strconv.Itoa1
import Derived.Shelf.LaysM
import Derived.Shelf.Strconv.Itoa2
import Derived.Shelf.Strconv.Itoa3
import Derived.Test.YtoadlhkggdbfkaaDoorProg
set_option linter.unusedVariables false
set_option linter.unusedSimpArgs false
namespace Go.Eng
def semK (k:K) (vs:List TV):Res :=
 match k,vs with
 | .mv,[x] => .ok [x]
 | .pick,[.b t,x,y]=>pickT t x y
 | .bin o,[x,y]=>binT o x y
 | .be neg,[.b a,.b b] => .ok [.b (cond neg (!(a == b)) (a == b))]
 | .un o,[x]=>unT o x
 | .ci k,[x]=>match x.int? with
  | some (_,n) => .ok [intTV k n]
  | none => .err
 | .cs,[.s l] => .ok [.s l]
 | .sb,[.s l] => .if_ (lenOK l.length) [.sl .bs l]
 | .sbt _,[.s l,_] => .if_ (lenOK l.length) [.sl .bs l,.dead]
 | .bs,[.sl .bs l] => .ok [.s l]
 | .len,[.sl _ l] => .ok [.i .i64 l.length]
 | .lns,[.s l] => .ok [.i .i64 l.length]
 | .mn,[.i k a,.i k' b]=>needT (decide (k=k')) (.ok [.i k (minI a b)])
 | .mx,[.i k a,.i k' b]=>needT (decide (k=k')) (.ok [.i k (maxI a b)])
 | .ix s,[.sl t l,i]=>match i.int? with
  | some (_,n)=>needT (Nat.beq s t.size) (.if_ (idxOK n l.length) [.ro (t.tv (l.getD n.toNat t.dflt))])
  | none => .err
 | .si,[.s l,i]=>match i.int? with
  | some (_,n) => .if_ (idxOK n l.length) [.u8 (l.getD n.toNat 0)]
  | none => .err
 | .ai m s agg,[.ag cs,i]=>match i.int?,agg with
  | some (_,n),false=>match arrT cs n.toNat with
   | some x=>needT (Nat.beq s 1&&Nat.beq m cs.length) (.if_ (idxOK n m) [x])
   | none => .err
  | some (_,n),true=>match colsT s m n.toNat cs s with
   | some xs=>needT (Nat.beq (m * s) cs.length) (.if_ (idxOK n m) [.ag xs])
   | none => .err
  | _,_ => .err
 | .fe o n agg,[.ag cs]=>oneT (partT cs o n agg)
 | .sc s true true,[.sl t l,i,j]=>match i.int?,j.int? with
  | some (_,a),some (_,b)=>needT (Nat.beq s t.size) (.if_ (cutOK a b l.length) [.sl t ((l.take b.toNat).drop a.toNat)])
  | _,_ => .err
 | .sc s true false,[.sl t l,i]=>match i.int? with
  | some (_,a)=>needT (Nat.beq s t.size) (.if_ (cutOK a l.length l.length) [.sl t (l.drop a.toNat)])
  | _ => .err
 | .sc s false true,[.sl t l,j]=>match j.int? with
  | some (_,b)=>needT (Nat.beq s t.size) (.if_ (cutOK 0 b l.length) [.sl t (l.take b.toNat)])
  | _ => .err
 | .sc s false false,[.sl t l]=>needT (Nat.beq s t.size) (.ok [.sl t l])
 | .ss true true,[.s l,i,j]=>match i.int?,j.int? with
  | some (_,a),some (_,b) => .if_ (cutOK a b l.length) [.s ((l.take b.toNat).drop a.toNat)]
  | _,_ => .err
 | .ss true false,[.s l,i]=>match i.int? with
  | some (_,a) => .if_ (cutOK a l.length l.length) [.s (l.drop a.toNat)]
  | _ => .err
 | .ss false true,[.s l,j]=>match j.int? with
  | some (_,b) => .if_ (cutOK 0 b l.length) [.s (l.take b.toNat)]
  | _ => .err
 | .ss false false,[.s l] => .ok [.s l]
 | .bx _,[x,_]=>needT x.plain (.ok [.pt,.ag x.cells])
 | .ld _ o n agg,[.pt,.ag cs]=>oneT (partT cs o n agg)
 | .st _ o n,[.pt,.ag cs,x]=>needT (x.plain&&Nat.beq x.cells.length n&&Nat.ble (o+n) cs.length) (.ok [.ag (spliceT cs o x.cells)])
 | .lr n agg,[.ro x]=>needT (x.plain&&(x.isAg == agg)&&Nat.beq x.cells.length n) (.ok [x])
 | .fa _ _ _,[.pt] => .ok [.pt]
 | .fr o n agg,[.ro (.ag cs)]=>match partT cs o n agg with
  | some x => .ok [.ro x]
  | none => .err
 | .nc _ _,[.pt] => .ok [.pt]
 | .ncr,[.ro x] => .ok [.ro x]
 | .ex i,[.tu vs]=>oneT vs[i]?
 | .ap _ _ s by_,[.sl t l,.sl t' m,_,_]=>match t.app l t' m with
  | some n=>needT (Nat.beq s t.size) (.if_ (apOK (l.length+m.length) by_) [.sl t n,.dead,.dead])
  | none => .err
 | .aps _ _ by_,[.sl .bs l,.s m,_,_] => .if_ (apOK (l.length+m.length) by_) [.sl .bs (l++m),.dead,.dead]
 | .an _ s by_,[.sl t l,_]=>needT (Nat.beq s t.size) (.if_ (apOK l.length by_) [.sl t l,.dead])
 | .ans _ by_,[.s l,_] => .if_ (apOK l.length by_) [.sl .bs l,.dead]
 | .pss _,[.s l,_] => .if_ (lenOK l.length) [.pt,.sl .bs l]
 | .pln _,[.pt,.sl _ l] => .ok [.i .i64 l.length]
 | .pix _ s,[.pt,i,.sl t l]=>match i.int? with
  | some (_,n)=>needT (Nat.beq s t.size) (.if_ (idxOK n l.length) [.el n.toNat s 0])
  | none => .err
 | .pfa _ o,[.el i s o'] => .ok [.el i s (o'+o)]
 | .pld _ s n agg,[.el i s' o,.sl t l]=>match partElT (t.tv (l.getD i t.dflt)) o n agg with
  | some x=>needT (Nat.beq s' s&&Nat.beq s t.size) (.if_ (decide (i<l.length)) [x])
  | none => .err
 | .pst _ s n,[.el i s' o,.sl t l,x]=>match putElT (t.tv (l.getD i t.dflt)) o x with
  | some y=>match t.el y with
   | some e=>needT (Nat.beq s' s&&Nat.beq s t.size&&x.plain&&Nat.beq x.cells.length n) (.if_ (decide (i<l.length)) [.sl t (l.set i e)])
   | none => .err
  | none => .err
 | .pfz _ s,[.pt,.sl t l]=>needT (Nat.beq s t.size) (.ok [.sl t l,.sl t l,.dead])
 | .ppa _ _ s by_,[.pt,.sl t' m,.sl t l,_]=>match t.app l t' m with
  | some n=>needT (Nat.beq s t.size) (.if_ (apOK (l.length+m.length) by_) [.pt,.sl t l,.sl t n])
  | none => .err
 | .apq _ _ _ s by_,[.sl t l,.pt,_,_,.sl t' m]=>match t.app l t' m with
  | some n=>needT (Nat.beq s t.size) (.if_ (apOK (l.length+m.length) by_) [.sl t n,.dead,.dead])
  | none => .err
 | .la _ n s,[.pt,i,.ag _]=>match i.int? with
  | some (_,m) => .if_ (idxOK m n) [.el m.toNat s 0]
  | none => .err
 | .ll _ s,[.el i s' o,.ag cs]=>match arrT cs i with
  | some x=>needT (Nat.beq s' s&&Nat.beq s 1&&Nat.beq o 0) (.if_ (decide (i<cs.length)) [x])
  | none => .err
 | .xib,[.s l,.u8 c] => .ok [.i .i64 (Lib.indexByte l c)]
 | _,_ => .err
theorem idxOK_iff {n:Int} {l:Nat}:idxOK n l=true ↔ 0≤n∧n<l:=by simp [idxOK]
theorem cutOK_iff {a b:Int} {l:Nat}:cutOK a b l=true ↔ 0≤a∧a≤b∧b≤l:=by simp [cutOK,and_assoc]
theorem apOK_iff {n b:Nat}:apOK n b=true ↔ n≤maxLen∧n * b≤140737488355328:=by simp [apOK]
theorem mkOK_iff {l c:Int} {b:Nat}:mkOK l c b=true ↔ 0≤l∧l≤c∧c * b≤140737488355328∧c≤maxLen:=by simp [mkOK,and_assoc]
theorem lenOK_iff {n:Nat}:lenOK n=true ↔ n≤maxLen:=by simp [lenOK]
theorem getD_map {A:Type} (f:A→AV) (l:List A) (n:Int) (d:A) (h:0≤n∧n<l.length):(l.map f)[n.toNat]?=some (f (l.getD n.toNat d)):=by
 have:n.toNat<l.length:=by omega
 simp [List.getD_eq_getElem?_getD,List.getElem?_eq_getElem this]
theorem getD_str (l:Str) (n:Int) (h:0≤n∧n<l.length):l[n.toNat]?=some (l.getD n.toNat 0):=by
 have:n.toNat<l.length:=by omega
 simp [List.getD_eq_getElem?_getD,List.getElem?_eq_getElem this]
theorem semK_ok (E:Env) {k:K} {vs ws:List TV} (h:(semK k vs).holds ws):sem E k (vs.map TV.av) (ws.map TV.av):=by
 unfold semK at h
 split at h
 -- mv
 ·cases h;rfl
 ·obtain ⟨x,rfl,e⟩:=pickT_ok _ _ _ _ h;simp only [List.map,sem,TV.av];rw [e]
 ·obtain ⟨x,rfl,a,b,v,e1,e2,e3,e4⟩:=binT_ok _ _ _ _ h
  simp only [List.map,sem,e1,e2,e4];exact ⟨v,e3,rfl⟩
 ·cases h;rename_i neg a b;cases neg <;> rfl
 ·obtain ⟨x,rfl,a,v,e1,e2,e3⟩:=unT_ok _ _ _ h
  simp only [List.map,sem,e1,e3];exact ⟨v,e2,rfl⟩
 ·split at h
  ·rename_i e;cases h;simp only [List.map,sem,TV.int?_av e,intTV_av]
  ·exact h.elim
 ·cases h;rfl
 ·obtain ⟨h1,rfl⟩:=h;exact ⟨lenOK_iff.1 h1,rfl⟩
 ·obtain ⟨h1,rfl⟩:=h;exact ⟨lenOK_iff.1 h1,rfl⟩
 ·cases h;exact ⟨_,rfl,rfl,rfl⟩
 ·cases h;simp only [List.map,sem,TV.av,List.length_map]
 ·cases h;simp only [List.map,sem,TV.av,strAV]
 ·obtain ⟨e,h⟩:=needT_holds h;cases h;simp only [List.map,sem,TV.av]
 ·obtain ⟨e,h⟩:=needT_holds h;cases h;simp only [List.map,sem,TV.av]
 ·split at h
  ·rename_i t l i k n e
   obtain ⟨e1,h1,rfl⟩:=needT_holds h
   have e1:=Nat.eq_of_beq_eq_true e1
   have h1:=idxOK_iff.1 h1
   simp only [List.map,sem,TV.av,TV.int?_av e,STy.tv_av]
   exact ⟨_,e1,h1.1,getD_map _ _ _ _ h1,rfl⟩
  ·exact h.elim
 ·split at h
  ·rename_i e
   obtain ⟨h1,rfl⟩:=h
   have h1:=idxOK_iff.1 h1
   simp only [List.map,sem,TV.av,strAV,TV.int?_av e]
   exact ⟨_,h1.1,getD_str _ _ h1,rfl⟩
  ·exact h.elim
 ·split at h
  ·rename_i m s cs i k n e
   split at h
   ·rename_i x hx
    obtain ⟨e1,h1,rfl⟩:=needT_holds h
    simp only [Bool.and_eq_true] at e1
    have e2:=Nat.eq_of_beq_eq_true e1.1
    have e3:=Nat.eq_of_beq_eq_true e1.2
    subst e2;subst e3
    have h1:=idxOK_iff.1 h1
    have hx:=arrT_ok hx (by omega)
    simp only [List.map,sem,TV.av,TV.int?_av e]
    refine ⟨x.av,h1.1,h1.2,?_,rfl⟩
    simp [partAV,TV.avs_map,hx]
   ·exact h.elim
  ·rename_i m s cs i _ _ k n e
   split at h
   ·rename_i xs hx
    obtain ⟨e1,h1,rfl⟩:=needT_holds h
    have e1:=Nat.eq_of_beq_eq_true e1
    have h1:=idxOK_iff.1 h1
    have hx:=colsT_ok e1 (by omega) s (Nat.le_refl _) hx
    simp only [List.map,sem,TV.av,TV.int?_av e]
    have hle:n.toNat * s+s≤cs.length:=by
     have:(n.toNat+1) * s≤m * s:=Nat.mul_le_mul_right _ (by omega)
     rw [Nat.succ_mul] at this;omega
    refine ⟨(TV.ag xs).av,h1.1,h1.2,?_,by simp only [TV.av]⟩
    rw [Nat.sub_self,Nat.add_zero] at hx
    simp [partAV,TV.avs_map,TV.av,hx,hle,List.map_take,List.map_drop]
   ·exact h.elim
  ·exact h.elim
 ·obtain ⟨y,e,rfl⟩:=oneT_holds h
  simp only [List.map,sem,TV.av,TV.avs_map];exact ⟨_,partT_av e,rfl⟩
 ·split at h
  ·rename_i i j _ a _ b e1 e2
   obtain ⟨e,h1,rfl⟩:=needT_holds h
   have h1:=cutOK_iff.1 h1
   simp only [List.map,sem,TV.av,TV.int?_av e1,TV.int?_av e2,List.length_map]
   exact ⟨Nat.eq_of_beq_eq_true e,h1.1,h1.2.1,h1.2.2,by simp [Nat.eq_of_beq_eq_true e,List.map_take,List.map_drop]⟩
  ·exact h.elim
 ·split at h
  ·rename_i i _ a e1
   obtain ⟨e,h1,rfl⟩:=needT_holds h
   have h1:=cutOK_iff.1 h1
   simp only [List.map,sem,TV.av,TV.int?_av e1,List.length_map]
   exact ⟨Nat.eq_of_beq_eq_true e,h1.1,h1.2.1,by simp [Nat.eq_of_beq_eq_true e,List.map_take,List.map_drop]⟩
  ·exact h.elim
 ·split at h
  ·rename_i i _ a e1
   obtain ⟨e,h1,rfl⟩:=needT_holds h
   have h1:=cutOK_iff.1 h1
   simp only [List.map,sem,TV.av,TV.int?_av e1,List.length_map]
   exact ⟨Nat.eq_of_beq_eq_true e,h1.2.1,h1.2.2,by simp [Nat.eq_of_beq_eq_true e,List.map_take,List.map_drop]⟩
  ·exact h.elim
 ·obtain ⟨e,h⟩:=needT_holds h
  cases h
  simp only [List.map,sem,TV.av]
  exact ⟨Nat.eq_of_beq_eq_true e,by rw [Nat.eq_of_beq_eq_true e]⟩
 ·split at h
  ·rename_i i j _ a _ b e1 e2
   obtain ⟨h1,rfl⟩:=h
   have h1:=cutOK_iff.1 h1
   simp only [List.map,sem,TV.av,strAV,TV.int?_av e1,TV.int?_av e2]
   exact ⟨h1.1,h1.2.1,h1.2.2,by simp [List.take_drop,List.drop_take]⟩
  ·exact h.elim
 ·split at h
  ·rename_i i _ a e1
   obtain ⟨h1,rfl⟩:=h
   have h1:=cutOK_iff.1 h1
   simp only [List.map,sem,TV.av,strAV,TV.int?_av e1]
   exact ⟨h1.1,h1.2.1,by simp⟩
  ·exact h.elim
 ·split at h
  ·rename_i i _ a e1
   obtain ⟨h1,rfl⟩:=h
   have h1:=cutOK_iff.1 h1
   simp only [List.map,sem,TV.av,strAV,TV.int?_av e1]
   exact ⟨h1.2.1,h1.2.2,by simp⟩
  ·exact h.elim
 ·cases h;rfl
 ·obtain ⟨e,h⟩:=needT_holds h;cases h
  simp only [List.map,sem,TV.av,TV.avs_map]
  exact ⟨TV.plain_av _ e,by rw [TV.cells_av _ e]⟩
 ·obtain ⟨y,e,rfl⟩:=oneT_holds h
  simp only [List.map,sem,TV.av,TV.avs_map];exact ⟨_,partT_av e,rfl⟩
 ·obtain ⟨e,h⟩:=needT_holds h;cases h
  simp only [Bool.and_eq_true] at e
  obtain ⟨⟨e1,e2⟩,e3⟩:=e
  simp only [List.map,sem,TV.av,TV.avs_map]
  refine ⟨TV.plain_av _ e1,?_,?_,?_⟩
  ·rw [TV.cells_av _ e1,List.length_map];exact Nat.eq_of_beq_eq_true e2
  ·rw [List.length_map];exact Nat.le_of_ble_eq_true e3
  ·rw [TV.cells_av _ e1,spliceT_av]
 ·obtain ⟨e,h⟩:=needT_holds h;cases h
  simp only [Bool.and_eq_true,beq_iff_eq] at e
  obtain ⟨⟨e1,e2⟩,e3⟩:=e
  simp only [List.map,sem,TV.av]
  refine ⟨?_,?_,trivial⟩
  ·rw [TV.isAg_av _ e1,e2]
  ·rw [TV.cells_av _ e1,List.length_map];exact Nat.eq_of_beq_eq_true e3
 ·cases h;rfl
 ·split at h
  ·rename_i x e
   cases h
   simp only [List.map,sem,TV.av,TV.avs_map];exact ⟨_,partT_av e,rfl⟩
  ·exact h.elim
 ·cases h;rfl
 ·cases h;rfl
 ·obtain ⟨y,e,rfl⟩:=oneT_holds h
  simp only [List.map,sem,TV.av,TV.avs_map];exact ⟨y.av,by simp [e],rfl⟩
 ·split at h
  ·rename_i n e
   obtain ⟨e0,h1,rfl⟩:=needT_holds h
   obtain ⟨rfl,e1,e2⟩:=STy.app_av e
   have h1:=apOK_iff.1 h1
   simp only [List.map,sem,TV.av,List.length_map]
   have e0:=Nat.eq_of_beq_eq_true e0
   exact ⟨e0.symm,e0.symm,by intro x hx;obtain ⟨y,_,rfl⟩:=List.mem_map.1 hx;rw [e0];exact (STy.av_plain _ y).2,h1.1,h1.2,by rw [e1,e0]⟩
  ·exact h.elim
 ·obtain ⟨h1,rfl⟩:=h
  have h1:=apOK_iff.1 h1
  simp only [List.map,sem,TV.av,strAV,List.length_map]
  exact ⟨rfl,h1.1,h1.2,by simp [STy.size];intro _ _;rfl⟩
 ·obtain ⟨e0,h1,rfl⟩:=needT_holds h
  have h1:=apOK_iff.1 h1
  have e0:=Nat.eq_of_beq_eq_true e0
  simp only [List.map,sem,TV.av,List.length_map]
  exact ⟨e0.symm,by intro x hx;obtain ⟨y,_,rfl⟩:=List.mem_map.1 hx;rw [e0];exact (STy.av_plain _ y).2,h1.1,h1.2,by rw [e0]⟩
 ·obtain ⟨h1,rfl⟩:=h
  have h1:=apOK_iff.1 h1
  simp only [List.map,sem,TV.av,strAV]
  exact ⟨h1.1,h1.2,by simp [STy.size];intro _ _;rfl⟩
 ·obtain ⟨h1,rfl⟩:=h;exact ⟨lenOK_iff.1 h1,rfl⟩
 ·cases h;simp only [List.map,sem,TV.av,List.length_map]
 ·split at h
  ·rename_i s i t l k n e
   obtain ⟨e1,h1,rfl⟩:=needT_holds h
   have e1:=Nat.eq_of_beq_eq_true e1
   have h1:=idxOK_iff.1 h1
   simp only [List.map,sem,TV.av,TV.int?_av e,List.length_map]
   exact ⟨e1.symm,h1.1,by omega,trivial⟩
  ·exact h.elim
 ·cases h;rfl
 ·split at h
  ·rename_i s n agg i s' o t l _ x e
   obtain ⟨e1,h1,rfl⟩:=needT_holds h
   simp only [Bool.and_eq_true,decide_eq_true_eq] at e1 h1
   have e2:=Nat.eq_of_beq_eq_true e1.1
   have e3:=Nat.eq_of_beq_eq_true e1.2
   simp only [List.map,sem,TV.av]
   refine ⟨t.av l[i],_,e2,e3.symm,by simp [List.getElem?_eq_getElem h1],?_,rfl⟩
   have:=partElT_av (STy.tv_plain t _) e
   rw [STy.tv_av,List.getD_eq_getElem?_getD,List.getElem?_eq_getElem h1] at this
   exact this
  ·exact h.elim
 ·split at h
  ·rename_i s n i s' o t l x _ y e
   split at h
   ·rename_i _ z e'
    obtain ⟨e1,h1,rfl⟩:=needT_holds h
    simp only [Bool.and_eq_true,decide_eq_true_eq] at e1 h1
    obtain ⟨⟨⟨e2,e3⟩,e4⟩,e5⟩:=e1
    have e2:=Nat.eq_of_beq_eq_true e2
    have e3:=Nat.eq_of_beq_eq_true e3
    have e5:=Nat.eq_of_beq_eq_true e5
    have:=putElT_av (STy.tv_plain t _) e4 e
    rw [STy.tv_av,List.getD_eq_getElem?_getD,List.getElem?_eq_getElem h1,←STy.el_av e'] at this
    simp only [List.map,sem,TV.av]
    refine ⟨t.av l[i],_,e2,e3.symm,by simp [List.getElem?_eq_getElem h1],TV.plain_av _ e4,by rw [TV.cells_av _ e4,List.length_map];exact e5,this,?_⟩
    rw [List.map_set,e3]
   ·exact h.elim
  ·exact h.elim
 ·obtain ⟨e0,h⟩:=needT_holds h;cases h
  have e0:=Nat.eq_of_beq_eq_true e0
  simp only [List.map,sem,TV.av]
  exact ⟨e0.symm,by rw [e0]⟩
 ·split at h
  ·rename_i n e
   obtain ⟨e0,h1,rfl⟩:=needT_holds h
   obtain ⟨rfl,e1,e2⟩:=STy.app_av e
   have h1:=apOK_iff.1 h1
   simp only [List.map,sem,TV.av,List.length_map]
   have e0:=Nat.eq_of_beq_eq_true e0
   exact ⟨e0.symm,e0.symm,h1.1,h1.2,by rw [e1,e0]⟩
  ·exact h.elim
 ·split at h
  ·rename_i n e
   obtain ⟨e0,h1,rfl⟩:=needT_holds h
   obtain ⟨rfl,e1,e2⟩:=STy.app_av e
   have h1:=apOK_iff.1 h1
   simp only [List.map,sem,TV.av,List.length_map]
   have e0:=Nat.eq_of_beq_eq_true e0
   exact ⟨e0.symm,e0.symm,h1.1,h1.2,by rw [e1,e0]⟩
  ·exact h.elim
 ·split at h
  ·rename_i e
   obtain ⟨h1,rfl⟩:=h
   have h1:=idxOK_iff.1 h1
   simp only [List.map,sem,TV.av,TV.int?_av e]
   exact ⟨h1.1,h1.2,trivial⟩
  ·exact h.elim
 ·split at h
  ·rename_i x hx
   obtain ⟨e1,h1,rfl⟩:=needT_holds h
   simp only [Bool.and_eq_true,decide_eq_true_eq] at e1 h1
   obtain ⟨⟨e2,e3⟩,e4⟩:=e1
   have e2:=Nat.eq_of_beq_eq_true e2
   have e3:=Nat.eq_of_beq_eq_true e3
   have e4:=Nat.eq_of_beq_eq_true e4
   subst e3;subst e4
   have hx:=arrT_ok hx h1
   simp only [List.map,sem,TV.av]
   refine ⟨x.av,e2,?_,rfl⟩
   simp [partAV,TV.avs_map,hx]
  ·exact h.elim
 ·cases h
  rename_i l c
  have hc:((c.toNat:Int).toNat).toUInt8=c:=by simp
  simp only [List.map,sem,TV.av,strAV,byteAV,hc,iAV]
 ·exact h.elim
end Go.Eng
namespace Go.Eng
inductive TK where
 | k (x:K)
 | bl (t:STy) (n:Nat)
 | blt (t:STy) (n k:Nat)
 | bd (z:List TV) (pl:List (Nat × Nat))
 | al (m:Nat) (z:List TV) (ts:List (Nat × (Nat × Nat)))
 | mk (d by_:Nat) (t:STy) (z:t.El)
 | nl (t:STy) (d:Nat)
 | bxt (m:Nat) (ts:List (Nat × (Nat × STy)))
 | stt (m o n:Nat) (ts:List (Nat × (Nat × STy)))
abbrev erTs (ts:List (Nat × (Nat × STy))):List (Nat × (Nat × Nat)):=ts.map fun t=>(t.1,t.2.1,t.2.2.size)
def nilAtT (cs:List TV):List (Nat × (Nat × STy))→List TV
 | []=>cs
 | t :: ts=>(nilAtT cs ts).set t.1 (.sl t.2.2 [])
def isNil:Option TV→Bool
 | some (.c (.slice none 0 0))=>true
 | _=>false
def nilsT (cs:List TV):List (Nat × (Nat × STy))→Bool
 | []=>true
 | t :: ts=>isNil cs[t.1]?&&nilsT cs ts
theorem nilsT_av {cs:List TV}:∀{ts:List (Nat × (Nat × STy))},nilsT cs ts=true→(∀t∈erTs ts,(cs.map TV.av)[t.1]?=some .nil)∧(nilAtT cs ts).map TV.av=nilAt (cs.map TV.av) (erTs ts)
 | [],_=>⟨fun _ h=>(by cases h),rfl⟩
 | t :: ts,h=>by
  simp only [nilsT,Bool.and_eq_true] at h
  obtain ⟨h1,h3⟩:=h
  obtain ⟨h4,h5⟩:=nilsT_av h3
  refine ⟨fun u hu=>?_,?_⟩
  ·rcases List.mem_cons.1 hu with rfl | hu
   ·unfold isNil at h1
    split at h1
    ·rename_i e;rw [List.getElem?_map,e];rfl
    ·cases h1
   ·exact h4 u hu
  ·simp only [nilAtT,nilAt,List.map_set,h5,List.map_cons];rfl
def TK.erase:TK→K
 | .k x=>x
 | .bl t n => .bl t.size n
 | .blt t n d => .blt t.size n d
 | .bd z pl => .bd (TV.avs z) pl
 | .al m z ts => .al m (TV.avs z) ts
 | .mk d b t z => .mk d t.size b (t.av z)
 | .nl t d => .nl d t.size
 | .bxt m ts => .bxt m (erTs ts)
 | .stt m o n ts => .stt m o n (erTs ts)
inductive TOpd where
 | s (t:Nat)
 | c (x:TV)
 | g (n:Nat)
def TOpd.erase:TOpd→Opd
 | .s t => .s t
 | .c x => .c x.av
 | .g n => .g n
structure TOp where
 k:TK
 rs:List TOpd
 ds:List Nat
 gd:Option (Nat × Bool):=none
def TOp.erase (m:TOp):MOp:=⟨m.k.erase,m.rs.map TOpd.erase,m.ds,m.gd⟩
inductive TM where
 | skip
 | reg (ops:List TOp)
 | seq (a:TM) (keep:Option (List Nat)) (b:TM)
 | cond (x:TOpd) (G:List (Nat × Gh)) (a b:TM)
 | block (id:Nat) (G:List (Nat × Gh)) (b:TM)
 | loop (keep:List Nat) (G:List (Nat × Gh)) (b:TM)
 | exit (id:Nat)
 | ret
 | sco (b:TM)
 | scp (b:TM)
 | lab (l:Nat) (keep:List Nat) (G:List (Nat × Gh)) (r b:TM)
def TM.erase:TM→M
 | .skip => .skip
 | .reg ops => .reg (ops.map TOp.erase)
 | .seq a _ b => .seq a.erase b.erase
 | .cond x G a b => .cond x.erase G a.erase b.erase
 | .block id G b => .block id G b.erase
 | .loop keep G b => .loop keep G b.erase
 | .exit id => .exit id
 | .ret => .ret
 | .sco b => .sco b.erase
 | .scp b => .scp b.erase
 | .lab l keep G r b => .lab l keep G r.erase b.erase
abbrev Ctr:=List TV→Res
structure TEnv where
 fs:Nat→Ctr × FSig
 gl:Nat→TV
def Ctr.fs (c:Ctr × FSig):FS:=⟨fun ins outs=>∃ti to_,ins=ti.map TV.av∧outs=to_.map TV.av∧(c.1 ti).holds to_,c.2⟩
def TEnv.env (E:TEnv):Env:=⟨fun n=>Ctr.fs (E.fs n),fun n=>(E.gl n).av⟩
abbrev TS:=Nat→TV
abbrev TS.av (τ:TS):Sg:=fun k=>(τ k).av
def setT (τ:TS):List Nat→List TV→TS
 | t :: ts,x :: xs=>fun k=>cond (Nat.beq k t) x (setT τ ts xs k)
 | _,_=>τ
def headT (keep:List Nat) (vals:List TV):TS:=setT (fun _ => .dead) keep vals
theorem setT_av (τ:TS):∀(ts:List Nat) (xs:List TV),(setT τ ts xs).av=updL τ.av ts (xs.map TV.av)
 | t :: ts,x :: xs=>by
  funext k
  simp only [TS.av,setT,List.map_cons,updL,upd]
  rw [←setT_av τ ts xs]
  cases h:Nat.beq k t with
  | true=>rw [if_pos (Nat.eq_of_beq_eq_true h)];rfl
  | false=>rw [if_neg (Nat.ne_of_beq_eq_false h)];rfl
 | [],_=>rfl
 | _ :: _,[]=>rfl
theorem headT_av (keep:List Nat) (vals:List TV):(headT keep vals).av=head keep (vals.map TV.av):=setT_av _ keep vals
def TOpd.ev (E:TEnv) (τ:TS):TOpd→TV
 | .s t=>τ t
 | .c x=>x
 | .g n=>E.gl n
theorem TOpd.ev_av (E:TEnv) (τ:TS) (x:TOpd):x.erase.ev E.env τ.av=(x.ev E τ).av:=by cases x <;> rfl
def CS.insT (c:CS) (vs:List TV):List TV :=
 match c.ref with
 | some (i,_)=>(vs.take c.n).set i (vs.getD (c.n+(c.new.map (·.2)).toList.length) .dead)
 | none=>vs.take c.n
def CS.mainT (c:CS) (outs:List TV):TV :=
 match Nat.beq c.nres 1 with
 | true=>match c.new with
  | some _ => .pt
  | none=>outs.headD .dead
 | false => .tu ((outs.take c.nres).mapIdx fun i x=>cond (c.new.any (·.1 == i)) .pt x)
def CS.refOK (c:CS) (vs:List TV):Bool :=
 match c.ref with
 | some (i,_)=>match vs[i]? with
  | some .pt=>true
  | _=>false
 | none=>true
def CS.give (c:CS) (outs:List TV):List TV:=c.mainT outs :: (outs.drop c.nres++c.lks.map fun _ => .dead)
def callT (C:Ctr) (c:CS) (vs:List TV):Res :=
 match c.refOK vs with
 | true=>match C (c.insT vs) with
  | .ok outs=>needT (Nat.beq outs.length (c.nres+c.mems.length)) (.ok (c.give outs))
  | .if_ p outs=>needT (Nat.beq outs.length (c.nres+c.mems.length)) (.if_ p (c.give outs))
  | .err => .err
 | false => .err
def resT (nres:Nat) (r:Res):Res :=
 match r with
 | .ok outs=>needT (Nat.beq outs.length nres) (.ok [cond (Nat.beq nres 1) (outs.headD .dead) (.tu outs)])
 | .if_ p outs=>needT (Nat.beq outs.length nres) (.if_ p [cond (Nat.beq nres 1) (outs.headD .dead) (.tu outs)])
 | .err => .err
def pcallT (C:Ctr) (n nres i s:Nat) (vs:List TV):Res :=
 match vs[n]?,vs[i]? with
 | some (.sl t l),some .pt=>needT (Nat.beq s t.size) (resT nres (C ((vs.take n).set i (.sl t l))))
 | _,_ => .err
def pcalnT (C:Ctr) (nres i s:Nat) (vs:List TV):Res :=
 match vs[i]? with
 | some (.sl t [])=>needT (Nat.beq s t.size) (resT nres (C vs))
 | _ => .err
def TV.isV:TV→Bool
 | .u8 _=>true
 | .u16 _=>true
 | .u32 _=>true
 | .u64 _=>true
 | .i _ _=>true
 | .b _=>true
 | .s _=>true
 | .c _=>true
 | _=>false
def allV:List TV→Bool
 | []=>true
 | x :: r=>x.isV&&allV r
def resV (nres:Nat) (r:Res):Res :=
 match r with
 | .ok outs=>needT (Nat.beq outs.length nres&&allV outs) (.ok [cond (Nat.beq nres 1) (outs.headD .dead) (.tu outs)])
 | .if_ p outs=>needT (Nat.beq outs.length nres&&allV outs) (.if_ p [cond (Nat.beq nres 1) (outs.headD .dead) (.tu outs)])
 | .err => .err
def rcallT (C:Ctr) (n nres i:Nat) (vs:List TV):Res :=
 match vs[n]?,vs[i]? with
 | some (.ag cs),some .pt=>resV nres (C ((vs.take n).set i (.ro (.ag cs))))
 | _,_ => .err
def sliceT (t:STy) (vs rest:List TV):Res :=
 match t.els vs with
 | some l => .ok (.sl t l :: rest)
 | none => .err
def semT (E:TEnv) (k:TK) (vs:List TV):Res :=
 match k with
 | .k (.call f c)=>callT (E.fs f).1 c vs
 | .k (.pcall f n nres i _ s)=>pcallT (E.fs f).1 n nres i s vs
 | .k (.pcaln f _ nres i s)=>pcalnT (E.fs f).1 nres i s vs
 | .k (.rcall f n nres i _)=>rcallT (E.fs f).1 n nres i vs
 | .k k=>semK k vs
 | .bl t n=>needT (Nat.beq vs.length n) (sliceT t vs [])
 | .blt t n _=>needT (Nat.beq vs.length (n+1)) (sliceT t (vs.take n) [.dead])
 | .bd z pl=>match fillT z pl vs with
  | some cs => .ok [.ag cs]
  | none => .err
 | .al _ z ts => .ok (.pt :: .ag z :: ts.map fun _ => .dead)
 | .mk _ by_ t z=>match vs with
  | [.i .i64 l,.i .i64 c,_] => .if_ (mkOK l c by_) [.sl t (List.replicate l.toNat z),.dead]
  | _ => .err
 | .nl t _=>match vs with
  | [_] => .ok [.sl t [],.dead]
  | _ => .err
 | .bxt _ ts=>match vs with
  | x :: _=>needT (x.plain&&nilsT x.cells ts) (.ok (.pt :: .ag (nilAtT x.cells ts) :: ts.map fun _ => .dead))
  | _ => .err
 | .stt _ o n ts=>match vs with
  | .pt :: .ag cs :: x :: _=>needT (x.plain&&Nat.beq x.cells.length n&&Nat.ble (o+n) cs.length&&nilsT (spliceT cs o x.cells) ts) (.ok (.ag (nilAtT (spliceT cs o x.cells) ts) :: ts.map fun _ => .dead))
  | _ => .err
def cnds:List TV→Option Bool
 | []=>none
 | x :: r=>match x.cnd,cnds r with
  | none,q=>q
  | some p,none=>some p
  | some p,some q=>some (p&&q)
def underT (c:Bool) (q:Option Bool) (r:Res):Res :=
 match r,q with
 | .ok ws,none => .ok (ws.map (.gd c))
 | .ok ws,some q => .if_ (!c || q) (ws.map (.gd c))
 | .if_ p ws,none => .if_ (!c || p) (ws.map (.gd c))
 | .if_ p ws,some q => .if_ (!c || (q&&p)) (ws.map (.gd c))
 | .err,_ => .err
def guardT (τ:TS) (t:Nat) (b:Bool):Option Bool :=
 match τ t with
 | .b x=>some (cond b x (!x))
 | .gd q (.b x)=>some (q&&cond b x (!x))
 | _=>none
def lenT (n:Nat) (r:Res):Res :=
 match r with
 | .ok ws=>needT (Nat.beq ws.length n) (.ok ws)
 | .if_ p ws=>needT (Nat.beq ws.length n) (.if_ p ws)
 | .err => .err
def bareT (k:TK) (vs:List TV):List TV :=
 match k with
 | .k .pick=>match vs with
  | x :: r=>x.bare :: r
  | []=>[]
 | _=>vs.map TV.bare
def cndT (k:TK) (vs:List TV):Option Bool :=
 match k with
 | .k .pick=>match vs with
  | x :: _=>x.cnd
  | []=>none
 | _=>cnds vs
def stepT (E:TEnv) (m:TOp) (τ:TS):Res :=
 match m.gd with
 | none=>lenT m.ds.length (semT E m.k (m.rs.map (TOpd.ev E τ)))
 | some (t,b)=>match guardT τ t b with
  | some c=>lenT m.ds.length (underT c (cndT m.k (m.rs.map (TOpd.ev E τ))) (semT E m.k (bareT m.k (m.rs.map (TOpd.ev E τ)))))
  | none => .err
section
variable {R:Type}
def runT (E:TEnv):List TOp→TS→(TS→Option R)→Option R
 | [],τ,K=>K τ
 | m :: ms,τ,K=>match stepT E m τ with
  | .ok ws=>runT E ms (setT τ m.ds ws) K
  | .if_ p ws=>ck p (runT E ms (setT τ m.ds ws) K)
  | .err=>none
def restr (keep:Option (List Nat)) (τ:TS):TS :=
 match keep with
 | none=>τ
 | some ks=>headT ks (ks.map τ)
abbrev Cont (R:Type):=MX→TS→Option R
def seqK (f:TS→Cont R→Option R) (keep:Option (List Nat)) (K:Cont R):Cont R:=fun e τ =>
 match e with
 | .normal=>f (restr keep τ) K
 | e=>K e τ
def blockK (id:Nat) (K:Cont R):Cont R:=fun e τ =>
 match e with
 | .exit j=>match Nat.beq j id with
  | true=>K .normal τ
  | false=>K (.exit j) τ
 | e=>K e τ
def isN:MX→Bool
 | .normal=>true
 | _=>false
def isG (l:Nat):MX→Bool
 | .exit j=>Nat.beq j (gid l)
 | _=>false
def loopN (f:TS→Cont R→Option R) (tr:MX→Bool) (keep:List Nat):Nat→TS→Cont R→Option R
 | 0,_,_=>none
 | n+1,τ,K=>f τ fun e τ' =>
  match tr e with
  | true=>loopN f tr keep n (headT keep (keep.map τ')) K
  | false=>K e τ'
open Classical in
noncomputable def lim (g:Nat→Option R):Option R:=if h:∃n r,g n=some r then g h.choose else none
noncomputable def loopL (f:TS→Cont R→Option R) (tr:MX→Bool) (keep:List Nat) (τ:TS) (K:Cont R):Option R:=lim fun n=>loopN f tr keep n τ K
noncomputable def loopK (f:TS→Cont R→Option R) (keep:List Nat) (τ:TS) (K:Cont R):Option R:=loopL f isN keep (headT keep (keep.map τ)) K
noncomputable def againK (f:TS→Cont R→Option R) (tr:MX→Bool) (keep:List Nat) (K:Cont R):Cont R:=fun e τ =>
 match tr e with
 | true=>loopL f tr keep (headT keep (keep.map τ)) K
 | false=>K e τ
noncomputable def evO (R:Type) (E:TEnv) (m:TM):TS→Cont R→Option R :=
 TM.rec (motive:=fun _=>TS→Cont R→Option R)
  (fun τ K=>K .normal τ)
  (fun ops τ K=>runT E ops τ (K .normal))
  (fun _ keep _ fa fb τ K=>fa τ (seqK fb keep K))
  (fun x _ _ _ fa fb τ K=>match x.ev E τ with
   | .b t=>cond t (fa τ K) (fb τ K)
   | _=>none)
  (fun id _ _ f τ K=>f τ (blockK id K))
  (fun keep _ _ f τ K=>loopK f keep τ K)
  (fun id τ K=>K (.exit id) τ)
  (fun τ K=>K .ret τ)
  (fun _ f=>f)
  (fun _ f=>f)
  (fun l keep _ _ _ fr fb τ K=>fb τ (againK fr (isG l) keep K)) m
noncomputable def ev (R:Type) (E:TEnv) (m:TM):TS→Cont R→Option R :=
 TM.rec (motive:=fun _=>TS→Cont R→Option R)
  (fun τ K=>K .normal τ)
  (fun ops τ K=>runT E ops τ (K .normal))
  (fun _ keep b fa fb τ K=>match keep with
   | none=>fa τ (seqK fb none K)
   | some ks=>fa τ (seqK (evO R E b) (some ks) K))
  (fun x _ _ _ fa fb τ K=>match x.ev E τ with
   | .b t=>cond t (fa τ K) (fb τ K)
   | _=>none)
  (fun id _ _ f τ K=>f τ (blockK id K))
  (fun keep _ b _ τ K=>loopK (evO R E b) keep τ K)
  (fun id τ K=>K (.exit id) τ)
  (fun τ K=>K .ret τ)
  (fun _ f=>f)
  (fun _ f=>f)
  (fun l keep _ r _ _ fb τ K=>fb τ (againK (evO R E r) (isG l) keep K)) m
theorem ev_eq (E:TEnv) (m:TM):evO R E m=ev R E m:=by
 induction m with
 | skip=>rfl
 | reg ops=>rfl
 | seq a keep b iha ihb =>
  funext τ K
  show evO R E a τ (seqK (evO R E b) keep K)=(match keep with | none=>ev R E a τ (seqK (ev R E b) none K) | some ks=>ev R E a τ (seqK (evO R E b) (some ks) K))
  cases keep with
  | none=>rw [iha,ihb]
  | some ks=>rw [iha]
 | cond x G a b iha ihb =>
  funext τ K
  show (match x.ev E τ with | .b t=>cond t (evO R E a τ K) (evO R E b τ K) | _=>none)=(match x.ev E τ with | .b t=>cond t (ev R E a τ K) (ev R E b τ K) | _=>none)
  rw [iha,ihb]
 | block id G b ih =>
  funext τ K
  show evO R E b τ (blockK id K)=ev R E b τ (blockK id K)
  rw [ih]
 | loop keep G b ih=>rfl
 | exit id=>rfl
 | ret=>rfl
 | sco b ih=>exact ih
 | scp b ih=>exact ih
 | lab l keep G r b ihr ihb =>
  funext τ K
  show evO R E b τ (againK (evO R E r) (isG l) keep K)=ev R E b τ (againK (evO R E r) (isG l) keep K)
  rw [ihb]
def Alg (f:TS→Cont R→Option R):Prop:=∀τ,∃p:Option (MX × TS),∀K:Cont R,f τ K=p.bind fun q=>K q.1 q.2
theorem lim_some {g:Nat→Option R} (hm:∀n r,g n=some r→g (n+1)=some r) {r:R}:lim g=some r ↔ ∃n,g n=some r:=by
 have up:∀n k r,g n=some r→g (n+k)=some r:=by
  intro n k
  induction k with
  | zero=>exact fun r h=>h
  | succ k ih=>exact fun r h=>hm _ _ (ih r h)
 unfold lim
 constructor
 ·intro h
  split at h
  ·rename_i hx;exact ⟨_,h⟩
  ·cases h
 ·rintro ⟨n,hn⟩
  have hx:∃n r,g n=some r:=⟨n,r,hn⟩
  rw [dif_pos hx]
  obtain ⟨r',hr'⟩:=hx.choose_spec
  rw [hr']
  have h1:=up _ n _ hr'
  have h2:=up _ hx.choose _ hn
  rw [Nat.add_comm] at h2
  rw [h1] at h2
  exact h2
theorem lim_congr {g g':Nat→Option R} (hm:∀n r,g n=some r→g (n+1)=some r) (hm':∀n r,g' n=some r→g' (n+1)=some r) (h:∀r,(∃n,g n=some r) ↔ ∃n,g' n=some r):lim g=lim g':=by
 cases e:lim g with
 | some r=>exact ((lim_some hm').2 ((h r).1 ((lim_some hm).1 e))).symm
 | none =>
  cases e':lim g' with
  | none=>rfl
  | some r =>
   have:=(lim_some hm).2 ((h r).2 ((lim_some hm').1 e'))
   rw [e] at this;cases this
theorem loopN_mono {f:TS→Cont R→Option R} (hf:Alg f) {tr:MX→Bool} {keep:List Nat} {K:Cont R}:∀(n:Nat) (τ:TS) (r:R),loopN f tr keep n τ K=some r→loopN f tr keep (n+1) τ K=some r
 | 0,_,_,h=>by cases h
 | n+1,τ,r,h=>by
  obtain ⟨p,hp⟩:=hf τ
  rw [loopN] at h ⊢
  rw [hp] at h ⊢
  cases p with
  | none=>cases h
  | some q =>
   obtain ⟨e,τ'⟩:=q
   simp only [Option.bind_some] at h ⊢
   cases ht:tr e with
   | true=>rw [ht] at h;exact loopN_mono hf n _ r h
   | false=>rw [ht] at h;exact h
theorem loopL_eq {f:TS→Cont R→Option R} (hf:Alg f) (tr:MX→Bool) (keep:List Nat) (τ:TS) (K:Cont R):loopL f tr keep τ K=f τ (againK f tr keep K):=by
 obtain ⟨p,hp⟩:=hf τ
 rw [hp]
 have hN:∀n,loopN f tr keep (n+1) τ K=p.bind fun q=>match tr q.1 with | true=>loopN f tr keep n (headT keep (keep.map q.2)) K | false=>K q.1 q.2:=by
  intro n;rw [loopN,hp]
 cases p with
 | none =>
  cases e:loopL f tr keep τ K with
  | none=>rfl
  | some r =>
   obtain ⟨n,hn⟩:=(lim_some (fun n r=>loopN_mono hf n τ r)).1 e
   cases n with
   | zero=>cases hn
   | succ n=>rw [hN] at hn;cases hn
 | some q =>
  obtain ⟨e,τ'⟩:=q
  simp only [Option.bind_some] at hN ⊢
  cases ht:tr e with
  | true =>
   simp only [againK,ht] at hN ⊢
   refine lim_congr (fun n r=>loopN_mono hf n τ r) (fun n r=>loopN_mono hf n _ r) fun r=>⟨?_,?_⟩
   ·rintro ⟨n,hn⟩
    cases n with
    | zero=>cases hn
    | succ n=>rw [hN] at hn;exact ⟨n,hn⟩
   ·rintro ⟨n,hn⟩
    exact ⟨n+1,by rw [hN];exact hn⟩
  | false =>
   simp only [againK,ht] at hN ⊢
   cases e':K e τ' with
   | none =>
    cases e2:loopL f tr keep τ K with
    | none=>rfl
    | some r =>
     obtain ⟨n,hn⟩:=(lim_some (fun n r=>loopN_mono hf n τ r)).1 e2
     cases n with
     | zero=>cases hn
     | succ n=>rw [hN,e'] at hn;cases hn
   | some r=>exact (lim_some (fun n r=>loopN_mono hf n τ r)).2 ⟨1,by rw [hN,e']⟩
theorem runT_alg (E:TEnv):∀(ms:List TOp) (τ:TS),∃p:Option TS,∀K:TS→Option R,runT E ms τ K=p.bind K
 | [],τ=>⟨some τ,fun K=>rfl⟩
 | m :: ms,τ=>by
  simp only [runT]
  cases h:stepT E m τ with
  | ok ws=>exact runT_alg E ms _
  | if_ p ws =>
   obtain ⟨q,hq⟩:=runT_alg E ms (setT τ m.ds ws)
   cases p with
   | true=>exact ⟨q,fun K=>hq K⟩
   | false=>exact ⟨none,fun K=>rfl⟩
  | err=>exact ⟨none,fun K=>rfl⟩
noncomputable def iterN (P:TS→Option (MX × TS)) (tr:MX→Bool) (keep:List Nat):Nat→TS→Option (MX × TS)
 | 0,_=>none
 | n+1,τ=>(P τ).bind fun q=>match tr q.1 with
  | true=>iterN P tr keep n (headT keep (keep.map q.2))
  | false=>some q
open Classical in
theorem loopL_alg {f:TS→Cont R→Option R} (hf:Alg f) (tr:MX→Bool) (keep:List Nat):Alg (loopL f tr keep):=by
 intro τ
 let P:=fun τ=>(hf τ).choose
 have hP:∀τ K,f τ K=(P τ).bind fun q=>K q.1 q.2:=fun τ=>(hf τ).choose_spec
 have hI:∀n τ K,loopN f tr keep n τ K=(iterN P tr keep n τ).bind fun q=>K q.1 q.2:=by
  intro n
  induction n with
  | zero=>exact fun _ _=>rfl
  | succ n ih =>
   intro τ K
   rw [loopN,iterN,hP]
   cases P τ with
   | none=>rfl
   | some q =>
    simp only [Option.bind_some]
    cases tr q.1 with
    | true=>exact ih _ K
    | false=>rfl
 have hmono:∀n τ q,iterN P tr keep n τ=some q→iterN P tr keep (n+1) τ=some q:=by
  intro n
  induction n with
  | zero=>intro _ _ h;cases h
  | succ n ih =>
   intro τ q h
   rw [iterN] at h ⊢
   cases e:P τ with
   | none=>rw [e] at h;cases h
   | some q' =>
    rw [e] at h
    simp only [Option.bind_some] at h ⊢
    cases ht:tr q'.1 with
    | true=>rw [ht] at h;exact ih _ q h
    | false=>rw [ht] at h;exact h
 by_cases hx:∃n q,iterN P tr keep n τ=some q
 ·obtain ⟨n,q,hq⟩:=hx
  have hge:∀k,iterN P tr keep (n+k) τ=some q:=by
   intro k
   induction k with
   | zero=>exact hq
   | succ k ih=>exact hmono _ _ _ ih
  refine ⟨some q,fun K=>?_⟩
  simp only [Option.bind_some]
  cases e:K q.1 q.2 with
  | some r=>exact (lim_some (fun n r=>loopN_mono hf n τ r)).2 ⟨n,by rw [hI,hq];exact e⟩
  | none =>
   cases e':loopL f tr keep τ K with
   | none=>rfl
   | some r =>
    obtain ⟨m,hm⟩:=(lim_some (fun n r=>loopN_mono hf n τ r)).1 e'
    have:loopN f tr keep (m+n) τ K=some r:=by
     clear e e'
     induction n with
     | zero=>exact hm
     | succ n ih =>
      have up:∀k,loopN f tr keep (m+k) τ K=some r:=by
       intro k
       induction k with
       | zero=>exact hm
       | succ k ih=>exact loopN_mono hf _ _ _ ih
      exact up _
    rw [hI,Nat.add_comm,hge] at this
    simp only [Option.bind_some] at this
    rw [e] at this;cases this
 ·refine ⟨none,fun K=>?_⟩
  cases e':loopL f tr keep τ K with
  | none=>rfl
  | some r =>
   obtain ⟨m,hm⟩:=(lim_some (fun n r=>loopN_mono hf n τ r)).1 e'
   rw [hI] at hm
   cases e:iterN P tr keep m τ with
   | none=>rw [e] at hm;cases hm
   | some q=>exact absurd ⟨m,q,e⟩ hx
theorem loopK_alg {f:TS→Cont R→Option R} (hf:Alg f) (keep:List Nat):Alg (loopK f keep):=fun τ=>loopL_alg hf isN keep _
theorem ev_alg (E:TEnv) (m:TM):Alg (evO R E m):=by
 induction m with
 | skip=>exact fun τ=>⟨some (.normal,τ),fun K=>rfl⟩
 | reg ops =>
  intro τ
  obtain ⟨p,hp⟩:=runT_alg (R:=R) E ops τ
  exact ⟨p.map fun τ=>(.normal,τ),fun K=>by rw [Option.bind_map];exact hp _⟩
 | seq a keep b iha ihb =>
  intro τ
  obtain ⟨p,hp⟩:=iha τ
  cases p with
  | none=>exact ⟨none,fun K=>hp _⟩
  | some q =>
   obtain ⟨e,τ'⟩:=q
   cases e with
   | normal =>
    obtain ⟨p',hp'⟩:=ihb (restr keep τ')
    exact ⟨p',fun K=>(hp _).trans (hp' _)⟩
   | exit i=>exact ⟨some (.exit i,τ'),fun K=>hp _⟩
   | ret=>exact ⟨some (.ret,τ'),fun K=>hp _⟩
 | cond x G a b iha ihb =>
  intro τ
  show ∃p:Option (MX × TS),∀K:Cont R,(match x.ev E τ with | .b t=>cond t (evO R E a τ K) (evO R E b τ K) | _=>none)=_
  split
  ·rename_i t _
   cases t with
   | true=>exact iha τ
   | false=>exact ihb τ
  ·exact ⟨none,fun K=>rfl⟩
 | block id G b ih =>
  intro τ
  obtain ⟨p,hp⟩:=ih τ
  cases p with
  | none=>exact ⟨none,fun K=>hp _⟩
  | some q =>
   obtain ⟨e,τ'⟩:=q
   cases e with
   | normal=>exact ⟨some (.normal,τ'),fun K=>hp _⟩
   | exit i =>
    cases hb:Nat.beq i id with
    | true=>exact ⟨some (.normal,τ'),fun K=>(hp _).trans (by simp only [Option.bind_some,blockK,hb])⟩
    | false=>exact ⟨some (.exit i,τ'),fun K=>(hp _).trans (by simp only [Option.bind_some,blockK,hb])⟩
   | ret=>exact ⟨some (.ret,τ'),fun K=>hp _⟩
 | loop keep G b ih=>exact loopK_alg ih keep
 | exit id=>exact fun τ=>⟨some (.exit id,τ),fun K=>rfl⟩
 | ret=>exact fun τ=>⟨some (.ret,τ),fun K=>rfl⟩
 | sco b ih=>exact ih
 | scp b ih=>exact ih
 | lab l keep G r b ihr ihb =>
  intro τ
  obtain ⟨p,hp⟩:=ihb τ
  cases p with
  | none=>exact ⟨none,fun K=>hp _⟩
  | some q =>
   obtain ⟨e,τ'⟩:=q
   cases ht:isG l e with
   | true =>
    obtain ⟨p',hp'⟩:=loopL_alg ihr (isG l) keep (headT keep (keep.map τ'))
    exact ⟨p',fun K=>(hp _).trans (by simp only [Option.bind_some,againK,ht];exact hp' K)⟩
   | false=>exact ⟨some (e,τ'),fun K=>(hp _).trans (by simp only [Option.bind_some,againK,ht])⟩
theorem ev_loop (E:TEnv) (tr:MX→Bool) (keep:List Nat) (b:TM) (τ:TS) (K:Cont R) :
  loopL (evO R E b) tr keep τ K=ev R E b τ (againK (evO R E b) tr keep K):=by rw [loopL_eq (ev_alg E b),ev_eq]
end
end Go.Eng
namespace Go.Eng
theorem insT_av (c:CS) (vs:List TV):(c.insT vs).map TV.av=c.ins (vs.map TV.av):=by
 unfold CS.insT CS.ins
 cases c.ref with
 | none=>simp [List.map_take]
 | some q =>
  simp only [List.map_set,List.map_take]
  congr 1
  simp only [List.getD_eq_getElem?_getD,List.getElem?_map]
  cases vs[c.n+(c.new.map (·.2)).toList.length]? <;> rfl
theorem mainT_av (c:CS) (outs:List TV):(c.mainT outs).av=c.main (outs.map TV.av):=by
 unfold CS.mainT CS.main
 cases h:Nat.beq c.nres 1 with
 | true =>
  rw [if_pos (Nat.eq_of_beq_eq_true h)]
  cases c.new with
  | some q=>rfl
  | none=>cases outs <;> rfl
 | false =>
  rw [if_neg (Nat.ne_of_beq_eq_false h)]
  simp only [TV.av,TV.avs_map,AV.tu.injEq]
  apply List.ext_getElem?
  intro i
  simp only [List.getElem?_map,List.getElem?_mapIdx,List.getElem?_take]
  split
  ·cases outs[i]? with
   | none=>rfl
   | some x =>
    simp only [Option.map_some,Option.some.injEq]
    cases h:(c.new.any fun q=>q.1 == i) <;> simp
    rfl
  ·rfl
section
variable {E:TEnv}
theorem callT_ok {f:Nat} {c:CS} {vs ws:List TV} (h:(callT (E.fs f).1 c vs).holds ws):sem E.env (.call f c) (vs.map TV.av) (ws.map TV.av):=by
 unfold callT at h
 cases hr:c.refOK vs with
 | false=>rw [hr] at h;exact h.elim
 | true =>
  rw [hr] at h
  have key:∀{outs:List TV},((E.fs f).1 (c.insT vs)).holds outs→Nat.beq outs.length (c.nres+c.mems.length)=true→ws=c.give outs→sem E.env (.call f c) (vs.map TV.av) (ws.map TV.av):=by
   intro outs h1 h2 h3
   subst h3
   refine ⟨?_,outs.map TV.av,⟨_,_,(insT_av c vs).symm,rfl,h1⟩,by rw [List.length_map];exact Nat.eq_of_beq_eq_true h2,?_⟩
   ·unfold CS.refOK at hr
    cases hc:c.ref with
    | none=>trivial
    | some q =>
     rw [hc] at hr
     simp only at hr ⊢
     split at hr
     ·rename_i e;rw [List.getElem?_map,e];rfl
     ·cases hr
   ·simp only [CS.give,List.map_cons,mainT_av,List.map_append,List.map_drop,List.map_map]
    rfl
  simp only at h
  cases hC:(E.fs f).1 (c.insT vs) with
  | ok outs =>
   rw [hC] at h
   obtain ⟨h1,h2⟩:=needT_holds h
   exact key (outs:=outs) (by rw [hC];rfl) h1 h2
  | if_ p outs =>
   rw [hC] at h
   obtain ⟨h1,h2⟩:=needT_holds h
   exact key (outs:=outs) (by rw [hC];exact ⟨h2.1,rfl⟩) h1 h2.2
  | err=>rw [hC] at h;exact h.elim
theorem sliceT_ok {t:STy} {vs rest ws:List TV} (h:(sliceT t vs rest).holds ws):∃l,l.map t.av=vs.map TV.av∧(∀x∈vs.map TV.av,x.plain=true∧x.cells.length=t.size)∧ws = .sl t l :: rest:=by
 unfold sliceT at h
 split at h
 ·rename_i l e
  obtain ⟨h1,h2⟩:=STy.els_av e
  exact ⟨l,h1,h2,h⟩
 ·exact h.elim
theorem resT_ok {C:Ctr} {nres:Nat} {vs ws:List TV} (h:(resT nres (C vs)).holds ws):∃outs,(C vs).holds outs∧outs.length=nres∧ws=[cond (Nat.beq nres 1) (outs.headD .dead) (.tu outs)]:=by
 unfold resT at h
 cases hC:C vs with
 | ok outs =>
  rw [hC] at h
  obtain ⟨h1,h2⟩:=needT_holds h
  exact ⟨outs,rfl,Nat.eq_of_beq_eq_true h1,h2⟩
 | if_ p outs =>
  rw [hC] at h
  obtain ⟨h1,h2⟩:=needT_holds h
  exact ⟨outs,⟨h2.1,rfl⟩,Nat.eq_of_beq_eq_true h1,h2.2⟩
 | err=>rw [hC] at h;exact h.elim
theorem resMain {nres:Nat} (outs:List TV):(cond (Nat.beq nres 1) (outs.headD .dead) (.tu outs):TV).av=if nres=1 then (outs.map TV.av).headD .dead else .tu (outs.map TV.av):=by
 cases h:Nat.beq nres 1 with
 | true=>rw [if_pos (Nat.eq_of_beq_eq_true h)];cases outs <;> rfl
 | false=>rw [if_neg (Nat.ne_of_beq_eq_false h)];simp only [cond_false,TV.av,TV.avs_map]
theorem pcallT_ok {f n nres i k s:Nat} {vs ws:List TV} (h:(pcallT (E.fs f).1 n nres i s vs).holds ws):sem E.env (.pcall f n nres i k s) (vs.map TV.av) (ws.map TV.av):=by
 unfold pcallT at h
 split at h
 ·rename_i t l e1 e2
  obtain ⟨h0,h⟩:=needT_holds h
  obtain ⟨outs,h1,h2,rfl⟩:=resT_ok h
  have h0:=Nat.eq_of_beq_eq_true h0
  refine ⟨l.map t.av,outs.map TV.av,by rw [List.getElem?_map,e1,h0];rfl,by rw [List.getElem?_map,e2];rfl,⟨_,outs,?_,rfl,h1⟩,by simpa using h2,by simp only [List.map_cons,List.map_nil,resMain]⟩
  rw [List.map_set,List.map_take,h0];rfl
 ·exact h.elim
theorem pcalnT_ok {f n nres i s:Nat} {vs ws:List TV} (h:(pcalnT (E.fs f).1 nres i s vs).holds ws):sem E.env (.pcaln f n nres i s) (vs.map TV.av) (ws.map TV.av):=by
 unfold pcalnT at h
 split at h
 ·rename_i t e1
  obtain ⟨h0,h⟩:=needT_holds h
  obtain ⟨outs,h1,h2,rfl⟩:=resT_ok h
  have h0:=Nat.eq_of_beq_eq_true h0
  exact ⟨outs.map TV.av,by rw [List.getElem?_map,e1,h0];rfl,⟨vs,outs,rfl,rfl,h1⟩,by simpa using h2,by simp only [List.map_cons,List.map_nil,resMain]⟩
 ·exact h.elim
theorem allV_ok:∀{l:List TV},allV l=true→∀x∈l.map TV.av,∃y,x = .v y
 | [],_,x,hx=>by cases hx
 | z :: r,h,x,hx=>by
  simp only [allV,Bool.and_eq_true] at h
  rcases List.mem_cons.1 hx with rfl | hx
  ·cases z <;> first | exact ⟨_,rfl⟩ | cases h.1
  ·exact allV_ok h.2 x hx
theorem rcallT_ok {f n nres i m:Nat} {vs ws:List TV} (h:(rcallT (E.fs f).1 n nres i vs).holds ws):sem E.env (.rcall f n nres i m) (vs.map TV.av) (ws.map TV.av):=by
 unfold rcallT at h
 split at h
 ·rename_i cs e1 e2
  have key:∃outs,((E.fs f).1 ((vs.take n).set i (.ro (.ag cs)))).holds outs∧outs.length=nres∧allV outs=true∧ws=[cond (Nat.beq nres 1) (outs.headD .dead) (.tu outs)]:=by
   unfold resV at h
   cases hC:(E.fs f).1 ((vs.take n).set i (.ro (.ag cs))) with
   | ok outs =>
    rw [hC] at h
    obtain ⟨h1,h2⟩:=needT_holds h
    simp only [Bool.and_eq_true] at h1
    exact ⟨outs,rfl,Nat.eq_of_beq_eq_true h1.1,h1.2,h2⟩
   | if_ p outs =>
    rw [hC] at h
    obtain ⟨h1,h2⟩:=needT_holds h
    simp only [Bool.and_eq_true] at h1
    exact ⟨outs,⟨h2.1,rfl⟩,Nat.eq_of_beq_eq_true h1.1,h1.2,h2.2⟩
   | err=>rw [hC] at h;exact h.elim
  obtain ⟨outs,h1,h2,h3,rfl⟩:=key
  refine ⟨cs.map TV.av,outs.map TV.av,by rw [List.getElem?_map,e1];simp only [Option.map_some,TV.av,TV.avs_map],by rw [List.getElem?_map,e2];rfl,⟨_,outs,?_,rfl,h1⟩,by simpa using h2,allV_ok h3,by simp only [List.map_cons,List.map_nil,resMain]⟩
  rw [List.map_set,List.map_take];simp only [TV.av,TV.avs_map]
 ·exact h.elim
theorem semT_ok {k:TK} {vs ws:List TV} (h:(semT E k vs).holds ws):sem E.env k.erase (vs.map TV.av) (ws.map TV.av):=by
 cases k with
 | k x =>
  by_cases hc:∃f c,x = .call f c
  ·obtain ⟨f,c,rfl⟩:=hc
   exact callT_ok h
  ·cases x
   case call f c=>exact (hc ⟨_,_,rfl⟩).elim
   case pcall f n nres i k s=>exact pcallT_ok h
   case pcaln f n nres i s=>exact pcalnT_ok h
   case rcall f n nres i m=>exact rcallT_ok h
   all_goals exact semK_ok _ h
 | bl t n =>
  obtain ⟨h0,h⟩:=needT_holds h
  obtain ⟨l,h1,h2,rfl⟩:=sliceT_ok h
  have h0:=Nat.eq_of_beq_eq_true h0
  simp only [TK.erase,sem,List.map,TV.av,h1,List.length_map]
  exact ⟨h0,h2,trivial⟩
 | blt t n d =>
  obtain ⟨h0,h⟩:=needT_holds h
  obtain ⟨l,h1,h2,rfl⟩:=sliceT_ok h
  have h0:=Nat.eq_of_beq_eq_true h0
  simp only [TK.erase,sem,List.map,TV.av,h1,List.length_map,←List.map_take]
  exact ⟨h0,h2,trivial⟩
 | bd z pl =>
  simp only [semT] at h
  split at h
  ·rename_i cs e
   cases h
   simp only [TK.erase,sem,List.map,TV.av,TV.avs_map]
   exact ⟨_,fillT_av e,rfl⟩
  ·exact h.elim
 | al m z ts =>
  simp only [semT] at h
  cases h
  simp only [TK.erase,sem,List.map_cons,TV.av,List.map_map]
  rfl
 | mk d b t z =>
  simp only [semT] at h
  split at h
  ·obtain ⟨h1,rfl⟩:=h
   obtain ⟨h1,h2,h3,h4⟩:=mkOK_iff.1 h1
   simp only [TK.erase,sem,List.map,TV.av]
   exact ⟨(STy.av_plain _ _).1,(STy.av_plain _ _).2,h1,h2,h3,h4,by simp⟩
  ·exact h.elim
 | nl t d =>
  simp only [semT] at h
  split at h
  ·cases h;rfl
  ·exact h.elim
 | bxt m ts =>
  simp only [semT] at h
  split at h
  ·obtain ⟨e,h⟩:=needT_holds h
   cases h
   simp only [Bool.and_eq_true] at e
   obtain ⟨h1,h2⟩:=nilsT_av e.2
   simp only [TK.erase,sem,List.map_cons,TV.av,TV.avs_map,TV.cells_av _ e.1]
   exact ⟨TV.plain_av _ e.1,h1,by rw [h2];simp only [erTs,List.map_map];rfl⟩
  ·exact h.elim
 | stt m o n ts =>
  simp only [semT] at h
  split at h
  ·obtain ⟨e,h⟩:=needT_holds h
   cases h
   simp only [Bool.and_eq_true] at e
   obtain ⟨⟨⟨e1,e2⟩,e3⟩,e4⟩:=e
   obtain ⟨h1,h2⟩:=nilsT_av e4
   rw [spliceT_av] at h1 h2
   simp only [TK.erase,sem,List.map_cons,TV.av,TV.avs_map,TV.cells_av _ e1,List.length_map]
   exact ⟨TV.plain_av _ e1,Nat.eq_of_beq_eq_true e2,Nat.le_of_ble_eq_true e3,h1,by rw [h2];simp only [erTs,List.map_map];rfl⟩
  ·exact h.elim
theorem cnds_all:∀{l:List TV},(∀q,cnds l=some q→q=true)→∀x∈l,∀q,x.cnd=some q→q=true
 | [],_,_,hx,_,_=>by cases hx
 | y :: r,h,x,hx,q,hq=>by
  simp only [cnds] at h
  rcases List.mem_cons.1 hx with rfl | hx
  ·rw [hq] at h
   cases e:cnds r with
   | none=>rw [e] at h;exact h _ rfl
   | some p=>rw [e] at h;exact (Bool.and_eq_true_iff.1 (h _ rfl)).1
  ·refine cnds_all (l:=r) ?_ x hx q hq
   intro p hp
   rw [hp] at h
   cases e:y.cnd with
   | none=>rw [e] at h;exact h _ rfl
   | some p'=>rw [e] at h;exact (Bool.and_eq_true_iff.1 (h _ rfl)).2
theorem underT_true {c:Bool} {q:Option Bool} {r:Res} {ws:List TV} (h:(underT c q r).holds ws) (hc:c=true):∃vs,r.holds vs∧ws=vs.map (.gd c)∧∀p,q=some p→p=true:=by
 subst hc
 cases r <;> cases q
 ·exact ⟨_,rfl,h,by simp⟩
 ·rename_i vs q
  obtain ⟨h1,rfl⟩:=h
  exact ⟨vs,rfl,rfl,by rintro _ ⟨⟩;simpa using h1⟩
 ·rename_i p vs
  obtain ⟨h1,rfl⟩:=h
  exact ⟨vs,⟨by simpa using h1,rfl⟩,rfl,by simp⟩
 ·rename_i p vs q
  obtain ⟨h1,rfl⟩:=h
  simp at h1
  exact ⟨vs,⟨h1.2,rfl⟩,rfl,by rintro _ ⟨⟩;exact h1.1⟩
 ·exact h.elim
 ·exact h.elim
theorem underT_false {c:Bool} {q:Option Bool} {r:Res} {ws:List TV} (h:(underT c q r).holds ws):∃vs:List TV,ws=vs.map (.gd c):=by
 cases r <;> cases q <;> first | exact ⟨_,h⟩ | exact ⟨_,h.2⟩ | exact h.elim
theorem lenT_holds {n:Nat} {r:Res} {ws:List TV} (h:(lenT n r).holds ws):r.holds ws∧ws.length=n:=by
 cases r with
 | ok vs=>obtain ⟨h1,h2⟩:=needT_holds h;cases h2;exact ⟨rfl,Nat.eq_of_beq_eq_true h1⟩
 | if_ p vs=>obtain ⟨h1,h2⟩:=needT_holds h;obtain ⟨h2,rfl⟩:=h2;exact ⟨⟨h2,rfl⟩,Nat.eq_of_beq_eq_true h1⟩
 | err=>exact h.elim
theorem guardT_ok {τ:TS} {t:Nat} {b c:Bool} (h:guardT τ t b=some c):guardV τ.av (some (t,b))=some c:=by
 unfold guardT at h
 simp only [guardV,TS.av]
 split at h
 ·rename_i x e;cases h;rw [e];cases b <;> cases x <;> rfl
 ·rename_i q x e;cases h;rw [e];cases q <;> cases b <;> cases x <;> rfl
 ·cases h
theorem bareT_av {k:TK} {vs:List TV} (h:∀p,cndT k vs=some p→p=true):(bareT k vs).map TV.av=vs.map TV.av:=by
 have base:(∀p,cnds vs=some p→p=true)→(vs.map TV.bare).map TV.av=vs.map TV.av:=fun h=>by
  rw [List.map_map];exact List.map_congr_left fun x hx=>TV.bare_av (cnds_all h x hx)
 unfold cndT at h
 unfold bareT
 split at h
 ·split at h
  ·simp only [List.map_cons];rw [TV.bare_av h]
  ·rfl
 ·exact base h
theorem stepT_ok {m:TOp} {τ:TS} {ws:List TV} (h:(stepT E m τ).holds ws):stepS E.env m.erase τ.av (setT τ m.ds ws).av:=by
 unfold stepT at h
 have hev:∀l:List TOpd,(l.map TOpd.erase).map (Opd.ev E.env τ.av)=(l.map (TOpd.ev E τ)).map TV.av:=by
  intro l;simp only [List.map_map];exact List.map_congr_left fun x _=>TOpd.ev_av E τ x
 cases hg:m.gd with
 | none =>
  rw [hg] at h
  obtain ⟨h1,h2⟩:=lenT_holds h
  refine ⟨ws.map TV.av,?_,by simpa [TOp.erase] using h2,setT_av _ _ _⟩
  simp only [TOp.erase,hg,guardV,hev]
  exact semT_ok h1
 | some q =>
  obtain ⟨t,b⟩:=q
  rw [hg] at h
  simp only at h
  cases hc:guardT τ t b with
  | none=>rw [hc] at h;exact h.elim
  | some c =>
   rw [hc] at h
   obtain ⟨h1,h2⟩:=lenT_holds h
   refine ⟨ws.map TV.av,?_,by simpa [TOp.erase] using h2,setT_av _ _ _⟩
   simp only [TOp.erase,hg,guardT_ok hc]
   cases c with
   | true =>
    obtain ⟨vs,h3,rfl,h4⟩:=underT_true h1 rfl
    have e1:(vs.map (TV.gd true)).map TV.av=vs.map TV.av:=by simp only [List.map_map];exact List.map_congr_left fun x _=>rfl
    have e2:=bareT_av h4
    simp only [hev,e1,←e2]
    exact semT_ok h3
   | false =>
    obtain ⟨vs,rfl⟩:=underT_false h1
    simp only [List.map_map]
    apply List.ext_getElem?
    intro i
    simp only [List.length_map] at h2
    simp only [List.getElem?_map]
    by_cases hi:i<vs.length
    ·rw [List.getElem?_eq_getElem hi,List.getElem?_eq_getElem (by omega)];rfl
    ·rw [List.getElem?_eq_none (by omega),List.getElem?_eq_none (by omega)];rfl
theorem runT_ok {R:Type} {r:R} {K:TS→Option R}:∀{ms:List TOp} {τ:TS},runT E ms τ K=some r→∃τ':TS,runS E.env (ms.map TOp.erase) τ.av τ'.av∧K τ'=some r
 | [],τ,h=>⟨τ,rfl,h⟩
 | m :: ms,τ,h=>by
  simp only [runT] at h
  cases hs:stepT E m τ with
  | ok ws =>
   rw [hs] at h
   obtain ⟨τ',h1,h2⟩:=runT_ok h
   exact ⟨τ',⟨_,stepT_ok (ws:=ws) (by rw [hs];rfl),h1⟩,h2⟩
  | if_ p ws =>
   rw [hs] at h
   obtain ⟨hp,h⟩:=ck_some.1 h
   obtain ⟨τ',h1,h2⟩:=runT_ok h
   exact ⟨τ',⟨_,stepT_ok (ws:=ws) (by rw [hs];exact ⟨hp,rfl⟩),h1⟩,h2⟩
  | err=>rw [hs] at h;cases h
theorem restr_le (keep:Option (List Nat)) (τ:TS):Le (restr keep τ).av τ.av:=by
 cases keep with
 | none=>exact fun _ => .inl rfl
 | some ks =>
  intro k
  have:∀ks:List Nat,headT ks (ks.map τ) k=τ k∨headT ks (ks.map τ) k = .dead:=by
   intro ks
   induction ks with
   | nil=>exact .inr rfl
   | cons j ks ih =>
    simp only [headT,List.map_cons,setT] at ih ⊢
    cases h:Nat.beq k j with
    | true=>left;rw [Nat.eq_of_beq_eq_true h];rfl
    | false=>exact ih
  rcases this ks with e | e
  ·left;simp only [TS.av,restr,e]
  ·right;simp only [TS.av,restr,e];rfl
theorem agr_map (σ:Sg):∀keep:List Nat,Agr σ keep (keep.map σ)
 | []=>trivial
 | k :: ks=>⟨rfl,agr_map σ ks⟩
theorem ev_ok {R:Type} {r:R} {m:TM}:∀{τ:TS} {K:Cont R},evO R E m τ K=some r→wpm E.env m.erase (fun e σ=>∃τ':TS,σ=τ'.av∧K e τ'=some r) τ.av:=by
 induction m with
 | skip=>exact fun h=>⟨_,rfl,h⟩
 | reg ops =>
  intro τ K h
  obtain ⟨τ',h1,h2⟩:=runT_ok (E:=E) h
  exact ⟨_,h1,τ',rfl,h2⟩
 | seq a keep b iha ihb =>
  intro τ K h
  show wpm E.env a.erase _ τ.av
  refine wpm_mono (m:=a.erase) (Q:=fun e σ=>∃τ':TS,σ=τ'.av∧seqK (evO R E b) keep K e τ'=some r) (fun e σ q=>?_) (iha h)
  obtain ⟨τ',rfl,q⟩:=q
  cases e with
  | normal=>exact ⟨_,restr_le keep τ',ihb q⟩
  | exit i=>exact ⟨τ',rfl,q⟩
  | ret=>exact ⟨τ',rfl,q⟩
 | cond x G a b iha ihb =>
  intro τ K h
  have h:(match x.ev E τ with | .b t=>cond t (evO R E a τ K) (evO R E b τ K) | _=>none)=some r:=h
  split at h
  ·rename_i t e
   refine .inl ⟨t,by rw [TOpd.ev_av,e];rfl,?_,?_⟩
   ·rintro rfl;exact iha h
   ·rintro rfl;exact ihb h
  ·cases h
 | block id G b ih =>
  intro τ K h
  show wpm E.env b.erase _ τ.av
  refine wpm_mono (m:=b.erase) (Q:=fun e σ=>∃τ':TS,σ=τ'.av∧blockK id K e τ'=some r) (fun e σ q=>?_) (ih h)
  obtain ⟨τ',rfl,q⟩:=q
  cases e with
  | normal=>exact ⟨τ',rfl,q⟩
  | exit i =>
   simp only [blockK] at q ⊢
   cases hb:Nat.beq i id with
   | true=>rw [hb] at q;rw [if_pos (Nat.eq_of_beq_eq_true hb)];exact ⟨τ',rfl,q⟩
   | false=>rw [hb] at q;rw [if_neg (Nat.ne_of_beq_eq_false hb)];exact ⟨τ',rfl,q⟩
  | ret=>exact ⟨τ',rfl,q⟩
 | loop keep G b ih =>
  intro τ K h
  have hl:=(lim_some (fun n r=>loopN_mono (ev_alg E b) n _ r)).1 h
  obtain ⟨n,hn⟩:=hl
  refine ⟨{ p:Nat × TS // loopN (evO R E b) isN keep p.1 (headT keep (keep.map p.2)) K=some r },fun p=>keep.map p.1.2.av,fun p=>p.1.1,⟨(n,τ),hn⟩,agr_map _ keep,?_⟩
  rintro ⟨⟨n,τ⟩,hn⟩
  cases n with
  | zero=>cases hn
  | succ n =>
   simp only [loopN] at hn
   have e:head keep (keep.map τ.av)=(headT keep (keep.map τ)).av:=by rw [headT_av,List.map_map];rfl
   simp only
   rw [e]
   refine wpm_mono (fun e σ q=>?_) (ih hn)
   obtain ⟨τ',rfl,q⟩:=q
   cases e with
   | normal=>exact ⟨⟨(n,τ'),q⟩,Nat.lt_succ_self n,agr_map _ keep⟩
   | exit i=>exact ⟨τ',rfl,q⟩
   | ret=>exact ⟨τ',rfl,q⟩
 | exit id=>exact fun h=>⟨_,rfl,h⟩
 | ret=>exact fun h=>⟨_,rfl,h⟩
 | sco b ih=>exact fun h=>ih h
 | scp b ih=>exact fun h=>ih h
 | lab l keep G x b ihx ihb =>
  intro τ K h
  have key:∀{e:MX} {τ':TS},againK (evO R E x) (isG l) keep K e τ'=some r→(e = .exit (gid l)∧∃n,loopN (evO R E x) (isG l) keep n (headT keep (keep.map τ')) K=some r)∨(e ≠ .exit (gid l)∧K e τ'=some r):=by
   intro e τ' q
   simp only [againK] at q
   cases ht:isG l e with
   | true =>
    rw [ht] at q
    left
    cases e <;> simp only [isG,Bool.false_eq_true] at ht
    exact ⟨by rw [Nat.eq_of_beq_eq_true ht],(lim_some (fun n r=>loopN_mono (ev_alg E x) n _ r)).1 q⟩
   | false =>
    rw [ht] at q
    refine .inr ⟨?_,q⟩
    rintro rfl
    simp [isG] at ht
  refine ⟨{ p:Nat × TS // loopN (evO R E x) (isG l) keep p.1 (headT keep (keep.map p.2)) K=some r },fun p=>keep.map p.1.2.av,fun p=>p.1.1,?_,?_⟩
  ·refine wpm_mono (fun e σ q=>?_) (ihb h)
   obtain ⟨τ',rfl,q⟩:=q
   rcases key q with ⟨rfl,n,hn⟩ | ⟨hne,q⟩
   ·simp only [if_true]
    exact ⟨⟨(n,τ'),hn⟩,agr_map _ keep⟩
   ·cases e with
    | exit j =>
     have:j≠gid l:=fun e=>hne (by rw [e])
     simp only [this,if_false]
     exact ⟨τ',rfl,q⟩
    | normal=>exact ⟨τ',rfl,q⟩
    | ret=>exact ⟨τ',rfl,q⟩
  ·rintro ⟨⟨n,τ⟩,hn⟩
   cases n with
   | zero=>cases hn
   | succ n =>
    simp only [loopN] at hn
    have e:head keep (keep.map τ.av)=(headT keep (keep.map τ)).av:=by rw [headT_av,List.map_map];rfl
    simp only
    rw [e]
    refine wpm_mono (fun e σ q=>?_) (ihx hn)
    obtain ⟨τ',rfl,q⟩:=q
    cases ht:isG l e with
    | true =>
     rw [ht] at q
     cases e <;> simp only [isG,Bool.false_eq_true] at ht
     rw [Nat.eq_of_beq_eq_true ht]
     simp only [if_true]
     exact ⟨⟨(n,τ'),q⟩,Nat.lt_succ_self n,agr_map _ keep⟩
    | false =>
     rw [ht] at q
     cases e with
     | exit j =>
      have:j≠gid l:=fun e=>by subst e;simp [isG] at ht
      simp only [this,if_false]
      exact ⟨τ',rfl,q⟩
     | normal=>exact ⟨τ',rfl,q⟩
     | ret=>exact ⟨τ',rfl,q⟩
end
structure TFD where
 np:Nat
 m:TM
 ref:Option (Nat × Nat):=none
 tips:List (Nat × (Nat × Nat)):=[]
 res:List RV
 own:List (Nat × Nat):=[]
 new:Option (Nat × Nat):=none
 tnew:List (Nat × Nat):=[]
 ps:Option (Nat × (Nat × Nat)):=none
def TFD.erase (d:TFD):FD:={ np:=d.np,m:=d.m.erase,ref:=d.ref,tips:=d.tips,res:=d.res,own:=d.own,new:=d.new,tnew:=d.tnew,ps:=d.ps }
def RV.getT (τ:TS):RV→Option TV
 | .t j=>some (τ j)
 | .c a m n agg=>match τ a,τ m with
  | .pt,.ag cs=>partT cs 0 n agg
  | _,_=>none
def outLT (τ:TS):List RV→Option (List TV)
 | []=>some []
 | r :: rs=>match r.getT τ with
  | some x=>match outLT τ rs with
   | some l=>some (x :: l)
   | none=>none
  | none=>none
def TV.isSl:TV→Bool
 | .sl _ _=>true
 | _=>false
def TV.isPt:TV→Bool
 | .pt=>true
 | _=>false
def TFD.outT (d:TFD) (τ:TS):Option (List TV) :=
 match outLT τ d.res with
 | some rs=>cond (d.own.all (fun q=>(rs.getD q.1 .dead).isSl)&&d.new.toList.all (fun q=>(rs.getD q.1 .dead).isPt)) (some (rs++d.new.toList.map (fun q=>τ q.2)++d.ref.toList.map (fun q=>τ q.2)++d.ps.toList.map (fun q=>τ (lk q.2.1)))) none
 | none=>none
def TFD.startT (d:TFD) (ins:List TV):TS :=
 match d.ref with
 | none=>match d.ps with
  | none=>headT (List.range d.np) ins
  | some (i,k,_)=>headT (lk k :: List.range d.np) (ins.getD i .dead :: ins.set i .pt)
 | some (i,m)=>headT (m :: List.range d.np) (ins.getD i .dead :: ins.set i .pt)
def endK (d:TFD):Cont (List TV):=fun e τ =>
 match e with
 | .exit _=>none
 | _=>d.outT τ
noncomputable def TFD.run (E:TEnv) (d:TFD) (ins:List TV):Option (List TV):=ev (List TV) E d.m (d.startT ins) (endK d)
theorem outLT_av {τ:TS}:∀{rs:List RV} {xs:List TV},outLT τ rs=some xs→outL τ.av rs=some (xs.map TV.av)
 | [],xs,h=>by cases h;rfl
 | r :: rs,xs,h=>by
  simp only [outLT] at h
  split at h
  ·rename_i x hx
   split at h
   ·rename_i l hl
    cases h
    have e:r.get τ.av=some x.av:=by
     cases r with
     | t j=>cases hx;rfl
     | c a m n agg =>
      simp only [RV.getT] at hx
      split at hx
      ·rename_i cs e1 e2
       simp only [RV.get,TS.av,e1,e2,TV.av,TV.avs_map]
       exact partT_av hx
      ·cases hx
    simp only [outL,e,outLT_av hl]
    rfl
   ·cases h
  ·cases h
theorem outT_av {d:TFD} {τ:TS} {outs:List TV} (h:d.outT τ=some outs):d.erase.OutS τ.av (outs.map TV.av):=by
 unfold TFD.outT at h
 split at h
 ·rename_i rs hrs
  cases hc:(d.own.all (fun q=>(rs.getD q.1 .dead).isSl)&&d.new.toList.all (fun q=>(rs.getD q.1 .dead).isPt)) with
  | false=>rw [hc] at h;cases h
  | true =>
   rw [hc] at h
   cases h
   simp only [Bool.and_eq_true,List.all_eq_true] at hc
   refine ⟨rs.map TV.av,outLT_av hrs,?_,?_,?_⟩
   ·intro q hq
    have:=hc.1 q hq
    rw [List.getElem?_map]
    rw [List.getD_eq_getElem?_getD] at this
    cases e:rs[q.1]? with
    | none=>rw [e] at this;cases this
    | some x =>
     rw [e] at this
     cases x <;> simp [TV.isSl] at this
     exact ⟨_,_,rfl⟩
   ·intro q hq
    have hq:d.new=some q:=hq
    have:=hc.2 q (by rw [hq];simp)
    rw [List.getElem?_map]
    rw [List.getD_eq_getElem?_getD] at this
    cases e:rs[q.1]? with
    | none=>rw [e] at this;cases this
    | some x =>
     rw [e] at this
     cases x <;> simp [TV.isPt] at this
     rfl
   ·simp only [List.map_append,List.map_map]
    rfl
 ·cases h
theorem startT_av (d:TFD) (ins:List TV):(d.startT ins).av=d.erase.start (ins.map TV.av):=by
 unfold TFD.startT FD.start
 have:d.erase.ref=d.ref:=rfl
 rw [this]
 have:d.erase.ps=d.ps:=rfl
 rw [this]
 cases d.ref with
 | none =>
  cases d.ps with
  | none=>exact headT_av _ _
  | some q =>
   obtain ⟨i,k,s⟩:=q
   simp only [headT_av,List.map_cons,List.map_set]
   congr 2
   simp only [List.getD_eq_getElem?_getD,List.getElem?_map]
   cases ins[i]? <;> rfl
 | some q =>
  obtain ⟨i,m⟩:=q
  simp only [headT_av,List.map_cons,List.map_set]
  congr 2
  simp only [List.getD_eq_getElem?_getD,List.getElem?_map]
  cases ins[i]? <;> rfl
theorem run_ok {E:TEnv} {d:TFD} {ins outs:List TV} (h:d.run E ins=some outs):d.erase.runs E.env (ins.map TV.av) (outs.map TV.av):=by
 have h:ev (List TV) E d.m (d.startT ins) (endK d)=some outs:=h
 rw [←ev_eq] at h
 have:=ev_ok h
 unfold FD.runs
 rw [←startT_av]
 refine wpm_mono (fun e σ q=>?_) this
 obtain ⟨τ',rfl,q⟩:=q
 cases e with
 | exit i=>cases q
 | normal=>exact outT_av q
 | ret=>exact outT_av q
theorem spec_of {P:Program} {E:TEnv} (hE:∀f,SpecOK P E.env.gl f (Ctr.fs (E.fs f))) {f:Nat} {fn:Func} {d:TFD} (hf:P.funcs[f]?=some fn)
  (hc:chkF P (fun n=>(E.fs n).2) fn d.erase=true) {c:Ctr} (hG:∀ins outs,(c ins).holds outs→ins.length=d.np∧d.run E ins=some (outs++d.ps.toList.map fun q=>ins.getD q.1 .dead)):SpecOK P E.env.gl f (Ctr.fs (c,d.erase.sg)):=by
 refine spec_ok (E:=E.env) (sg:=fun n=>(E.fs n).2) (fun n=>⟨hE n,rfl⟩) hf hc rfl ?_
 rintro ins outs ⟨ti,to_,rfl,rfl,h⟩
 obtain ⟨h1,h2⟩:=hG ti to_ h
 refine ⟨by simpa [TFD.erase] using h1,?_⟩
 have:=run_ok h2
 rw [List.map_append,List.map_map] at this
 have e:d.ps.toList.map (TV.av ∘ fun q=>ti.getD q.1 .dead)=d.erase.ps.toList.map fun q=>(ti.map TV.av).getD q.1 .dead:=by
  show _=d.ps.toList.map _
  refine List.map_congr_left fun q _=>?_
  simp only [Function.comp_apply,List.getD_eq_getElem?_getD,List.getElem?_map]
  cases ti[q.1]? <;> rfl
 rwa [e] at this
end Go.Eng
namespace Go.Eng
open Go.RowKit
def Old (w:World):Reach:=fun b _=>b<w.heap.size
theorem calls_of_spec {P:Program} {gl:Nat→AV} {f:Nat} {c:Ctr} {sg:FSig} (hsg:sg={}) (h:SpecOK P gl f (Ctr.fs (c,sg))) {ti:List TV} {xs:List Value} {w:World}
  (hgl:∀n,Rep (Old w) w (gl n) (.pointer (some ⟨n,0,none⟩))) (hc:(c ti).holds [.b true]) (ha:RepT (Old w) w (ti.map TV.av) xs) :
  Calls P f ⟨xs⟩ w fun e w'=>e = .returned (.bool true)∧Below w.heap.size w w':=by
 subst hsg
 refine (h.1 rfl w (Old w) (ti.map TV.av) [.v (.bool true)] xs ⟨ti,[.b true],rfl,rfl,hc⟩ (fun b o hb=>hb) hgl ha).mono ?_
 rintro e w' ⟨x,R',rfl,hx,hr,ho⟩
 obtain ⟨rvs,tr,to_,tn,bn,br,cn,cr,h1,h2,h3,h4,_⟩:=ho
 refine ⟨?_,hx.os,hx.tape,hx.output,hx.size,fun k hk=>hx.heap k hk id⟩
 congr 1
 rw [h2]
 have h1:rvs.length=1:=h1
 match rvs,h1 with
 | [y],_ =>
  have h4:RepT R' w' [.v (.bool true)] [y]:=h4
  cases h4 with
  | cons a _=>cases a;rfl
theorem u8_wf {n:Int} (h:(Lit.int .u8 n).wf=true):((UInt8.ofInt n).toNat:Int)=n:=by
 have hx:0≤n∧n≤255:=by simpa [Lit.wf,IntKind.min,IntKind.max,IntKind.signed,IntKind.bits] using h
 rw [u8_ofInt,wrap_u8'];omega
def noCtr:Ctr × FSig:=(fun _ => .err,{})
theorem spec_none {P:Program} {gl:Nat→AV} {f:Nat}:SpecOK P gl f (Ctr.fs noCtr):=by
 refine ⟨fun _=>?_,fun i s hps=>by cases hps⟩
 intro w R ins outs xs hg
 obtain ⟨ti,to_,_,_,h⟩:=hg
 exact h.elim
def envL (gl:Nat→TV) (l:List (Nat × (Ctr × FSig))):TEnv:=⟨fun n=>look l n,gl⟩
where look:List (Nat × (Ctr × FSig))→Nat→Ctr × FSig
 | [],_=>noCtr
 | (k,c) :: r,n=>cond (Nat.beq n k) c (look r n)
theorem env_ok {P:Program} {gl:Nat→TV} {l:List (Nat × (Ctr × FSig))} (h:∀p∈l,SpecOK P (fun n=>(gl n).av) p.1 (Ctr.fs p.2)):∀f,SpecOK P (envL gl l).env.gl f (Ctr.fs ((envL gl l).fs f)):=by
 intro f
 show SpecOK P (fun n=>(gl n).av) f (Ctr.fs (envL.look l f))
 induction l with
 | nil=>exact spec_none
 | cons p r ih =>
  obtain ⟨k,c⟩:=p
  simp only [envL.look]
  cases hb:Nat.beq f k with
  | true=>rw [Nat.eq_of_beq_eq_true hb];exact h (k,c) (List.mem_cons_self ..)
  | false=>exact ih fun q hq=>h q (List.mem_cons_of_mem _ hq)
theorem meets {P:Program} {gl:Nat→TV} {l:List (Nat × (Ctr × FSig))} (hE:∀p∈l,SpecOK P (fun n=>(gl n).av) p.1 (Ctr.fs p.2)) {f:Nat} {d:TFD}
  (hc:((P.funcs[f]?).any fun fn=>chkF P (fun n=>((envL gl l).fs n).2) fn d.erase)=true) {c:Ctr} (hG:∀ins outs,(c ins).holds outs→ins.length=d.np∧d.run (envL gl l) ins=some (outs++d.ps.toList.map fun q=>ins.getD q.1 .dead)) :
  SpecOK P (fun n=>(gl n).av) f (Ctr.fs (c,d.erase.sg)):=by
 cases hf:P.funcs[f]? with
 | none=>rw [hf] at hc;cases hc
 | some fn =>
  rw [hf] at hc
  exact spec_of (E:=envL gl l) (env_ok hE) hf hc hG
theorem all_nil {A:Type} {p:A→Prop}:∀x∈([]:List A),p x:=fun _ h=>by cases h
theorem all_cons {A:Type} {p:A→Prop} {a:A} {l:List A} (h:p a) (t:∀x∈l,p x):∀x∈a :: l,p x:=fun x hx=>by
 rcases List.mem_cons.1 hx with rfl | hx
 ·exact h
 ·exact t x hx
end Go.Eng
namespace Go.Eng
open Go.RowKit
theorem spec_sub {P:Program} {gl:Nat→AV} {f:Nat} {sg:FSig} {c':Ctr} (h:∀ti to_,(c' ti).holds to_→∃c:Ctr,SpecOK P gl f (Ctr.fs (c,sg))∧(c ti).holds to_):SpecOK P gl f (Ctr.fs (c',sg)):=by
 refine ⟨fun hps w R ins outs xs hG h1 h2 h3=>?_,fun i s hps w R ins outs xs v es hG h1 h2 h3 h4 h5 h6 h7=>?_⟩
 ·obtain ⟨ti,to_,e1,e2,hc⟩:=hG
  obtain ⟨c,hs,hc⟩:=h ti to_ hc
  exact hs.1 hps w R ins outs xs ⟨ti,to_,e1,e2,hc⟩ h1 h2 h3
 ·obtain ⟨ti,to_,e1,e2,hc⟩:=hG
  obtain ⟨c,hs,hc⟩:=h ti to_ hc
  exact hs.2 i s hps w R ins outs xs v es ⟨ti,to_,e1,e2,hc⟩ h1 h2 h3 h4 h5 h6 h7
theorem spec_zero {P:Program} {gl:Nat→AV} {f:Nat} {sg:FSig} {c:Ctr} (h:∀ti to_,¬(c ti).holds to_):SpecOK P gl f (Ctr.fs (c,sg)) :=
 ⟨fun _ _ _ _ _ _ hG=>by obtain ⟨_,_,_,_,hc⟩:=hG;exact (h _ _ hc).elim,fun _ _ _ _ _ _ _ _ _ _ hG=>by obtain ⟨_,_,_,_,hc⟩:=hG;exact (h _ _ hc).elim⟩
theorem lk_eq (j k:Nat):(lk j=lk k)=(j=k):=propext ⟨lk_inj,fun e=>by rw [e]⟩
theorem lk_ne {k n:Nat} (h:n<1000000):(lk k=n)=False:=by have:=lk_ge k;simp;omega
theorem lk_ne' {k n:Nat} (h:n<1000000):(n=lk k)=False:=by have:=lk_ge k;simp;omega
section
variable {E:Env} {Q:MX→Sg→Prop} {σ:Sg}
theorem rg {m:MOp} {ms:List MOp} {ws:List AV} (hg:m.gd=none) (hs:sem E m.k (m.rs.map (Opd.ev E σ)) ws) (hl:ws.length=m.ds.length) (h:wpm E (.reg ms) Q (updL σ m.ds ws)):wpm E (.reg (m :: ms)) Q σ:=by
 obtain ⟨σ',h1,h2⟩:=h
 refine ⟨σ',⟨updL σ m.ds ws,⟨ws,?_,hl,rfl⟩,h1⟩,h2⟩
 rw [hg];exact hs
theorem rg_end (h:Q .normal σ):wpm E (.reg []) Q σ:=⟨σ,rfl,h⟩
theorem sq {a b:M} (h:wpm E a (fun e σ'=>match e with | .normal=>wpm E b Q σ' | e=>Q e σ') σ):wpm E (.seq a b) Q σ:=by
 show wpm E a _ σ
 refine wpm_mono (fun e σ' q=>?_) h
 cases e with
 | normal=>exact ⟨σ',fun _ => .inl rfl,q⟩
 | exit i=>exact q
 | ret=>exact q
end
def cloneA (s:Nat):M := .seq (.reg [⟨.mv,[.s 0],[3],none⟩,⟨.nls,[.s 3],[4],none⟩]) (.cond (.s 4) [] (.seq (.reg [⟨.nl 101 s,[.s (lk 101)],[2,lk 101],none⟩]) .ret) .skip)
def cloneB (s b:Nat):M := .seq (.reg [⟨.blt s 0 102,[.s (lk 102)],[5,lk 102],none⟩,⟨.mv,[.s 0],[6],none⟩,
 ⟨.ap 102 103 s b,[.s 5,.s 6,.s (lk 102),.s (lk 103)],[7,lk 102,lk 103],none⟩,⟨.mv,[.s 7],[2],none⟩]) .ret
def cloneD (s b:Nat):FD:={ np:=1,m := .seq (.reg [⟨.mv,[.c (.sl s [])],[2],none⟩]) (.seq (cloneA s) (cloneB s b)),res:=[.t 2],own:=[(0,s)] }
theorem clone_runs (E:Env) (s b:Nat) (es:List AV) (hc:∀x∈es,x.cells.length=s) (h1:es.length≤maxLen) (h2:es.length * b≤140737488355328):(cloneD s b).runs E [.sl s es] [.sl s es]:=by
 have hB:∀σ:Sg,σ 0 = .sl s es→wpm E (cloneB s b) (fun e σ=>match e with | .exit _=>False | _=>(cloneD s b).OutS σ [.sl s es]) σ:=by
  intro σ h0
  refine sq (rg (ws:=[.sl s [],.dead]) rfl ⟨rfl,fun x hx=>(by cases hx),rfl⟩ rfl ?_)
  refine rg (ws:=[.sl s es]) rfl (by simp [sem,Opd.ev,updL,upd,lk_eq,lk_ne,lk_ne',h0]) rfl ?_
  refine rg (ws:=[.sl s es,.dead,.dead]) rfl ⟨rfl,rfl,hc,by simpa using h1,by simpa using h2,by simp⟩ rfl ?_
  refine rg (ws:=[.sl s es]) rfl rfl rfl ?_
  refine rg_end ?_
  exact ⟨[.sl s es],rfl,fun q hq=>(by simp [cloneD] at hq;subst hq;exact ⟨s,es,rfl⟩),fun q hq=>(by cases hq),rfl⟩
 refine sq (rg (ws:=[.sl s []]) rfl rfl rfl (rg_end ?_))
 refine sq ?_
 refine sq (rg (ws:=[.sl s es]) rfl rfl rfl ?_)
 cases es with
 | nil =>
  refine rg (ws:=[.ab]) rfl rfl rfl (rg_end ?_)
  refine .inr ⟨rfl,?_,?_⟩
  ·refine sq (rg (ws:=[.sl s [],.dead]) rfl rfl rfl (rg_end ?_))
   exact ⟨[.sl s []],rfl,fun q hq=>(by simp [cloneD] at hq;subst hq;exact ⟨s,[],rfl⟩),fun q hq=>(by cases hq),rfl⟩
  ·exact hB _ rfl
 | cons e es =>
  refine rg (ws:=[.v (.bool false)]) rfl rfl rfl (rg_end ?_)
  refine .inl ⟨false,rfl,fun h=>(by cases h),fun _=>?_⟩
  exact hB _ rfl
def clonePA (s:Nat):M := .seq (.reg [⟨.mv,[.s 0],[3],none⟩,⟨.pnl 999999,[.s 3,.s (lk 999999)],[4],none⟩]) (.cond (.s 4) [] (.seq (.reg [⟨.mv,[.c (.sl s [])],[2],none⟩]) .ret) .skip)
def clonePB (s b:Nat):M := .seq (.reg [⟨.blt s 0 102,[.s (lk 102)],[5,lk 102],none⟩,⟨.mv,[.s 0],[6],none⟩,
 ⟨.apq 102 103 999999 s b,[.s 5,.s 6,.s (lk 102),.s (lk 103),.s (lk 999999)],[7,lk 102,lk 103],none⟩,⟨.mv,[.s 7],[2],none⟩]) .ret
def clonePD (s b:Nat):FD:={ np:=1,m := .seq (.reg [⟨.mv,[.c (.sl s [])],[2],none⟩]) (.seq (clonePA s) (clonePB s b)),res:=[.t 2],ps:=some (0,999999,s) }
theorem cloneP_runs (E:Env) (s b:Nat) (es:List AV) (h1:es.length≤maxLen) (h2:es.length * b≤140737488355328):(clonePD s b).runs E [.sl s es] ([.sl s es]++[.sl s es]):=by
 have hB:∀σ:Sg,σ 0 = .pt→σ (lk 999999) = .sl s es→wpm E (clonePB s b) (fun e σ=>match e with | .exit _=>False | _=>(clonePD s b).OutS σ ([.sl s es]++[.sl s es])) σ:=by
  intro σ h0 h9
  refine sq (rg (ws:=[.sl s [],.dead]) rfl ⟨rfl,fun x hx=>(by cases hx),rfl⟩ rfl ?_)
  refine rg (ws:=[.pt]) rfl (by simp [sem,Opd.ev,updL,upd,lk_eq,lk_ne,lk_ne',h0]) rfl ?_
  refine rg (ws:=[.sl s es,.dead,.dead]) rfl ?_ rfl ?_
  ·simp [sem,Opd.ev,updL,upd,lk_eq,lk_ne,lk_ne',h9]
   exact ⟨h1,h2⟩
  refine rg (ws:=[.sl s es]) rfl rfl rfl ?_
  refine rg_end ?_
  refine ⟨[.sl s es],rfl,fun q hq=>(by cases hq),fun q hq=>(by cases hq),?_⟩
  simp [clonePD,updL,upd,lk_eq,lk_ne,lk_ne',h9]
 have hs0:(clonePD s b).start [.sl s es] 0 = .pt:=by simp [clonePD,FD.start,head,updL,upd,lk_eq,lk_ne,lk_ne',List.range,List.range.loop]
 have hs9:(clonePD s b).start [.sl s es] (lk 999999) = .sl s es:=by simp [clonePD,FD.start,head,updL,upd,lk_eq,lk_ne,lk_ne',List.range,List.range.loop]
 have go:∀σ:Sg,σ 0 = .pt→σ (lk 999999) = .sl s es→wpm E (clonePD s b).m (fun e σ=>match e with | .exit _=>False | _=>(clonePD s b).OutS σ ([.sl s es]++[.sl s es])) σ:=by
  intro σ h0 h9
  refine sq (rg (ws:=[.sl s []]) rfl rfl rfl (rg_end ?_))
  refine sq ?_
  refine sq (rg (ws:=[.pt]) rfl (by simp [sem,Opd.ev,updL,upd,h0]) rfl ?_)
  cases es with
  | nil =>
   refine rg (ws:=[.ab]) rfl (by simp [sem,Opd.ev,updL,upd,lk_eq,lk_ne,lk_ne',h9]) rfl (rg_end ?_)
   refine .inr ⟨rfl,?_,?_⟩
   ·refine sq (rg (ws:=[.sl s []]) rfl rfl rfl (rg_end ?_))
    refine ⟨[.sl s []],rfl,fun q hq=>(by cases hq),fun q hq=>(by cases hq),?_⟩
    simp [clonePD,updL,upd,lk_eq,lk_ne,lk_ne',h9]
   ·exact hB _ (by simp [updL,upd,h0]) (by simp [updL,upd,lk_eq,lk_ne,lk_ne',h9])
  | cons e es =>
   refine rg (ws:=[.v (.bool false)]) rfl (by simp [sem,Opd.ev,updL,upd,lk_eq,lk_ne,lk_ne',h9]) rfl (rg_end ?_)
   refine .inl ⟨false,rfl,fun h=>(by cases h),fun _=>?_⟩
   exact hB _ (by simp [updL,upd,h0]) (by simp [updL,upd,lk_eq,lk_ne,lk_ne',h9])
 exact go _ hs0 hs9
def cloneC (t:STy) (b:Nat):Ctr:=fun l=>match l with
 | [.sl t' l]=>if t'=t then .if_ (apOK l.length b) [.sl t' l] else .err
 | _ => .err
theorem STy.av_len (t:STy) (l:List t.El):∀x∈l.map t.av,x.cells.length=t.size:=by
 intro x hx;obtain ⟨y,_,rfl⟩:=List.mem_map.1 hx;exact (t.av_plain y).2
theorem clone_ok {P:Program} {gl:Nat→AV} {t:STy} {b f:Nat} (hc:((P.funcs[f]?).any fun fn=>chkF P (fun _=>{}) fn (cloneD t.size b))=true):SpecOK P gl f (Ctr.fs (cloneC t b,{ own:=[(0,t.size)] })):=by
 cases hf:P.funcs[f]? with
 | none=>rw [hf] at hc;cases hc
 | some fn =>
  rw [hf] at hc
  refine spec_ok (E:=⟨fun _=>Ctr.fs noCtr,gl⟩) (sg:=fun _=>{}) (fun n=>⟨spec_none,rfl⟩) hf hc rfl ?_
  rintro ins outs ⟨ti,to_,rfl,rfl,h⟩
  replace h:(cloneC t b ti).holds to_:=h
  unfold cloneC at h
  split at h
  ·rename_i t' l
   split at h
   ·rename_i e
    subst e
    obtain ⟨h1,rfl⟩:=h
    obtain ⟨h1,h2⟩:=apOK_iff.1 h1
    refine ⟨rfl,?_⟩
    exact clone_runs _ _ _ _ (STy.av_len _ l) (by simpa using h1) (by simpa using h2)
   ·exact h.elim
  ·exact h.elim
theorem cloneP_ok {P:Program} {gl:Nat→AV} {t:STy} {b f:Nat} (hc:((P.funcs[f]?).any fun fn=>chkF P (fun _=>{}) fn (clonePD t.size b))=true):SpecOK P gl f (Ctr.fs (cloneC t b,{ ps:=some (0,t.size) })):=by
 cases hf:P.funcs[f]? with
 | none=>rw [hf] at hc;cases hc
 | some fn =>
  rw [hf] at hc
  refine spec_ok (E:=⟨fun _=>Ctr.fs noCtr,gl⟩) (sg:=fun _=>{}) (fun n=>⟨spec_none,rfl⟩) hf hc rfl ?_
  rintro ins outs ⟨ti,to_,rfl,rfl,h⟩
  replace h:(cloneC t b ti).holds to_:=h
  unfold cloneC at h
  split at h
  ·rename_i t' l
   split at h
   ·rename_i e
    subst e
    obtain ⟨h1,rfl⟩:=h
    obtain ⟨h1,h2⟩:=apOK_iff.1 h1
    refine ⟨rfl,?_⟩
    exact cloneP_runs _ _ _ _ (by simpa using h1) (by simpa using h2)
   ·exact h.elim
  ·exact h.elim
end Go.Eng
namespace Go.Eng
open Go.RowKit
def Opens (P:Program) (n:Nat) (t:TypeId) (A:Type) (g:A→List AV):Prop :=
 ∀(H:Type) (enc:TypeId × Value→H) (w:World) (base:Nat) (spare:Nat→Bool) (held:Bool) (cs:List Value) (x:DataW H × List MemPlace),DataW.trod enc P w base spare held n t cs=some x→∃a:A,RepL (Old w) w (g a) cs
section
variable {P:Program} {n:Nat} {t:TypeId}
theorem opens_int {k:IntKind} (ht:P.underlying t=some (.int k)):Opens P n t Int fun m=>[.v (.int k m)]:=by
 intro H enc w base spare held cs x h
 obtain ⟨m,rfl,_,_⟩:=DataW.trod_int ht h
 exact ⟨m,.cons rfl (.v _) .nil⟩
theorem u64_wf {n:Int} (h:(Lit.int .u64 n).wf=true):((UInt64.ofInt n).toNat:Int)=n:=by
 have hx:0≤n∧n≤18446744073709551615:=by simpa [Lit.wf,IntKind.min,IntKind.max,IntKind.signed,IntKind.bits] using h
 have e:IntKind.u64.wrap n=n % (18446744073709551616:Nat):=by simp [IntKind.wrap,IntKind.bits,IntKind.signed]
 rw [u64_ofInt,e];omega
theorem opens_u64 (ht:P.underlying t=some (.int .u64)):Opens P n t UInt64 fun m=>[u64AV m]:=by
 intro H enc w base spare held cs x h
 obtain ⟨m,rfl,_,hw⟩:=DataW.trod_int ht h
 refine ⟨UInt64.ofInt m,.cons rfl ?_ .nil⟩
 rw [u64AV,u64_wf hw];exact .v _
theorem opens_u8 (ht:P.underlying t=some (.int .u8)):Opens P n t UInt8 fun m=>[byteAV m]:=by
 intro H enc w base spare held cs x h
 obtain ⟨m,rfl,_,hw⟩:=DataW.trod_int ht h
 refine ⟨UInt8.ofInt m,.cons rfl ?_ .nil⟩
 rw [byteAV,u8_wf hw];exact .v _
theorem opens_str (ht:P.underlying t=some .string):Opens P n t Str fun m=>[strAV m]:=by
 intro H enc w base spare held cs x h
 obtain ⟨m,rfl,_,_⟩:=DataW.trod_string ht h
 exact ⟨m.data.toList,.cons rfl (.v _) .nil⟩
theorem opens_slice {e:TypeId} {A:Type} {av:A→AV} {s:Nat} (ht:P.underlying t=some (.slice e)) (hs:P.cellsOf e=s) (hpos:0<s) (hav:∀a,(av a).cells.length=s) (he:∀m,m<n→Opens P m e A fun a=>(av a).cells):Opens P n t (List A) fun l=>[.sl s (l.map av)]:=by
 intro H enc w base spare held cs x h
 rcases DataW.trod_slice ht h with ⟨rfl,_⟩ | ⟨a,len,cap,elems,rest,m,rfl,rfl,_,_,h2,h3,h4,h5,_,_⟩
 ·exact ⟨[],.cons rfl (.nil _) .nil⟩
 ·by_cases h0:len=0
  ·subst h0;exact ⟨[],.cons rfl (.em _ h3) .nil⟩
  ·have get:∀i,i<len→∃ys,w.cells? base (a.add (i * s)) s=some ys∧∃y:A,RepL (Old w) w (av y).cells ys:=fun i hi=>by
    have:=h5 i hi
    rw [hs] at this
    have hlt:i<elems.length:=by omega
    rw [List.getElem?_eq_getElem hlt] at this
    obtain ⟨ys,h6,h7⟩:=Option.bind_eq_some_iff.1 this
    exact ⟨ys,h6,he m (Nat.lt_succ_self m) H enc w base spare held ys _ h7⟩
   have hspot:a.spot=none:=by
    obtain ⟨ys,h6,_⟩:=get 0 (by omega)
    obtain ⟨_,h7,h8⟩:=World.cells?_some h6
    have h9:=h8 0 hpos
    cases hy:ys[0]? with
    | none=>rw [List.getElem?_eq_none_iff] at hy;omega
    | some y=>rw [hy] at h9;simpa [Addr.add] using World.cell?_spot h9
   obtain ⟨b,off,spot⟩:=a
   simp only at hspot
   subst hspot
   have key:∀k i,i+k=len→∃l:List A,l.length=k∧RepE (Old w) w s (l.map av) b (off+i * s):=by
    intro k
    induction k with
    | zero=>exact fun i _=>⟨[],rfl,.nil _ _ _⟩
    | succ k ih =>
     intro i hi
     obtain ⟨l,hl,hE⟩:=ih (i+1) (by omega)
     obtain ⟨ys,h6,y,h7⟩:=get i (by omega)
     obtain ⟨_,h8,h9⟩:=World.cells?_some h6
     refine ⟨y :: l,by simp [hl],.cons (RepAt.write (hav y) h7 (fun j hj=>?_) (fun j z hz=>?_)) ?_⟩
     ·have h10:=h9 j hj
      have hjy:j<ys.length:=by omega
      rw [List.getElem?_eq_getElem hjy] at h10
      have hlt:b<w.heap.size:=by
       by_cases hlt:b<w.heap.size
       ·exact hlt
       ·have:w.heap[b]?=none:=Array.getElem?_eq_none (by omega)
        rw [addr_add,addr_add] at h10
        simp only [World.cell?,this] at h10
        cases h10
      exact hlt
     ·have hj:j<s:=by have:=(List.getElem?_eq_some_iff.1 hz).1;omega
      have h10:=h9 j hj
      rw [hz,addr_add,addr_add] at h10
      exact h10
     ·rw [show off+i * s+s=off+(i+1) * s by rw [Nat.succ_mul];omega];exact hE
   obtain ⟨l,hl,hE⟩:=key len 0 (by omega)
   refine ⟨l,.cons rfl (.sl (by simp [hl]) h2 h3 ?_) .nil⟩
   simpa using hE
def OpensRow (P:Program) (n:Nat) (fs:List (TypeId × Nat)) (off:Nat) (A:Type) (g:A→List AV):Prop :=
 ∀(H:Type) (enc:TypeId × Value→H) (w:World) (base:Nat) (spare:Nat→Bool) (held:Bool) (cs:List Value),(∀f∈fs,∃x:DataW H × List MemPlace,DataW.trod enc P w base spare held n f.1 ((cs.drop f.2).take (P.cellsOf f.1))=some x)→cs.length=off+(fs.map fun f=>P.cellsOf f.1).sum→∃a:A,RepL (Old w) w (g a) (cs.drop off)
theorem row_nil {off:Nat}:OpensRow P n [] off Unit fun _=>[]:=by
 intro H enc w base spare held cs _ hl
 refine ⟨(),?_⟩
 rw [List.drop_of_length_le (by simp at hl;omega)];exact .nil
theorem row_cons {t:TypeId} {fs:List (TypeId × Nat)} {off c:Nat} {A B:Type} {g:A→List AV} {g':B→List AV} (hc:P.cellsOf t=c) (h:Opens P n t A g) (hr:OpensRow P n fs (off+c) B g'):OpensRow P n ((t,off) :: fs) off (A × B) fun p=>g p.1++g' p.2:=by
 subst hc
 intro H enc w base spare held cs hx hl
 obtain ⟨x,h1⟩:=hx (t,off) (List.mem_cons_self ..)
 obtain ⟨a,ha⟩:=h H enc w base spare held _ x h1
 obtain ⟨b,hb⟩:=hr H enc w base spare held cs (fun f' hf'=>hx f' (List.mem_cons_of_mem _ hf')) (by simp only [List.map_cons,List.sum_cons] at hl;omega)
 refine ⟨(a,b),?_⟩
 have e:cs.drop off=(cs.drop off).take (P.cellsOf t)++cs.drop (off+P.cellsOf t):=by
  rw [←List.drop_drop];exact (List.take_append_drop _ _).symm
 rw [e];exact ha.append hb
theorem opens_struct {fs:Array Field} {l:List (TypeId × Nat)} {A B:Type} {g:A→List AV} {g':B→List AV} (ht:P.underlying t=some (.struct fs)) (hl:(fs.toList.map fun f=>(f.type,f.offset))=l) (hc:P.cellsOf t=(l.map fun f=>P.cellsOf f.1).sum) (hr:∀m,m<n→OpensRow P m l 0 A g) (f:A→B) (hf:∀a,g a=g' (f a)):Opens P n t B g':=by
 intro H enc w base spare held cs x h
 obtain ⟨xs,m,rfl,_,h1,h2,h3⟩:=DataW.trod_struct ht h
 obtain ⟨a,ha⟩:=hr m (Nat.lt_succ_self m) H enc w base spare held cs (fun p hp=>by
  rw [←hl] at hp
  obtain ⟨f,hf,rfl⟩:=List.mem_map.1 hp
  obtain ⟨i,hi⟩:=List.getElem?_of_mem hf
  have hlt:=(List.getElem?_eq_some_iff.1 hi).1
  have:=h3 i f (by simpa using hi)
  have hlt':i<xs.length:=by rw [h2];simpa using hlt
  rw [List.getElem?_eq_getElem hlt'] at this
  exact ⟨_,this⟩) (by rw [h1,hc];simp)
 exact ⟨f a,by rw [←hf];simpa using ha⟩
def fieldsOf (P:Program) (t:TypeId):Option (List (TypeId × Nat)):=match P.underlying t with
 | some (.struct fs)=>some (fs.toList.map fun f=>(f.type,f.offset))
 | _=>none
theorem fieldsOf_spec {l:List (TypeId × Nat)} (h:fieldsOf P t=some l):∃fs,P.underlying t=some (.struct fs)∧(fs.toList.map fun f=>(f.type,f.offset))=l:=by
 unfold fieldsOf at h
 split at h
 ·rename_i fs e;cases h;exact ⟨fs,e,rfl⟩
 ·cases h
structure ValTys (P:Program) (tv tf tk ti tu ts tb ty:TypeId):Prop where
 v:fieldsOf P tv=some [(ti,0),(tu,1),(tu,2),(tu,3),(ts,4),(ts,5),(ti,6),(tb,7),(tk,8)]
 f:fieldsOf P tf=some [(ts,0),(tv,1)]
 k:P.underlying tk=some (.slice tf)
 i:P.underlying ti=some (.int .i64)
 u:P.underlying tu=some (.int .u64)
 s:P.underlying ts=some .string
 b:P.underlying tb=some (.slice ty)
 y:P.underlying ty=some (.int .u8)
 cv:P.cellsOf tv=9
 cf:P.cellsOf tf=10
 ck:P.cellsOf tk=1
 ci:P.cellsOf ti=1
 cu:P.cellsOf tu=1
 cs:P.cellsOf ts=1
 cb:P.cellsOf tb=1
 cy:P.cellsOf ty=1
def Val.avs (v:Val):List AV:=(Val.cells v).map TV.av
theorem opens_bytes {y:TypeId} (ht:P.underlying t=some (.slice y)) (hy:P.underlying y=some (.int .u8)) (hc:P.cellsOf y=1):Opens P n t Str fun l=>[bytesAV l] :=
 opens_slice (av:=byteAV) ht hc (by omega) (fun _=>rfl) fun _ _=>opens_u8 hy
theorem ValTys.val {tv tf tk ti tu ts tb ty:TypeId} (T:ValTys P tv tf tk ti tu ts tb ty):∀n,Opens P n tv Val Val.avs∧Opens P n tf Fld fun f=>(fldAV f).cells:=by
 intro n
 induction n using Nat.strongRecOn with
 | _ n ih =>
  have hv:∀m,m≤n→(∀k,k<m→Opens P k tf Fld fun f=>(fldAV f).cells)→Opens P m tv Val Val.avs:=fun m hm ihf=>by
   obtain ⟨fs,h1,h2⟩:=fieldsOf_spec T.v
   have R:=fun (k:Nat) (hk:k<m)=>(row_cons (off:=0) T.ci (opens_int T.i) (row_cons T.cu (opens_u64 T.u) (row_cons T.cu (opens_u64 T.u) (row_cons T.cu (opens_u64 T.u) (row_cons T.cs (opens_str T.s) (row_cons T.cs (opens_str T.s) (row_cons T.ci (opens_int T.i) (row_cons T.cb (opens_bytes T.b T.y T.cy)
     (row_cons T.ck (opens_slice (av:=fldAV) T.k T.cf (by omega) (fun f=>by cases f;rfl) fun j hj=>ihf j (by omega)) row_nil)))))))):OpensRow P k _ 0 _ _)
   exact opens_struct h1 h2 (by simp [T.cv,T.ci,T.cu,T.cs,T.cb,T.ck]) R (fun a=>(⟨a.1,a.2.1,a.2.2.1,a.2.2.2.1,a.2.2.2.2.1,a.2.2.2.2.2.1,a.2.2.2.2.2.2.1,a.2.2.2.2.2.2.2.1,a.2.2.2.2.2.2.2.2.1⟩:Val)) (fun a=>rfl)
  refine ⟨hv n (Nat.le_refl n) fun k hk=>(ih k hk).2,?_⟩
  obtain ⟨fs,h1,h2⟩:=fieldsOf_spec T.f
  have R:=fun (k:Nat) (hk:k<n)=>(row_cons (off:=0) T.cs (opens_str T.s) (row_cons T.cv (hv k (by omega) fun j hj=>(ih j (by omega)).2) row_nil):OpensRow P k _ 0 _ _)
  exact opens_struct h1 h2 (by simp [T.cf,T.cv,T.cs]) R (fun a=>Fld.of a.1 a.2.1) (fun a=>by
   simp [fldAV,Fld.of,AV.cells,Val.avs,Val.cells,TV.av,fldsAV_map,STy.size,STy.av,strAV,iAV,u64AV,bytesAV])
theorem ValTys.rep {tv tf tk ti tu ts tb ty:TypeId} (T:ValTys P tv tf tk ti tu ts tb ty) {H:Type} {enc:TypeId × Value→H} {w:World} {base:Nat} {spare:Nat→Bool} {held:Bool} {cs:Array Value} {d:DataW H} {p:List MemPlace} (h:DataW.Trod enc P w base spare held tv (.agg cs) d p) :
  ∃v:Val,Rep (Old w) w (TV.av (.ag (Val.cells v))) (.agg cs):=by
 obtain ⟨n,h⟩:=h
 obtain ⟨v,hv⟩:=(T.val n).1 H enc w base spare held _ _ h
 refine ⟨v,?_⟩
 simp only [TV.av,TV.avs_map]
 exact .ag (by have hv:RepL (Old w) w (v.cells.map TV.av) _:=hv;simpa [Value.cells] using hv)
end
end Go.Eng
namespace Go.Eng
open Go.IntWalk
theorem ck_of {R:Type} {p:Bool} {x:Option R} (h:p=true):ck p x=x:=by rw [h];rfl
theorem ck4 (a b:Bool):(!a || (a&&(b || (a&&!b))))=true:=by cases a <;> cases b <;> rfl
theorem ck5 (a b:Bool):(!a || (a&&(!b || (a&&b))))=true:=by cases a <;> cases b <;> rfl
theorem maxLen_eq:maxLen=9223372036854775807:=by decide
theorem big_len {n:Nat} (h:n≤1099511627776):lenOK n=true:=lenOK_iff.2 (by rw [maxLen_eq];omega)
theorem big_ap {n b:Nat} (h:n * b≤140737488355328) (h2:n≤140737488355328):apOK n b=true:=apOK_iff.2 ⟨by rw [maxLen_eq];omega,h⟩
theorem idx_ok {n:Int} {l:Nat} (h0:0≤n) (h1:n<l):idxOK n l=true:=idxOK_iff.2 ⟨h0,h1⟩
theorem cut_ok {a b:Int} {l:Nat} (h0:0≤a) (h1:a≤b) (h2:b≤l):cutOK a b l=true:=cutOK_iff.2 ⟨h0,h1,h2⟩
theorem ofInt_nat64 (n:Nat):(BitVec.ofInt 64 (n:Int))=BitVec.ofNat 64 n:=by
 apply BitVec.eq_of_toNat_eq;rw [BitVec.toNat_ofInt,BitVec.toNat_ofNat];omega
theorem and_i64 (a b:Nat) (ha:a<9223372036854775808) (hb:b<9223372036854775808):intBitsV .and .i64 a b=((a &&& b:Nat):Int):=by
 have h1:a &&& b≤a:=Nat.and_le_left
 have e:intBitsV .and .i64 a b=IntKind.i64.wrap (((BitVec.ofInt 64 (a:Int) &&& BitVec.ofInt 64 (b:Int)).toNat:Nat):Int):=rfl
 rw [e,ofInt_nat64,ofInt_nat64,BitVec.toNat_and,BitVec.toNat_ofNat,BitVec.toNat_ofNat,Nat.mod_eq_of_lt (by omega),Nat.mod_eq_of_lt (by omega)]
 exact i64_in _ (by omega)
theorem or_lt {a b k:Nat} (ha:a<2 ^ k) (hb:b<2 ^ k):a ||| b<2 ^ k:=Nat.or_lt_two_pow ha hb
theorem or_i64 (a b:Nat) (ha:a<9223372036854775808) (hb:b<9223372036854775808):intBitsV .or .i64 a b=((a ||| b:Nat):Int):=by
 have h1:a ||| b<9223372036854775808:=or_lt (k:=63) (by simpa using ha) (by simpa using hb)
 have e:intBitsV .or .i64 a b=IntKind.i64.wrap (((BitVec.ofInt 64 (a:Int) ||| BitVec.ofInt 64 (b:Int)).toNat:Nat):Int):=rfl
 rw [e,ofInt_nat64,ofInt_nat64,BitVec.toNat_or,BitVec.toNat_ofNat,BitVec.toNat_ofNat,Nat.mod_eq_of_lt (by omega),Nat.mod_eq_of_lt (by omega)]
 exact i64_in _ (by omega)
theorem or_add {a b k:Nat} (hb:b<2 ^ k):(a * 2 ^ k) ||| b=a * 2 ^ k+b:=by
 rw [←Nat.shiftLeft_eq,Nat.shiftLeft_add_eq_or_of_lt hb]
theorem drop_cons {α:Type} {l:List α} {i:Nat} (hi:i<l.length) (d:α):l.drop i=l.getD i d :: l.drop (i+1):=by
 rw [List.drop_eq_getElem_cons hi,List.getD_eq_getElem?_getD,List.getElem?_eq_getElem hi];rfl
theorem u64_nat (n:Nat):(UInt64.ofInt (n:Int)).toNat=n % 18446744073709551616:=by
 have h:=u64_ofInt (n:Int)
 rw [wrap_u64'] at h;omega
theorem u8_nat (n:Nat):(UInt8.ofInt (n:Int)).toNat=n % 256:=by
 have h:=u8_ofInt (n:Int)
 rw [wrap_u8'] at h;omega
end Go.Eng
namespace Go.Eng
namespace Utf
def isRune (r:Int):Bool:=decide (0≤r∧r≤1114111∧(r<55296∨57343<r))
def cont:Nat→Nat→Str→Option Nat
 | r,0,_=>some r
 | _,_+1,[]=>none
 | r,k+1,c :: l=>if 128≤c.toNat∧c.toNat<192 then cont (r * 64+(c.toNat - 128)) k l else none
def multi (r more least:Nat) (l:Str):Int × Int :=
 match cont r more l with
 | some r=>if r<least∨isRune r=false then (0,0) else ((r:Int),(more+1:Int))
 | none=>(0,0)
def rune:Str→Int × Int
 | []=>(0,0)
 | c :: l =>
  if c.toNat<128 then ((c.toNat:Int),1)
  else if 192≤c.toNat∧c.toNat<224 then multi (c.toNat - 192) 1 128 l
  else if 224≤c.toNat∧c.toNat<240 then multi (c.toNat - 224) 2 2048 l
  else if 240≤c.toNat∧c.toNat<248 then multi (c.toNat - 240) 3 65536 l
  else (0,0)
def runeAt (b:Str) (i:Int):Int × Int:=if i<0∨(b.length:Int)≤i then (0,0) else rune (b.drop i.toNat)
def lookN:Nat→Str→Nat × Nat
 | 0,_=>(0,0)
 | n+1,l=>if (rune l).2=0 then (0,0) else let q:=lookN n (l.drop (rune l).2.toNat);(q.1+(rune l).2.toNat,q.2+1)
def look (l:Str):Nat × Nat:=lookN l.length l
def whole (l:Str):Bool:=decide ((look l).1=l.length)
def zero (l:Str):Bool:=l.contains 0
end Utf
end Go.Eng
namespace Go.Eng
mutual
def Fld.bulk:Fld→Nat
 | .mk n _ _ _ _ t m _ y ks=>1+n.length+t.length+m.length+y.length+Fld.bulks ks
def Fld.bulks:List Fld→Nat
 | []=>0
 | f :: r=>Fld.bulk f+Fld.bulks r
end
namespace Tree
def nameTable:List Str:=[[],[100,111,117,98,108,101],[115,116,114,105,110,103],[100,111,99,117,109,101,110,116],[97,114,114,97,121],[98,105,110,97,114,121],[117,110,100,101,102,105,110,101,100],[111,98,106,101,99,116,105,100],[98,111,111,108],[100,97,116,101],[110,117,108,108],[114,101,103,101,120],[112,111,105,110,116,101,114],[99,111,100,101],[115,121,109,98,111,108],[115,99,111,112,101,100],[105,110,116,51,50],[116,105,109,101,115,116,97,109,112],[105,110,116,54,52],[100,101,99,105,109,97,108]]
def name (k:Int):Str :=
 if k=127 then [109,97,120,107,101,121]
 else if k=255 then [109,105,110,107,101,121]
 else if k<0∨20≤k then []
 else nameTable.getD k.toNat []
def kinds:List Int:=[1,2,3,4,5,6,7,8,9,10,11,12,13,14,15,16,17,18,19,127,255]
def kind (s:Str):Int × Bool :=
 match kinds.find? (fun k=>decide (name k=s)) with
 | some k=>(k,true)
 | none=>(0,false)
def hasN (i:Nat) (k:Int):Bool :=
 match i with
 | 0=>decide (k∈[1,9,17,18,16,8])
 | 1=>decide (k=19)
 | 2=>decide (k∈[2,13,14,11,12,15])
 | 3=>decide (k=11)
 | 4=>decide (k=5)
 | 5=>decide (k∈[5,7,12])
 | _=>decide (k∈[3,4,15])
def fieldsOK (v:Val):Bool :=
 (hasN 0 v.kind || decide (v.bits=0))&&(hasN 1 v.kind || (decide (v.high=0)&&decide (v.low=0)))&&(hasN 2 v.kind || decide (v.text=[]))&&(hasN 3 v.kind || decide (v.more=[])) &&
 (hasN 4 v.kind || decide (v.sub=0))&&(hasN 5 v.kind || decide (v.bytes=[]))&&(hasN 6 v.kind || decide (v.kids=[])) &&
 (!decide (v.kind=16) || decide (v.bits<4294967296))&&(!decide (v.kind=8) || decide (v.bits<2))&&(decide (0≤v.sub)&&decide (v.sub≤255))&&(!(decide (v.kind=7) || decide (v.kind=12)) || decide (v.bytes.length=12))
def wholeT (s:Str) (plain:Bool):Bool:=Utf.whole s&&!(plain&&Utf.zero s)
def own (v:Val):Int :=
 if name v.kind=[] then 5
 else if fieldsOK v=false then 1
 else if wholeT v.text (decide (v.kind=11))=false∨wholeT v.more (decide (v.kind=11))=false then 4
 else 0
def ownN (v:Val) (n:Str):Int:=if own v≠0 then own v else if wholeT n true=false then 4 else 0
mutual
def chkF:Fld→List Int→List Int × Int
 | .mk n k b h l t m s y ks,p=>if ownN ⟨k,b,h,l,t,m,s,y,ks⟩ n≠0 then (p,ownN ⟨k,b,h,l,t,m,s,y,ks⟩ n) else chkL ks 0 p
def chkL:List Fld→Nat→List Int→List Int × Int
 | [],_,_=>([],0)
 | f :: r,i,p=>if (chkF f (p++[(i:Int)])).2≠0 then chkF f (p++[(i:Int)]) else chkL r (i+1) p
end
mutual
def count:Fld→Nat
 | .mk _ _ _ _ _ _ _ _ _ ks=>1+countL ks
def countL:List Fld→Nat
 | []=>0
 | f :: r=>count f+countL r
end
mutual
def depth:Fld→Nat
 | .mk _ k _ _ _ _ _ _ _ ks=>if k=3∨k=4∨k=15 then depthL ks+1 else 0
def depthL:List Fld→Nat
 | []=>0
 | f :: r=>max (depth f) (depthL r)
end
noncomputable def same (a b:Val):Bool:=@decide (a=b) (Classical.propDecidable _)
def ownSame (a b:Val):Bool:=decide (a.kind=b.kind)&&decide (a.bits=b.bits)&&decide (a.high=b.high)&&decide (a.low=b.low)&&decide (a.text=b.text)&&decide (a.more=b.more)&&decide (a.sub=b.sub)&&decide (a.bytes=b.bytes)
end Tree
namespace Book
def room (left:Int):List Int→Int
 | []=>left
 | s :: r=>if left<0∨left<s then -1 else room (left - s) r
mutual
def value (left:Int):Fld→Int
 | .mk _ _ _ _ _ t m _ y ks=>values (room left [2,t.length,m.length,y.length]) ks
def values (left:Int):List Fld→Int
 | []=>left
 | f :: r=>if left<0 then left else values (value (room left [(f.name.length:Int)]) f) r
end
end Book
end Go.Eng
namespace Go.Eng
open Go.RowKit
theorem below_ext {w w':World} {R:Reach} (hR:∀b o,R b o→b<w.heap.size) (h:Below w.heap.size w w'):Ext w R (fun _=>False) w' R :=
 ⟨h.os,h.tape,h.output,h.size,fun b hb _=>h.block b hb,fun b o hr=>⟨hr,by simp only [World.cell?,h.block b (hR b o hr)]⟩,fun b o hr => .inl hr⟩
theorem spec_plain {P:Program} {gl:Nat→AV} {f:Nat} {c:Ctr} (h:∀(ti to_:List TV) (w:World) (R:Reach) (xs:List Value),(c ti).holds to_→RepT R w (ti.map TV.av) xs→(∀b o,R b o→b<w.heap.size)→(∀n,Rep R w (gl n) (.pointer (some ⟨n,0,none⟩))) →
  Calls P f ⟨xs⟩ w fun e w'=>∃x,e = .returned x∧Below w.heap.size w w'∧∀R w',RepT R w' (to_.map TV.av) [x]):SpecOK P gl f (Ctr.fs (c,{})):=by
 refine ⟨fun _ w R ins outs xs hG hR hgl ha=>?_,fun _ _ h=>by cases h⟩
 obtain ⟨ti,to_,rfl,rfl,hc⟩:=hG
 refine (h ti to_ w R xs hc ha hR hgl).mono ?_
 rintro e w' ⟨x,rfl,hb,hx⟩
 refine ⟨x,R,rfl,below_ext hR hb,fun b o hr=>Nat.lt_of_lt_of_le (hR b o hr) hb.size,?_⟩
 have hl:to_.length=1:=by
  have:=(hx R w').length
  simpa using this
 refine ⟨[x],[],[],[],0,0,[],[],rfl,rfl,by simp [hl,Ctr.fs],?_,fun j hj=>by simp [Ctr.fs] at hj,fun j hj=>by simp [Ctr.fs] at hj,rfl,rfl,rfl,?_,?_,?_,?_,?_,?_⟩
 ·have e:(List.mapIdx (fun i y=>if (Ctr.fs (c,{})).sg.new=some i then AV.pt else y) ((to_.map TV.av).take (Ctr.fs (c,{})).sg.nres))=to_.map TV.av:=by
   match to_,hl with
   | [a],_=>rfl
  rw [e];exact hx R w'
 all_goals intros
 all_goals simp_all [Ctr.fs,owners]
def wkCell (t:STy):TV→TV
 | .c (.slice none 0 0) => .sl t []
 | v=>v
def wkCells:List (Nat × STy)→List TV→List TV
 | [],vs=>vs
 | (k,t) :: r,vs=>wkCells r (vs.modify k (wkCell t))
def wkA (l:List (Nat × STy)):TV→TV
 | .ag vs => .ag (wkCells l vs)
 | v=>v
def wkAt:Nat→List (Nat × STy)→List TV→List TV
 | _,_,[]=>[]
 | 0,l,v :: r=>wkA l v :: r
 | j+1,l,v :: r=>v :: wkAt j l r
def wkC (j:Nat) (l:List (Nat × STy)) (c:Ctr):Ctr:=fun ti=>c (wkAt j l ti)
section
variable {R:Reach} {w:World}
theorem wkCell_rep {t:STy} {v:TV} {x:Value} (h:Rep R w v.av x):Rep R w (wkCell t v).av x:=by
 unfold wkCell
 split
 ·have h:Rep R w (.v (.slice none 0 0)) x:=h
  cases h;exact .nil _
 ·exact h
theorem wkModify_rep {t:STy}:∀(k:Nat) {vs:List TV} {ys:List Value},RepL R w (vs.map TV.av) ys→RepL R w ((vs.modify k (wkCell t)).map TV.av) ys
 | _,[],_,h=>by simpa using h
 | 0,v :: r,_,h=>by
  simp only [List.map_cons] at h
  cases h with | cons a b c=>simp only [List.modify_zero_cons,List.map_cons];exact .cons a (wkCell_rep b) c
 | k+1,v :: r,_,h=>by
  simp only [List.map_cons] at h
  cases h with | cons a b c=>simp only [List.modify_succ_cons,List.map_cons];exact .cons a b (wkModify_rep k c)
theorem wkCells_rep:∀(l:List (Nat × STy)) {vs:List TV} {ys:List Value},RepL R w (vs.map TV.av) ys→RepL R w ((wkCells l vs).map TV.av) ys
 | [],_,_,h=>h
 | (k,t) :: r,_,_,h=>wkCells_rep r (wkModify_rep k h)
theorem wkA_rep {l:List (Nat × STy)} {v:TV} {x:Value} (h:Rep R w v.av x):Rep R w (wkA l v).av x:=by
 unfold wkA
 split
 ·simp only [TV.av,TV.avs_map] at h ⊢
  cases h with | ag h=>exact .ag (wkCells_rep l h)
 ·exact h
theorem wkAt_rep {l:List (Nat × STy)}:∀(j:Nat) {ti:List TV} {xs:List Value},RepT R w (ti.map TV.av) xs→RepT R w ((wkAt j l ti).map TV.av) xs
 | _,[],_,h=>by simpa [wkAt] using h
 | 0,v :: r,_,h=>by
  simp only [List.map_cons] at h
  cases h with | cons a b=>exact .cons (wkA_rep a) b
 | j+1,v :: r,_,h=>by
  simp only [List.map_cons] at h
  cases h with | cons a b=>exact .cons a (wkAt_rep j b)
theorem wkAt_set {l:List (Nat × STy)}:∀(j i:Nat) {ti:List TV} {xs:List Value},RepT R w ((ti.map TV.av).set i .pt) xs→RepT R w (((wkAt j l ti).map TV.av).set i .pt) xs
 | _,_,[],_,h=>by simpa [wkAt] using h
 | 0,0,v :: r,_,h=>by
  simp only [List.map_cons,List.set_cons_zero] at h
  cases h with | cons a b=>exact .cons a b
 | 0,i+1,v :: r,_,h=>by
  simp only [List.map_cons,List.set_cons_succ] at h
  cases h with | cons a b=>exact .cons (wkA_rep a) b
 | j+1,0,v :: r,_,h=>by
  simp only [List.map_cons,List.set_cons_zero] at h
  cases h with | cons a b=>exact .cons a (wkAt_rep j b)
 | j+1,i+1,v :: r,_,h=>by
  simp only [List.map_cons,List.set_cons_succ] at h
  cases h with | cons a b=>exact .cons a (wkAt_set j i b)
end
theorem wkAt_get {l:List (Nat × STy)}:∀(j i:Nat) (ti:List TV),i≠j→((wkAt j l ti).map TV.av)[i]?=(ti.map TV.av)[i]?
 | _,_,[],_=>by simp [wkAt]
 | 0,0,_ :: _,h=>(h rfl).elim
 | 0,i+1,v :: r,_=>by simp [wkAt]
 | j+1,0,v :: r,_=>by simp [wkAt]
 | j+1,i+1,v :: r,h=>by simpa [wkAt] using wkAt_get j i r (by omega)
theorem spec_wk {P:Program} {gl:Nat→AV} {f j:Nat} {l:List (Nat × STy)} {sg:FSig} {c:Ctr} (hps:sg.ps=none) (hj:sg.ref≠some j) (h:SpecOK P gl f (Ctr.fs (c,sg))):SpecOK P gl f (Ctr.fs (wkC j l c,sg)):=by
 refine ⟨fun _ w R ins outs xs hG h1 h2 h3=>?_,fun i s hp=>by simp [Ctr.fs,hps] at hp⟩
 obtain ⟨ti,to_,rfl,rfl,hc⟩:=hG
 refine h.1 hps w R _ (to_.map TV.av) xs ⟨wkAt j l ti,to_,rfl,rfl,hc⟩ h1 h2 ?_
 have h3:ArgsOK sg R w (ti.map TV.av) xs:=h3
 show ArgsOK sg R w ((wkAt j l ti).map TV.av) xs
 unfold ArgsOK at h3 ⊢
 cases hr:sg.ref with
 | none=>rw [hr] at h3;exact wkAt_rep j h3
 | some i =>
  rw [hr] at h3
  obtain ⟨b,cs,x,tv,a1,a2,a3,a4,a5,a6,a7⟩:=h3
  exact ⟨b,cs,x,tv,a1,(wkAt_get j i ti (fun e=>hj (by rw [hr,e]))).trans a2,a3,wkAt_set j i a4,a5,a6,a7⟩
structure ItmTys (P:Program) (t tk ti tu ts tb ty:TypeId):Prop where
 v:fieldsOf P t=some [(ti,0),(tu,1),(tb,2),(ts,3),(tk,4)]
 k:P.underlying tk=some (.slice t)
 i:P.underlying ti=some (.int .i64)
 u:P.underlying tu=some (.int .u64)
 s:P.underlying ts=some .string
 b:P.underlying tb=some (.slice ty)
 y:P.underlying ty=some (.int .u8)
 cv:P.cellsOf t=5
 ck:P.cellsOf tk=1
 ci:P.cellsOf ti=1
 cu:P.cellsOf tu=1
 cs:P.cellsOf ts=1
 cb:P.cellsOf tb=1
 cy:P.cellsOf ty=1
section
variable {P:Program} {t tk ti tu ts tb ty:TypeId}
theorem ItmTys.itm (T:ItmTys P t tk ti tu ts tb ty):∀n,Opens P n t Itm fun f=>(itmAV f).cells:=by
 intro n
 induction n using Nat.strongRecOn with
 | _ n ih =>
  obtain ⟨fs,h1,h2⟩:=fieldsOf_spec T.v
  have R:=fun (k:Nat) (hk:k<n)=>(row_cons (off:=0) T.ci (opens_int T.i) (row_cons T.cu (opens_u64 T.u) (row_cons T.cb (opens_bytes T.b T.y T.cy) (row_cons T.cs (opens_str T.s)
   (row_cons T.ck (opens_slice (av:=itmAV) T.k T.cv (by omega) (fun f=>by cases f;rfl) fun j hj=>ih j (by omega)) row_nil)))):OpensRow P k _ 0 _ _)
  exact opens_struct h1 h2 (by simp [T.cv,T.ci,T.cu,T.cs,T.cb,T.ck]) R (fun a=>Itm.mk a.1 a.2.1 a.2.2.1 a.2.2.2.1 a.2.2.2.2.1) (fun a=>by
   simp [itmAV,AV.cells,itmsAV_map,strAV,iAV,u64AV,bytesAV])
theorem ItmTys.rep (T:ItmTys P t tk ti tu ts tb ty) {H:Type} {enc:TypeId × Value→H} {w:World} {base:Nat} {spare:Nat→Bool} {held:Bool} {cs:Array Value} {d:DataW H} {p:List MemPlace} (h:DataW.Trod enc P w base spare held t (.agg cs) d p) :
  ∃v:Itv,Rep (Old w) w (TV.av (.ag (Itv.cells v))) (.agg cs):=by
 obtain ⟨n,h⟩:=h
 obtain ⟨v,hv⟩:=T.itm n H enc w base spare held _ _ h
 refine ⟨v.val,?_⟩
 cases v with | mk k n b s ks =>
 simp only [TV.av,TV.avs_map,Itv.cells,Itm.val,Itm.kind,Itm.n,Itm.bytes,Itm.text,Itm.kids,List.map_cons,List.map_nil,STy.size,STy.av]
 refine .ag ?_
 have hv:RepL (Old w) w (itmAV (Itm.mk k n b s ks)).cells _:=hv
 show RepL (Old w) w [iAV k,u64AV n,bytesAV b,strAV s,.sl 5 (ks.map itmAV)] _
 simpa [itmAV,AV.cells,itmsAV_map,strAV,iAV,u64AV,bytesAV,Value.cells] using hv
end
end Go.Eng
namespace Go.Eng
open Go.RowKit Go.Sort
def glL:List (Nat × TV)→Nat→TV
 | [],_ => .dead
 | (k,v) :: r,n=>cond (Nat.beq n k) v (glL r n)
def tabV (k:IntKind) (zs:List Int):TV := .gv (zs.map fun z=>Value.int k z)
theorem gv_of_tab {P:Program} {w:World} {name:String} {k:IntKind} {zs:List Int} {g:Nat} (h:Lib.TabIs P w name k zs) (hg:P.globalNamed name=some g):Rep (Old w) w (tabV k zs).av (.pointer (some ⟨g,0,none⟩)):=by
 have hs:g<w.heap.size:=by
  unfold Lib.TabIs World.var? at h
  rw [hg] at h
  simp only [Option.bind_some] at h
  cases hh:w.heap[g]? with
  | none=>rw [hh] at h;cases h
  | some x=>exact (Array.getElem?_eq_some_iff.1 hh).1
 exact .gv (fun _=>hs) (fun o=>by have:=World.var?_cell hg h o;simpa using this)
theorem tab_of_gv {P:Program} {R:Reach} {w:World} {name:String} {k:IntKind} {z:Int} {zs:List Int} {g:Nat} (h:Rep R w (tabV k (z :: zs)).av (.pointer (some ⟨g,0,none⟩))) (hg:P.globalNamed name=some g):Lib.TabIs P w name k (z :: zs):=by
 have h:Rep R w (.gv ((z :: zs).map fun z=>Value.int k z)) (.pointer (some ⟨g,0,none⟩)):=h
 cases h with
 | gv h1 h2 =>
  have h0:=h2 0
  unfold Lib.TabIs World.var?
  rw [hg]
  simp only [Option.bind_some]
  simp only [World.cell?] at h0 h2
  cases hh:w.heap[g]? with
  | none=>rw [hh] at h0;cases h0
  | some x =>
   rw [hh] at h0 h2
   cases x with
   | cells cs e f =>
    simp only at h2 ⊢
    congr 1
    apply Array.ext_getElem?
    intro i
    have:=h2 i
    simp only [Option.isSome_none,Bool.false_eq_true,if_false] at this
    rw [this]
    simp
   | _=>cases h0
theorem gl_one {P:Program} {w:World} {name:String} {k:IntKind} {zs:List Int} {g:Nat} (h:Lib.TabIs P w name k zs) (hg:P.globalNamed name=some g):∀n,Rep (Old w) w ((glL [(g,tabV k zs)] n).av) (.pointer (some ⟨n,0,none⟩)):=by
 intro n
 unfold glL
 cases hb:Nat.beq n g with
 | true=>rw [Nat.eq_of_beq_eq_true hb];exact gv_of_tab h hg
 | false=>exact .dead _
theorem below_grow (w:World) (k:Nat) (os:Array Obj):Below w.heap.size w (grow (w.drewN k) os) :=
 ⟨rfl,rfl,rfl,by show w.heap.size≤(w.heap++os).size;simp,fun i hi=>heap_grow_old (w.drewN k) os hi⟩
def itoaC:Ctr:=fun l=>match l with
 | [.i .i64 n] => .if_ (decide (-9223372036854775808≤n∧n≤9223372036854775807)) [.s (Lib.itoa n)]
 | _ => .err
theorem itoa_ok {P:Program} {gl:Nat→TV} {f g:Nat} {k:IntKind} {z:Int} {zs:List Int} (hgl:(gl g)=tabV k (z :: zs))
  (h:∃name,P.globalNamed name=some g∧∀(n:Int),-9223372036854775808≤n→n≤9223372036854775807→∀w:World,Lib.TabIs P w name k (z :: zs)→Calls P f #[.int .i64 n] w fun e w'=>e = .returned (.string ⟨(Lib.itoa n).toArray⟩)∧∃k os,w'=grow (w.drewN k) os) :
  SpecOK P (fun n=>(gl n).av) f (Ctr.fs (itoaC,{})):=by
 obtain ⟨name,hg,h⟩:=h
 refine spec_plain fun ti to_ w R xs hc ha hR hG=>?_
 unfold itoaC at hc
 split at hc
 ·rename_i n
  obtain ⟨hp,rfl⟩:=hc
  have hp:=of_decide_eq_true hp
  have e:xs=[.int .i64 n]:=by
   have ha:RepT R w [.v (.int .i64 n)] xs:=ha
   cases ha with
   | cons a b=>cases a;cases b;rfl
  subst e
  have hg':=hG g
  rw [hgl] at hg'
  refine (h n hp.1 hp.2 w (tab_of_gv hg' hg)).mono ?_
  rintro e w' ⟨rfl,q,os,rfl⟩
  refine ⟨_,rfl,below_grow _ _ _,fun R w'=>?_⟩
  have:Rep R w' (.v (.string ⟨⟨Lib.itoa n⟩⟩)) (.string ⟨(Lib.itoa n).toArray⟩) := .v _
  exact .cons this .nil
 ·exact hc.elim
def digs (n:Nat):Str:=if h:n<10 then [UInt8.ofNat (48+n)] else digs (n / 10)++[UInt8.ofNat (48+n % 10)]
termination_by n
decreasing_by omega
theorem digs_dec (n:Nat):Lib.decDigits n=digs n:=by
 induction n using Nat.strongRecOn with
 | _ n ih =>
  rw [Lib.decDigits,digs]
  by_cases h:n<10
  ·rw [dif_pos h,dif_pos h]
  ·rw [dif_neg h,dif_neg h,ih (n / 10) (by omega)]
theorem itoa_nat (n:Nat):Lib.itoa (n:Int)=digs n:=by
 rw [Lib.itoa,if_neg (by omega),Int.toNat_natCast,digs_dec]
end Go.Eng
namespace Go.Eng
namespace Tree
def regularFrom:Nat→List Fld→Bool
 | _,[]=>true
 | i,f :: r=>decide (f.name=digs i)&&regularFrom (i+1) r
def regular (l:List Fld):Bool:=regularFrom 0 l
end Tree
end Go.Eng
namespace Go.Eng
namespace Cur
def be (l:Str):UInt64:=l.foldl (fun v x=>v * 256+x.toUInt64) 0
def putLow (v:UInt64):Nat→Str
 | 0=>[]
 | n+1=>v.toUInt8 :: putLow (v / 256) n
def putHigh (v:UInt64) (n:Nat):Str:=(putLow v n).reverse
def good (r:Rdr):Bool:=decide (0≤r.at_∧r.at_≤r.b.length∧r.b.length≤1099511627776)
def left (r:Rdr):Int:=r.b.length - r.at_
def more (r:Rdr):Bool:=decide (r.at_<r.b.length)
def byte (r:Rdr):Int:=if r.at_<r.b.length then ((r.b.getD r.at_.toNat 0).toNat:Int) else 0
def adv (r:Rdr) (n:Int) (ok:Bool):Rdr:=cond ok ⟨r.b,r.at_+n⟩ r
def ok8 (r:Rdr) (n:Int):Bool:=decide (1≤n∧n≤8∧n≤r.b.length - r.at_)
def okT (r:Rdr) (n:Int):Bool:=decide (0≤n∧n≤r.b.length - r.at_)
def nx (r:Rdr) (n:Int) (ok:Bool):Str:=cond ok ((r.b.drop r.at_.toNat).take n.toNat) []
def high (v:UInt64) (n:Int):Str:=if 1≤n∧n≤8 then putHigh v n.toNat else []
end Cur
namespace Itm
mutual
def bulk:Itm→Nat
 | .mk _ _ b t ks=>1+b.length+t.length+bulks ks
def bulks:List Itm→Nat
 | []=>0
 | k :: r=>bulk k+bulks r
end
mutual
def nest:Itm→Nat
 | .mk _ _ _ _ ks=>nests ks+1
def nests:List Itm→Nat
 | []=>0
 | k :: r=>max (nest k) (nests r)
end
mutual
def same:Itm→Itm→Bool
 | .mk k n b t ks,.mk k' n' b' t' ks'=>decide (k=k')&&decide (n=n')&&decide (t=t')&&decide (b=b')&&sames ks ks'
def sames:List Itm→List Itm→Bool
 | [],[]=>true
 | k :: r,k' :: r'=>same k k'&&sames r r'
 | [],_ :: _=>false
 | _ :: _,[]=>false
end
mutual
def room (left:Int):Itm→Int
 | .mk _ _ b t ks=>rooms (Book.room left [2,(t.length:Int),(b.length:Int)]) ks
def rooms (left:Int):List Itm→Int
 | []=>left
 | k :: r=>if left<0 then left else rooms (room left k) r
end
end Itm
namespace Mp
def own:Itm→Int
 | .mk k n b t ks =>
  if k<1∨10<k∨k=7 then 5
  else if ((k=3∨k=4∨k=5∨k=6)∧n≠0)∨(k≠3∧k≠10∧b≠[])∨(k≠4∧t≠[]) then 1
  else if k≠5∧k≠6∧ks≠[] then 1
  else if (k=2∧9223372036854775808≤n)∨(k=8∧(n<20∨22<n))∨(k=10∧127<n)∨(k=6∧ks.length % 2≠0) then 1
  else if 4294967296≤b.length∨4294967296≤t.length∨(k=5∧4294967296≤ks.length)∨4294967296≤ks.length / 2 then 1
  else if Utf.whole t then 0 else 4
mutual
def chk:Itm→Int
 | .mk k n b t ks=>if own (.mk k n b t ks)=0 then chks ks else own (.mk k n b t ks)
def chks:List Itm→Int
 | []=>0
 | k :: r=>if chk k=0 then chks r else chk k
end
def fieldsOK:Itm→Bool
 | .mk k n b t ks =>
  if k=1∨k=9 then decide (b=[]∧t=[]∧ks=[])
  else if k=2 then decide (n<9223372036854775808∧b=[]∧t=[]∧ks=[])
  else if k=3 then decide (b.length<4294967296∧n=0∧t=[]∧ks=[])
  else if k=4 then decide (t.length<4294967296∧n=0∧b=[]∧ks=[])
  else if k=5 then decide (ks.length<4294967296∧n=0∧b=[]∧t=[])
  else if k=6 then decide (ks.length % 2=0∧ks.length / 2<4294967296∧n=0∧b=[]∧t=[])
  else if k=8 then decide (20≤n∧n≤22∧b=[]∧t=[]∧ks=[])
  else if k=10 then decide (n≤127∧b.length<4294967296∧t=[]∧ks=[])
  else decide (n=0∧b=[]∧t=[]∧ks=[])
def base (k:Int):Int:=if k=4 then 217 else if k=3 then 196 else if k=5 then 220 else if k=6 then 222 else 199
def fix (k:Int):Int:=if k=4 then 32 else if k=5∨k=6 then 16 else 0
def tab (k:Int):Int:=if k=4 then 160 else if k=5 then 144 else 128
def fixed (k n:Int):Int:=if k=10 then (if n=1 then 212 else if n=2 then 213 else if n=4 then 214 else if n=8 then 215 else if n=16 then 216 else 0) else 0
def sized (k n:Int):Int × Int :=
 if fixed k n≠0 then (fixed k n,0) else if n<fix k then (tab k+n,0)
 else if k=5∨k=6 then (if n<65536 then (base k,2) else (base k+1,4))
 else if n<256 then (base k,1) else if n<65536 then (base k+1,2) else (base k+2,4)
def sizeds (k:Int):Bool:=decide (k=3∨k=4∨k=5∨k=6∨k=10)
def unsigned (n:UInt64):Int × Int :=
 if n<128 then ((n.toNat:Int),0) else if n<256 then (204,1) else if n<65536 then (205,2) else if n<4294967296 then (206,4) else (207,8)
def signed (n:UInt64):Int × Int :=
 if n<32 then (255 - (n.toNat:Int),0) else if n<128 then (208,1) else if n<32768 then (209,2) else if n<2147483648 then (210,4) else (211,8)
def put (f:Int × Int) (n:UInt64):Str:=UInt8.ofInt f.1 :: Cur.high n f.2
def head:Itm→Str
 | .mk k n b t ks =>
  if k=1 then put (unsigned n) n
  else if k=2 then put (signed n) (~~~ n)
  else if k=8 then [if n=20 then 194 else if n=21 then 195 else 192]
  else if k=9 then put (203,8) n
  else if k=4 then put (sized 4 t.length) (UInt64.ofNat t.length)
  else if k=3 then put (sized 3 b.length) (UInt64.ofNat b.length)
  else if k=5 then put (sized 5 ks.length) (UInt64.ofNat ks.length)
  else if k=6 then put (sized 6 (ks.length / 2:Nat)) (UInt64.ofNat (ks.length / 2))
  else put (sized 10 b.length) (UInt64.ofNat b.length)++[n.toUInt8]
mutual
def lay:Itm→Str
 | .mk k n b t ks=>head (.mk k n b t ks)++b++t++lays ks
def lays:List Itm→Str
 | []=>[]
 | k :: r=>lay k++lays r
end
def enc (it:Itm):Str:=if chk it=0 then lay it else []
def wide (n:UInt64):Int:=if n<256 then 1 else if n<65536 then 2 else if n<4294967296 then 4 else 8
def step (n:Int):UInt8:=if n=1 then 0 else if n=2 then 1 else if n=4 then 2 else 3
def form (f:UInt8) (n:UInt64) (least:Int):Str:=(f+step (max (wide n) least) - step least) :: Cur.putHigh n (max (wide n) least).toNat
def ext (n k:UInt64):Str :=
 if n=1 then [212,k.toUInt8] else if n=2 then [213,k.toUInt8] else if n=4 then [214,k.toUInt8] else if n=8 then [215,k.toUInt8] else if n=16 then [216,k.toUInt8] else form 199 n 1++[k.toUInt8]
def want (k:Int) (n types:UInt64):Str :=
 if k=3 then form 196 n 1 else if k=10 then ext n types
 else if k=4 then (if n<32 then [160+n.toUInt8] else form 217 n 1)
 else if k=5 then (if n<16 then [144+n.toUInt8] else form 220 n 2)
 else if k=6 then (if n<16 then [128+n.toUInt8] else form 222 n 2)
 else head (.mk k n [] [] [])
def rngOK (b:Str) (a n:Int):Bool:=decide (1≤n∧n≤8∧0≤a∧a≤b.length∧n≤b.length - a)
def rng (b:Str) (a n:Int):Str:=cond (rngOK b a n) ((b.drop a.toNat).take n.toNat) []
def first (c:Int):Int × UInt64 × Int :=
 if c<128 then (1,UInt64.ofInt c,0)
 else if c<144 then (6,UInt64.ofInt (c - 128),0)
 else if c<160 then (5,UInt64.ofInt (c - 144),0)
 else if c<192 then (4,UInt64.ofInt (c - 160),0)
 else if 224≤c then (2,UInt64.ofInt (255 - c),0)
 else if c=192 then (8,22,0)
 else if c=193 then (0,0,0)
 else if c≤195 then (8,UInt64.ofInt (c - 174),0)
 else if c≤198 then (3,0,if c=196 then 1 else if c=197 then 2 else 4)
 else if c≤201 then (10,0,if c=199 then 1 else if c=200 then 2 else 4)
 else if c=202 then (0,0,0)
 else if c=203 then (9,0,8)
 else if c≤207 then (1,0,if c=204 then 1 else if c=205 then 2 else if c=206 then 4 else 8)
 else if c≤211 then (2,0,if c=208 then 1 else if c=209 then 2 else if c=210 then 4 else 8)
 else if c≤216 then (10,if c=212 then 1 else if c=213 then 2 else if c=214 then 4 else if c=215 then 8 else 16,0)
 else if c≤219 then (4,0,if c=217 then 1 else if c=218 then 2 else 4)
 else if c≤221 then (5,0,if c=220 then 2 else 4)
 else (6,0,if c=222 then 2 else 4)
def zero:Itm := .mk 0 0 [] [] []
def below (n:UInt64) (size:Int):Option UInt64 :=
 let top:UInt64:=if size=1 then 128 else if size=2 then 32768 else if size=4 then 2147483648 else 9223372036854775808
 if n<top then none else some (top - 1 - (n - top))
structure Got where
 it:Itm
 err:Int
 at_:Int
 pos:Int
def bad (e p q:Int):Got:=⟨zero,e,p,q⟩
def row (b:Str) (it:Itm) (p q n:Int):Got :=
 if n<0∨(b.length:Int) - q<n then bad 2 p q
 else if it.kind≠4 then ⟨.mk it.kind it.n ((b.drop q.toNat).take n.toNat) it.text it.kids,0,0,q+n⟩
 else if Utf.whole ((b.drop q.toNat).take n.toNat) then ⟨.mk it.kind it.n it.bytes ((b.drop q.toNat).take n.toNat) it.kids,0,0,q+n⟩
 else bad 4 p (q+n)
def kids (f:Int→Got) (it:Itm):Nat→Int→Got
 | 0,q=>⟨it,0,0,q⟩
 | n+1,q =>
  let g:=f q
  if g.err≠0 then ⟨zero,g.err,g.at_,g.pos⟩
  else kids f (.mk it.kind it.n it.bytes it.text (it.kids++[g.it])) n g.pos
def num (it:Itm) (p c f q:Int):Got:=if f≠c then bad 3 p q else ⟨it,0,0,q⟩
def readEnd (b:Str) (sub:Int→Got) (p c k:Int) (n:UInt64) (long:Int) (t:UInt64) (q:Int):Got :=
 if k=8∨k=9 then ⟨.mk k n [] [] [],0,0,q⟩
 else if k=1 then num (.mk k n [] [] []) p c (unsigned n).1 q
 else if k=2 then (if long=0 then num (.mk k n [] [] []) p c (signed n).1 q else match below n long with
  | none=>bad 3 p q
  | some m=>num (.mk k m [] [] []) p c (signed m).1 q)
 else if (sized k n.toNat).1≠c∨127<t then bad 3 p q
 else if k=5 then kids sub (.mk k t [] [] []) n.toNat q
 else if k=6 then kids sub (.mk k t [] [] []) (2 * n.toNat) q
 else row b (.mk k t [] [] []) p q n.toNat
def readTail (b:Str) (sub:Int→Got) (p c k:Int) (n:UInt64) (long q:Int):Got :=
 if k=10 then (if (b.length:Int) - q<1 then bad 2 p q else readEnd b sub p c k n long (b.getD q.toNat 0).toUInt64 (q+1))
 else readEnd b sub p c k n long 0 q
def readAt (b:Str) (sub:Int→Got) (p c k:Int) (n0:UInt64) (long:Int):Got :=
 if k=0 then bad 3 p (p+1)
 else if (b.length:Int) - (p+1)<long then bad 2 p (p+1)
 else readTail b sub p c k (if long=0 then n0 else Cur.be ((b.drop (p+1).toNat).take long.toNat)) long (p+1+long)
def read (b:Str):Nat→Int→Got
 | 0,p=>bad 8 p p
 | d+1,p =>
  if (b.length:Int)≤p then bad 2 p p
  else readAt b (read b d) p ((b.getD p.toNat 0).toNat:Int) (first ((b.getD p.toNat 0).toNat:Int)).1 (first ((b.getD p.toNat 0).toNat:Int)).2.1 (first ((b.getD p.toNat 0).toNat:Int)).2.2
def many (k n:Int):Nat:=if k=6 then 2 * n.toNat else n.toNat
def dec (b:Str) (depth:Int):Itm × Flt :=
 if depth<0∨1000<depth then (zero,⟨1,0,[]⟩)
 else
  let g:=read b depth.toNat 0
  if g.err≠0 then (zero,⟨g.err,g.at_,[]⟩)
  else if g.pos<b.length then (zero,⟨7,g.pos,[]⟩)
  else (g.it,⟨0,0,[]⟩)
end Mp
end Go.Eng
namespace Go.Eng
namespace Cb
def own:Itm→Int
 | .mk k n b t ks =>
  if k<1∨9<k then 5
  else if ((k=3∨k=4∨k=5∨k=6)∧n≠0)∨(k≠3∧b≠[])∨(k≠4∧t≠[]) then 1
  else if k≠5∧k≠6∧k≠7∧ks≠[] then 1
  else if (k=8∧(n<20∨23<n))∨(k=6∧ks.length % 2≠0)∨(k=7∧ks.length≠1) then 1
  else if Utf.whole t then 0 else 4
mutual
def chk:Itm→Int
 | .mk k n b t ks=>if own (.mk k n b t ks)=0 then chks ks else own (.mk k n b t ks)
def chks:List Itm→Int
 | []=>0
 | k :: r=>if chk k=0 then chks r else chk k
end
def fieldsOK:Itm→Bool
 | .mk k n b t ks =>
  decide ((k=1∨k=2∨k=9∨k=7∨k=8)∨n=0)&&decide (k=3∨b=[])&&decide (k=4∨t=[])&&decide ((k=5∨k=6∨k=7)∨ks=[]) &&
  decide (k≠8∨(20≤n∧n≤23))&&decide (k≠6∨ks.length % 2=0)&&decide (k≠7∨ks.length=1)
end Cb
namespace Db
def text (s:Str):Itm := .mk 4 0 [] s []
def raw (b:Str):Itm := .mk 3 0 b [] []
def plus (n:UInt64):Itm := .mk 1 n [] [] []
def simple (n:UInt64):Itm := .mk 8 n [] [] []
def list (l:List Itm):Itm := .mk 5 0 [] [] l
def map (l:List Itm):Itm := .mk 6 0 [] [] l
def integer (v:Int):Itm:=if v<0 then .mk 2 (UInt64.ofInt (-(v+1))) [] [] [] else .mk 1 (UInt64.ofInt v) [] [] []
def i32 (n:UInt64):Int:=IntKind.i32.wrap (n.toNat:Int)
def i64 (n:UInt64):Int:=IntKind.i64.wrap (n.toNat:Int)
def words (high low:UInt64):Str:=Cur.putHigh high 8++Cur.putHigh low 8
def tagged (v:Val) (m:List Itm):Itm :=
 if v.kind=4 then map m
 else if v.kind=5 then list [plus (UInt64.ofInt v.sub),raw v.bytes]
 else if v.kind=7 then raw v.bytes
 else if v.kind=9∨v.kind=18 then integer (i64 v.bits)
 else if v.kind=11 then list [text v.text,text v.more]
 else if v.kind=12 then list [text v.text,raw v.bytes]
 else if v.kind=13∨v.kind=14 then text v.text
 else if v.kind=15 then list [text v.text,map m]
 else if v.kind=17 then plus v.bits
 else if v.kind=19 then raw (words v.high v.low)
 else simple 22
def itemOf (v:Val) (m l:List Itm):Itm :=
 if v.kind=1 then .mk 9 v.bits [] [] []
 else if v.kind=2 then text v.text
 else if v.kind=3 then map m
 else if v.kind=4∧Tree.regular v.kids then list l
 else if v.kind=5∧v.sub=0 then raw v.bytes
 else if v.kind=6 then simple 23
 else if v.kind=10 then simple 22
 else if v.kind=8 then simple (20+v.bits)
 else if v.kind=16 then integer (i32 v.bits)
 else .mk 7 (UInt64.ofInt (1000+v.kind)) [] [] [tagged v m]
mutual
def item:Fld→Itm
 | .mk _ k b h l t m s y ks=>itemOf ⟨k,b,h,l,t,m,s,y,ks⟩ (mapped ks) (items ks)
def mapped:List Fld→List Itm
 | []=>[]
 | f :: r=>text f.name :: item f :: mapped r
def items:List Fld→List Itm
 | []=>[]
 | f :: r=>item f :: items r
end
def enc (v:Val):Itm × Flt :=
 if (Tree.chkF (Fld.of [] v) []).2≠0 then (Mp.zero,⟨(Tree.chkF (Fld.of [] v) []).2,0,(Tree.chkF (Fld.of [] v) []).1⟩)
 else if v.kind≠3 then (Mp.zero,⟨5,0,[]⟩)
 else (map (mapped v.kids),⟨0,0,[]⟩)
def zero:Val:=⟨0,0,0,0,[],[],0,[],[]⟩
inductive Got where
 | ok (v:Val)
 | bad (p:List Int)
inductive Gots where
 | ok (l:List Fld)
 | bad (p:List Int)
def Got.val:Got→Val
 | .ok v=>v
 | .bad _=>zero
def Got.flt:Got→Flt
 | .ok _=>⟨0,0,[]⟩
 | .bad p=>⟨12,0,p⟩
def Gots.flt:Gots→Flt
 | .ok _=>⟨0,0,[]⟩
 | .bad p=>⟨12,0,p⟩
def Gots.got (v:Val):Gots→Got
 | .ok l => .ok { v with kids:=l }
 | .bad p => .bad p
def number (it:Itm):Option Int :=
 if 9223372036854775808≤it.n then none
 else if it.kind=1 then some (it.n.toNat:Int)
 else if it.kind=2 then some (-1 - (it.n.toNat:Int))
 else none
def regularFrom:Nat→List Itm→Bool
 | _,[]=>true
 | i,[k]=>decide (k.kind=4∧k.text=digs i)
 | i,k :: _ :: r=>decide (k.kind=4∧k.text=digs i)&&regularFrom (i+1) r
def regular (l:List Itm):Bool:=regularFrom 0 l
def fst (it:Itm):Itm:=it.kids.getD 0 Mp.zero
def snd (it:Itm):Itm:=it.kids.getD 1 Mp.zero
def kinds (it:Itm) (a b:Int):Bool:=decide (it.kind=5∧it.kids.length=2∧(fst it).kind=a∧(snd it).kind=b)
def numberI (it:Itm):Int:=if 9223372036854775808≤it.n then 0 else if it.kind=2 then -1 - (it.n.toNat:Int) else (it.n.toNat:Int)
def doc (k:Int) (t:Str):Val:=⟨k,0,0,0,t,[],0,[],[]⟩
def smallV (n:UInt64) (it:Itm):Val × Bool :=
 if n<1000∨1255<n then (zero,false)
 else if n=1005 then
  (if kinds it 1 3∧1≤(fst it).n∧(fst it).n≤255 then (⟨5,0,0,0,[],[],((fst it).n.toNat:Int),(snd it).bytes,[]⟩,true) else (doc 5 [],false))
 else if n=1007 then (⟨7,0,0,0,[],[],0,it.bytes,[]⟩,decide (it.kind=3∧it.bytes.length=12))
 else if n=1009∨n=1018 then (⟨(n.toNat:Int) - 1000,UInt64.ofInt ((number it).getD 0),0,0,[],[],0,[],[]⟩,(number it).isSome)
 else if n=1011 then
  (if kinds it 4 4∧¬Utf.zero (fst it).text∧¬Utf.zero (snd it).text then (⟨11,0,0,0,(fst it).text,(snd it).text,0,[],[]⟩,true) else (doc 11 [],false))
 else if n=1012 then
  (if kinds it 4 3∧(snd it).bytes.length=12 then (⟨12,0,0,0,(fst it).text,[],0,(snd it).bytes,[]⟩,true) else (doc 12 [],false))
 else if n=1013∨n=1014 then (doc ((n.toNat:Int) - 1000) it.text,decide (it.kind=4))
 else if n=1017 then (⟨17,it.n,0,0,[],[],0,[],[]⟩,decide (it.kind=1))
 else if n=1019 then
  (if it.kind=3∧it.bytes.length=16 then (⟨19,0,Cur.be (it.bytes.take 8),Cur.be (it.bytes.drop 8),[],[],0,[],[]⟩,true) else (doc 19 [],false))
 else if n=1127∨n=1255 then (doc ((n.toNat:Int) - 1000) [],decide (it.kind=8∧it.n=22))
 else (doc ((n.toNat:Int) - 1000) [],false)
def small (n:UInt64) (it:Itm):Option Val:=if (smallV n it).2 then some (smallV n it).1 else none
def half (it:Itm):Val × Bool:=(⟨16,UInt64.ofInt (numberI it % 4294967296),0,0,[],[],0,[],[]⟩,(number it).isSome&&decide (-2147483648≤numberI it∧numberI it<2147483648))
def leaf (k:Int) (n:UInt64) (b t:Str):Option Val :=
 if k=9 then some ⟨1,n,0,0,[],[],0,[],[]⟩
 else if k=4 then some ⟨2,0,0,0,t,[],0,[],[]⟩
 else if k=3 then some ⟨5,0,0,0,[],[],0,b,[]⟩
 else if k=8 then some (if n=22 then ⟨10,0,0,0,[],[],0,[],[]⟩ else if n=23 then ⟨6,0,0,0,[],[],0,[],[]⟩ else ⟨8,n - 20,0,0,[],[],0,[],[]⟩)
 else if (half (.mk k n b t [])).2 then some (half (.mk k n b t [])).1 else none
def opt (o:Option Val) (p:List Int):Got:=match o with | some v => .ok v | none => .bad p
mutual
def value:Itm→List Int→Got
 | .mk k n b t ks,p =>
  if k=6 then (fields ks 0 p).got (doc 3 [])
  else if k=5 then (elems ks 0 p).got (doc 4 [])
  else if k=7 then tags n ks p
  else opt (leaf k n b t) p
def tags (n:UInt64):List Itm→List Int→Got
 | [],p => .bad p
 | x :: _,p=>tagv n x p
def tagv (n:UInt64):Itm→List Int→Got
 | .mk k m b t ks,p =>
  if n=1004 then (if k=6∧¬regular ks then (fields ks 0 (p++[0])).got (doc 4 []) else .bad p)
  else if n=1015 then (if kinds (.mk k m b t ks) 4 6 then pairv ks p else .bad p)
  else opt (small n (.mk k m b t ks)) p
def pairv:List Itm→List Int→Got
 | [],p => .bad p
 | [_],p => .bad p
 | a :: m :: _,p=>pairIn a.text m p
def pairIn (t:Str):Itm→List Int→Got
 | .mk _ _ _ _ ks,p=>(fields ks 0 (p++[0,1])).got (doc 15 t)
def fields:List Itm→Nat→List Int→Gots
 | [],_,_ => .ok []
 | [k],i,p => .bad (p++[(i:Int)])
 | k :: x :: r,i,p =>
  if k.kind≠4∨Utf.zero k.text then .bad (p++[(i:Int)])
  else match value x (p++[((i+1:Nat):Int)]) with
   | .bad q => .bad q
   | .ok v=>match fields r (i+2) p with
    | .bad q => .bad q
    | .ok l => .ok (Fld.of k.text v :: l)
def elems:List Itm→Nat→List Int→Gots
 | [],_,_ => .ok []
 | x :: r,i,p =>
  match value x (p++[(i:Int)]) with
   | .bad q => .bad q
   | .ok v=>match elems r (i+1) p with
    | .bad q => .bad q
    | .ok l => .ok (Fld.of (digs i) v :: l)
end
def dec (it:Itm):Val × Flt :=
 if Cb.chk it≠0 then (zero,⟨Cb.chk it,0,[]⟩)
 else if it.kind≠6 then (zero,⟨12,0,[]⟩)
 else ((value it []).val,(value it []).flt)
end Db
end Go.Eng
namespace Go.Eng
namespace Tree
mutual
def fine:Fld→Bool
 | .mk n k b h l t m s y ks=>decide (ownN ⟨k,b,h,l,t,m,s,y,ks⟩ n=0)&&fines ks
def fines:List Fld→Bool
 | []=>true
 | f :: r=>fine f&&fines r
end
end Tree
namespace Dk
def sort (k:Int):UInt64:=if k=255 then 126 else UInt64.ofInt k
def ext (k:Int) (b:Str):Itm := .mk 10 (sort k) b [] []
def inner (v:Val) (m:Str):Str :=
 if v.kind=4 then m
 else if v.kind=5 then UInt8.ofInt v.sub :: v.bytes
 else if v.kind=7 then v.bytes
 else if v.kind=9∨v.kind=17∨v.kind=18 then Cur.putHigh v.bits 8
 else if v.kind=11 then v.text++0 :: v.more
 else if v.kind=12 then v.bytes++v.text
 else if v.kind=13∨v.kind=14 then v.text
 else if v.kind=15 then Cur.putHigh (UInt64.ofInt v.text.length) 4++v.text++m
 else if v.kind=19 then Db.words v.high v.low
 else []
def itemOf (v:Val) (m l:List Itm):Itm :=
 if v.kind=1 then .mk 9 v.bits [] [] []
 else if v.kind=2 then Db.text v.text
 else if v.kind=3 then Db.map m
 else if v.kind=4∧Tree.regular v.kids then Db.list l
 else if v.kind=5∧v.sub=0 then Db.raw v.bytes
 else if v.kind=10 then Db.simple 22
 else if v.kind=8 then Db.simple (20+v.bits)
 else if v.kind=16 then Db.integer (Db.i32 v.bits)
 else ext v.kind (inner v (Mp.lay (Db.map m)))
mutual
def item:Fld→Itm
 | .mk _ k b h l t m s y ks=>itemOf ⟨k,b,h,l,t,m,s,y,ks⟩ (mapped ks) (items ks)
def mapped:List Fld→List Itm
 | []=>[]
 | f :: r=>Db.text f.name :: item f :: mapped r
def items:List Fld→List Itm
 | []=>[]
 | f :: r=>item f :: items r
end
def enc (v:Val):Itm × Flt :=
 if (Tree.chkF (Fld.of [] v) []).2≠0 then (Mp.zero,⟨(Tree.chkF (Fld.of [] v) []).2,0,(Tree.chkF (Fld.of [] v) []).1⟩)
 else if v.kind≠3 then (Mp.zero,⟨5,0,[]⟩)
 else if 200<Tree.depth (Fld.of [] v) then (Mp.zero,⟨8,0,[]⟩)
 else (Db.map (mapped v.kids),⟨0,0,[]⟩)
def cut (s:Str) (c:UInt8):Str × Str × Bool:=if 0≤Lib.indexByte s c then (s.take (Lib.indexByte s c).toNat,s.drop ((Lib.indexByte s c).toNat+1),true) else (s,[],false)
mutual
def valueE (E:UInt64→Str→Val × Bool):Itm→List Int→Db.Got
 | .mk k n b t ks,p =>
  if k=6 then (fieldsE E ks 0 p).got (Db.doc 3 [])
  else if k=5 then (elemsE E ks 0 p).got (Db.doc 4 [])
  else if k=10 then Db.opt (if (E n b).2 then some (E n b).1 else none) p
  else Db.opt (Db.leaf k n b t) p
def fieldsE (E:UInt64→Str→Val × Bool):List Itm→Nat→List Int→Db.Gots
 | [],_,_ => .ok []
 | [k],i,p => .bad (p++[(i:Int)])
 | k :: x :: r,i,p =>
  if k.kind≠4∨Utf.zero k.text then .bad (p++[(i:Int)])
  else match valueE E x (p++[((i+1:Nat):Int)]) with
   | .bad q => .bad q
   | .ok v=>match fieldsE E r (i+2) p with
    | .bad q => .bad q
    | .ok l => .ok (Fld.of k.text v :: l)
def elemsE (E:UInt64→Str→Val × Bool):List Itm→Nat→List Int→Db.Gots
 | [],_,_ => .ok []
 | x :: r,i,p =>
  match valueE E x (p++[(i:Int)]) with
   | .bad q => .bad q
   | .ok v=>match elemsE E r (i+1) p with
    | .bad q => .bad q
    | .ok l => .ok (Fld.of (digs i) v :: l)
end
def innE (E:UInt64→Str→Val × Bool) (c:Str):Option (List Fld) :=
 if (Mp.dec c 1000).2.err≠0∨(Mp.dec c 1000).1.kind≠6 then none
 else match fieldsE E (Mp.dec c 1000).1.kids 0 [] with
  | .ok l=>some l
  | .bad _=>none
def readE (E:UInt64→Str→Val × Bool) (v:Val) (c:Str):Val × Bool :=
 match innE E c with
  | some l=>({ v with kids:=l },true)
  | none=>(Db.zero,false)
def kindOf (n:UInt64):Int:=if n=126 then 255 else (n.toNat:Int)
def size4 (b:Str):Nat:=(Cur.be (b.take 4)).toNat
def text4 (b:Str):Str:=(b.drop 4).take (size4 b)
def extK (R : Val → Str → Val × Bool) (k : Int) (b : Str) : Val × Bool :=
  if k = 4 then ((R (Db.doc 4 []) b).1, (R (Db.doc 4 []) b).2 && !Tree.regular (R (Db.doc 4 []) b).1.kids)
  else if k = 15 then
    (if b.length < 4 ∨ b.length < 4 + size4 b then (Db.zero, false)
     else ((R (Db.doc 15 (text4 b)) (b.drop (4 + size4 b))).1, (R (Db.doc 15 (text4 b)) (b.drop (4 + size4 b))).2 && Utf.whole (text4 b)))
  else if k = 5 then (if 0 < b.length ∧ b.getD 0 0 ≠ 0 then (⟨5, 0, 0, 0, [], [], ((b.getD 0 0).toNat : Int), b.drop 1, []⟩, true) else (Db.doc 5 [], false))
  else if k = 7 then (⟨7, 0, 0, 0, [], [], 0, b, []⟩, decide (b.length = 12))
  else if k = 9 ∨ k = 17 ∨ k = 18 then (⟨k, Cur.be b, 0, 0, [], [], 0, [], []⟩, decide (b.length = 8))
  else if k = 11 then (⟨11, 0, 0, 0, (cut b 0).1, (cut b 0).2.1, 0, [], []⟩, (cut b 0).2.2 && !Utf.zero (cut b 0).2.1 && Utf.whole (cut b 0).1 && Utf.whole (cut b 0).2.1)
  else if k = 12 then (if 12 ≤ b.length ∧ Utf.whole (b.drop 12) then (⟨12, 0, 0, 0, b.drop 12, [], 0, b.take 12, []⟩, true) else (Db.doc 12 [], false))
  else if k = 13 ∨ k = 14 then (Db.doc k b, Utf.whole b)
  else if k = 19 then (if b.length = 16 then (⟨19, 0, Cur.be (b.take 8), Cur.be (b.drop 8), [], [], 0, [], []⟩, true) else (Db.doc 19 [], false))
  else if k = 6 ∨ k = 127 ∨ k = 255 then (Db.doc k [], decide (b.length = 0))
  else (Db.doc k [], false)
def extV:Nat→UInt64→Str→Val × Bool
 | 0=>fun _ _=>(Db.zero,false)
 | d+1=>fun n b=>extK (readE (extV d)) (kindOf n) b
def readV (d:Nat):Val→Str→Val × Bool:=readE (extV d)
def inn (d:Nat):Str→Option (List Fld):=innE (extV d)
def value (d:Nat):Itm→List Int→Db.Got:=valueE (extV d)
def fields (d:Nat):List Itm→Nat→List Int→Db.Gots:=fieldsE (extV d)
def elems (d:Nat):List Itm→Nat→List Int→Db.Gots:=elemsE (extV d)
def dec (it:Itm):Val × Flt :=
 if Mp.chk it≠0 then (Db.zero,⟨Mp.chk it,0,[]⟩)
 else if it.kind≠6 then (Db.zero,⟨12,0,[]⟩)
 else ((value 200 it []).val,(value 200 it []).flt)
end Dk
end Go.Eng
namespace Go.Proofs
open Go.Shelf
def Tryd.laysM171_ren:Go.Shelf.Ren:=⟨fun | 171=>42 | 243=>49 | 246=>61 | 283=>69 | 284=>70 | 285=>71 | 286=>72 | 129=>85 | 317=>84 | 318=>86 | 319=>87 | 320=>88 | 337=>96 | 338=>97 | n=>n,fun | 3=>3 | 9=>9 | 2=>2 | 4=>4 | 171=>101 | 0=>0 | 53=>22 | 37=>23 | 5=>5 | 173=>104 | 212=>122 | 51=>76 | 20=>20 | 213=>123 | 46=>90 | 232=>139 | 233=>140 | n=>n,fun | 17=>1 | 18=>2 | 19=>3 | n=>n⟩
theorem Tryd.laysM171:Go.Proofs.LaysM.n171 Tryd.prog Tryd.laysM171_ren:={
 mixed:=by kernel_rfl
 f129:=Tryd.func85.trans (congrArg some (by kernel_rfl))
 f171:=Tryd.func42.trans (congrArg some (by kernel_rfl))
 f243:=Tryd.func49.trans (congrArg some (by kernel_rfl))
 f246:=Tryd.func61.trans (congrArg some (by kernel_rfl))
 f283:=Tryd.func69.trans (congrArg some (by kernel_rfl))
 f284:=Tryd.func70.trans (congrArg some (by kernel_rfl))
 f285:=Tryd.func71.trans (congrArg some (by kernel_rfl))
 f286:=Tryd.func72.trans (congrArg some (by kernel_rfl))
 f317:=Tryd.func84.trans (congrArg some (by kernel_rfl))
 f318:=Tryd.func86.trans (congrArg some (by kernel_rfl))
 f319:=Tryd.func87.trans (congrArg some (by kernel_rfl))
 f320:=Tryd.func88.trans (congrArg some (by kernel_rfl))
 f337:=Tryd.func96.trans (congrArg some (by kernel_rfl))
 f338:=Tryd.func97.trans (congrArg some (by kernel_rfl))
 t0:=Tryd.underlying0
 a0:=Tryd.isAgg0
 z0:=Tryd.sizeOf0
 v0:=Tryd.zeroValue0
 t2:=Tryd.underlying2
 a2:=Tryd.isAgg2
 z2:=Tryd.sizeOf2
 v2:=Tryd.zeroValue2
 t3:=Tryd.underlying3
 a3:=Tryd.isAgg3
 z3:=Tryd.sizeOf3
 v3:=Tryd.zeroValue3
 t4:=Tryd.underlying4
 a4:=Tryd.isAgg4
 z4:=Tryd.sizeOf4
 v4:=Tryd.zeroValue4
 t5:=Tryd.underlying5
 a5:=Tryd.isAgg5
 z5:=Tryd.sizeOf5
 v5:=Tryd.zeroValue5
 t9:=Tryd.underlying9
 a9:=Tryd.isAgg9
 z9:=Tryd.sizeOf9
 v9:=Tryd.zeroValue9
 t20:=Tryd.underlying20
 a20:=Tryd.isAgg20
 z20:=Tryd.sizeOf20
 v20:=Tryd.zeroValue20
 t37:=Tryd.underlying23
 a37:=Tryd.isAgg23
 z37:=Tryd.sizeOf23
 v37:=Tryd.zeroValue23
 t46:=Tryd.underlying90
 a46:=Tryd.isAgg90
 z46:=Tryd.sizeOf90
 v46:=Tryd.zeroValue90
 t51:=Tryd.underlying76
 a51:=Tryd.isAgg76
 z51:=Tryd.sizeOf76
 v51:=Tryd.zeroValue76
 t53:=Tryd.underlying22
 a53:=Tryd.isAgg22
 z53:=Tryd.sizeOf22
 v53:=Tryd.zeroValue22
 t171:=Tryd.underlying101
 a171:=Tryd.isAgg101
 z171:=Tryd.sizeOf101
 v171:=Tryd.zeroValue101
 t173:=Tryd.underlying104
 a173:=Tryd.isAgg104
 z173:=Tryd.sizeOf104
 v173:=Tryd.zeroValue104
 t212:=Tryd.underlying122
 a212:=Tryd.isAgg122
 z212:=Tryd.sizeOf122
 v212:=Tryd.zeroValue122
 t213:=Tryd.underlying123
 a213:=Tryd.isAgg123
 z213:=Tryd.sizeOf123
 t232:=Tryd.underlying139
 a232:=Tryd.isAgg139
 z232:=Tryd.sizeOf139
 v232:=Tryd.zeroValue139
 t233:=Tryd.underlying140
 a233:=Tryd.isAgg140
 z233:=Tryd.sizeOf140
 v233:=Tryd.zeroValue140
 g17:=by kernel_rfl
 g18:=by kernel_rfl
 g19:=by kernel_rfl
 i0:=by kernel_rfl
 i2:=by kernel_rfl
 i3:=by kernel_rfl
 i4:=by kernel_rfl
 i5:=by kernel_rfl
 i9:=by kernel_rfl
 i20:=by kernel_rfl
 i37:=by kernel_rfl
 i46:=by kernel_rfl
 i51:=by kernel_rfl
 i53:=by kernel_rfl
 i171:=by kernel_rfl
 i173:=by kernel_rfl
 i212:=by kernel_rfl
 i232:=by kernel_rfl
 i233:=by kernel_rfl
 m17:=by kernel_rfl
 m18:=by kernel_rfl
 m19:=by kernel_rfl }
open Go.RowKit Go.Sort Go.Lib in
theorem Tryd.itoa:∃name:String,Tryd.prog.globalNamed name=some 1∧∀(n:Int),-9223372036854775808≤n→n≤9223372036854775807→∀w:World,Lib.TabIs Tryd.prog w name .u64 Lib.pow10Tab →
  Calls Tryd.prog 42 #[.int .i64 n] w fun e w'=>e = .returned (.string ⟨(Lib.itoa n).toArray⟩)∧∃k os,w'=grow (w.drewN k) os:=by
 refine ⟨_,?_,fun n h0 h1 w htab=>Any.strconv_Itoa Tryd.laysM171 n h0 h1 w htab⟩
 kernel_rfl
end Go.Proofs
namespace Go.Eng
def zI:List TV:=[(.i .i64 (0 : Int)), (.u64 (0 : UInt64)), (.sl .bs ([] : List UInt8)), (.s ([] : Str)), (.sl .il ([] : List Itm))]
def zV:List TV:=[(.i .i64 (0 : Int)), (.u64 (0 : UInt64)), (.u64 (0 : UInt64)), (.u64 (0 : UInt64)), (.s ([] : Str)), (.s ([] : Str)), (.i .i64 (0 : Int)), (.sl .bs ([] : List UInt8)), (.sl .fl ([] : List Fld))]
def zD:List TV:=[(.s ([] : Str)), (.i .i64 (0 : Int)), (.u64 (0 : UInt64)), (.u64 (0 : UInt64)), (.u64 (0 : UInt64)), (.s ([] : Str)), (.s ([] : Str)), (.i .i64 (0 : Int)), (.sl .bs ([] : List UInt8)), (.sl .fl ([] : List Fld))]
def zT:List TV:=[(.i .i64 (0 : Int)), (.i .i64 (0 : Int)), (.sl .is ([] : List Int))]
def oK (k:TK) (a d:List Nat):TOp:=⟨k,a.map .s,d,none⟩
def oX (k:TK) (a:List TOpd) (d:List Nat):TOp:=⟨k,a,d,none⟩
def oG (n:Nat) (b:Bool) (o:TOp):TOp:=⟨o.k,o.rs,o.ds,some (n,b)⟩
def oA (m o f a d:Nat):TOp:=⟨.k (.fa m o f),[.s a],[d],none⟩
def oL (m o n a d:Nat):TOp:=⟨.k (.ld m o n false),[.s a,.s m],[d],none⟩
def oM (m o n a d:Nat):TOp:=⟨.k (.ld m o n true),[.s a,.s m],[d],none⟩
def oT (m o n a x:Nat):TOp:=⟨.k (.st m o n),[.s a,.s m,.s x],[m],none⟩
def oV (a d:Nat):TOp:=⟨.k .mv,[.s a],[d],none⟩
def oW (c:TV) (d:Nat):TOp:=⟨.k .mv,[.c c],[d],none⟩
def oC (f n r:Nat) (a:List Nat) (d:Nat):TOp:=⟨.k (.call f (.plain n r)),a.map .s,[d],none⟩
def oE (i a d:Nat):TOp:=⟨.k (.ex i),[.s a],[d],none⟩
def oB (o:BinOp) (a b d:Nat):TOp:=⟨.k (.bin o),[.s a,.s b],[d],none⟩
def oI (o:BinOp) (a:Nat) (c:TV) (d:Nat):TOp:=⟨.k (.bin o),[.s a,.c c],[d],none⟩
def oP (g a:Nat) (b:Bool) (d:Nat):TOp:=⟨.k .pick,[.s g,.s a,.c (.b b)],[d],none⟩
def oN (m:Nat) (z:List TV) (a:Nat):TOp:=⟨.al m z [],[.s m],[a,m],none⟩
def D0 (n:Nat) (m:TM) (r:List RV):TFD:={np:=n,m:=m,ref:=none,tips:=[],res:=r,own:=[],new:=none,tnew:=[]}
def oS (l:List TOp) (b:TM):TM:=.seq (.reg l) none b
end Go.Eng
namespace Go.Eng
abbrev OT:=Option (List TV)
abbrev EV:=List (Nat × (Ctr × FSig))
theorem i4 {a b c d e:Prop} (h:e):a∨b∨c∨d∨e:=.inr (.inr (.inr (.inr h)))
theorem i12 {a b c d e f g h i j k l m:Prop} (x:m):a∨b∨c∨d∨e∨f∨g∨h∨i∨j∨k∨l∨m:=i4 (i4 (i4 x))
end Go.Eng
namespace Go.Eng
open Go.Proofs
noncomputable def trydGl:Nat→TV:=glL [(1,tabV .u64 Lib.pow10Tab)]
abbrev FT (d:TFD) (E:TEnv) (i o:List TV):Prop:=i.length=d.np∧d.run E i=some (o++d.ps.toList.map fun q=>i.getD q.1 .dead)
abbrev CK (i:Nat) (e:EV) (d:TFD):Prop:=((Go.Proofs.Tryd.prog.funcs[i]?).any fun fn=>chkF Go.Proofs.Tryd.prog (fun k=>((envL trydGl e).fs k).2) fn d.erase)=true
theorem ckOf {i:Nat} {e:EV} {d:TFD} (h:((Go.Proofs.Tryd.prog.funcs[i]?).any fun fn=>chkF Go.Proofs.Tryd.prog (fun k=>((envL trydGl e).fs k).2) fn d.erase)=true):CK i e d:=h
abbrev KO (i:Nat) (c:Ctr) (g:FSig):Prop:=SpecOK Go.Proofs.Tryd.prog (fun n=>(trydGl n).av) i (Ctr.fs (c,g))
noncomputable section
def utf_is.sg:FSig:={}
def utf_is.c:Ctr:=fun l=>match l with
 | [.i .i64 r] => .ok [(.b (Utf.isRune r))]
 | _ => .err
def utf_Rune.sg:FSig:={ nres:=2 }
def utf_Rune.c:Ctr:=fun l=>match l with
 | [.sl .bs b,.i .i64 at_] => .if_ (decide (b.length≤1099511627776)) [(.i .i64 ((Utf.runeAt b at_).1)),(.i .i64 ((Utf.runeAt b at_).2))]
 | _ => .err
def utf_look.sg:FSig:={ nres:=2 }
def utf_look.c:Ctr:=fun l=>match l with
 | [.sl .bs b] => .if_ (decide (b.length≤1099511627776)) [(.i .i64 (((Utf.look b).1:Int))),(.i .i64 (((Utf.look b).2:Int)))]
 | _ => .err
def utf_Check.sg:FSig:={ nres:=2 }
def utf_Check.c:Ctr:=fun l=>match l with
 | [.sl .bs b] => .if_ (decide (b.length≤1099511627776)) [(.i .i64 (((Utf.look b).1:Int))),(.b (Utf.whole b))]
 | _ => .err
def ref2_Rune.sg:FSig:={ nres:=2 }
def ref2_Rune.c:Ctr:=fun l=>match l with
 | [.sl .bs b,.i .i64 at_] => .if_ (decide (b.length≤1099511627776)) [(.i .i64 ((Utf.runeAt b at_).1)),(.i .i64 ((Utf.runeAt b at_).2))]
 | _ => .err
def ref2_Check.sg:FSig:={ nres:=2 }
def ref2_Check.c:Ctr:=fun l=>match l with
 | [.sl .bs b] => .if_ (decide (b.length≤1099511627776)) [(.i .i64 (((Utf.look b).1:Int))),(.b (Utf.whole b))]
 | _ => .err
def ref2_Whole.sg:FSig:={}
def ref2_Whole.c:Ctr:=fun l=>match l with
 | [.s s] => .if_ (decide (s.length≤1099511627776)) [(.b (Utf.whole s))]
 | _ => .err
def clone_bs.sg:FSig:={ own:=[(0,1)] }
def clone_bs.c:Ctr:=cloneC .bs 1
def rd_At.sg:FSig:={}
def rd_At.c:Ctr:=fun l=>match l with
 | [.ro (.ag [.sl .bs r_b,.i .i64 r_at])] => .ok [(.i .i64 ((((Rdr.mk r_b r_at)).at_)))]
 | _ => .err
def rd_Left.sg:FSig:={}
def rd_Left.c:Ctr:=fun l=>match l with
 | [.ro (.ag [.sl .bs r_b,.i .i64 r_at])] => .if_ (Cur.good (Rdr.mk r_b r_at)) [(.i .i64 (Cur.left (Rdr.mk r_b r_at)))]
 | _ => .err
def rd_Byte.sg:FSig:={ ref:=some 0,nres:=2 }
def rd_Byte.c:Ctr:=fun l=>match l with
 | [.ag [.sl .bs r_b,.i .i64 r_at]] => .if_ (Cur.good (Rdr.mk r_b r_at)) [(.i .i64 (Cur.byte (Rdr.mk r_b r_at))),(.b (Cur.more (Rdr.mk r_b r_at))),(.ag (Rdr.cells (Cur.adv (Rdr.mk r_b r_at) 1 (Cur.more (Rdr.mk r_b r_at)))))]
 | _ => .err
def rd_next.sg:FSig:={ ref:=some 0,nres:=2 }
def rd_next.c:Ctr:=fun l=>match l with
 | [.ag [.sl .bs r_b,.i .i64 r_at],.i .i64 n] => .if_ (Cur.good (Rdr.mk r_b r_at)) [(.sl .bs (Cur.nx (Rdr.mk r_b r_at) n (Cur.ok8 (Rdr.mk r_b r_at) n))),(.b (Cur.ok8 (Rdr.mk r_b r_at) n)),(.ag (Rdr.cells (Cur.adv (Rdr.mk r_b r_at) n (Cur.ok8 (Rdr.mk r_b r_at) n))))]
 | _ => .err
def rd_Take.sg:FSig:={ ref:=some 0,nres:=2 }
def rd_Take.c:Ctr:=fun l=>match l with
 | [.ag [.sl .bs r_b,.i .i64 r_at],.i .i64 n] => .if_ (Cur.good (Rdr.mk r_b r_at)) [(.sl .bs (Cur.nx (Rdr.mk r_b r_at) n (Cur.okT (Rdr.mk r_b r_at) n))),(.b (Cur.okT (Rdr.mk r_b r_at) n)),(.ag (Rdr.cells (Cur.adv (Rdr.mk r_b r_at) n (Cur.okT (Rdr.mk r_b r_at) n))))]
 | _ => .err
def rd_High.sg:FSig:={ ref:=some 0,nres:=2 }
def rd_High.c:Ctr:=fun l=>match l with
 | [.ag [.sl .bs r_b,.i .i64 r_at],.i .i64 n] => .if_ (Cur.good (Rdr.mk r_b r_at)) [(.u64 (Cur.be (Cur.nx (Rdr.mk r_b r_at) n (Cur.ok8 (Rdr.mk r_b r_at) n)))),(.b (Cur.ok8 (Rdr.mk r_b r_at) n)),(.ag (Rdr.cells (Cur.adv (Rdr.mk r_b r_at) n (Cur.ok8 (Rdr.mk r_b r_at) n))))]
 | _ => .err
def cur_New.sg:FSig:={ new:=some 0 }
def cur_New.c:Ctr:=fun l=>match l with
 | [.sl .bs b] => .if_ (decide ((b).length≤1099511627776)) [.pt,(.ag (Rdr.cells ((Rdr.mk b 0))))]
 | _ => .err
def cur_number.sg:FSig:={}
def cur_number.c:Ctr:=fun l=>match l with
 | [.i .i64 n] => .ok [(.b (decide (1≤n∧n≤8)))]
 | _ => .err
def cur_Lay.sg:FSig:={ new:=some 0,tnew:=[(0,1)] }
def cur_Lay.c:Ctr:=fun l=>match l with
 | [] => .ok [.pt,(.ag (Wtr.cells ((Wtr.mk []))))]
 | _ => .err
def wr_Byte.sg:FSig:={ ref:=some 0,tips:=[(0,1)],nres:=0 }
def wr_Byte.c:Ctr:=fun l=>match l with
 | [.ag [.sl .bs w_b],.i .i64 v] => .if_ (decide (((Wtr.mk w_b)).b.length≤1099511627776)) [(.ag (Wtr.cells ((Wtr.mk (((Wtr.mk w_b)).b++[UInt8.ofInt v])))))]
 | _ => .err
def wr_Raw.sg:FSig:={ ref:=some 0,tips:=[(0,1)],nres:=0 }
def wr_Raw.c:Ctr:=fun l=>match l with
 | [.ag [.sl .bs w_b],.sl .bs b] => .if_ (decide (((Wtr.mk w_b)).b.length+(b).length≤1099511627776)) [(.ag (Wtr.cells ((Wtr.mk (((Wtr.mk w_b)).b++b)))))]
 | _ => .err
def wr_High.sg:FSig:={ ref:=some 0,tips:=[(0,1)],nres:=0 }
def wr_High.c:Ctr:=fun l=>match l with
 | [.ag [.sl .bs w_b],.u64 v,.i .i64 n] => .if_ (decide (((Wtr.mk w_b)).b.length≤1099511627776)) [(.ag (Wtr.cells ((Wtr.mk (((Wtr.mk w_b)).b++Cur.high v n)))))]
 | _ => .err
def wr_Bytes.sg:FSig:={ ref:=some 0,tips:=[(0,1)] }
def wr_Bytes.c:Ctr:=fun l=>match l with
 | [.ag [.sl .bs w_b]] => .if_ (decide (((Wtr.mk w_b)).b.length≤1099511627776)) [(.sl .bs ((((Wtr.mk w_b)).b))),(.ag (Wtr.cells ((Wtr.mk w_b))))]
 | _ => .err
def mp_few.sg:FSig:={}
def mp_few.c:Ctr:=fun l=>match l with
 | [.i .i64 n] => .if_ (decide (0≤n∧n≤1099511627776)) [(.b (decide (n<4294967296)))]
 | _ => .err
def mp_fields.sg:FSig:={}
def mp_fields.c:Ctr:=fun l=>match l with
 | [.ag [.i .i64 it9k,.u64 it9n,.sl .bs it9y,.s it9t,.sl .il it9d]] => .if_ (decide (Itm.bulk (Itm.of (Itv.mk it9k it9n it9y it9t it9d))≤1099511627776)) [(.b (Mp.fieldsOK (Itm.of (Itv.mk it9k it9n it9y it9t it9d))))]
 | _ => .err
def mp_Check.sg:FSig:={}
def mp_Check.c:Ctr:=fun l=>match l with
 | [.ag [.i .i64 it9k,.u64 it9n,.sl .bs it9y,.s it9t,.sl .il it9d]] => .if_ (decide (Itm.bulk (Itm.of (Itv.mk it9k it9n it9y it9t it9d))≤1099511627776)) [(.i .i64 (Mp.chk (Itm.of (Itv.mk it9k it9n it9y it9t it9d))))]
 | _ => .err
def mp_Check.cn (n:Nat):Ctr:=fun l=>match l with
 | [.ag [.i .i64 it9k,.u64 it9n,.sl .bs it9y,.s it9t,.sl .il it9d]] => .if_ ((decide (Itm.bulk (Itm.of (Itv.mk it9k it9n it9y it9t it9d))≤1099511627776))&&decide ((Itm.bulk (Itm.of (Itv.mk it9k it9n it9y it9t it9d)))<n)) [(.i .i64 (Mp.chk (Itm.of (Itv.mk it9k it9n it9y it9t it9d))))]
 | _ => .err
def mp_wrong.sg:FSig:={ nres:=2 }
def mp_wrong.c:Ctr:=fun l=>match l with
 | [.i .i64 e,.i .i64 at_] => .ok [(.ag (Itv.cells (Itm.val (Mp.zero)))),(.ag (Flt.cells ((Flt.mk e at_ []))))]
 | _ => .err
def mp_unsigned.sg:FSig:={}
def mp_unsigned.c:Ctr:=fun l=>match l with
 | [.u64 n] => .ok [(.ag [(.i .i64 (Mp.unsigned n).1),(.i .i64 (Mp.unsigned n).2)])]
 | _ => .err
def mp_signed.sg:FSig:={}
def mp_signed.c:Ctr:=fun l=>match l with
 | [.u64 n] => .ok [(.ag [(.i .i64 (Mp.signed n).1),(.i .i64 (Mp.signed n).2)])]
 | _ => .err
def mp_sized.sg:FSig:={}
def mp_sized.c:Ctr:=fun l=>match l with
 | [.i .i64 k,.i .i64 n] => .if_ (Mp.sizeds k&&decide (0≤n∧n<4294967296)) [(.ag [(.i .i64 (Mp.sized k n).1),(.i .i64 (Mp.sized k n).2)])]
 | _ => .err
def mp_put.sg:FSig:={ ref:=some 0,tips:=[(0,1)],nres:=0 }
def mp_put.c:Ctr:=fun l=>match l with
 | [.ag [.sl .bs w_b],.ag [.i .i64 f_at,.i .i64 f_end],.u64 n] => .if_ (decide (((Wtr.mk w_b)).b.length+10≤1099511627776)) [(.ag (Wtr.cells ((Wtr.mk (((Wtr.mk w_b)).b++Mp.put (((Spn.mk f_at f_end)).at_,((Spn.mk f_at f_end)).end_) n)))))]
 | _ => .err
def mp_lay.sg:FSig:={ ref:=some 0,tips:=[(0,1)],nres:=0 }
def mp_lay.c:Ctr:=fun l=>match l with
 | [.ag [.sl .bs w_b],.ag [.i .i64 it9k,.u64 it9n,.sl .bs it9y,.s it9t,.sl .il it9d]] => .if_ (decide (((Wtr.mk w_b)).b.length+16 * Itm.bulk (Itm.of (Itv.mk it9k it9n it9y it9t it9d))≤1099511627776)&&decide (Mp.chk (Itm.of (Itv.mk it9k it9n it9y it9t it9d))=0)) [(.ag (Wtr.cells ((Wtr.mk (((Wtr.mk w_b)).b++Mp.lay (Itm.of (Itv.mk it9k it9n it9y it9t it9d)))))))]
 | _ => .err
def mp_lay.cn (n:Nat):Ctr:=fun l=>match l with
 | [.ag [.sl .bs w_b],.ag [.i .i64 it9k,.u64 it9n,.sl .bs it9y,.s it9t,.sl .il it9d]] => .if_ ((decide (((Wtr.mk w_b)).b.length+16 * Itm.bulk (Itm.of (Itv.mk it9k it9n it9y it9t it9d))≤1099511627776)&&decide (Mp.chk (Itm.of (Itv.mk it9k it9n it9y it9t it9d))=0))&&decide ((Itm.bulk (Itm.of (Itv.mk it9k it9n it9y it9t it9d)))<n)) [(.ag (Wtr.cells ((Wtr.mk (((Wtr.mk w_b)).b++Mp.lay (Itm.of (Itv.mk it9k it9n it9y it9t it9d)))))))]
 | _ => .err
def mp_Encode.sg:FSig:={ nres:=2 }
def mp_Encode.c:Ctr:=fun l=>match l with
 | [.ag [.i .i64 it9k,.u64 it9n,.sl .bs it9y,.s it9t,.sl .il it9d]] => .if_ (decide (Itm.bulk (Itm.of (Itv.mk it9k it9n it9y it9t it9d))≤1073741824)) [(.sl .bs (Mp.enc (Itm.of (Itv.mk it9k it9n it9y it9t it9d)))),(.i .i64 (Mp.chk (Itm.of (Itv.mk it9k it9n it9y it9t it9d))))]
 | _ => .err
def mp_first.sg:FSig:={ nres:=3 }
def mp_first.c:Ctr:=fun l=>match l with
 | [.i .i64 c] => .if_ (decide (0≤c∧c≤255)) [(.i .i64 ((Mp.first c).1)),(.u64 ((Mp.first c).2.1)),(.i .i64 ((Mp.first c).2.2))]
 | _ => .err
def mp_number.sg:FSig:={ nres:=2 }
def mp_number.c:Ctr:=fun l=>match l with
 | [.ag [.i .i64 it9k,.u64 it9n,.sl .bs it9y,.s it9t,.sl .il it9d],.i .i64 p,.i .i64 c,.ag [.i .i64 f_at,.i .i64 f_end]] => .ok [(.ag (Itv.cells (Itm.val ((Mp.num (Itm.of (Itv.mk it9k it9n it9y it9t it9d)) p c ((Spn.mk f_at f_end)).at_ 0).it)))),(.ag (Flt.cells ((Flt.mk (Mp.num (Itm.of (Itv.mk it9k it9n it9y it9t it9d)) p c ((Spn.mk f_at f_end)).at_ 0).err (Mp.num (Itm.of (Itv.mk it9k it9n it9y it9t it9d)) p c ((Spn.mk f_at f_end)).at_ 0).at_ []))))]
 | _ => .err
def mp_number.cw:Ctr:=wkC 0 [(2,.bs),(4,.il)] mp_number.c
def mp_row.sg:FSig:={ ref:=some 0,nres:=2 }
def mp_row.c:Ctr:=fun l=>match l with
 | [.ag [.sl .bs r_b,.i .i64 r_at],.ag [.i .i64 it9k,.u64 it9n,.sl .bs it9y,.s it9t,.sl .il it9d],.i .i64 p,.i .i64 n] => .if_ (Cur.good (Rdr.mk r_b r_at)) [(.ag (Itv.cells (Itm.val ((Mp.row ((Rdr.mk r_b r_at)).b (Itm.of (Itv.mk it9k it9n it9y it9t it9d)) p ((Rdr.mk r_b r_at)).at_ n).it)))),(.ag (Flt.cells ((Flt.mk (Mp.row ((Rdr.mk r_b r_at)).b (Itm.of (Itv.mk it9k it9n it9y it9t it9d)) p ((Rdr.mk r_b r_at)).at_ n).err (Mp.row ((Rdr.mk r_b r_at)).b (Itm.of (Itv.mk it9k it9n it9y it9t it9d)) p ((Rdr.mk r_b r_at)).at_ n).at_ [])))),(.ag (Rdr.cells ((Rdr.mk ((Rdr.mk r_b r_at)).b (Mp.row ((Rdr.mk r_b r_at)).b (Itm.of (Itv.mk it9k it9n it9y it9t it9d)) p ((Rdr.mk r_b r_at)).at_ n).pos))))]
 | _ => .err
def mp_row.cw:Ctr:=wkC 1 [(2,.bs),(4,.il)] mp_row.c
def mp_kids.sg:FSig:={ ref:=some 0,nres:=2 }
def mp_kids.cn (n:Nat):Ctr:=fun l=>match l with
 | [.ag [.sl .bs r_b,.i .i64 r_at],.ag [.i .i64 it9k,.u64 it9n,.c (.slice none 0 0),.s it9t,.c (.slice none 0 0)],.i .i64 m,.i .i64 depth] => .if_ ((Cur.good (Rdr.mk r_b r_at)&&decide (0≤m∧m≤4294967296∧1≤depth∧depth≤1000))&&decide ((2 * (depth).toNat)<n)) [(.ag (Itv.cells (Itm.val ((Mp.kids (Mp.read ((Rdr.mk r_b r_at)).b (depth - 1).toNat) (Itm.of (Itv.mk it9k it9n [] it9t [])) (Mp.many ((Itv.mk it9k it9n [] it9t [])).kind m) ((Rdr.mk r_b r_at)).at_).it)))),(.ag (Flt.cells ((Flt.mk (Mp.kids (Mp.read ((Rdr.mk r_b r_at)).b (depth - 1).toNat) (Itm.of (Itv.mk it9k it9n [] it9t [])) (Mp.many ((Itv.mk it9k it9n [] it9t [])).kind m) ((Rdr.mk r_b r_at)).at_).err (Mp.kids (Mp.read ((Rdr.mk r_b r_at)).b (depth - 1).toNat) (Itm.of (Itv.mk it9k it9n [] it9t [])) (Mp.many ((Itv.mk it9k it9n [] it9t [])).kind m) ((Rdr.mk r_b r_at)).at_).at_ [])))),(.ag (Rdr.cells ((Rdr.mk ((Rdr.mk r_b r_at)).b (Mp.kids (Mp.read ((Rdr.mk r_b r_at)).b (depth - 1).toNat) (Itm.of (Itv.mk it9k it9n [] it9t [])) (Mp.many ((Itv.mk it9k it9n [] it9t [])).kind m) ((Rdr.mk r_b r_at)).at_).pos))))]
 | _ => .err
def mp_read.sg:FSig:={ ref:=some 0,nres:=2 }
def mp_read.c:Ctr:=fun l=>match l with
 | [.ag [.sl .bs r_b,.i .i64 r_at],.i .i64 depth] => .if_ (Cur.good (Rdr.mk r_b r_at)&&decide (0≤depth∧depth≤1000)) [(.ag (Itv.cells (Itm.val ((Mp.read ((Rdr.mk r_b r_at)).b (depth).toNat ((Rdr.mk r_b r_at)).at_).it)))),(.ag (Flt.cells ((Flt.mk (Mp.read ((Rdr.mk r_b r_at)).b (depth).toNat ((Rdr.mk r_b r_at)).at_).err (Mp.read ((Rdr.mk r_b r_at)).b (depth).toNat ((Rdr.mk r_b r_at)).at_).at_ [])))),(.ag (Rdr.cells ((Rdr.mk ((Rdr.mk r_b r_at)).b (Mp.read ((Rdr.mk r_b r_at)).b (depth).toNat ((Rdr.mk r_b r_at)).at_).pos))))]
 | _ => .err
def mp_read.cn (n:Nat):Ctr:=fun l=>match l with
 | [.ag [.sl .bs r_b,.i .i64 r_at],.i .i64 depth] => .if_ ((Cur.good (Rdr.mk r_b r_at)&&decide (0≤depth∧depth≤1000))&&decide ((2 * (depth).toNat+1)<n)) [(.ag (Itv.cells (Itm.val ((Mp.read ((Rdr.mk r_b r_at)).b (depth).toNat ((Rdr.mk r_b r_at)).at_).it)))),(.ag (Flt.cells ((Flt.mk (Mp.read ((Rdr.mk r_b r_at)).b (depth).toNat ((Rdr.mk r_b r_at)).at_).err (Mp.read ((Rdr.mk r_b r_at)).b (depth).toNat ((Rdr.mk r_b r_at)).at_).at_ [])))),(.ag (Rdr.cells ((Rdr.mk ((Rdr.mk r_b r_at)).b (Mp.read ((Rdr.mk r_b r_at)).b (depth).toNat ((Rdr.mk r_b r_at)).at_).pos))))]
 | _ => .err
def mp_Decode.sg:FSig:={ nres:=2 }
def mp_Decode.c:Ctr:=fun l=>match l with
 | [.sl .bs b,.i .i64 depth] => .if_ (decide ((b).length≤1099511627776)) [(.ag (Itv.cells (Itm.val ((Mp.dec b depth).1)))),(.ag (Flt.cells ((Mp.dec b depth).2)))]
 | _ => .err
def ref29_own.sg:FSig:={}
def ref29_own.c:Ctr:=fun l=>match l with
 | [.ag [.i .i64 it9k,.u64 it9n,.sl .bs it9y,.s it9t,.sl .il it9d]] => .if_ (decide (Itm.bulk (Itm.of (Itv.mk it9k it9n it9y it9t it9d))≤1099511627776)) [(.i .i64 (Mp.own (Itm.of (Itv.mk it9k it9n it9y it9t it9d))))]
 | _ => .err
def ref29_Check.sg:FSig:={}
def ref29_Check.c:Ctr:=fun l=>match l with
 | [.ag [.i .i64 it9k,.u64 it9n,.sl .bs it9y,.s it9t,.sl .il it9d]] => .if_ (decide (Itm.bulk (Itm.of (Itv.mk it9k it9n it9y it9t it9d))≤1099511627776)) [(.i .i64 (Mp.chk (Itm.of (Itv.mk it9k it9n it9y it9t it9d))))]
 | _ => .err
def ref29_Check.cn (n:Nat):Ctr:=fun l=>match l with
 | [.ag [.i .i64 it9k,.u64 it9n,.sl .bs it9y,.s it9t,.sl .il it9d]] => .if_ ((decide (Itm.bulk (Itm.of (Itv.mk it9k it9n it9y it9t it9d))≤1099511627776))&&decide ((Itm.bulk (Itm.of (Itv.mk it9k it9n it9y it9t it9d)))<n)) [(.i .i64 (Mp.chk (Itm.of (Itv.mk it9k it9n it9y it9t it9d))))]
 | _ => .err
def ref28_Same.sg:FSig:={}
def ref28_Same.c:Ctr:=fun l=>match l with
 | [.ag [.i .i64 a9k,.u64 a9n,.sl .bs a9y,.s a9t,.sl .il a9d],.ag [.i .i64 b9k,.u64 b9n,.sl .bs b9y,.s b9t,.sl .il b9d]] => .if_ (decide (Itm.bulk (Itm.of (Itv.mk a9k a9n a9y a9t a9d))≤1099511627776)) [(.b (Itm.same (Itm.of (Itv.mk a9k a9n a9y a9t a9d)) (Itm.of (Itv.mk b9k b9n b9y b9t b9d))))]
 | _ => .err
def ref28_Same.cn (n:Nat):Ctr:=fun l=>match l with
 | [.ag [.i .i64 a9k,.u64 a9n,.sl .bs a9y,.s a9t,.sl .il a9d],.ag [.i .i64 b9k,.u64 b9n,.sl .bs b9y,.s b9t,.sl .il b9d]] => .if_ ((decide (Itm.bulk (Itm.of (Itv.mk a9k a9n a9y a9t a9d))≤1099511627776))&&decide ((Itm.bulk (Itm.of (Itv.mk a9k a9n a9y a9t a9d)))<n)) [(.b (Itm.same (Itm.of (Itv.mk a9k a9n a9y a9t a9d)) (Itm.of (Itv.mk b9k b9n b9y b9t b9d))))]
 | _ => .err
def book_Room.sg:FSig:={}
def book_Room.c:Ctr:=fun l=>match l with
 | [.i .i64 left,.sl .is sizes] => .if_ (decide (left≤10000∧sizes.length≤10)&&sizes.all (fun s=>decide (0≤s))) [(.i .i64 (Book.room left sizes))]
 | _ => .err
def sl_IndexByte.sg:FSig:={}
def sl_IndexByte.c:Ctr:=fun l=>match l with
 | [.s s,.u8 c] => .ok [(.i .i64 (Lib.indexByte s c))]
 | _ => .err
def sl_Index.sg:FSig:={}
def sl_Index.c:Ctr:=fun l=>match l with
 | [.s s,.s t] => .if_ (decide (t.length=1)) [(.i .i64 (Lib.indexByte s (t.getD 0 0)))]
 | _ => .err
def st_Index.sg:FSig:={}
def st_Index.c:Ctr:=fun l=>match l with
 | [.s s,.s t] => .if_ (decide (t.length=1)) [(.i .i64 (Lib.indexByte s (t.getD 0 0)))]
 | _ => .err
def st_Contains.sg:FSig:={}
def st_Contains.c:Ctr:=fun l=>match l with
 | [.s s,.s t] => .if_ (decide (t.length=1)) [(.b (decide (0≤Lib.indexByte s (t.getD 0 0))))]
 | _ => .err
def clone_is.sg:FSig:={ ps:=some (0,1) }
def clone_is.c:Ctr:=cloneC .is 8
def tree_Name.sg:FSig:={}
def tree_Name.c:Ctr:=fun l=>match l with
 | [.i .i64 k] => .ok [(.s (Tree.name k))]
 | _ => .err
def tree_fields.sg:FSig:={}
def tree_fields.c:Ctr:=fun l=>match l with
 | [.ag [.i .i64 v9k,.u64 v9b,.u64 v9h,.u64 v9l,.s v9t,.s v9m,.i .i64 v9s,.sl .bs v9y,.sl .fl v9d]] => .ok [(.b (Tree.fieldsOK (Val.mk v9k v9b v9h v9l v9t v9m v9s v9y v9d)))]
 | _ => .err
def tree_whole.sg:FSig:={}
def tree_whole.c:Ctr:=fun l=>match l with
 | [.s s,.b plain] => .if_ (decide (s.length≤1099511627776)) [(.b (Tree.wholeT s plain))]
 | _ => .err
def tree_check.sg:FSig:={ nres:=2,ps:=some (2,1) }
def tree_check.c:Ctr:=fun l=>match l with
 | [.ag [.i .i64 v9k,.u64 v9b,.u64 v9h,.u64 v9l,.s v9t,.s v9m,.i .i64 v9s,.sl .bs v9y,.sl .fl v9d],.s name,.sl .is path] => .if_ (decide (Fld.bulk (Fld.of name (Val.mk v9k v9b v9h v9l v9t v9m v9s v9y v9d))+path.length≤1099511627776)) [(.sl .is ((Tree.chkF (Fld.of name (Val.mk v9k v9b v9h v9l v9t v9m v9s v9y v9d)) path).1)),(.i .i64 ((Tree.chkF (Fld.of name (Val.mk v9k v9b v9h v9l v9t v9m v9s v9y v9d)) path).2))]
 | _ => .err
def tree_check.cn (n:Nat):Ctr:=fun l=>match l with
 | [.ag [.i .i64 v9k,.u64 v9b,.u64 v9h,.u64 v9l,.s v9t,.s v9m,.i .i64 v9s,.sl .bs v9y,.sl .fl v9d],.s name,.sl .is path] => .if_ ((decide (Fld.bulk (Fld.of name (Val.mk v9k v9b v9h v9l v9t v9m v9s v9y v9d))+path.length≤1099511627776))&&decide ((Fld.bulk (Fld.of name (Val.mk v9k v9b v9h v9l v9t v9m v9s v9y v9d)))<n)) [(.sl .is ((Tree.chkF (Fld.of name (Val.mk v9k v9b v9h v9l v9t v9m v9s v9y v9d)) path).1)),(.i .i64 ((Tree.chkF (Fld.of name (Val.mk v9k v9b v9h v9l v9t v9m v9s v9y v9d)) path).2))]
 | _ => .err
def tree_Check.sg:FSig:={ nres:=2 }
def tree_Check.c:Ctr:=fun l=>match l with
 | [.ag [.i .i64 v9k,.u64 v9b,.u64 v9h,.u64 v9l,.s v9t,.s v9m,.i .i64 v9s,.sl .bs v9y,.sl .fl v9d]] => .if_ (decide (Fld.bulk (Fld.of [] (Val.mk v9k v9b v9h v9l v9t v9m v9s v9y v9d))≤1099511627776)) [(.sl .is ((Tree.chkF (Fld.of [] (Val.mk v9k v9b v9h v9l v9t v9m v9s v9y v9d)) []).1)),(.i .i64 ((Tree.chkF (Fld.of [] (Val.mk v9k v9b v9h v9l v9t v9m v9s v9y v9d)) []).2))]
 | _ => .err
def tree_Depth.sg:FSig:={}
def tree_Depth.c:Ctr:=fun l=>match l with
 | [.ag [.i .i64 v9k,.u64 v9b,.u64 v9h,.u64 v9l,.s v9t,.s v9m,.i .i64 v9s,.sl .bs v9y,.sl .fl v9d]] => .if_ (decide (Fld.bulk (Fld.of [] (Val.mk v9k v9b v9h v9l v9t v9m v9s v9y v9d))≤1099511627776)) [(.i .i64 ((Tree.depth (Fld.of [] (Val.mk v9k v9b v9h v9l v9t v9m v9s v9y v9d)):Int)))]
 | _ => .err
def tree_Depth.cn (n:Nat):Ctr:=fun l=>match l with
 | [.ag [.i .i64 v9k,.u64 v9b,.u64 v9h,.u64 v9l,.s v9t,.s v9m,.i .i64 v9s,.sl .bs v9y,.sl .fl v9d]] => .if_ ((decide (Fld.bulk (Fld.of [] (Val.mk v9k v9b v9h v9l v9t v9m v9s v9y v9d))≤1099511627776))&&decide ((Fld.bulk (Fld.of [] (Val.mk v9k v9b v9h v9l v9t v9m v9s v9y v9d)))<n)) [(.i .i64 ((Tree.depth (Fld.of [] (Val.mk v9k v9b v9h v9l v9t v9m v9s v9y v9d)):Int)))]
 | _ => .err
def ref17_Own.sg:FSig:={}
def ref17_Own.c:Ctr:=fun l=>match l with
 | [.ag [.i .i64 a9k,.u64 a9b,.u64 a9h,.u64 a9l,.s a9t,.s a9m,.i .i64 a9s,.sl .bs a9y,.sl .fl a9d],.ag [.i .i64 b9k,.u64 b9b,.u64 b9h,.u64 b9l,.s b9t,.s b9m,.i .i64 b9s,.sl .bs b9y,.sl .fl b9d]] => .ok [(.b (Tree.ownSame (Val.mk a9k a9b a9h a9l a9t a9m a9s a9y a9d) (Val.mk b9k b9b b9h b9l b9t b9m b9s b9y b9d)))]
 | _ => .err
def ref17_Same.sg:FSig:={}
def ref17_Same.c:Ctr:=fun l=>match l with
 | [.ag [.i .i64 a9k,.u64 a9b,.u64 a9h,.u64 a9l,.s a9t,.s a9m,.i .i64 a9s,.sl .bs a9y,.sl .fl a9d],.ag [.i .i64 b9k,.u64 b9b,.u64 b9h,.u64 b9l,.s b9t,.s b9m,.i .i64 b9s,.sl .bs b9y,.sl .fl b9d]] => .if_ (decide (Fld.bulk (Fld.of [] (Val.mk a9k a9b a9h a9l a9t a9m a9s a9y a9d))≤1099511627776)) [(.b (Tree.same (Val.mk a9k a9b a9h a9l a9t a9m a9s a9y a9d) (Val.mk b9k b9b b9h b9l b9t b9m b9s b9y b9d)))]
 | _ => .err
def ref17_Same.cn (n:Nat):Ctr:=fun l=>match l with
 | [.ag [.i .i64 a9k,.u64 a9b,.u64 a9h,.u64 a9l,.s a9t,.s a9m,.i .i64 a9s,.sl .bs a9y,.sl .fl a9d],.ag [.i .i64 b9k,.u64 b9b,.u64 b9h,.u64 b9l,.s b9t,.s b9m,.i .i64 b9s,.sl .bs b9y,.sl .fl b9d]] => .if_ ((decide (Fld.bulk (Fld.of [] (Val.mk a9k a9b a9h a9l a9t a9m a9s a9y a9d))≤1099511627776))&&decide ((Fld.bulk (Fld.of [] (Val.mk a9k a9b a9h a9l a9t a9m a9s a9y a9d)))<n)) [(.b (Tree.same (Val.mk a9k a9b a9h a9l a9t a9m a9s a9y a9d) (Val.mk b9k b9b b9h b9l b9t b9m b9s b9y b9d)))]
 | _ => .err
def book_Value.sg:FSig:={}
def book_Value.c:Ctr:=fun l=>match l with
 | [.i .i64 left,.ag [.i .i64 v9k,.u64 v9b,.u64 v9h,.u64 v9l,.s v9t,.s v9m,.i .i64 v9s,.sl .bs v9y,.sl .fl v9d]] => .if_ (decide (left≤10000)) [(.i .i64 (Book.value left (Fld.of [] (Val.mk v9k v9b v9h v9l v9t v9m v9s v9y v9d))))]
 | _ => .err
def book_Value.cn (n:Nat):Ctr:=fun l=>match l with
 | [.i .i64 left,.ag [.i .i64 v9k,.u64 v9b,.u64 v9h,.u64 v9l,.s v9t,.s v9m,.i .i64 v9s,.sl .bs v9y,.sl .fl v9d]] => .if_ ((decide (left≤10000))&&decide ((Fld.bulk (Fld.of [] (Val.mk v9k v9b v9h v9l v9t v9m v9s v9y v9d)))<n)) [(.i .i64 (Book.value left (Fld.of [] (Val.mk v9k v9b v9h v9l v9t v9m v9s v9y v9d))))]
 | _ => .err
def book_Small.sg:FSig:={}
def book_Small.c:Ctr:=fun l=>match l with
 | [.ag [.i .i64 v9k,.u64 v9b,.u64 v9h,.u64 v9l,.s v9t,.s v9m,.i .i64 v9s,.sl .bs v9y,.sl .fl v9d]] => .ok [(.b (decide (0≤Book.value 1200 (Fld.of [] (Val.mk v9k v9b v9h v9l v9t v9m v9s v9y v9d)))))]
 | _ => .err
def sc_Itoa.sg:FSig:={}
def sc_Itoa.c:Ctr:=itoaC
def tree_Regular.sg:FSig:={}
def tree_Regular.c:Ctr:=fun l=>match l with
 | [.sl .fl l] => .if_ (decide (l.length≤1099511627776)) [(.b (Tree.regular l))]
 | _ => .err
def st_Cut.sg:FSig:={ nres:=3 }
def st_Cut.c:Ctr:=fun l=>match l with
 | [.s s,.s t] => .if_ (decide (t.length=1∧s.length≤1099511627776)) [(.s ((Dk.cut s (t.getD 0 0)).1)),(.s ((Dk.cut s (t.getD 0 0)).2.1)),(.b ((Dk.cut s (t.getD 0 0)).2.2))]
 | _ => .err
def sl_Cut.sg:FSig:={ nres:=3 }
def sl_Cut.c:Ctr:=fun l=>match l with
 | [.s s,.s t] => .if_ (decide (t.length=1∧s.length≤1099511627776)) [(.s ((Dk.cut s (t.getD 0 0)).1)),(.s ((Dk.cut s (t.getD 0 0)).2.1)),(.b ((Dk.cut s (t.getD 0 0)).2.2))]
 | _ => .err
def dk_text.sg:FSig:={}
def dk_text.c:Ctr:=fun l=>match l with
 | [.s s] => .ok [(.ag (Itv.cells (Itm.val (Db.text s))))]
 | _ => .err
def dk_simple.sg:FSig:={}
def dk_simple.c:Ctr:=fun l=>match l with
 | [.u64 n] => .ok [(.ag (Itv.cells (Itm.val (Db.simple n))))]
 | _ => .err
def dk_high.sg:FSig:={ own:=[(0,1)] }
def dk_high.c:Ctr:=fun l=>match l with
 | [.u64 v,.i .i64 n] => .if_ (decide (0≤n∧n≤8)) [(.sl .bs (Cur.putHigh v (n).toNat))]
 | _ => .err
def dk_integer.sg:FSig:={}
def dk_integer.c:Ctr:=fun l=>match l with
 | [.i .i64 v] => .if_ (decide (-9223372036854775808≤v∧v≤9223372036854775807)) [(.ag (Itv.cells (Itm.val (Db.integer v))))]
 | _ => .err
def dk_mapped.sg:FSig:={}
def dk_mapped.c:Ctr:=fun l=>match l with
 | [.sl .fl l] => .if_ (decide (Fld.bulks l≤1048576)&&Tree.fines l) [(.ag (Itv.cells (Itm.val (Db.map (Dk.mapped l)))))]
 | _ => .err
def dk_mapped.cn (n:Nat):Ctr:=fun l=>match l with
 | [.sl .fl l] => .if_ ((decide (Fld.bulks l≤1048576)&&Tree.fines l)&&decide ((4 * Fld.bulks l+3)<n)) [(.ag (Itv.cells (Itm.val (Db.map (Dk.mapped l)))))]
 | _ => .err
def dk_laid.sg:FSig:={}
def dk_laid.cn (n:Nat):Ctr:=fun l=>match l with
 | [.sl .fl l] => .if_ ((decide (Fld.bulks l≤1048576)&&Tree.fines l)&&decide ((4 * Fld.bulks l+4)<n)) [(.sl .bs (Mp.lay (Db.map (Dk.mapped l))))]
 | _ => .err
def dk_item.sg:FSig:={}
def dk_item.cn (n:Nat):Ctr:=fun l=>match l with
 | [.ag [.i .i64 v9k,.u64 v9b,.u64 v9h,.u64 v9l,.s v9t,.s v9m,.i .i64 v9s,.sl .bs v9y,.sl .fl v9d]] => .if_ ((decide (Fld.bulk (Fld.of [] (Val.mk v9k v9b v9h v9l v9t v9m v9s v9y v9d))≤1048576)&&Tree.fine (Fld.of [] (Val.mk v9k v9b v9h v9l v9t v9m v9s v9y v9d)))&&decide ((4 * Fld.bulk (Fld.of [] (Val.mk v9k v9b v9h v9l v9t v9m v9s v9y v9d))+2)<n)) [(.ag (Itv.cells (Itm.val (Dk.item (Fld.of [] (Val.mk v9k v9b v9h v9l v9t v9m v9s v9y v9d))))))]
 | _ => .err
def dk_inner.sg:FSig:={}
def dk_inner.cn (n:Nat):Ctr:=fun l=>match l with
 | [.ag [.i .i64 v9k,.u64 v9b,.u64 v9h,.u64 v9l,.s v9t,.s v9m,.i .i64 v9s,.sl .bs v9y,.sl .fl v9d]] => .if_ ((decide (Fld.bulk (Fld.of [] (Val.mk v9k v9b v9h v9l v9t v9m v9s v9y v9d))≤1048576)&&Tree.fine (Fld.of [] (Val.mk v9k v9b v9h v9l v9t v9m v9s v9y v9d)))&&decide ((4 * Fld.bulk (Fld.of [] (Val.mk v9k v9b v9h v9l v9t v9m v9s v9y v9d))+1)<n)) [(.sl .bs (Dk.inner (Val.mk v9k v9b v9h v9l v9t v9m v9s v9y v9d) (Mp.lay (Db.map (Dk.mapped ((Val.mk v9k v9b v9h v9l v9t v9m v9s v9y v9d)).kids)))))]
 | _ => .err
def dk_sort.sg:FSig:={}
def dk_sort.c:Ctr:=fun l=>match l with
 | [.i .i64 k] => .ok [(.u64 (Dk.sort k))]
 | _ => .err
def dk_Item.sg:FSig:={ nres:=2 }
def dk_Item.c:Ctr:=fun l=>match l with
 | [.ag [.i .i64 v9k,.u64 v9b,.u64 v9h,.u64 v9l,.s v9t,.s v9m,.i .i64 v9s,.sl .bs v9y,.sl .fl v9d]] => .if_ (decide (Fld.bulk (Fld.of [] (Val.mk v9k v9b v9h v9l v9t v9m v9s v9y v9d))≤1048576)) [(.ag (Itv.cells (Itm.val ((Dk.enc (Val.mk v9k v9b v9h v9l v9t v9m v9s v9y v9d)).1)))),(.ag (Flt.cells ((Dk.enc (Val.mk v9k v9b v9h v9l v9t v9m v9s v9y v9d)).2)))]
 | _ => .err
def dk_none.sg:FSig:={ ps:=some (0,1) }
def dk_none.c:Ctr:=fun l=>match l with
 | [.sl .is path] => .if_ (decide ((path).length≤1099511627776)) [(.ag (Flt.cells ((Flt.mk 12 0 path))))]
 | _ => .err
def dk_with.sg:FSig:={ nres:=2,ps:=some (2,1) }
def dk_with.c:Ctr:=fun l=>match l with
 | [.ag [.i .i64 v9k,.u64 v9b,.u64 v9h,.u64 v9l,.s v9t,.s v9m,.i .i64 v9s,.sl .bs v9y,.c (.slice none 0 0)],.sl .il l,.sl .is path,.i .i64 within] => .if_ (decide ((Mp.lays l).length+(path).length≤536870912)&&decide (Mp.chks l=0∧(l).length % 2=0∧0≤within∧within≤200)) [(.ag (Val.cells (Db.Got.val (Db.Gots.got (Val.mk v9k v9b v9h v9l v9t v9m v9s v9y []) (Dk.fields (200 - within).toNat l 0 path))))),(.ag (Flt.cells (Db.Got.flt (Db.Gots.got (Val.mk v9k v9b v9h v9l v9t v9m v9s v9y []) (Dk.fields (200 - within).toNat l 0 path)))))]
 | _ => .err
def dk_with.cn (n:Nat):Ctr:=fun l=>match l with
 | [.ag [.i .i64 v9k,.u64 v9b,.u64 v9h,.u64 v9l,.s v9t,.s v9m,.i .i64 v9s,.sl .bs v9y,.c (.slice none 0 0)],.sl .il l,.sl .is path,.i .i64 within] => .if_ ((decide ((Mp.lays l).length+(path).length≤536870912)&&decide (Mp.chks l=0∧(l).length % 2=0∧0≤within∧within≤200))&&decide ((4 * (Mp.lays l).length+3)<n)) [(.ag (Val.cells (Db.Got.val (Db.Gots.got (Val.mk v9k v9b v9h v9l v9t v9m v9s v9y []) (Dk.fields (200 - within).toNat l 0 path))))),(.ag (Flt.cells (Db.Got.flt (Db.Gots.got (Val.mk v9k v9b v9h v9l v9t v9m v9s v9y []) (Dk.fields (200 - within).toNat l 0 path)))))]
 | _ => .err
def dk_value.sg:FSig:={ nres:=2,ps:=some (1,1) }
def dk_value.cn (n:Nat):Ctr:=fun l=>match l with
 | [.ag [.i .i64 it9k,.u64 it9n,.sl .bs it9y,.s it9t,.sl .il it9d],.sl .is path,.i .i64 within] => .if_ ((decide ((Mp.lay (Itm.of (Itv.mk it9k it9n it9y it9t it9d))).length+(path).length≤536870912)&&decide (Mp.chk (Itm.of (Itv.mk it9k it9n it9y it9t it9d))=0∧0≤within∧within≤200))&&decide ((4 * (Mp.lay (Itm.of (Itv.mk it9k it9n it9y it9t it9d))).length)<n)) [(.ag (Val.cells (Db.Got.val (Dk.value (200 - within).toNat (Itm.of (Itv.mk it9k it9n it9y it9t it9d)) path)))),(.ag (Flt.cells (Db.Got.flt (Dk.value (200 - within).toNat (Itm.of (Itv.mk it9k it9n it9y it9t it9d)) path))))]
 | _ => .err
def dk_ext.sg:FSig:={ nres:=2 }
def dk_ext.cn (n:Nat):Ctr:=fun l=>match l with
 | [.ag [.i .i64 it9k,.u64 it9n,.sl .bs it9y,.s it9t,.sl .il it9d],.i .i64 within] => .if_ ((decide (((Itv.mk it9k it9n it9y it9t it9d)).bytes.length≤536870912∧((Itv.mk it9k it9n it9y it9t it9d)).n≤127∧0≤within∧within≤200))&&decide ((4 * ((Itv.mk it9k it9n it9y it9t it9d)).bytes.length+2)<n)) [(.ag (Val.cells ((Dk.extV (200 - within).toNat ((Itv.mk it9k it9n it9y it9t it9d)).n ((Itv.mk it9k it9n it9y it9t it9d)).bytes).1))),(.b ((Dk.extV (200 - within).toNat ((Itv.mk it9k it9n it9y it9t it9d)).n ((Itv.mk it9k it9n it9y it9t it9d)).bytes).2))]
 | _ => .err
def dk_read.sg:FSig:={ nres:=2 }
def dk_read.cn (n:Nat):Ctr:=fun l=>match l with
 | [.ag [.i .i64 v9k,.u64 v9b,.u64 v9h,.u64 v9l,.s v9t,.s v9m,.i .i64 v9s,.sl .bs v9y,.c (.slice none 0 0)],.sl .bs b,.i .i64 within] => .if_ ((decide ((b).length≤536870912∧0≤within∧within<200))&&decide ((4 * (b).length+1)<n)) [(.ag (Val.cells ((Dk.readV (199 - within).toNat (Val.mk v9k v9b v9h v9l v9t v9m v9s v9y []) b).1))),(.b ((Dk.readV (199 - within).toNat (Val.mk v9k v9b v9h v9l v9t v9m v9s v9y []) b).2))]
 | _ => .err
def dk_word.sg:FSig:={}
def dk_word.c:Ctr:=fun l=>match l with
 | [.sl .bs b] => .if_ (decide ((b).length≤1099511627776)) [(.u64 (Cur.be b))]
 | _ => .err
def dk_whole.sg:FSig:={}
def dk_whole.c:Ctr:=fun l=>match l with
 | [.sl .bs b] => .if_ (decide ((b).length≤1099511627776)) [(.b (Utf.whole b))]
 | _ => .err
def dk_Value.sg:FSig:={ nres:=2 }
def dk_Value.c:Ctr:=fun l=>match l with
 | [.ag [.i .i64 it9k,.u64 it9n,.sl .bs it9y,.s it9t,.sl .il it9d]] => .if_ (decide (Itm.bulk (Itm.of (Itv.mk it9k it9n it9y it9t it9d))≤1048576)) [(.ag (Val.cells ((Dk.dec (Itm.of (Itv.mk it9k it9n it9y it9t it9d))).1))),(.ag (Flt.cells ((Dk.dec (Itm.of (Itv.mk it9k it9n it9y it9t it9d))).2)))]
 | _ => .err
def law31_awake.sg:FSig:={}
def law31_awake.c:Ctr:=fun l=>match l with
 | [] => .ok [(.b (true))]
 | _ => .err
def utf_is.env:EV:=[]
def utf_is.E:TEnv:=envL trydGl utf_is.env
def utf_is.m:TM:=oS [oW (.b false) 2] (oS [oV 0 3,oI .geq 3 (.i .i64 0) 4,oV 4 5,oG 5 true (oV 0 6),oG 5 true (oI .leq 6 (.i .i64 1114111) 7),oP 5 7 false 8,oV 8 9,oG 9 true (oV 0 10),oG 9 true (oI .lss 10 (.i .i64 55296) 11),oG 9 true (oV 11 12),oG 12 false (oV 0 13),oG 12 false (oI .gtr 13 (.i .i64 57343) 14),oG 9 true (oX (.k .pick) [.s 12,.c (.b true),.s 14] [15]),oP 9 15 false 16,oV 16 2] .ret)
def utf_is.d:TFD:=D0 1 utf_is.m [.t 2]
def utf_is.F (r:Int):OT:=utf_is.d.run utf_is.E [(.i .i64 r)]
theorem utf_is.F_in (r:Int) {ρ:OT} (K:∀(v1:Bool) (h1:v1=(cond (decide ((0:Int)≤r)) (decide (r≤(1114111:Int))) false)) (v2:Bool) (h2:v2=(v1&&(!(decide (r<(55296:Int)))))) (v3:Bool) (h3:v3=(cond (decide (r<(55296:Int))) true (decide ((57343:Int)<r)))),ck (!(decide ((0:Int)≤r)) || (decide ((0:Int)≤r))) (ck (!(decide ((0:Int)≤r)) || (decide ((0:Int)≤r))) (ck (!v1 || v1) (ck (!v1 || v1) (ck (!v2 || v2) (ck (!v1 || (v1&&((decide (r<(55296:Int))) || v2))) (ck (!v1 || v1) (some [(.b (cond v1 v3 false))])))))))=ρ):utf_is.F r=ρ:=Eq.trans (by kernel_rfl) (K _ rfl _ rfl _ rfl)
theorem utf_is.chk:CK 56 utf_is.env utf_is.d:=ckOf (by kernel_rfl)
def utf_Rune.env:EV:=[(56,(utf_is.c,utf_is.sg))]
def utf_Rune.E:TEnv:=envL trydGl utf_Rune.env
def utf_Rune.m1:TM := .seq (oS [oV 7 54,oV 0 55,oK (.k .len) [55] [56],oV 1 57,oB .sub 56 57 58,oI .sub 58 (.i .i64 1) 59,oB .gtr 54 59 60] (.cond (.s 60) [] (.exit (gid 0)) .skip)) none (oS [oW (.i .i64 1) 9] (.seq .skip none (.seq (oS [oV 9 61,oV 7 62,oB .leq 61 62 63] (.cond (.s 63) [] (.seq (oS [oV 0 64,oV 1 65,oV 9 66,oB .add 65 66 67,oK (.k (.ix 1)) [64,67] [68],oK (.k (.lr 1 false)) [68] [69],oI .and 69 (.u8 192) 70,oI .neq 70 (.u8 128) 71] (.cond (.s 71) [] (.exit (gid 0)) .skip)) none (oS [oV 4 72,oI .shl 72 (.u64 6) 73,oV 0 74,oV 1 75,oV 9 76,oB .add 75 76 77,oK (.k (.ix 1)) [74,77] [78],oK (.k (.lr 1 false)) [78] [79],oI .and 79 (.u8 63) 80,oK (.k (.ci .i64)) [80] [81],oB .or 73 81 82,oV 82 4] (oS [oV 9 83,oI .add 83 (.i .i64 1) 84,oV 84 9] (.exit (gid 1))))) .skip)) none (.seq (oS [oV 4 85,oV 8 86,oB .lss 85 86 87,oV 87 88,oG 88 false (oV 4 89),oG 88 false (oC 56 1 1 [89] 90),oG 88 false (oK (.k (.un .not)) [90] [91]),oX (.k .pick) [.s 88,.c (.b true),.s 91] [92]] (.cond (.s 92) [] (.exit (gid 0)) .skip)) none (.seq (oS [oV 4 93,oV 7 94,oI .add 94 (.i .i64 1) 95,oV 93 4,oV 95 5] .ret) none .skip)))))
def utf_Rune.m2:TM := .seq .skip none (.seq (oS [oV 9 61,oV 7 62,oB .leq 61 62 63] (.cond (.s 63) [] (.seq (oS [oV 0 64,oV 1 65,oV 9 66,oB .add 65 66 67,oK (.k (.ix 1)) [64,67] [68],oK (.k (.lr 1 false)) [68] [69],oI .and 69 (.u8 192) 70,oI .neq 70 (.u8 128) 71] (.cond (.s 71) [] (.exit (gid 0)) .skip)) none (oS [oV 4 72,oI .shl 72 (.u64 6) 73,oV 0 74,oV 1 75,oV 9 76,oB .add 75 76 77,oK (.k (.ix 1)) [74,77] [78],oK (.k (.lr 1 false)) [78] [79],oI .and 79 (.u8 63) 80,oK (.k (.ci .i64)) [80] [81],oB .or 73 81 82,oV 82 4] (oS [oV 9 83,oI .add 83 (.i .i64 1) 84,oV 84 9] (.exit (gid 1))))) .skip)) none (.seq (oS [oV 4 85,oV 8 86,oB .lss 85 86 87,oV 87 88,oG 88 false (oV 4 89),oG 88 false (oC 56 1 1 [89] 90),oG 88 false (oK (.k (.un .not)) [90] [91]),oX (.k .pick) [.s 88,.c (.b true),.s 91] [92]] (.cond (.s 92) [] (.exit (gid 0)) .skip)) none (.seq (oS [oV 4 93,oV 7 94,oI .add 94 (.i .i64 1) 95,oV 93 4,oV 95 5] .ret) none .skip)))
def utf_Rune.m3:TM := .seq .skip none (oS [oW (.i .i64 0) 4,oW (.i .i64 0) 5] .ret)
def utf_Rune.m:TM:=oS [oW (.i .i64 0) 4,oW (.i .i64 0) 5] (.sco (.lab 0 [] [] utf_Rune.m3 (.lab 1 [0,1,4,7,8,9] [] utf_Rune.m2 (.scp (oS [oW (.i .i64 0) 6,oW (.i .i64 0) 7,oW (.i .i64 0) 8,oW (.i .i64 0) 9] (.seq (oS [oV 1 10,oI .lss 10 (.i .i64 0) 11,oV 11 12,oG 12 false (oV 1 13),oG 12 false (oV 0 14),oG 12 false (oK (.k .len) [14] [15]),oG 12 false (oB .geq 13 15 16),oX (.k .pick) [.s 12,.c (.b true),.s 16] [17]] (.cond (.s 17) [] (.exit (gid 0)) .skip)) none (oS [oV 0 18,oV 1 19,oK (.k (.ix 1)) [18,19] [20],oK (.k (.lr 1 false)) [20] [21],oK (.k (.ci .i64)) [21] [22],oV 22 6] (.seq (.block 0 [] (oS [oV 6 24,oI .lss 24 (.i .i64 128) 25,oV 25 23] (.cond (.s 23) [] (oS [oV 6 26,oV 26 4,oW (.i .i64 1) 5] .ret) (oS [oV 6 28,oI .geq 28 (.i .i64 192) 29,oV 29 30,oG 30 true (oV 6 31),oG 30 true (oI .lss 31 (.i .i64 224) 32),oP 30 32 false 33,oV 33 27] (.cond (.s 27) [] (.reg [oV 6 34,oI .and 34 (.i .i64 31) 35,oV 35 4,oW (.i .i64 1) 7,oW (.i .i64 128) 8]) (oS [oV 6 37,oI .geq 37 (.i .i64 224) 38,oV 38 39,oG 39 true (oV 6 40),oG 39 true (oI .lss 40 (.i .i64 240) 41),oP 39 41 false 42,oV 42 36] (.cond (.s 36) [] (.reg [oV 6 43,oI .and 43 (.i .i64 15) 44,oV 44 4,oW (.i .i64 2) 7,oW (.i .i64 2048) 8]) (oS [oV 6 46,oI .geq 46 (.i .i64 240) 47,oV 47 48,oG 48 true (oV 6 49),oG 48 true (oI .lss 49 (.i .i64 248) 50),oP 48 50 false 51,oV 51 45] (.cond (.s 45) [] (.reg [oV 6 52,oI .and 52 (.i .i64 7) 53,oV 53 4,oW (.i .i64 3) 7,oW (.i .i64 65536) 8]) (.exit (gid 0))))))))))) (some [0,1,4,7,8]) utf_Rune.m1))))))))
def utf_Rune.d:TFD:=D0 2 utf_Rune.m [.t 4,.t 5]
def utf_Rune.F (b:List UInt8) (at_:Int):OT:=utf_Rune.d.run utf_Rune.E [(.sl .bs b),(.i .i64 at_)]
def utf_Rune.k1:Cont (List TV):=againK (evO _ utf_Rune.E utf_Rune.m3) (isG 0) [] (endK utf_Rune.d)
def utf_Rune.k2:Cont (List TV):=againK (evO _ utf_Rune.E utf_Rune.m2) (isG 1) [0,1,4,7,8,9] utf_Rune.k1
def utf_Rune.l1:OT:=loopL (evO _ utf_Rune.E utf_Rune.m3) (isG 0) [] (headT [] []) (endK utf_Rune.d)
def utf_Rune.j2 (x0:List UInt8) (x1:Int) (x2:Int) (x3:Int) (x4:Int):OT:=evO _ utf_Rune.E utf_Rune.m1 (headT [0,1,4,7,8] [(.sl .bs x0),(.i .i64 x1),(.i .i64 x2),(.i .i64 x3),(.i .i64 x4)]) utf_Rune.k2
def utf_Rune.l3 (x0:List UInt8) (x1:Int) (x2:Int) (x3:Int) (x4:Int) (x5:Int):OT:=loopL (evO _ utf_Rune.E utf_Rune.m2) (isG 1) [0,1,4,7,8,9] (headT [0,1,4,7,8,9] [(.sl .bs x0),(.i .i64 x1),(.i .i64 x2),(.i .i64 x3),(.i .i64 x4),(.i .i64 x5)]) utf_Rune.k1
theorem utf_Rune.l1_eq:utf_Rune.l1=some [(.i .i64 0),(.i .i64 0)]:=((ev_loop _ _ _ _ _ _).trans (by kernel_rfl))
theorem utf_Rune.j2_in (x0:List UInt8) (x1:Int) (x2:Int) (x3:Int) (x4:Int) {ρ:OT} (K:∀(v1:Int) (h1:v1=(IntKind.i64.wrap (((x0).length:Int) - x1))) (v2:Int) (h2:v2=(IntKind.i64.wrap (v1 - (1:Int)))) (v3:Int) (h3:v3=(IntKind.i64.wrap (x1+(1:Int)))) (v4:UInt8) (h4:v4=(List.getD x0 (v3).toNat (0:UInt8))) (v5:Bool) (h5:v5=(!decide ((v4 &&& (192:UInt8))=(128:UInt8)))) (v6:Int) (h6:v6=(IntKind.i64.wrap (x2 * 2 ^ (min (((6:UInt64)).toNat) (IntKind.i64.bits))))) (v7:Int) (h7:v7=(IntKind.i64.wrap (((v4 &&& (63:UInt8))).toNat:Int))) (v8:Int) (h8:v8=(IntKind.i64.wrap ((1:Int)+(1:Int)))) (v9:Bool) (h9:v9=(cond (decide (x2<x4)) true (!(Utf.isRune x2)))) (v10:Int) (h10:v10=(IntKind.i64.wrap (x3+(1:Int)))),cond (decide (v2<x3))
  (utf_Rune.l1)
  (cond (decide ((1:Int)≤x3))
  (ck (idxOK v3 (x0).length) (cond v5
  (utf_Rune.l1)
  (ck (idxOK v3 (x0).length) (utf_Rune.l3 x0 x1 (intBitsV .or .i64 v6 v7) x3 x4 v8))))
  (ck (!(!(decide (x2<x4))) || (!(decide (x2<x4)))) (ck (!(!(decide (x2<x4))) || (!(decide (x2<x4)))) (ck ((decide (x2<x4)) || (!(decide (x2<x4)))) (cond v9
  (utf_Rune.l1)
  (some [(.i .i64 x2),(.i .i64 v10)]))))))=ρ):utf_Rune.j2 x0 x1 x2 x3 x4=ρ:=((congrFun (congrFun (ev_eq _ _) _) _).trans (by kernel_rfl)).trans (K _ rfl _ rfl _ rfl _ rfl _ rfl _ rfl _ rfl _ rfl _ rfl _ rfl)
theorem utf_Rune.l3_in (x0:List UInt8) (x1:Int) (x2:Int) (x3:Int) (x4:Int) (x5:Int) {ρ:OT} (K:∀(v1:UInt8) (h1:v1=(List.getD x0 ((IntKind.i64.wrap (x1+x5))).toNat (0:UInt8))) (v2:Bool) (h2:v2=(!decide ((v1 &&& (192:UInt8))=(128:UInt8)))) (v3:Int) (h3:v3=(IntKind.i64.wrap (x2 * 2 ^ (min (((6:UInt64)).toNat) (IntKind.i64.bits))))) (v4:Int) (h4:v4=(IntKind.i64.wrap (((v1 &&& (63:UInt8))).toNat:Int))) (v5:Int) (h5:v5=(IntKind.i64.wrap (x5+(1:Int)))) (v6:Bool) (h6:v6=(cond (decide (x2<x4)) true (!(Utf.isRune x2)))) (v7:Int) (h7:v7=(IntKind.i64.wrap (x3+(1:Int)))),cond (decide (x5≤x3))
  (ck (idxOK (IntKind.i64.wrap (x1+x5)) (x0).length) (cond v2
  (utf_Rune.l1)
  (ck (idxOK (IntKind.i64.wrap (x1+x5)) (x0).length) (utf_Rune.l3 x0 x1 (intBitsV .or .i64 v3 v4) x3 x4 v5))))
  (ck (!(!(decide (x2<x4))) || (!(decide (x2<x4)))) (ck (!(!(decide (x2<x4))) || (!(decide (x2<x4)))) (ck ((decide (x2<x4)) || (!(decide (x2<x4)))) (cond v6
  (utf_Rune.l1)
  (some [(.i .i64 x2),(.i .i64 v7)])))))=ρ):utf_Rune.l3 x0 x1 x2 x3 x4 x5=ρ:=((ev_loop _ _ _ _ _ _).trans (by kernel_rfl)).trans (K _ rfl _ rfl _ rfl _ rfl _ rfl _ rfl _ rfl)
theorem utf_Rune.F_in (b:List UInt8) (at_:Int) {ρ:OT} (K:∀(v1:Bool) (h1:v1=(cond (decide (at_<(0:Int))) true (decide (((b).length:Int)≤at_)))) (v2:UInt8) (h2:v2=(List.getD b (at_).toNat (0:UInt8))) (v3:Int) (h3:v3=(IntKind.i64.wrap ((v2).toNat:Int))) (v4:Bool) (h4:v4=(cond (decide ((192:Int)≤v3)) (decide (v3<(224:Int))) false)) (v5:Int) (h5:v5=(intBitsV .and .i64 v3 (31:Int))) (v6:Bool) (h6:v6=(cond (decide ((224:Int)≤v3)) (decide (v3<(240:Int))) false)) (v7:Int) (h7:v7=(intBitsV .and .i64 v3 (15:Int))) (v8:Bool) (h8:v8=(cond (decide ((240:Int)≤v3)) (decide (v3<(248:Int))) false)) (v9:Int) (h9:v9=(intBitsV .and .i64 v3 (7:Int))),ck (!(!(decide (at_<(0:Int)))) || (!(decide (at_<(0:Int))))) (ck (!(!(decide (at_<(0:Int)))) || ((!(decide (at_<(0:Int))))&&(!(decide (at_<(0:Int)))))) (ck ((decide (at_<(0:Int))) || (!(decide (at_<(0:Int))))) (cond v1
  (utf_Rune.l1)
  (ck (idxOK at_ (b).length) (cond (decide (v3<(128:Int)))
  (some [(.i .i64 v3),(.i .i64 1)])
  (ck (!(decide ((192:Int)≤v3)) || (decide ((192:Int)≤v3))) (ck (!(decide ((192:Int)≤v3)) || (decide ((192:Int)≤v3))) (cond v4
  (utf_Rune.j2 b at_ v5 (1:Int) (128:Int))
  (ck (!(decide ((224:Int)≤v3)) || (decide ((224:Int)≤v3))) (ck (!(decide ((224:Int)≤v3)) || (decide ((224:Int)≤v3))) (cond v6
  (utf_Rune.j2 b at_ v7 (2:Int) (2048:Int))
  (ck (!(decide ((240:Int)≤v3)) || (decide ((240:Int)≤v3))) (ck (!(decide ((240:Int)≤v3)) || (decide ((240:Int)≤v3))) (cond v8
  (utf_Rune.j2 b at_ v9 (3:Int) (65536:Int))
  (utf_Rune.l1)))))))))))))))=ρ):utf_Rune.F b at_=ρ:=Eq.trans (by kernel_rfl) (K _ rfl _ rfl _ rfl _ rfl _ rfl _ rfl _ rfl _ rfl _ rfl)
theorem utf_Rune.chk:CK 47 utf_Rune.env utf_Rune.d:=ckOf (by kernel_rfl)
def utf_look.env:EV:=[(47,(utf_Rune.c,utf_Rune.sg))]
def utf_look.E:TEnv:=envL trydGl utf_look.env
def utf_look.m1:TM := .seq (oS [oV 2 6,oV 0 7,oK (.k .len) [7] [8],oB .lss 6 8 9] (.cond (.s 9) [] .skip (.exit 0))) none (.block 1 [] (oS [oV 0 11,oV 2 12,oC 47 2 2 [11,12] 13,oV 13 10,oE 0 10 14,oE 1 10 15,oV 14 4,oV 15 5] (.seq (oS [oV 5 16,oI .eql 16 (.i .i64 0) 17] (.cond (.s 17) [] (.exit 0) .skip)) none (oS [oV 2 18,oV 5 19,oB .add 18 19 20,oV 20 2] (.reg [oV 3 21,oI .add 21 (.i .i64 1) 22,oV 22 3])))))
def utf_look.m2:TM:=oS [oV 2 23,oV 3 24,oV 23 2,oV 24 3] .ret
def utf_look.m:TM:=oS [oW (.i .i64 0) 2,oW (.i .i64 0) 3] (.seq (.block 0 [] (.loop [0,2,3] [] utf_look.m1)) (some [2,3]) utf_look.m2)
def utf_look.d:TFD:=D0 1 utf_look.m [.t 2,.t 3]
def utf_look.F (b:List UInt8):OT:=utf_look.d.run utf_look.E [(.sl .bs b)]
def utf_look.k1:Cont (List TV):=seqK (evO _ utf_look.E utf_look.m2) (some [2,3]) (endK utf_look.d)
def utf_look.l1 (x0:List UInt8) (x1:Int) (x2:Int):OT:=loopL (evO _ utf_look.E utf_look.m1) isN [0,2,3] (headT [0,2,3] [(.sl .bs x0),(.i .i64 x1),(.i .i64 x2)]) (blockK 0 utf_look.k1)
def utf_look.j2 (x0:Int) (x1:Int):OT:=evO _ utf_look.E utf_look.m2 (headT [2,3] [(.i .i64 x0),(.i .i64 x1)]) (endK utf_look.d)
theorem utf_look.l1_in (x0:List UInt8) (x1:Int) (x2:Int) {ρ:OT} (K:∀(v1:Int) (h1:v1=(IntKind.i64.wrap (x1+((Utf.runeAt x0 x1).2)))) (v2:Int) (h2:v2=(IntKind.i64.wrap (x2+(1:Int)))),cond (decide (x1<((x0).length:Int)))
  (ck (decide (x0.length≤1099511627776)) (cond (decide (((Utf.runeAt x0 x1).2)=(0:Int)))
  (utf_look.j2 x1 x2)
  (utf_look.l1 x0 v1 v2)))
  (utf_look.j2 x1 x2)=ρ):utf_look.l1 x0 x1 x2=ρ:=((ev_loop _ _ _ _ _ _).trans (by kernel_rfl)).trans (K _ rfl _ rfl)
theorem utf_look.j2_eq (x0:Int) (x1:Int):utf_look.j2 x0 x1=some [(.i .i64 x0),(.i .i64 x1)]:=((congrFun (congrFun (ev_eq _ _) _) _).trans (by kernel_rfl))
theorem utf_look.F_eq (b:List UInt8):utf_look.F b=utf_look.l1 b (0:Int) (0:Int):=by kernel_rfl
theorem utf_look.chk:CK 40 utf_look.env utf_look.d:=ckOf (by kernel_rfl)
def utf_Check.env:EV:=[(40,(utf_look.c,utf_look.sg))]
def utf_Check.E:TEnv:=envL trydGl utf_Check.env
def utf_Check.m:TM:=oS [oW (.i .i64 0) 2,oW (.b false) 3] (oS [oV 0 7,oC 40 1 2 [7] 8,oV 8 6,oE 0 6 9,oE 1 6 10,oV 9 4,oV 10 5] (oS [oV 4 11,oV 4 12,oV 0 13,oK (.k .len) [13] [14],oB .eql 12 14 15,oV 11 2,oV 15 3] .ret))
def utf_Check.d:TFD:=D0 1 utf_Check.m [.t 2,.t 3]
def utf_Check.F (b:List UInt8):OT:=utf_Check.d.run utf_Check.E [(.sl .bs b)]
theorem utf_Check.F_eq (b:List UInt8):utf_Check.F b=ck (decide (b.length≤1099511627776)) (some [(.i .i64 (((Utf.look b).1:Int))),(.b (decide ((((Utf.look b).1:Int))=((b).length:Int))))]):=by kernel_rfl
theorem utf_Check.chk:CK 25 utf_Check.env utf_Check.d:=ckOf (by kernel_rfl)
def ref2_Rune.env:EV:=[]
def ref2_Rune.E:TEnv:=envL trydGl ref2_Rune.env
def ref2_Rune.m1:TM := .seq (oS [oV 10 62,oV 7 63,oB .lss 62 63 64] (.cond (.s 64) [] .skip (.exit 1))) none (.seq (.block 2 [] (oS [oV 0 67,oV 1 68,oV 10 69,oB .add 68 69 70,oK (.k (.ix 1)) [67,70] [71],oK (.k (.lr 1 false)) [71] [72],oK (.k (.ci .i64)) [72] [73],oV 73 11] (.seq (oS [oV 11 74,oI .lss 74 (.i .i64 128) 75,oV 75 76,oG 76 false (oV 11 77),oG 76 false (oI .geq 77 (.i .i64 192) 78),oX (.k .pick) [.s 76,.c (.b true),.s 78] [79]] (.cond (.s 79) [] (oS [oW (.i .i64 0) 4,oW (.i .i64 0) 5] .ret) .skip)) none (.reg [oV 8 80,oI .mul 80 (.i .i64 64) 81,oV 11 82,oB .add 81 82 83,oI .sub 83 (.i .i64 128) 84,oV 84 8])))) none (.reg [oV 10 65,oI .add 65 (.i .i64 1) 66,oV 66 10]))
def ref2_Rune.m2:TM := .seq (oS [oV 0 56,oK (.k .len) [56] [57],oV 1 58,oB .sub 57 58 59,oV 7 60,oB .lss 59 60 61] (.cond (.s 61) [] (oS [oW (.i .i64 0) 4,oW (.i .i64 0) 5] .ret) .skip)) none (.seq (oS [oW (.i .i64 1) 10] (.block 1 [] (.loop [0,1,7,8,9,10] [] ref2_Rune.m1))) none (.seq (oS [oV 8 85,oV 9 86,oB .lss 85 86 87,oV 87 88,oG 88 false (oV 8 89),oG 88 false (oI .gtr 89 (.i .i64 1114111) 90),oX (.k .pick) [.s 88,.c (.b true),.s 90] [91],oV 91 92,oG 92 false (oV 8 93),oG 92 false (oI .geq 93 (.i .i64 55296) 94),oG 92 false (oV 94 95),oG 95 true (oV 8 96),oG 95 true (oI .leq 96 (.i .i64 57343) 97),oG 92 false (oP 95 97 false 98),oX (.k .pick) [.s 92,.c (.b true),.s 98] [99]] (.cond (.s 99) [] (oS [oW (.i .i64 0) 4,oW (.i .i64 0) 5] .ret) .skip)) none (oS [oV 8 100,oV 7 101,oV 100 4,oV 101 5] .ret)))
def ref2_Rune.m:TM:=oS [oW (.i .i64 0) 4,oW (.i .i64 0) 5] (.seq (oS [oV 1 12,oI .lss 12 (.i .i64 0) 13,oV 13 14,oG 14 false (oV 1 15),oG 14 false (oV 0 16),oG 14 false (oK (.k .len) [16] [17]),oG 14 false (oB .geq 15 17 18),oX (.k .pick) [.s 14,.c (.b true),.s 18] [19]] (.cond (.s 19) [] (oS [oW (.i .i64 0) 4,oW (.i .i64 0) 5] .ret) .skip)) none (oS [oV 0 20,oV 1 21,oK (.k (.ix 1)) [20,21] [22],oK (.k (.lr 1 false)) [22] [23],oK (.k (.ci .i64)) [23] [24],oV 24 6] (oS [oW (.i .i64 0) 7,oW (.i .i64 0) 8,oW (.i .i64 0) 9] (.seq (.block 0 [] (oS [oV 6 26,oI .lss 26 (.i .i64 128) 27,oV 27 25] (.cond (.s 25) [] (oS [oV 6 28,oV 28 4,oW (.i .i64 1) 5] .ret) (oS [oV 6 30,oI .geq 30 (.i .i64 192) 31,oV 31 32,oG 32 true (oV 6 33),oG 32 true (oI .lss 33 (.i .i64 224) 34),oP 32 34 false 35,oV 35 29] (.cond (.s 29) [] (.reg [oV 6 36,oI .sub 36 (.i .i64 192) 37,oW (.i .i64 2) 7,oV 37 8,oW (.i .i64 128) 9]) (oS [oV 6 39,oI .geq 39 (.i .i64 224) 40,oV 40 41,oG 41 true (oV 6 42),oG 41 true (oI .lss 42 (.i .i64 240) 43),oP 41 43 false 44,oV 44 38] (.cond (.s 38) [] (.reg [oV 6 45,oI .sub 45 (.i .i64 224) 46,oW (.i .i64 3) 7,oV 46 8,oW (.i .i64 2048) 9]) (oS [oV 6 48,oI .geq 48 (.i .i64 240) 49,oV 49 50,oG 50 true (oV 6 51),oG 50 true (oI .lss 51 (.i .i64 248) 52),oP 50 52 false 53,oV 53 47] (.cond (.s 47) [] (.reg [oV 6 54,oI .sub 54 (.i .i64 240) 55,oW (.i .i64 4) 7,oV 55 8,oW (.i .i64 65536) 9]) (oS [oW (.i .i64 0) 4,oW (.i .i64 0) 5] .ret)))))))))) (some [0,1,7,8,9]) ref2_Rune.m2))))
def ref2_Rune.d:TFD:=D0 2 ref2_Rune.m [.t 4,.t 5]
def ref2_Rune.F (b:List UInt8) (at_:Int):OT:=ref2_Rune.d.run ref2_Rune.E [(.sl .bs b),(.i .i64 at_)]
def ref2_Rune.k1:Cont (List TV):=seqK (ev _ ref2_Rune.E (.seq (oS [oV 8 85,oV 9 86,oB .lss 85 86 87,oV 87 88,oG 88 false (oV 8 89),oG 88 false (oI .gtr 89 (.i .i64 1114111) 90),oX (.k .pick) [.s 88,.c (.b true),.s 90] [91],oV 91 92,oG 92 false (oV 8 93),oG 92 false (oI .geq 93 (.i .i64 55296) 94),oG 92 false (oV 94 95),oG 95 true (oV 8 96),oG 95 true (oI .leq 96 (.i .i64 57343) 97),oG 92 false (oP 95 97 false 98),oX (.k .pick) [.s 92,.c (.b true),.s 98] [99]] (.cond (.s 99) [] (oS [oW (.i .i64 0) 4,oW (.i .i64 0) 5] .ret) .skip)) none (oS [oV 8 100,oV 7 101,oV 100 4,oV 101 5] .ret))) none (endK ref2_Rune.d)
def ref2_Rune.j1 (x0:List UInt8) (x1:Int) (x2:Int) (x3:Int) (x4:Int):OT:=evO _ ref2_Rune.E ref2_Rune.m2 (headT [0,1,7,8,9] [(.sl .bs x0),(.i .i64 x1),(.i .i64 x2),(.i .i64 x3),(.i .i64 x4)]) (endK ref2_Rune.d)
def ref2_Rune.l2 (x0:List UInt8) (x1:Int) (x2:Int) (x3:Int) (x4:Int) (x5:Int):OT:=loopL (evO _ ref2_Rune.E ref2_Rune.m1) isN [0,1,7,8,9,10] (headT [0,1,7,8,9,10] [(.sl .bs x0),(.i .i64 x1),(.i .i64 x2),(.i .i64 x3),(.i .i64 x4),(.i .i64 x5)]) (blockK 1 ref2_Rune.k1)
theorem ref2_Rune.j1_in (x0:List UInt8) (x1:Int) (x2:Int) (x3:Int) (x4:Int) {ρ:OT} (K:∀(v1:Int) (h1:v1=(IntKind.i64.wrap (((x0).length:Int) - x1))),cond (decide (v1<x2))
  (some [(.i .i64 0),(.i .i64 0)])
  (ref2_Rune.l2 x0 x1 x2 x3 x4 (1:Int))=ρ):ref2_Rune.j1 x0 x1 x2 x3 x4=ρ:=((congrFun (congrFun (ev_eq _ _) _) _).trans (by kernel_rfl)).trans (K _ rfl)
theorem ref2_Rune.l2_in (x0:List UInt8) (x1:Int) (x2:Int) (x3:Int) (x4:Int) (x5:Int) {ρ:OT} (K:∀(v1:UInt8) (h1:v1=(List.getD x0 ((IntKind.i64.wrap (x1+x5))).toNat (0:UInt8))) (v2:Int) (h2:v2=(IntKind.i64.wrap ((v1).toNat:Int))) (v3:Bool) (h3:v3=(cond (decide (v2<(128:Int))) true (decide ((192:Int)≤v2)))) (v4:Int) (h4:v4=(IntKind.i64.wrap (x3 * (64:Int)))) (v5:Int) (h5:v5=(IntKind.i64.wrap ((IntKind.i64.wrap (v4+v2)) - (128:Int)))) (v6:Int) (h6:v6=(IntKind.i64.wrap (x5+(1:Int)))) (v7:Bool) (h7:v7=(cond (decide (x3<x4)) true (decide ((1114111:Int)<x3)))) (v8:Bool) (h8:v8=((!v7)&&(decide ((55296:Int)≤x3)))) (v9:Bool) (h9:v9=(cond (decide ((55296:Int)≤x3)) (decide (x3≤(57343:Int))) false)),cond (decide (x5<x2))
  (ck (idxOK (IntKind.i64.wrap (x1+x5)) (x0).length) (ck (!(!(decide (v2<(128:Int)))) || (!(decide (v2<(128:Int))))) (ck ((decide (v2<(128:Int))) || (!(decide (v2<(128:Int))))) (cond v3
  (some [(.i .i64 0),(.i .i64 0)])
  (ref2_Rune.l2 x0 x1 x2 v5 x4 v6)))))
  (ck (!(!(decide (x3<x4))) || (!(decide (x3<x4)))) (ck ((decide (x3<x4)) || (!(decide (x3<x4)))) (ck (!(!v7) || (!v7)) (ck (!(!v7) || (!v7)) (ck (!v8 || v8) (ck (!(!v7) || ((!v7)&&(!(decide ((55296:Int)≤x3)) || v8))) (ck (v7 || (!v7)) (cond (cond v7 true v9)
  (some [(.i .i64 0),(.i .i64 0)])
  (some [(.i .i64 x3),(.i .i64 x2)])))))))))=ρ):ref2_Rune.l2 x0 x1 x2 x3 x4 x5=ρ:=((ev_loop _ _ _ _ _ _).trans (by kernel_rfl)).trans (K _ rfl _ rfl _ rfl _ rfl _ rfl _ rfl _ rfl _ rfl _ rfl)
theorem ref2_Rune.F_in (b:List UInt8) (at_:Int) {ρ:OT} (K:∀(v1:Bool) (h1:v1=(cond (decide (at_<(0:Int))) true (decide (((b).length:Int)≤at_)))) (v2:UInt8) (h2:v2=(List.getD b (at_).toNat (0:UInt8))) (v3:Int) (h3:v3=(IntKind.i64.wrap ((v2).toNat:Int))) (v4:Bool) (h4:v4=(cond (decide ((192:Int)≤v3)) (decide (v3<(224:Int))) false)) (v5:Int) (h5:v5=(IntKind.i64.wrap (v3 - (192:Int)))) (v6:Bool) (h6:v6=(cond (decide ((224:Int)≤v3)) (decide (v3<(240:Int))) false)) (v7:Int) (h7:v7=(IntKind.i64.wrap (v3 - (224:Int)))) (v8:Bool) (h8:v8=(cond (decide ((240:Int)≤v3)) (decide (v3<(248:Int))) false)) (v9:Int) (h9:v9=(IntKind.i64.wrap (v3 - (240:Int)))),ck (!(!(decide (at_<(0:Int)))) || (!(decide (at_<(0:Int))))) (ck (!(!(decide (at_<(0:Int)))) || ((!(decide (at_<(0:Int))))&&(!(decide (at_<(0:Int)))))) (ck ((decide (at_<(0:Int))) || (!(decide (at_<(0:Int))))) (cond v1
  (some [(.i .i64 0),(.i .i64 0)])
  (ck (idxOK at_ (b).length) (cond (decide (v3<(128:Int)))
  (some [(.i .i64 v3),(.i .i64 1)])
  (ck (!(decide ((192:Int)≤v3)) || (decide ((192:Int)≤v3))) (ck (!(decide ((192:Int)≤v3)) || (decide ((192:Int)≤v3))) (cond v4
  (ref2_Rune.j1 b at_ (2:Int) v5 (128:Int))
  (ck (!(decide ((224:Int)≤v3)) || (decide ((224:Int)≤v3))) (ck (!(decide ((224:Int)≤v3)) || (decide ((224:Int)≤v3))) (cond v6
  (ref2_Rune.j1 b at_ (3:Int) v7 (2048:Int))
  (ck (!(decide ((240:Int)≤v3)) || (decide ((240:Int)≤v3))) (ck (!(decide ((240:Int)≤v3)) || (decide ((240:Int)≤v3))) (cond v8
  (ref2_Rune.j1 b at_ (4:Int) v9 (65536:Int))
  (some [(.i .i64 0),(.i .i64 0)])))))))))))))))=ρ):ref2_Rune.F b at_=ρ:=Eq.trans (by kernel_rfl) (K _ rfl _ rfl _ rfl _ rfl _ rfl _ rfl _ rfl _ rfl _ rfl)
theorem ref2_Rune.chk:CK 54 ref2_Rune.env ref2_Rune.d:=ckOf (by kernel_rfl)
def ref2_Check.env:EV:=[(54,(ref2_Rune.c,ref2_Rune.sg))]
def ref2_Check.E:TEnv:=envL trydGl ref2_Check.env
def ref2_Check.m1:TM := .seq (oS [oV 4 7,oV 0 8,oK (.k .len) [8] [9],oB .lss 7 9 10] (.cond (.s 10) [] .skip (.exit 0))) none (.block 1 [] (oS [oV 0 12,oV 4 13,oC 54 2 2 [12,13] 14,oV 14 11,oE 0 11 15,oE 1 11 16,oV 15 5,oV 16 6] (.seq (oS [oV 6 17,oI .eql 17 (.i .i64 0) 18] (.cond (.s 18) [] (oS [oV 4 19,oV 19 2,oW (.b false) 3] .ret) .skip)) none (.reg [oV 4 20,oV 6 21,oB .add 20 21 22,oV 22 4]))))
def ref2_Check.m:TM:=oS [oW (.i .i64 0) 2,oW (.b false) 3] (.seq (oS [oW (.i .i64 0) 4] (.block 0 [] (.loop [0,4] [] ref2_Check.m1))) none (oS [oV 0 23,oK (.k .len) [23] [24],oV 24 2,oW (.b true) 3] .ret))
def ref2_Check.d:TFD:=D0 1 ref2_Check.m [.t 2,.t 3]
def ref2_Check.F (b:List UInt8):OT:=ref2_Check.d.run ref2_Check.E [(.sl .bs b)]
def ref2_Check.k1:Cont (List TV):=seqK (ev _ ref2_Check.E (oS [oV 0 23,oK (.k .len) [23] [24],oV 24 2,oW (.b true) 3] .ret)) none (endK ref2_Check.d)
def ref2_Check.l1 (x0:List UInt8) (x1:Int):OT:=loopL (evO _ ref2_Check.E ref2_Check.m1) isN [0,4] (headT [0,4] [(.sl .bs x0),(.i .i64 x1)]) (blockK 0 ref2_Check.k1)
theorem ref2_Check.l1_in (x0:List UInt8) (x1:Int) {ρ:OT} (K:∀(v1:Int) (h1:v1=(IntKind.i64.wrap (x1+((Utf.runeAt x0 x1).2)))),cond (decide (x1<((x0).length:Int)))
  (ck (decide (x0.length≤1099511627776)) (cond (decide (((Utf.runeAt x0 x1).2)=(0:Int)))
  (some [(.i .i64 x1),(.b false)])
  (ref2_Check.l1 x0 v1)))
  (some [(.i .i64 ((x0).length:Int)),(.b true)])=ρ):ref2_Check.l1 x0 x1=ρ:=((ev_loop _ _ _ _ _ _).trans (by kernel_rfl)).trans (K _ rfl)
theorem ref2_Check.F_eq (b:List UInt8):ref2_Check.F b=ref2_Check.l1 b (0:Int):=by kernel_rfl
theorem ref2_Check.chk:CK 44 ref2_Check.env ref2_Check.d:=ckOf (by kernel_rfl)
def ref2_Whole.env:EV:=[(44,(ref2_Check.c,ref2_Check.sg))]
def ref2_Whole.E:TEnv:=envL trydGl ref2_Whole.env
def ref2_Whole.m:TM:=oS [oW (.b false) 2] (oS [oV 0 6,oK (.k .sb) [6] [7],oC 44 1 2 [7] 8,oV 8 5,oE 0 5 9,oE 1 5 10,oV 9 3,oV 10 4] (oS [oV 4 11,oV 11 2] .ret))
def ref2_Whole.d:TFD:=D0 1 ref2_Whole.m [.t 2]
def ref2_Whole.F (s:Str):OT:=ref2_Whole.d.run ref2_Whole.E [(.s s)]
theorem ref2_Whole.F_eq (s:Str):ref2_Whole.F s=ck (lenOK (s).length) (ck (decide (s.length≤1099511627776)) (some [(.b (Utf.whole s))])):=by kernel_rfl
theorem ref2_Whole.chk:CK 29 ref2_Whole.env ref2_Whole.d:=ckOf (by kernel_rfl)
theorem clone_bs.ok:KO 34 (clone_bs.c) clone_bs.sg:=clone_ok (t := .bs) (b:=1) (by kernel_rfl)
def rd_At.env:EV:=[]
def rd_At.E:TEnv:=envL trydGl rd_At.env
def rd_At.m:TM:=oS [oW (.i .i64 0) 2] (oS [oV 0 3,oK (.k .ncr) [3] [4],oK (.k (.fr 1 1 false)) [4] [5],oK (.k (.lr 1 false)) [5] [6],oV 6 2] .ret)
def rd_At.d:TFD:=D0 1 rd_At.m [.t 2]
def rd_At.F (r:Rdr):OT:=rd_At.d.run rd_At.E [(.ro (.ag (Rdr.cells r)))]
theorem rd_At.F_eq (r:Rdr):rd_At.F r=some [(.i .i64 (Rdr.at_ r))]:=by kernel_rfl
theorem rd_At.chk:CK 77 rd_At.env rd_At.d:=ckOf (by kernel_rfl)
def rd_Left.env:EV:=[]
def rd_Left.E:TEnv:=envL trydGl rd_Left.env
def rd_Left.m:TM:=oS [oW (.i .i64 0) 2] (oS [oV 0 3,oK (.k .ncr) [3] [4],oK (.k (.fr 0 1 false)) [4] [5],oK (.k (.lr 1 false)) [5] [6],oK (.k .len) [6] [7],oV 0 8,oK (.k .ncr) [8] [9],oK (.k (.fr 1 1 false)) [9] [10],oK (.k (.lr 1 false)) [10] [11],oB .sub 7 11 12,oV 12 2] .ret)
def rd_Left.d:TFD:=D0 1 rd_Left.m [.t 2]
def rd_Left.F (r:Rdr):OT:=rd_Left.d.run rd_Left.E [(.ro (.ag (Rdr.cells r)))]
theorem rd_Left.F_in (r:Rdr) {ρ:OT} (K:∀(v1:Int) (h1:v1=(IntKind.i64.wrap ((((Rdr.b r)).length:Int) - (Rdr.at_ r)))),some [(.i .i64 v1)]=ρ):rd_Left.F r=ρ:=Eq.trans (by kernel_rfl) (K _ rfl)
theorem rd_Left.chk:CK 76 rd_Left.env rd_Left.d:=ckOf (by kernel_rfl)
def rd_Byte.env:EV:=[]
def rd_Byte.E:TEnv:=envL trydGl rd_Byte.env
def rd_Byte.m:TM:=oS [oW (.i .i64 0) 2,oW (.b false) 3] (.seq (oS [oV 0 4,oK (.k (.nc 999999 0)) [4] [5],oA 999999 0 1 5 6,oL 999999 1 1 6 7,oV 0 8,oK (.k (.nc 999999 0)) [8] [9],oA 999999 0 0 9 10,oL 999999 0 1 10 11,oK (.k .len) [11] [12],oB .eql 7 12 13] (.cond (.s 13) [] (oS [oW (.i .i64 0) 2,oW (.b false) 3] .ret) .skip)) none (oS [oV 0 14,oK (.k (.nc 999999 0)) [14] [15],oA 999999 0 1 15 16,oL 999999 1 1 16 17,oI .add 17 (.i .i64 1) 18,oK (.k (.nc 999999 0)) [14] [19],oA 999999 0 1 19 20,oT 999999 1 1 20 18] (oS [oV 0 21,oK (.k (.nc 999999 0)) [21] [22],oA 999999 0 0 22 23,oL 999999 0 1 23 24,oV 0 25,oK (.k (.nc 999999 0)) [25] [26],oA 999999 0 1 26 27,oL 999999 1 1 27 28,oI .sub 28 (.i .i64 1) 29,oK (.k (.ix 1)) [24,29] [30],oK (.k (.lr 1 false)) [30] [31],oK (.k (.ci .i64)) [31] [32],oV 32 2,oW (.b true) 3] .ret)))
def rd_Byte.d:TFD:={ np:=1,m:=rd_Byte.m,ref:=some (0,999999),tips:=[],res:=[.t 2,.t 3],own:=[],new:=none,tnew:=[] }
def rd_Byte.F (r:Rdr):OT:=rd_Byte.d.run rd_Byte.E [(.ag (Rdr.cells r))]
theorem rd_Byte.F_in (r:Rdr) {ρ:OT} (K:∀(v1:Int) (h1:v1=(IntKind.i64.wrap ((Rdr.at_ r)+(1:Int)))) (v2:Int) (h2:v2=(IntKind.i64.wrap (v1 - (1:Int)))) (v3:UInt8) (h3:v3=(List.getD (Rdr.b r) (v2).toNat (0:UInt8))) (v4:Int) (h4:v4=(IntKind.i64.wrap ((v3).toNat:Int))),cond (decide ((Rdr.at_ r)=(((Rdr.b r)).length:Int)))
  (some [(.i .i64 0),(.b false),(.ag (Rdr.cells r))])
  (ck (idxOK v2 ((Rdr.b r)).length) (some [(.i .i64 v4),(.b true),(.ag [(.sl .bs (Rdr.b r)),(.i .i64 v1)])]))=ρ):rd_Byte.F r=ρ:=Eq.trans (by kernel_rfl) (K _ rfl _ rfl _ rfl _ rfl)
theorem rd_Byte.chk:CK 89 rd_Byte.env rd_Byte.d:=ckOf (by kernel_rfl)
def rd_next.env:EV:=[(76,(rd_Left.c,rd_Left.sg))]
def rd_next.E:TEnv:=envL trydGl rd_next.env
def rd_next.m:TM:=oS [oW (.sl .bs ([]:List UInt8)) 4,oW (.b false) 5] (.seq (oS [oV 1 6,oI .lss 6 (.i .i64 1) 7,oV 7 8,oG 8 false (oV 1 9),oG 8 false (oI .gtr 9 (.i .i64 8) 10),oX (.k .pick) [.s 8,.c (.b true),.s 10] [11],oV 11 12,oG 12 false (oV 1 13),oG 12 false (oV 0 14),oG 12 false (oK (.k (.rcall 76 1 1 0 999999)) [14,999999] [15]),oG 12 false (oB .gtr 13 15 16),oX (.k .pick) [.s 12,.c (.b true),.s 16] [17]] (.cond (.s 17) [] (oS [oW (.sl .bs ([]:List UInt8)) 4,oW (.b false) 5] .ret) .skip)) none (oS [oV 0 18,oK (.k (.nc 999999 0)) [18] [19],oA 999999 0 1 19 20,oL 999999 1 1 20 21,oV 1 22,oB .add 21 22 23,oK (.k (.nc 999999 0)) [18] [24],oA 999999 0 1 24 25,oT 999999 1 1 25 23] (oS [oV 0 26,oK (.k (.nc 999999 0)) [26] [27],oA 999999 0 0 27 28,oL 999999 0 1 28 29,oV 0 30,oK (.k (.nc 999999 0)) [30] [31],oA 999999 0 1 31 32,oL 999999 1 1 32 33,oV 1 34,oB .sub 33 34 35,oV 0 36,oK (.k (.nc 999999 0)) [36] [37],oA 999999 0 1 37 38,oL 999999 1 1 38 39,oK (.k (.sc 1 true true)) [29,35,39] [40],oV 40 4,oW (.b true) 5] .ret)))
def rd_next.d:TFD:={ np:=2,m:=rd_next.m,ref:=some (0,999999),tips:=[],res:=[.t 4,.t 5],own:=[],new:=none,tnew:=[] }
def rd_next.F (r:Rdr) (n:Int):OT:=rd_next.d.run rd_next.E [(.ag (Rdr.cells r)),(.i .i64 n)]
theorem rd_next.F_in (r:Rdr) (n:Int) {ρ:OT} (K:∀(v1:Bool) (h1:v1=(cond (decide (n<(1:Int))) true (decide ((8:Int)<n)))) (v2:Bool) (h2:v2=(cond v1 true (decide ((Cur.left r)<n)))) (v3:Int) (h3:v3=(IntKind.i64.wrap ((Rdr.at_ r)+n))) (v4:List UInt8) (h4:v4=(List.drop ((IntKind.i64.wrap (v3 - n))).toNat (List.take (v3).toNat (Rdr.b r)))),ck (!(!(decide (n<(1:Int)))) || (!(decide (n<(1:Int))))) (ck ((decide (n<(1:Int))) || (!(decide (n<(1:Int))))) (ck (!(!v1) || ((!v1)&&(Cur.good r))) (ck (!(!v1) || ((!v1)&&(!v1))) (ck (v1 || (!v1)) (cond v2
  (some [(.sl .bs ([]:List UInt8)),(.b false),(.ag (Rdr.cells r))])
  (ck (cutOK (IntKind.i64.wrap (v3 - n)) v3 ((Rdr.b r)).length) (some [(.sl .bs v4),(.b true),(.ag [(.sl .bs (Rdr.b r)),(.i .i64 v3)])])))))))=ρ):rd_next.F r n=ρ:=Eq.trans (by kernel_rfl) (K _ rfl _ rfl _ rfl _ rfl)
theorem rd_next.chk:CK 98 rd_next.env rd_next.d:=ckOf (by kernel_rfl)
def rd_Take.env:EV:=[(34,(clone_bs.c,clone_bs.sg)),(76,(rd_Left.c,rd_Left.sg))]
def rd_Take.E:TEnv:=envL trydGl rd_Take.env
def rd_Take.m:TM:=oS [oW (.sl .bs ([]:List UInt8)) 4,oW (.b false) 5] (.seq (oS [oV 1 6,oI .lss 6 (.i .i64 0) 7,oV 7 8,oG 8 false (oV 1 9),oG 8 false (oV 0 10),oG 8 false (oK (.k (.rcall 76 1 1 0 999999)) [10,999999] [11]),oG 8 false (oB .gtr 9 11 12),oX (.k .pick) [.s 8,.c (.b true),.s 12] [13]] (.cond (.s 13) [] (oS [oW (.sl .bs ([]:List UInt8)) 4,oW (.b false) 5] .ret) .skip)) none (oS [oV 0 14,oK (.k (.nc 999999 0)) [14] [15],oA 999999 0 1 15 16,oL 999999 1 1 16 17,oV 1 18,oB .add 17 18 19,oK (.k (.nc 999999 0)) [14] [20],oA 999999 0 1 20 21,oT 999999 1 1 21 19] (oS [oV 0 22,oK (.k (.nc 999999 0)) [22] [23],oA 999999 0 0 23 24,oL 999999 0 1 24 25,oV 0 26,oK (.k (.nc 999999 0)) [26] [27],oA 999999 0 1 27 28,oL 999999 1 1 28 29,oV 1 30,oB .sub 29 30 31,oV 0 32,oK (.k (.nc 999999 0)) [32] [33],oA 999999 0 1 33 34,oL 999999 1 1 34 35,oK (.k (.sc 1 true true)) [25,31,35] [36],oK (.k (.call 34 ⟨1,none,[],[],1,[(0,102,1)],none,[]⟩)) [36,(lk 102)] [37,lk 102],oV 37 4,oW (.b true) 5] .ret)))
def rd_Take.d:TFD:={ np:=2,m:=rd_Take.m,ref:=some (0,999999),tips:=[],res:=[.t 4,.t 5],own:=[],new:=none,tnew:=[] }
def rd_Take.F (r:Rdr) (n:Int):OT:=rd_Take.d.run rd_Take.E [(.ag (Rdr.cells r)),(.i .i64 n)]
theorem rd_Take.F_in (r:Rdr) (n:Int) {ρ:OT} (K:∀(v1:Bool) (h1:v1=(cond (decide (n<(0:Int))) true (decide ((Cur.left r)<n)))) (v2:Int) (h2:v2=(IntKind.i64.wrap ((Rdr.at_ r)+n))) (v3:List UInt8) (h3:v3=(List.drop ((IntKind.i64.wrap (v2 - n))).toNat (List.take (v2).toNat (Rdr.b r)))),ck (!(!(decide (n<(0:Int)))) || ((!(decide (n<(0:Int))))&&(Cur.good r))) (ck (!(!(decide (n<(0:Int)))) || ((!(decide (n<(0:Int))))&&(!(decide (n<(0:Int)))))) (ck ((decide (n<(0:Int))) || (!(decide (n<(0:Int))))) (cond v1
  (some [(.sl .bs ([]:List UInt8)),(.b false),(.ag (Rdr.cells r))])
  (ck (cutOK (IntKind.i64.wrap (v2 - n)) v2 ((Rdr.b r)).length) (ck (apOK (v3).length 1) (some [(.sl .bs (v3)),(.b true),(.ag [(.sl .bs (Rdr.b r)),(.i .i64 v2)])]))))))=ρ):rd_Take.F r n=ρ:=Eq.trans (by kernel_rfl) (K _ rfl _ rfl _ rfl)
theorem rd_Take.chk:CK 99 rd_Take.env rd_Take.d:=ckOf (by kernel_rfl)
def rd_High.env:EV:=[(98,(rd_next.c,rd_next.sg))]
def rd_High.E:TEnv:=envL trydGl rd_High.env
def rd_High.m1:TM:=oS [oB .lss 19 18 20] (.seq (.cond (.s 20) [] .skip (.exit 0)) none (.seq (.block 1 [(999999,.cl [])] (oS [oK (.k (.ix 1)) [17,19] [21],oK (.k (.lr 1 false)) [21] [22],oV 22 10] (.reg [oV 8 23,oI .shl 23 (.u64 8) 24,oV 10 25,oK (.k (.ci .u64)) [25] [26],oB .or 24 26 27,oV 27 8]))) none (.reg [oI .add 19 (.i .i64 1) 28,oV 28 19])))
def rd_High.m:TM:=oS [oW (.u64 0) 4,oW (.b false) 5] (oS [oV 0 12,oV 1 13,oK (.k (.call 98 ⟨2,(some (0,999999)),[],[],2,[],none,[]⟩)) [12,13,999999] [14,999999],oV 14 11,oE 0 11 15,oE 1 11 16,oV 15 6,oV 16 7] (oS [oW (.u64 0) 8] (.seq (oS [oV 6 17,oK (.k .len) [17] [18],oW (.i .i64 0) 19] (.block 0 [(999999,.cl [])] (.loop [7,8,17,18,19,999999] [(999999,.cl [])] rd_High.m1))) none (oS [oV 8 29,oV 7 30,oV 29 4,oV 30 5] .ret))))
def rd_High.d:TFD:={ np:=2,m:=rd_High.m,ref:=some (0,999999),tips:=[],res:=[.t 4,.t 5],own:=[],new:=none,tnew:=[] }
def rd_High.F (r:Rdr) (n:Int):OT:=rd_High.d.run rd_High.E [(.ag (Rdr.cells r)),(.i .i64 n)]
def rd_High.k1:Cont (List TV):=seqK (ev _ rd_High.E (oS [oV 8 29,oV 7 30,oV 29 4,oV 30 5] .ret)) none (endK rd_High.d)
def rd_High.l1 (x0:Bool) (x1:UInt64) (x2:List UInt8) (x3:Int) (x4:Int) (x5:Rdr):OT:=loopL (evO _ rd_High.E rd_High.m1) isN [7,8,17,18,19,999999] (headT [7,8,17,18,19,999999] [(.b x0),(.u64 x1),(.sl .bs x2),(.i .i64 x3),(.i .i64 x4),(.ag (Rdr.cells x5))]) (blockK 0 rd_High.k1)
theorem rd_High.l1_in (x0:Bool) (x1:UInt64) (x2:List UInt8) (x3:Int) (x4:Int) (x5:Rdr) {ρ:OT} (K:∀(v1:UInt8) (h1:v1=(List.getD x2 (x4).toNat (0:UInt8))) (v2:UInt64) (h2:v2=(shl64 x1 (((8:UInt64)).toNat))) (v3:UInt64) (h3:v3=(UInt64.ofInt ((v1).toNat:Int))) (v4:Int) (h4:v4=(IntKind.i64.wrap (x4+(1:Int)))),cond (decide (x4<x3))
  (ck (idxOK x4 (x2).length) (rd_High.l1 x0 (v2 ||| v3) x2 x3 v4 x5))
  (some [(.u64 x1),(.b x0),(.ag (Rdr.cells x5))])=ρ):rd_High.l1 x0 x1 x2 x3 x4 x5=ρ:=((ev_loop _ _ _ _ _ _).trans (by kernel_rfl)).trans (K _ rfl _ rfl _ rfl _ rfl)
theorem rd_High.F_in (r:Rdr) (n:Int) {ρ:OT} (K:∀(v1:Int) (h1:v1=(((Cur.nx r n (Cur.ok8 r n))).length:Int)),ck (Cur.good r) (rd_High.l1 (Cur.ok8 r n) (0:UInt64) (Cur.nx r n (Cur.ok8 r n)) v1 (0:Int) (Cur.adv r n (Cur.ok8 r n)))=ρ):rd_High.F r n=ρ:=Eq.trans (by kernel_rfl) (K _ rfl)
theorem rd_High.chk:CK 91 rd_High.env rd_High.d:=ckOf (by kernel_rfl)
def cur_New.env:EV:=[(34,(clone_bs.c,clone_bs.sg))]
def cur_New.E:TEnv:=envL trydGl cur_New.env
def cur_New.m:TM:=oS [oW (.c (.pointer none)) 2] (oS [oV 0 3,oK (.k (.call 34 ⟨1,none,[],[],1,[(0,100,1)],none,[]⟩)) [3,(lk 100)] [4,lk 100],oK (.bd [(.sl .bs ([]:List UInt8)),(.i .i64 0)] [(0,1)]) [4] [5],oK (.k (.bx 1007)) [5,1007] [6,1007],oV 6 2] .ret)
def cur_New.d:TFD:={ np:=1,m:=cur_New.m,ref:=none,tips:=[],res:=[.t 2],own:=[],new:=some (0,1007),tnew:=[] }
def cur_New.F (b:List UInt8):OT:=cur_New.d.run cur_New.E [(.sl .bs b)]
theorem cur_New.F_eq (b:List UInt8):cur_New.F b=ck (apOK (b).length 1) (some [.pt,(.ag [(.sl .bs (b)),(.i .i64 0)])]):=by kernel_rfl
theorem cur_New.chk:CK 74 cur_New.env cur_New.d:=ckOf (by kernel_rfl)
def cur_number.env:EV:=[]
def cur_number.E:TEnv:=envL trydGl cur_number.env
def cur_number.m:TM:=oS [oW (.b false) 2] (oS [oV 0 3,oI .geq 3 (.i .i64 1) 4,oV 4 5,oG 5 true (oV 0 6),oG 5 true (oI .leq 6 (.i .i64 8) 7),oP 5 7 false 8,oV 8 2] .ret)
def cur_number.d:TFD:=D0 1 cur_number.m [.t 2]
def cur_number.F (n:Int):OT:=cur_number.d.run cur_number.E [(.i .i64 n)]
theorem cur_number.F_in (n:Int) {ρ:OT} (K:∀(v1:Bool) (h1:v1=(cond (decide ((1:Int)≤n)) (decide (n≤(8:Int))) false)),ck (!(decide ((1:Int)≤n)) || (decide ((1:Int)≤n))) (ck (!(decide ((1:Int)≤n)) || (decide ((1:Int)≤n))) (some [(.b v1)]))=ρ):cur_number.F n=ρ:=Eq.trans (by kernel_rfl) (K _ rfl)
theorem cur_number.chk:CK 100 cur_number.env cur_number.d:=ckOf (by kernel_rfl)
def cur_Lay.env:EV:=[]
def cur_Lay.E:TEnv:=envL trydGl cur_Lay.env
def cur_Lay.m:TM:=oS [oW (.c (.pointer none)) 0] (oS [oK (.bd [(.c (.slice none 0 0))] []) [] [1],oK (.bxt 1003 [(0,100,.bs)]) [1,1003,(lk 100)] [2,1003,lk 100],oV 2 0] .ret)
def cur_Lay.d:TFD:={ np:=0,m:=cur_Lay.m,ref:=none,tips:=[],res:=[.t 0],own:=[],new:=some (0,1003),tnew:=[(0,1)] }
def cur_Lay.F  : OT:=cur_Lay.d.run cur_Lay.E []
theorem cur_Lay.F_eq  : cur_Lay.F  = some [.pt,(.ag [(.sl .bs ([]:List UInt8))])]:=by kernel_rfl
theorem cur_Lay.chk:CK 64 cur_Lay.env cur_Lay.d:=ckOf (by kernel_rfl)
def wr_Byte.env:EV:=[]
def wr_Byte.E:TEnv:=envL trydGl wr_Byte.env
def wr_Byte.m:TM := .reg [oV 0 4,oV 0 5,oK (.k (.nc 999999 0)) [5] [6],oA 999999 0 0 6 7,oL 999999 0 1 7 8,oV 1 9,oK (.k (.ci .u8)) [9] [10],oK (.bl .bs 1) [10] [11],oK (.k (.ap 100 102 1 1)) [8,11,(lk 100),(lk 102)] [12,lk 100,lk 102],oK (.k (.nc 999999 0)) [4] [13],oA 999999 0 0 13 14,oT 999999 0 1 14 12]
def wr_Byte.d:TFD:={ np:=2,m:=wr_Byte.m,ref:=some (0,999999),tips:=[(0,100,1)],res:=[],own:=[],new:=none,tnew:=[] }
def wr_Byte.F (w:Wtr) (v:Int):OT:=wr_Byte.d.run wr_Byte.E [(.ag (Wtr.cells w)),(.i .i64 v)]
theorem wr_Byte.F_in (w:Wtr) (v:Int) {ρ:OT} (K:∀(v1:List UInt8) (h1:v1=([(UInt8.ofInt v)]:List UInt8)),ck (apOK (((Wtr.b w)).length+(v1).length) 1) (some [(.ag [(.sl .bs ((Wtr.b w)++v1))])])=ρ):wr_Byte.F w v=ρ:=Eq.trans (by kernel_rfl) (K _ rfl)
theorem wr_Byte.chk:CK 81 wr_Byte.env wr_Byte.d:=ckOf (by kernel_rfl)
def wr_Raw.env:EV:=[]
def wr_Raw.E:TEnv:=envL trydGl wr_Raw.env
def wr_Raw.m:TM := .reg [oV 0 4,oV 0 5,oK (.k (.nc 999999 0)) [5] [6],oA 999999 0 0 6 7,oL 999999 0 1 7 8,oV 1 9,oK (.k (.ap 100 101 1 1)) [8,9,(lk 100),(lk 101)] [10,lk 100,lk 101],oK (.k (.nc 999999 0)) [4] [11],oA 999999 0 0 11 12,oT 999999 0 1 12 10]
def wr_Raw.d:TFD:={ np:=2,m:=wr_Raw.m,ref:=some (0,999999),tips:=[(0,100,1)],res:=[],own:=[],new:=none,tnew:=[] }
def wr_Raw.F (w:Wtr) (b:List UInt8):OT:=wr_Raw.d.run wr_Raw.E [(.ag (Wtr.cells w)),(.sl .bs b)]
theorem wr_Raw.F_eq (w:Wtr) (b:List UInt8):wr_Raw.F w b=ck (apOK (((Wtr.b w)).length+(b).length) 1) (some [(.ag [(.sl .bs ((Wtr.b w)++b))])]):=by kernel_rfl
theorem wr_Raw.chk:CK 83 wr_Raw.env wr_Raw.d:=ckOf (by kernel_rfl)
def wr_High.env:EV:=[(100,(cur_number.c,cur_number.sg))]
def wr_High.E:TEnv:=envL trydGl wr_High.env
def wr_High.m1:TM := .seq (oS [oV 2 9,oC 100 1 1 [9] 10,oV 10 11,oG 11 true (oV 6 12),oG 11 true (oI .geq 12 (.i .i64 0) 13),oP 11 13 false 14] (.cond (.s 14) [] .skip (.exit 0))) none (.seq (.block 1 [(0,.ptr 999999 0),(999999,.cl [(0,102,1)]),(lk 102,.live 1)] (.reg [oV 0 17,oV 0 18,oK (.k (.nc 999999 0)) [18] [19],oA 999999 0 0 19 20,oL 999999 0 1 20 21,oV 1 22,oV 6 23,oX (.k (.bin .mul)) [.c (.i .i64 8),.s 23] [24],oB .shr 22 24 25,oK (.k (.ci .u8)) [25] [26],oK (.bl .bs 1) [26] [27],oK (.k (.ap 100 102 1 1)) [21,27,(lk 100),(lk 102)] [28,lk 100,lk 102],oK (.k (.nc 999999 0)) [17] [29],oA 999999 0 0 29 30,oT 999999 0 1 30 28])) none (.reg [oV 6 15,oI .sub 15 (.i .i64 1) 16,oV 16 6]))
def wr_High.m:TM:=oS [oV 2 7,oI .sub 7 (.i .i64 1) 8,oV 8 6] (.block 0 [(999999,.cl [(0,100,1)]),(lk 100,.live 1)] (.loop [0,1,2,6,999999] [(0,.ptr 999999 0),(999999,.cl [(0,100,1)]),(lk 100,.live 1)] wr_High.m1))
def wr_High.d:TFD:={ np:=3,m:=wr_High.m,ref:=some (0,999999),tips:=[(0,100,1)],res:=[],own:=[],new:=none,tnew:=[] }
def wr_High.F (w:Wtr) (v:UInt64) (n:Int):OT:=wr_High.d.run wr_High.E [(.ag (Wtr.cells w)),(.u64 v),(.i .i64 n)]
def wr_High.l1 (x0:UInt64) (x1:Int) (x2:Int) (x3:Wtr):OT:=loopL (evO _ wr_High.E wr_High.m1) isN [0,1,2,6,999999] (headT [0,1,2,6,999999] [.pt,(.u64 x0),(.i .i64 x1),(.i .i64 x2),(.ag (Wtr.cells x3))]) (blockK 0 (endK wr_High.d))
theorem wr_High.l1_in (x0:UInt64) (x1:Int) (x2:Int) (x3:Wtr) {ρ:OT} (K:∀(v1:Bool) (h1:v1=(cond (decide (1≤x1∧x1≤8)) (decide ((0:Int)≤x2)) false)) (v2:Int) (h2:v2=(IntKind.i64.wrap ((8:Int) * x2))) (v3:UInt8) (h3:v3=(UInt8.ofInt (((shr64 x0 ((v2).toNat))).toNat:Int))) (v4:List UInt8) (h4:v4=((Wtr.b x3)++([v3]:List UInt8))) (v5:Int) (h5:v5=(IntKind.i64.wrap (x2 - (1:Int)))),ck (!(decide (1≤x1∧x1≤8)) || (decide (1≤x1∧x1≤8))) (ck (!(decide (1≤x1∧x1≤8)) || (decide (1≤x1∧x1≤8))) (cond v1
  (ck (decide (0≤v2)) (ck (apOK (((Wtr.b x3)).length+(([v3]:List UInt8)).length) 1) (wr_High.l1 x0 x1 v5 (Wtr.mk v4))))
  (some [(.ag (Wtr.cells x3))])))=ρ):wr_High.l1 x0 x1 x2 x3=ρ:=((ev_loop _ _ _ _ _ _).trans (by kernel_rfl)).trans (K _ rfl _ rfl _ rfl _ rfl _ rfl)
theorem wr_High.F_in (w:Wtr) (v:UInt64) (n:Int) {ρ:OT} (K:∀(v1:Int) (h1:v1=(IntKind.i64.wrap (n - (1:Int)))),wr_High.l1 v n v1 w=ρ):wr_High.F w v n=ρ:=Eq.trans (by kernel_rfl) (K _ rfl)
theorem wr_High.chk:CK 95 wr_High.env wr_High.d:=ckOf (by kernel_rfl)
def wr_Bytes.env:EV:=[(34,(clone_bs.c,clone_bs.sg))]
def wr_Bytes.E:TEnv:=envL trydGl wr_Bytes.env
def wr_Bytes.m:TM:=oS [oW (.sl .bs ([]:List UInt8)) 2] (oS [oV 0 3,oK (.k (.nc 999999 0)) [3] [4],oA 999999 0 0 4 5,oL 999999 0 1 5 6,oK (.k (.call 34 ⟨1,none,[],[],1,[(0,102,1)],none,[]⟩)) [6,(lk 102)] [7,lk 102],oV 7 2] .ret)
def wr_Bytes.d:TFD:={ np:=1,m:=wr_Bytes.m,ref:=some (0,999999),tips:=[(0,100,1)],res:=[.t 2],own:=[],new:=none,tnew:=[] }
def wr_Bytes.F (w:Wtr):OT:=wr_Bytes.d.run wr_Bytes.E [(.ag (Wtr.cells w))]
theorem wr_Bytes.F_eq (w:Wtr):wr_Bytes.F w=ck (apOK (((Wtr.b w))).length 1) (some [(.sl .bs (((Wtr.b w)))),(.ag (Wtr.cells w))]):=by kernel_rfl
theorem wr_Bytes.chk:CK 66 wr_Bytes.env wr_Bytes.d:=ckOf (by kernel_rfl)
def mp_few.env:EV:=[]
def mp_few.E:TEnv:=envL trydGl mp_few.env
def mp_few.m:TM:=oS [oW (.b false) 2] (oS [oV 0 3,oK (.k (.ci .u64)) [3] [4],oI .lss 4 (.u64 4294967296) 5,oV 5 2] .ret)
def mp_few.d:TFD:=D0 1 mp_few.m [.t 2]
def mp_few.F (n:Int):OT:=mp_few.d.run mp_few.E [(.i .i64 n)]
theorem mp_few.F_eq (n:Int):mp_few.F n=some [(.b (decide ((UInt64.ofInt n)<(4294967296:UInt64))))]:=by kernel_rfl
theorem mp_few.chk:CK 39 mp_few.env mp_few.d:=ckOf (by kernel_rfl)
def mp_fields.env:EV:=[(39,(mp_few.c,mp_few.sg))]
def mp_fields.E:TEnv:=envL trydGl mp_fields.env
def mp_fields.m1:TM := .cond (.s 14) [(1,.ptr 1089 0),(1089,.cl [])] (.reg [oA 1089 0 1 1 17,oX (.k (.st 1089 1 1)) [.s 17,.s 1089,.c (.u64 0)] [1089]]) (oS [oI .eql 13 (.i .i64 2) 19,oV 19 18] (.cond (.s 18) [(1,.ptr 1089 0),(1089,.cl [])] (.reg [oA 1089 0 1 1 20,oL 1089 1 1 20 21,oI .lss 21 (.u64 9223372036854775808) 22,oV 22 5,oA 1089 0 1 1 23,oX (.k (.st 1089 1 1)) [.s 23,.s 1089,.c (.u64 0)] [1089]]) (oS [oI .eql 13 (.i .i64 3) 25,oV 25 24] (.cond (.s 24) [(1,.ptr 1089 0),(1089,.cl [])] (.reg [oV 4 26,oC 39 1 1 [26] 27,oV 27 5,oW (.i .i64 0) 4]) (oS [oI .eql 13 (.i .i64 4) 29,oV 29 28] (.cond (.s 28) [(1,.ptr 1089 0),(1089,.cl [])] (.reg [oA 1089 0 3 1 30,oL 1089 3 1 30 31,oK (.k .lns) [31] [32],oC 39 1 1 [32] 33,oV 33 5,oA 1089 0 3 1 34,oX (.k (.st 1089 3 1)) [.s 34,.s 1089,.c (.s [])] [1089]]) (oS [oI .eql 13 (.i .i64 5) 36,oV 36 35] (.cond (.s 35) [(1,.ptr 1089 0),(1089,.cl [])] (.reg [oV 3 37,oC 39 1 1 [37] 38,oV 38 5,oW (.i .i64 0) 3]) (oS [oI .eql 13 (.i .i64 6) 40,oV 40 39] (.cond (.s 39) [(1,.ptr 1089 0),(1089,.cl [])] (.reg [oV 3 41,oI .rem 41 (.i .i64 2) 42,oI .eql 42 (.i .i64 0) 43,oV 43 44,oG 44 true (oV 3 45),oG 44 true (oI .quo 45 (.i .i64 2) 46),oG 44 true (oC 39 1 1 [46] 47),oP 44 47 false 48,oV 48 5,oW (.i .i64 0) 3]) (oS [oI .eql 13 (.i .i64 8) 50,oV 50 49] (.cond (.s 49) [(1,.ptr 1089 0),(1089,.cl [])] (.reg [oA 1089 0 1 1 51,oL 1089 1 1 51 52,oI .geq 52 (.u64 20) 53,oV 53 54,oG 54 true (oA 1089 0 1 1 55),oG 54 true (oL 1089 1 1 55 56),oG 54 true (oI .leq 56 (.u64 22) 57),oP 54 57 false 58,oV 58 5,oA 1089 0 1 1 59,oX (.k (.st 1089 1 1)) [.s 59,.s 1089,.c (.u64 0)] [1089]]) (oS [oI .eql 13 (.i .i64 10) 61,oV 61 60] (.cond (.s 60) [(1,.ptr 1089 0),(1089,.cl [])] (.reg [oA 1089 0 1 1 62,oL 1089 1 1 62 63,oI .leq 63 (.u64 127) 64,oV 64 65,oG 65 true (oV 4 66),oG 65 true (oC 39 1 1 [66] 67),oP 65 67 false 68,oV 68 5,oA 1089 0 1 1 69,oX (.k (.st 1089 1 1)) [.s 69,.s 1089,.c (.u64 0)] [1089],oW (.i .i64 0) 4]) .skip))))))))))))))
def mp_fields.m2:TM:=oS [oV 5 70,oV 70 71,oG 71 true (oA 1089 0 1 1 72),oG 71 true (oL 1089 1 1 72 73),oG 71 true (oI .eql 73 (.u64 0) 74),oP 71 74 false 75,oV 75 76,oG 76 true (oV 4 77),oG 76 true (oI .eql 77 (.i .i64 0) 78),oP 76 78 false 79,oV 79 80,oG 80 true (oA 1089 0 3 1 81),oG 80 true (oL 1089 3 1 81 82),oG 80 true (oI .eql 82 (.s []) 83),oP 80 83 false 84,oV 84 85,oG 85 true (oV 3 86),oG 85 true (oI .eql 86 (.i .i64 0) 87),oP 85 87 false 88,oV 88 2] .ret
def mp_fields.m:TM:=oS [oK (.k (.bx 1089)) [0,1089] [1,1089],oW (.b false) 2] (oS [oA 1089 0 4 1 6,oL 1089 4 1 6 7,oK (.k .len) [7] [8],oA 1089 0 2 1 9,oL 1089 2 1 9 10,oK (.k .len) [10] [11],oV 8 3,oV 11 4] (oS [oW (.b true) 5] (.seq (oS [oA 1089 0 0 1 12,oL 1089 0 1 12 13] (.block 0 [(1,.ptr 1089 0),(1089,.cl [])] (.seq (oS [oI .eql 13 (.i .i64 1) 15,oV 15 14] (.cond (.s 14) [(1,.ptr 1089 0),(1089,.cl [])] .skip (.reg [oI .eql 13 (.i .i64 9) 16,oV 16 14]))) (some [1,3,4,5,13,14,1089]) mp_fields.m1))) (some [1,3,4,5,1089]) mp_fields.m2)))
def mp_fields.d:TFD:=D0 1 mp_fields.m [.t 2]
def mp_fields.F (it:Itv):OT:=mp_fields.d.run mp_fields.E [(.ag (Itv.cells it))]
def mp_fields.k1:Cont (List TV):=seqK (evO _ mp_fields.E mp_fields.m2) (some [1,3,4,5,1089]) (endK mp_fields.d)
def mp_fields.j1 (x0:Int) (x1:Int) (x2:Bool) (x3:Int) (x4:Bool) (x5:Itv):OT:=evO _ mp_fields.E mp_fields.m1 (headT [1,3,4,5,13,14,1089] [.pt,(.i .i64 x0),(.i .i64 x1),(.b x2),(.i .i64 x3),(.b x4),(.ag (Itv.cells x5))]) (blockK 0 mp_fields.k1)
def mp_fields.j2 (x0:Int) (x1:Int) (x2:Bool) (x3:Itv):OT:=evO _ mp_fields.E mp_fields.m2 (headT [1,3,4,5,1089] [.pt,(.i .i64 x0),(.i .i64 x1),(.b x2),(.ag (Itv.cells x3))]) (endK mp_fields.d)
theorem mp_fields.j1_in (x0:Int) (x1:Int) (x2:Bool) (x3:Int) (x4:Bool) (x5:Itv) {ρ:OT} (K:∀(v1:Int) (h1:v1=(((Itv.text x5)).length:Int)) (v2:Int) (h2:v2=(IntKind.i64.wrap (Int.tdiv x0 (2:Int)))) (v3:Bool) (h3:v3=(cond (decide ((Int.tmod x0 (2:Int))=(0:Int))) (decide (v2<4294967296)) false)) (v4:Bool) (h4:v4=(cond (decide ((20:UInt64)≤(Itv.n x5))) (decide ((Itv.n x5)≤(22:UInt64))) false)) (v5:Bool) (h5:v5=(cond (decide ((Itv.n x5)≤(127:UInt64))) (decide (x1<4294967296)) false)),cond x4
  (mp_fields.j2 x0 x1 x2 (Itv.mk (Itv.kind x5) 0 (Itv.bytes x5) (Itv.text x5) (Itv.kids x5)))
  (cond (decide (x3=(2:Int)))
  (mp_fields.j2 x0 x1 (decide ((Itv.n x5)<(9223372036854775808:UInt64))) (Itv.mk (Itv.kind x5) 0 (Itv.bytes x5) (Itv.text x5) (Itv.kids x5)))
  (cond (decide (x3=(3:Int)))
  (ck (decide (0≤x1∧x1≤1099511627776)) (mp_fields.j2 x0 (0:Int) (decide (x1<4294967296)) x5))
  (cond (decide (x3=(4:Int)))
  (ck (decide (0≤v1∧v1≤1099511627776)) (mp_fields.j2 x0 x1 (decide (v1<4294967296)) (Itv.mk (Itv.kind x5) (Itv.n x5) (Itv.bytes x5) [] (Itv.kids x5))))
  (cond (decide (x3=(5:Int)))
  (ck (decide (0≤x0∧x0≤1099511627776)) (mp_fields.j2 (0:Int) x1 (decide (x0<4294967296)) x5))
  (cond (decide (x3=(6:Int)))
  (ck (!decide ((2:Int)=0)) (ck (!(decide ((Int.tmod x0 (2:Int))=(0:Int))) || ((decide ((Int.tmod x0 (2:Int))=(0:Int)))&&(!decide ((2:Int)=0)))) (ck (!(decide ((Int.tmod x0 (2:Int))=(0:Int))) || ((decide ((Int.tmod x0 (2:Int))=(0:Int)))&&(decide (0≤v2∧v2≤1099511627776)))) (ck (!(decide ((Int.tmod x0 (2:Int))=(0:Int))) || (decide ((Int.tmod x0 (2:Int))=(0:Int)))) (mp_fields.j2 (0:Int) x1 v3 x5)))))
  (cond (decide (x3=(8:Int)))
  (ck (!(decide ((20:UInt64)≤(Itv.n x5))) || (decide ((20:UInt64)≤(Itv.n x5)))) (ck (!(decide ((20:UInt64)≤(Itv.n x5))) || (decide ((20:UInt64)≤(Itv.n x5)))) (ck (!(decide ((20:UInt64)≤(Itv.n x5))) || (decide ((20:UInt64)≤(Itv.n x5)))) (mp_fields.j2 x0 x1 v4 (Itv.mk (Itv.kind x5) 0 (Itv.bytes x5) (Itv.text x5) (Itv.kids x5))))))
  (cond (decide (x3=(10:Int)))
  (ck (!(decide ((Itv.n x5)≤(127:UInt64))) || ((decide ((Itv.n x5)≤(127:UInt64)))&&(decide (0≤x1∧x1≤1099511627776)))) (ck (!(decide ((Itv.n x5)≤(127:UInt64))) || (decide ((Itv.n x5)≤(127:UInt64)))) (mp_fields.j2 x0 (0:Int) v5 (Itv.mk (Itv.kind x5) 0 (Itv.bytes x5) (Itv.text x5) (Itv.kids x5)))))
  (mp_fields.j2 x0 x1 x2 x5))))))))=ρ):mp_fields.j1 x0 x1 x2 x3 x4 x5=ρ:=((congrFun (congrFun (ev_eq _ _) _) _).trans (by kernel_rfl)).trans (K _ rfl _ rfl _ rfl _ rfl _ rfl)
theorem mp_fields.j2_in (x0:Int) (x1:Int) (x2:Bool) (x3:Itv) {ρ:OT} (K:∀(v1:Bool) (h1:v1=(cond x2 (decide ((Itv.n x3)=(0:UInt64))) false)) (v2:Bool) (h2:v2=(cond v1 (decide (x1=(0:Int))) false)) (v3:Bool) (h3:v3=(cond v2 (decide ((Itv.text x3)=([]:Str))) false)) (v4:Bool) (h4:v4=(cond v3 (decide (x0=(0:Int))) false)),ck (!x2 || x2) (ck (!x2 || x2) (ck (!x2 || x2) (ck (!v1 || v1) (ck (!v1 || v1) (ck (!v2 || v2) (ck (!v2 || v2) (ck (!v2 || v2) (ck (!v3 || v3) (ck (!v3 || v3) (some [(.b v4)]))))))))))=ρ):mp_fields.j2 x0 x1 x2 x3=ρ:=((congrFun (congrFun (ev_eq _ _) _) _).trans (by kernel_rfl)).trans (K _ rfl _ rfl _ rfl _ rfl)
theorem mp_fields.F_in (it:Itv) {ρ:OT} (K:∀(v1:Int) (h1:v1=(((Itv.kids it)).length:Int)) (v2:Int) (h2:v2=(((Itv.bytes it)).length:Int)),cond (decide ((Itv.kind it)=(1:Int)))
  (mp_fields.j1 v1 v2 true (Itv.kind it) (decide ((Itv.kind it)=(1:Int))) it)
  (mp_fields.j1 v1 v2 true (Itv.kind it) (decide ((Itv.kind it)=(9:Int))) it)=ρ):mp_fields.F it=ρ:=Eq.trans (by kernel_rfl) (K _ rfl _ rfl)
theorem mp_fields.chk:CK 24 mp_fields.env mp_fields.d:=ckOf (by kernel_rfl)
def mp_Check.env (n:Nat):EV:=[(15,(mp_Check.cn n,mp_Check.sg)),(24,(mp_fields.c,mp_fields.sg)),(25,(utf_Check.c,utf_Check.sg))]
def mp_Check.E (n:Nat):TEnv:=envL trydGl (mp_Check.env n)
def mp_Check.m1:TM:=oS [oB .lss 36 35 37] (.seq (.cond (.s 37) [] .skip (.exit 0)) none (.seq (.block 1 [] (oS [oK (.k (.ix 5)) [34,36] [38],oK (.k (.lr 5 true)) [38] [39],oN 1047 zI 6,oT 1047 0 5 6 39] (oS [oM 1047 0 5 6 40,oC 15 1 1 [40] 41,oV 41 7] (oS [oV 7 42,oI .neq 42 (.i .i64 0) 43] (.cond (.s 43) [] (oS [oV 7 44,oV 44 2] .ret) .skip))))) none (.reg [oI .add 36 (.i .i64 1) 45,oV 45 36])))
def mp_Check.m:TM:=oS [oK (.k (.bx 1046)) [0,1046] [1,1046],oW (.i .i64 0) 2] (.seq (oS [oA 1046 0 0 1 8,oL 1046 0 1 8 9,oI .lss 9 (.i .i64 1) 10,oV 10 11,oG 11 false (oA 1046 0 0 1 12),oG 11 false (oL 1046 0 1 12 13),oG 11 false (oI .gtr 13 (.i .i64 10) 14),oX (.k .pick) [.s 11,.c (.b true),.s 14] [15],oV 15 16,oG 16 false (oA 1046 0 0 1 17),oG 16 false (oL 1046 0 1 17 18),oG 16 false (oI .eql 18 (.i .i64 7) 19),oX (.k .pick) [.s 16,.c (.b true),.s 19] [20]] (.cond (.s 20) [] (oS [oW (.i .i64 5) 2] .ret) .skip)) none (.seq (oS [oM 1046 0 5 1 21,oC 24 1 1 [21] 22,oK (.k (.un .not)) [22] [23]] (.cond (.s 23) [] (oS [oW (.i .i64 1) 2] .ret) .skip)) none (.seq (oS [oA 1046 0 3 1 25,oL 1046 3 1 25 26,oK (.k .sb) [26] [27],oC 25 1 2 [27] 28,oV 28 24,oE 0 24 29,oE 1 24 30,oV 29 3,oV 30 4] (oS [oV 4 31,oK (.k (.un .not)) [31] [32]] (.cond (.s 32) [] (oS [oW (.i .i64 4) 2] .ret) .skip))) none (.seq (oS [oA 1046 0 4 1 33,oL 1046 4 1 33 34,oK (.k .len) [34] [35],oW (.i .i64 0) 36] (.block 0 [] (.loop [34,35,36] [] mp_Check.m1))) none (oS [oW (.i .i64 0) 2] .ret)))))
def mp_Check.d:TFD:=D0 1 mp_Check.m [.t 2]
def mp_Check.F (n:Nat) (it:Itv):OT:=mp_Check.d.run (mp_Check.E n) [(.ag (Itv.cells it))]
def mp_Check.k1 (n:Nat):Cont (List TV):=seqK (ev _ (mp_Check.E n) (oS [oW (.i .i64 0) 2] .ret)) none (endK mp_Check.d)
def mp_Check.l1 (n:Nat) (x0:List Itm) (x1:Int) (x2:Int):OT:=loopL (evO _ (mp_Check.E n) mp_Check.m1) isN [34,35,36] (headT [34,35,36] [(.sl .il x0),(.i .i64 x1),(.i .i64 x2)]) (blockK 0 (mp_Check.k1 n))
theorem mp_Check.l1_in (n:Nat) (x0:List Itm) (x1:Int) (x2:Int) {ρ:OT} (K:∀(v1:Int) (h1:v1=(Mp.chk (Itm.of (Itm.val (List.getD x0 (x2).toNat (STy.dflt .il)))))) (v2:Int) (h2:v2=(IntKind.i64.wrap (x2+(1:Int)))),cond (decide (x2<x1))
  (ck (idxOK x2 (x0).length) (ck ((decide (Itm.bulk (Itm.of (Itm.val (List.getD x0 (x2).toNat (STy.dflt .il))))≤1099511627776))&&decide ((Itm.bulk (Itm.of (Itm.val (List.getD x0 (x2).toNat (STy.dflt .il)))))<n)) (cond (!decide (v1=(0:Int)))
  (some [(.i .i64 v1)])
  (mp_Check.l1 n x0 x1 v2))))
  (some [(.i .i64 0)])=ρ):mp_Check.l1 n x0 x1 x2=ρ:=((ev_loop _ _ _ _ _ _).trans (by kernel_rfl)).trans (K _ rfl _ rfl)
theorem mp_Check.F_in (n:Nat) (it:Itv) {ρ:OT} (K:∀(v1:Bool) (h1:v1=(cond (decide ((Itv.kind it)<(1:Int))) true (decide ((10:Int)<(Itv.kind it))))) (v2:Bool) (h2:v2=(cond v1 true (decide ((Itv.kind it)=(7:Int))))) (v3:Int) (h3:v3=(((Utf.look ((Itv.text it))).1:Int))) (v4:Bool) (h4:v4=(!(Utf.whole ((Itv.text it))))) (v5:Int) (h5:v5=(((Itv.kids it)).length:Int)),ck (!(!(decide ((Itv.kind it)<(1:Int)))) || (!(decide ((Itv.kind it)<(1:Int))))) (ck (!(!(decide ((Itv.kind it)<(1:Int)))) || (!(decide ((Itv.kind it)<(1:Int))))) (ck ((decide ((Itv.kind it)<(1:Int))) || (!(decide ((Itv.kind it)<(1:Int))))) (ck (!(!v1) || (!v1)) (ck (!(!v1) || (!v1)) (ck (v1 || (!v1)) (cond v2
  (some [(.i .i64 5)])
  (ck (decide (Itm.bulk (Itm.of it)≤1099511627776)) (cond (!(Mp.fieldsOK (Itm.of it)))
  (some [(.i .i64 1)])
  (ck (lenOK ((Itv.text it)).length) (ck (decide (((Itv.text it)).length≤1099511627776)) (cond v4
  (some [(.i .i64 4)])
  (mp_Check.l1 n (Itv.kids it) v5 (0:Int)))))))))))))=ρ):mp_Check.F n it=ρ:=Eq.trans (by kernel_rfl) (K _ rfl _ rfl _ rfl _ rfl _ rfl)
theorem mp_Check.chk (n:Nat):CK 15 (mp_Check.env n) mp_Check.d:=ckOf (by kernel_rfl)
def mp_wrong.env:EV:=[]
def mp_wrong.E:TEnv:=envL trydGl mp_wrong.env
def mp_wrong.m:TM:=oS [oN 1010 zI 4,oN 1011 zT 5] (oS [oK (.bd zI []) [] [6],oV 0 7,oV 1 8,oK (.bd zT [(0,1),(1,1)]) [7,8] [9],oT 1010 0 5 4 6,oT 1011 0 3 5 9] .ret)
def mp_wrong.d:TFD:=D0 2 mp_wrong.m [.c 4 1010 5 true,.c 5 1011 3 true]
def mp_wrong.F (e:Int) (at_:Int):OT:=mp_wrong.d.run mp_wrong.E [(.i .i64 e),(.i .i64 at_)]
theorem mp_wrong.F_eq (e:Int) (at_:Int):mp_wrong.F e at_=some [(.ag [(.i .i64 0),(.u64 0),(.sl .bs ([]:List UInt8)),(.s []),(.sl .il ([]:List Itm))]),(.ag [(.i .i64 e),(.i .i64 at_),(.sl .is ([]:List Int))])]:=by kernel_rfl
theorem mp_wrong.chk:CK 73 mp_wrong.env mp_wrong.d:=ckOf (by kernel_rfl)
def mp_unsigned.env:EV:=[]
def mp_unsigned.E:TEnv:=envL trydGl mp_unsigned.env
def mp_unsigned.m:TM:=oS [oN 1022 [(.i .i64 0),(.i .i64 0)] 2] (.seq (.block 0 [(2,.ptr 1022 0),(1022,.cl [])] (oS [oV 0 4,oI .lss 4 (.u64 128) 5,oV 5 3] (.cond (.s 3) [] (oS [oV 0 6,oK (.k (.ci .i64)) [6] [7],oX (.bd [(.i .i64 0),(.i .i64 0)] [(0,1),(1,1)]) [.s 7,.c (.i .i64 0)] [8],oT 1022 0 2 2 8] .ret) (oS [oV 0 10,oI .lss 10 (.u64 256) 11,oV 11 9] (.cond (.s 9) [] (oS [oX (.bd [(.i .i64 0),(.i .i64 0)] [(0,1),(1,1)]) [.c (.i .i64 204),.c (.i .i64 1)] [12],oT 1022 0 2 2 12] .ret) (oS [oV 0 14,oI .lss 14 (.u64 65536) 15,oV 15 13] (.cond (.s 13) [] (oS [oX (.bd [(.i .i64 0),(.i .i64 0)] [(0,1),(1,1)]) [.c (.i .i64 205),.c (.i .i64 2)] [16],oT 1022 0 2 2 16] .ret) (oS [oV 0 18,oI .lss 18 (.u64 4294967296) 19,oV 19 17] (.cond (.s 17) [] (oS [oX (.bd [(.i .i64 0),(.i .i64 0)] [(0,1),(1,1)]) [.c (.i .i64 206),.c (.i .i64 4)] [20],oT 1022 0 2 2 20] .ret) .skip))))))))) none (oS [oX (.bd [(.i .i64 0),(.i .i64 0)] [(0,1),(1,1)]) [.c (.i .i64 207),.c (.i .i64 8)] [21],oT 1022 0 2 2 21] .ret))
def mp_unsigned.d:TFD:=D0 1 mp_unsigned.m [.c 2 1022 2 true]
def mp_unsigned.F (n:UInt64):OT:=mp_unsigned.d.run mp_unsigned.E [(.u64 n)]
theorem mp_unsigned.F_in (n:UInt64) {ρ:OT} (K:∀(v1:Int) (h1:v1=(IntKind.i64.wrap ((n).toNat:Int))),cond (decide (n<(128:UInt64)))
  (some [(.ag [(.i .i64 v1),(.i .i64 0)])])
  (cond (decide (n<(256:UInt64)))
  (some [(.ag [(.i .i64 204),(.i .i64 1)])])
  (cond (decide (n<(65536:UInt64)))
  (some [(.ag [(.i .i64 205),(.i .i64 2)])])
  (cond (decide (n<(4294967296:UInt64)))
  (some [(.ag [(.i .i64 206),(.i .i64 4)])])
  (some [(.ag [(.i .i64 207),(.i .i64 8)])]))))=ρ):mp_unsigned.F n=ρ:=Eq.trans (by kernel_rfl) (K _ rfl)
theorem mp_unsigned.chk:CK 79 mp_unsigned.env mp_unsigned.d:=ckOf (by kernel_rfl)
def mp_signed.env:EV:=[]
def mp_signed.E:TEnv:=envL trydGl mp_signed.env
def mp_signed.m:TM:=oS [oN 1023 [(.i .i64 0),(.i .i64 0)] 2] (.seq (.block 0 [(2,.ptr 1023 0),(1023,.cl [])] (oS [oV 0 4,oI .lss 4 (.u64 32) 5,oV 5 3] (.cond (.s 3) [] (oS [oV 0 6,oK (.k (.ci .i64)) [6] [7],oX (.k (.bin .sub)) [.c (.i .i64 255),.s 7] [8],oX (.bd [(.i .i64 0),(.i .i64 0)] [(0,1),(1,1)]) [.s 8,.c (.i .i64 0)] [9],oT 1023 0 2 2 9] .ret) (oS [oV 0 11,oI .lss 11 (.u64 128) 12,oV 12 10] (.cond (.s 10) [] (oS [oX (.bd [(.i .i64 0),(.i .i64 0)] [(0,1),(1,1)]) [.c (.i .i64 208),.c (.i .i64 1)] [13],oT 1023 0 2 2 13] .ret) (oS [oV 0 15,oI .lss 15 (.u64 32768) 16,oV 16 14] (.cond (.s 14) [] (oS [oX (.bd [(.i .i64 0),(.i .i64 0)] [(0,1),(1,1)]) [.c (.i .i64 209),.c (.i .i64 2)] [17],oT 1023 0 2 2 17] .ret) (oS [oV 0 19,oI .lss 19 (.u64 2147483648) 20,oV 20 18] (.cond (.s 18) [] (oS [oX (.bd [(.i .i64 0),(.i .i64 0)] [(0,1),(1,1)]) [.c (.i .i64 210),.c (.i .i64 4)] [21],oT 1023 0 2 2 21] .ret) .skip))))))))) none (oS [oX (.bd [(.i .i64 0),(.i .i64 0)] [(0,1),(1,1)]) [.c (.i .i64 211),.c (.i .i64 8)] [22],oT 1023 0 2 2 22] .ret))
def mp_signed.d:TFD:=D0 1 mp_signed.m [.c 2 1023 2 true]
def mp_signed.F (n:UInt64):OT:=mp_signed.d.run mp_signed.E [(.u64 n)]
theorem mp_signed.F_in (n:UInt64) {ρ:OT} (K:∀(v1:Int) (h1:v1=(IntKind.i64.wrap ((n).toNat:Int))) (v2:Int) (h2:v2=(IntKind.i64.wrap ((255:Int) - v1))),cond (decide (n<(32:UInt64)))
  (some [(.ag [(.i .i64 v2),(.i .i64 0)])])
  (cond (decide (n<(128:UInt64)))
  (some [(.ag [(.i .i64 208),(.i .i64 1)])])
  (cond (decide (n<(32768:UInt64)))
  (some [(.ag [(.i .i64 209),(.i .i64 2)])])
  (cond (decide (n<(2147483648:UInt64)))
  (some [(.ag [(.i .i64 210),(.i .i64 4)])])
  (some [(.ag [(.i .i64 211),(.i .i64 8)])]))))=ρ):mp_signed.F n=ρ:=Eq.trans (by kernel_rfl) (K _ rfl _ rfl)
theorem mp_signed.chk:CK 80 mp_signed.env mp_signed.d:=ckOf (by kernel_rfl)
def mp_put.env:EV:=[(81,(wr_Byte.c,wr_Byte.sg)),(95,(wr_High.c,wr_High.sg))]
def mp_put.E:TEnv:=envL trydGl mp_put.env
def mp_put.m:TM:=oS [oK (.k (.bx 1015)) [1,1015] [4,1015]] (oS [oV 0 6,oA 1015 0 0 4 7,oL 1015 0 1 7 8,oK (.k (.call 81 ⟨2,(some (0,999999)),[(0,100,1)],[(0,101,1)],0,[],none,[]⟩)) [6,8,999999,(lk 100),(lk 101)] [9,999999,lk 100,lk 101]] (.reg [oV 0 10,oV 2 11,oA 1015 0 1 4 12,oL 1015 1 1 12 13,oK (.k (.call 95 ⟨3,(some (0,999999)),[(0,101,1)],[(0,102,1)],0,[],none,[]⟩)) [10,11,13,999999,(lk 101),(lk 102)] [14,999999,lk 101,lk 102]]))
def mp_put.d:TFD:={ np:=3,m:=mp_put.m,ref:=some (0,999999),tips:=[(0,100,1)],res:=[],own:=[],new:=none,tnew:=[] }
def mp_put.F (w:Wtr) (f:Spn) (n:UInt64):OT:=mp_put.d.run mp_put.E [(.ag (Wtr.cells w)),(.ag (Spn.cells f)),(.u64 n)]
theorem mp_put.F_in (w:Wtr) (f:Spn) (n:UInt64) {ρ:OT} (K:∀(v1:Wtr) (h1:v1=((Wtr.mk ((w).b++[UInt8.ofInt ((Spn.at_ f))])))) (v2:Wtr) (h2:v2=((Wtr.mk ((v1).b++Cur.high n ((Spn.end_ f)))))),ck (decide ((w).b.length≤1099511627776)) (ck (decide ((v1).b.length≤1099511627776)) (some [(.ag (Wtr.cells v2))]))=ρ):mp_put.F w f n=ρ:=Eq.trans (by kernel_rfl) (K _ rfl _ rfl)
theorem mp_put.chk:CK 78 mp_put.env mp_put.d:=ckOf (by kernel_rfl)
def mp_lay.env (n:Nat):EV:=[(65,(mp_lay.cn n,mp_lay.sg)),(78,(mp_put.c,mp_put.sg)),(79,(mp_unsigned.c,mp_unsigned.sg)),(80,(mp_signed.c,mp_signed.sg)),(81,(wr_Byte.c,wr_Byte.sg)),(82,(mp_sized.c,mp_sized.sg)),(83,(wr_Raw.c,wr_Raw.sg))]
def mp_lay.E (n:Nat):TEnv:=envL trydGl (mp_lay.env n)
def mp_lay.m1:TM:=oS [oB .lss 136 135 137] (.seq (.cond (.s 137) [] .skip (.exit 1)) none (.seq (.block 2 [(0,.ptr 999999 0),(999999,.cl [(0,117,1)]),(lk 117,.live 1)] (oS [oK (.k (.ix 5)) [134,136] [138],oK (.k (.lr 5 true)) [138] [139],oN 1145 zI 5,oT 1145 0 5 5 139] (.reg [oV 0 140,oM 1145 0 5 5 141,oK (.k (.call 65 ⟨2,(some (0,999999)),[(0,101,1)],[(0,117,1)],0,[],none,[]⟩)) [140,141,999999,(lk 101),(lk 117)] [142,999999,lk 101,lk 117]]))) none (.reg [oI .add 136 (.i .i64 1) 143,oV 143 136])))
def mp_lay.m2:TM:=oS [oA 1144 0 4 3 133,oL 1144 4 1 133 134,oK (.k .len) [134] [135],oW (.i .i64 0) 136] (.block 1 [(999999,.cl [(0,101,1)]),(lk 101,.live 1)] (.loop [0,134,135,136,999999] [(0,.ptr 999999 0),(999999,.cl [(0,101,1)]),(lk 101,.live 1)] mp_lay.m1))
def mp_lay.m:TM:=oS [oK (.k (.bx 1144)) [1,1144] [3,1144]] (.seq (oS [oA 1144 0 0 3 6,oL 1144 0 1 6 7] (.block 0 [(0,.ptr 999999 0),(3,.ptr 1144 0),(1144,.cl []),(999999,.cl [(0,101,1)]),(lk 101,.live 1)] (oS [oI .eql 7 (.i .i64 1) 9,oV 9 8] (.cond (.s 8) [(0,.ptr 999999 0),(3,.ptr 1144 0),(1144,.cl []),(999999,.cl [(0,101,1)]),(lk 101,.live 1)] (.reg [oV 0 10,oA 1144 0 1 3 11,oL 1144 1 1 11 12,oC 79 1 1 [12] 13,oA 1144 0 1 3 14,oL 1144 1 1 14 15,oK (.k (.call 78 ⟨3,(some (0,999999)),[(0,100,1)],[(0,101,1)],0,[],none,[]⟩)) [10,13,15,999999,(lk 100),(lk 101)] [16,999999,lk 100,lk 101]]) (oS [oI .eql 7 (.i .i64 2) 18,oV 18 17] (.cond (.s 17) [(0,.ptr 999999 0),(3,.ptr 1144 0),(1144,.cl []),(999999,.cl [(0,102,1)]),(lk 102,.live 1)] (.reg [oV 0 19,oA 1144 0 1 3 20,oL 1144 1 1 20 21,oC 80 1 1 [21] 22,oA 1144 0 1 3 23,oL 1144 1 1 23 24,oK (.k (.un .xor)) [24] [25],oK (.k (.call 78 ⟨3,(some (0,999999)),[(0,100,1)],[(0,102,1)],0,[],none,[]⟩)) [19,22,25,999999,(lk 100),(lk 102)] [26,999999,lk 100,lk 102]]) (oS [oI .eql 7 (.i .i64 8) 28,oV 28 27] (.cond (.s 27) [(0,.ptr 999999 0),(3,.ptr 1144 0),(1144,.cl []),(999999,.cl [(0,103,1)]),(lk 103,.live 1)] (.reg [oV 0 29,oX (.bd [(.i .i64 0),(.i .i64 0),(.i .i64 0)] [(0,1),(1,1),(2,1)]) [.c (.i .i64 194),.c (.i .i64 195),.c (.i .i64 192)] [30],oA 1144 0 1 3 31,oL 1144 1 1 31 32,oI .sub 32 (.u64 20) 33,oK (.k (.ai 3 1 false)) [30,33] [34],oK (.k (.call 81 ⟨2,(some (0,999999)),[(0,100,1)],[(0,103,1)],0,[],none,[]⟩)) [29,34,999999,(lk 100),(lk 103)] [35,999999,lk 100,lk 103]]) (oS [oI .eql 7 (.i .i64 9) 37,oV 37 36] (.cond (.s 36) [(0,.ptr 999999 0),(3,.ptr 1144 0),(1144,.cl []),(999999,.cl [(0,104,1)]),(lk 104,.live 1)] (.reg [oV 0 38,oX (.bd [(.i .i64 0),(.i .i64 0)] [(0,1),(1,1)]) [.c (.i .i64 203),.c (.i .i64 8)] [39],oA 1144 0 1 3 40,oL 1144 1 1 40 41,oK (.k (.call 78 ⟨3,(some (0,999999)),[(0,100,1)],[(0,104,1)],0,[],none,[]⟩)) [38,39,41,999999,(lk 100),(lk 104)] [42,999999,lk 100,lk 104]]) (oS [oI .eql 7 (.i .i64 4) 44,oV 44 43] (.cond (.s 43) [(0,.ptr 999999 0),(3,.ptr 1144 0),(1144,.cl []),(999999,.cl [(0,107,1)]),(lk 107,.live 1)] (oS [oV 0 45,oA 1144 0 0 3 46,oL 1144 0 1 46 47,oA 1144 0 3 3 48,oL 1144 3 1 48 49,oK (.k .lns) [49] [50],oC 82 2 1 [47,50] 51,oA 1144 0 3 3 52,oL 1144 3 1 52 53,oK (.k .lns) [53] [54],oK (.k (.ci .u64)) [54] [55],oK (.k (.call 78 ⟨3,(some (0,999999)),[(0,100,1)],[(0,105,1)],0,[],none,[]⟩)) [45,51,55,999999,(lk 100),(lk 105)] [56,999999,lk 100,lk 105]] (.reg [oV 0 57,oA 1144 0 3 3 58,oL 1144 3 1 58 59,oK (.k .sb) [59] [60],oK (.k (.call 83 ⟨2,(some (0,999999)),[(0,105,1)],[(0,107,1)],0,[],none,[]⟩)) [57,60,999999,(lk 105),(lk 107)] [61,999999,lk 105,lk 107]])) (oS [oI .eql 7 (.i .i64 3) 63,oV 63 62] (.cond (.s 62) [(0,.ptr 999999 0),(3,.ptr 1144 0),(1144,.cl []),(999999,.cl [(0,109,1)]),(lk 109,.live 1)] (oS [oV 0 64,oA 1144 0 0 3 65,oL 1144 0 1 65 66,oA 1144 0 2 3 67,oL 1144 2 1 67 68,oK (.k .len) [68] [69],oC 82 2 1 [66,69] 70,oA 1144 0 2 3 71,oL 1144 2 1 71 72,oK (.k .len) [72] [73],oK (.k (.ci .u64)) [73] [74],oK (.k (.call 78 ⟨3,(some (0,999999)),[(0,100,1)],[(0,108,1)],0,[],none,[]⟩)) [64,70,74,999999,(lk 100),(lk 108)] [75,999999,lk 100,lk 108]] (.reg [oV 0 76,oA 1144 0 2 3 77,oL 1144 2 1 77 78,oK (.k (.call 83 ⟨2,(some (0,999999)),[(0,108,1)],[(0,109,1)],0,[],none,[]⟩)) [76,78,999999,(lk 108),(lk 109)] [79,999999,lk 108,lk 109]])) (oS [oI .eql 7 (.i .i64 10) 81,oV 81 80] (.cond (.s 80) [(0,.ptr 999999 0),(3,.ptr 1144 0),(1144,.cl []),(999999,.cl [(0,112,1)]),(lk 112,.live 1)] (oS [oV 0 82,oA 1144 0 0 3 83,oL 1144 0 1 83 84,oA 1144 0 2 3 85,oL 1144 2 1 85 86,oK (.k .len) [86] [87],oC 82 2 1 [84,87] 88,oA 1144 0 2 3 89,oL 1144 2 1 89 90,oK (.k .len) [90] [91],oK (.k (.ci .u64)) [91] [92],oK (.k (.call 78 ⟨3,(some (0,999999)),[(0,100,1)],[(0,110,1)],0,[],none,[]⟩)) [82,88,92,999999,(lk 100),(lk 110)] [93,999999,lk 100,lk 110]] (oS [oV 0 94,oA 1144 0 1 3 95,oL 1144 1 1 95 96,oK (.k (.ci .i64)) [96] [97],oK (.k (.call 81 ⟨2,(some (0,999999)),[(0,110,1)],[(0,111,1)],0,[],none,[]⟩)) [94,97,999999,(lk 110),(lk 111)] [98,999999,lk 110,lk 111]] (.reg [oV 0 99,oA 1144 0 2 3 100,oL 1144 2 1 100 101,oK (.k (.call 83 ⟨2,(some (0,999999)),[(0,111,1)],[(0,112,1)],0,[],none,[]⟩)) [99,101,999999,(lk 111),(lk 112)] [102,999999,lk 111,lk 112]]))) (oS [oI .eql 7 (.i .i64 5) 104,oV 104 103] (.cond (.s 103) [(0,.ptr 999999 0),(3,.ptr 1144 0),(1144,.cl []),(999999,.cl [(0,113,1)]),(lk 113,.live 1)] (.reg [oV 0 105,oA 1144 0 0 3 106,oL 1144 0 1 106 107,oA 1144 0 4 3 108,oL 1144 4 1 108 109,oK (.k .len) [109] [110],oC 82 2 1 [107,110] 111,oA 1144 0 4 3 112,oL 1144 4 1 112 113,oK (.k .len) [113] [114],oK (.k (.ci .u64)) [114] [115],oK (.k (.call 78 ⟨3,(some (0,999999)),[(0,100,1)],[(0,113,1)],0,[],none,[]⟩)) [105,111,115,999999,(lk 100),(lk 113)] [116,999999,lk 100,lk 113]]) (oS [oI .eql 7 (.i .i64 6) 118,oV 118 117] (.cond (.s 117) [(0,.ptr 999999 0),(3,.ptr 1144 0),(1144,.cl []),(999999,.cl [(0,114,1)]),(lk 114,.live 1)] (.reg [oV 0 119,oA 1144 0 0 3 120,oL 1144 0 1 120 121,oA 1144 0 4 3 122,oL 1144 4 1 122 123,oK (.k .len) [123] [124],oI .quo 124 (.i .i64 2) 125,oC 82 2 1 [121,125] 126,oA 1144 0 4 3 127,oL 1144 4 1 127 128,oK (.k .len) [128] [129],oI .quo 129 (.i .i64 2) 130,oK (.k (.ci .u64)) [130] [131],oK (.k (.call 78 ⟨3,(some (0,999999)),[(0,100,1)],[(0,114,1)],0,[],none,[]⟩)) [119,126,131,999999,(lk 100),(lk 114)] [132,999999,lk 100,lk 114]]) .skip)))))))))))))))))))) (some [0,3,1144,999999]) mp_lay.m2)
def mp_lay.d:TFD:={ np:=2,m:=mp_lay.m,ref:=some (0,999999),tips:=[(0,100,1)],res:=[],own:=[],new:=none,tnew:=[] }
def mp_lay.F (n:Nat) (w:Wtr) (it:Itv):OT:=mp_lay.d.run (mp_lay.E n) [(.ag (Wtr.cells w)),(.ag (Itv.cells it))]
def mp_lay.j1 (n:Nat) (x0:Itv) (x1:Wtr):OT:=evO _ (mp_lay.E n) mp_lay.m2 (headT [0,3,1144,999999] [.pt,.pt,(.ag (Itv.cells x0)),(.ag (Wtr.cells x1))]) (endK mp_lay.d)
def mp_lay.l2 (n:Nat) (x0:List Itm) (x1:Int) (x2:Int) (x3:Wtr):OT:=loopL (evO _ (mp_lay.E n) mp_lay.m1) isN [0,134,135,136,999999] (headT [0,134,135,136,999999] [.pt,(.sl .il x0),(.i .i64 x1),(.i .i64 x2),(.ag (Wtr.cells x3))]) (blockK 1 (endK mp_lay.d))
theorem mp_lay.j1_in (n:Nat) (x0:Itv) (x1:Wtr) {ρ:OT} (K:∀(v1:Int) (h1:v1=(((Itv.kids x0)).length:Int)),mp_lay.l2 n (Itv.kids x0) v1 (0:Int) x1=ρ):mp_lay.j1 n x0 x1=ρ:=((congrFun (congrFun (ev_eq _ _) _) _).trans (by kernel_rfl)).trans (K _ rfl)
theorem mp_lay.l2_in (n:Nat) (x0:List Itm) (x1:Int) (x2:Int) (x3:Wtr) {ρ:OT} (K:∀(v1:Wtr) (h1:v1=((Wtr.mk ((x3).b++Mp.lay (Itm.of (Itm.val (List.getD x0 (x2).toNat (STy.dflt .il)))))))) (v2:Int) (h2:v2=(IntKind.i64.wrap (x2+(1:Int)))),cond (decide (x2<x1))
  (ck (idxOK x2 (x0).length) (ck ((decide ((x3).b.length+16 * Itm.bulk (Itm.of (Itm.val (List.getD x0 (x2).toNat (STy.dflt .il))))≤1099511627776)&&decide (Mp.chk (Itm.of (Itm.val (List.getD x0 (x2).toNat (STy.dflt .il))))=0))&&decide ((Itm.bulk (Itm.of (Itm.val (List.getD x0 (x2).toNat (STy.dflt .il)))))<n)) (mp_lay.l2 n x0 x1 v2 v1)))
  (some [(.ag (Wtr.cells x3))])=ρ):mp_lay.l2 n x0 x1 x2 x3=ρ:=((ev_loop _ _ _ _ _ _).trans (by kernel_rfl)).trans (K _ rfl _ rfl)
theorem mp_lay.F_in (n:Nat) (w:Wtr) (it:Itv) {ρ:OT} (K:∀(v1:Wtr) (h1:v1=((Wtr.mk ((w).b++Mp.put (((Spn.mk (Mp.unsigned ((Itv.n it))).1 (Mp.unsigned ((Itv.n it))).2)).at_,((Spn.mk (Mp.unsigned ((Itv.n it))).1 (Mp.unsigned ((Itv.n it))).2)).end_) ((Itv.n it)))))) (v2:Wtr) (h2:v2=((Wtr.mk ((w).b++Mp.put (((Spn.mk (Mp.signed ((Itv.n it))).1 (Mp.signed ((Itv.n it))).2)).at_,((Spn.mk (Mp.signed ((Itv.n it))).1 (Mp.signed ((Itv.n it))).2)).end_) ((~~~(Itv.n it))))))) (v3:Int) (h3:v3=(List.getD [(194:Int),(195:Int),(192:Int)] ((((((Itv.n it) - (20:UInt64))).toNat:Int)).toNat) (0:Int))) (v4:Wtr) (h4:v4=((Wtr.mk ((w).b++[UInt8.ofInt v3])))) (v5:Wtr) (h5:v5=((Wtr.mk ((w).b++Mp.put (((Spn.mk (203:Int) (8:Int))).at_,((Spn.mk (203:Int) (8:Int))).end_) ((Itv.n it)))))) (v6:Int) (h6:v6=(((Itv.text it)).length:Int)) (v7:Int) (h7:v7=((Mp.sized ((Itv.kind it)) v6).1)) (v8:Int) (h8:v8=((Mp.sized ((Itv.kind it)) v6).2)) (v9:Wtr) (h9:v9=((Wtr.mk ((w).b++Mp.put (((Spn.mk v7 v8)).at_,((Spn.mk v7 v8)).end_) ((UInt64.ofInt v6)))))) (v10:Wtr) (h10:v10=((Wtr.mk ((v9).b++((Itv.text it)))))) (v11:Int) (h11:v11=(((Itv.bytes it)).length:Int)) (v12:Int) (h12:v12=((Mp.sized ((Itv.kind it)) v11).1)) (v13:Int) (h13:v13=((Mp.sized ((Itv.kind it)) v11).2)) (v14:Wtr) (h14:v14=((Wtr.mk ((w).b++Mp.put (((Spn.mk v12 v13)).at_,((Spn.mk v12 v13)).end_) ((UInt64.ofInt v11)))))) (v15:Wtr) (h15:v15=((Wtr.mk ((v14).b++((Itv.bytes it)))))) (v16:Int) (h16:v16=(IntKind.i64.wrap (((Itv.n it)).toNat:Int))) (v17:Wtr) (h17:v17=((Wtr.mk ((v14).b++[UInt8.ofInt v16])))) (v18:Wtr) (h18:v18=((Wtr.mk ((v17).b++((Itv.bytes it)))))) (v19:Int) (h19:v19=(((Itv.kids it)).length:Int)) (v20:Int) (h20:v20=((Mp.sized ((Itv.kind it)) v19).1)) (v21:Int) (h21:v21=((Mp.sized ((Itv.kind it)) v19).2)) (v22:Wtr) (h22:v22=((Wtr.mk ((w).b++Mp.put (((Spn.mk v20 v21)).at_,((Spn.mk v20 v21)).end_) ((UInt64.ofInt v19)))))) (v23:Int) (h23:v23=(IntKind.i64.wrap (Int.tdiv v19 (2:Int)))) (v24:Int) (h24:v24=((Mp.sized ((Itv.kind it)) v23).1)) (v25:Int) (h25:v25=((Mp.sized ((Itv.kind it)) v23).2)) (v26:Wtr) (h26:v26=((Wtr.mk ((w).b++Mp.put (((Spn.mk v24 v25)).at_,((Spn.mk v24 v25)).end_) ((UInt64.ofInt v23)))))),cond (decide ((Itv.kind it)=(1:Int)))
  (ck (decide ((w).b.length+10≤1099511627776)) (mp_lay.j1 n it v1))
  (cond (decide ((Itv.kind it)=(2:Int)))
  (ck (decide ((w).b.length+10≤1099511627776)) (mp_lay.j1 n it v2))
  (cond (decide ((Itv.kind it)=(8:Int)))
  (ck (idxOK ((((Itv.n it) - (20:UInt64))).toNat:Int) 3) (ck (decide ((w).b.length≤1099511627776)) (mp_lay.j1 n it v4)))
  (cond (decide ((Itv.kind it)=(9:Int)))
  (ck (decide ((w).b.length+10≤1099511627776)) (mp_lay.j1 n it v5))
  (cond (decide ((Itv.kind it)=(4:Int)))
  (ck (Mp.sizeds ((Itv.kind it))&&decide (0≤v6∧v6<4294967296)) (ck (decide ((w).b.length+10≤1099511627776)) (ck (lenOK ((Itv.text it)).length) (ck (decide ((v9).b.length+(((Itv.text it))).length≤1099511627776)) (mp_lay.j1 n it v10)))))
  (cond (decide ((Itv.kind it)=(3:Int)))
  (ck (Mp.sizeds ((Itv.kind it))&&decide (0≤v11∧v11<4294967296)) (ck (decide ((w).b.length+10≤1099511627776)) (ck (decide ((v14).b.length+(((Itv.bytes it))).length≤1099511627776)) (mp_lay.j1 n it v15))))
  (cond (decide ((Itv.kind it)=(10:Int)))
  (ck (Mp.sizeds ((Itv.kind it))&&decide (0≤v11∧v11<4294967296)) (ck (decide ((w).b.length+10≤1099511627776)) (ck (decide ((v14).b.length≤1099511627776)) (ck (decide ((v17).b.length+(((Itv.bytes it))).length≤1099511627776)) (mp_lay.j1 n it v18)))))
  (cond (decide ((Itv.kind it)=(5:Int)))
  (ck (Mp.sizeds ((Itv.kind it))&&decide (0≤v19∧v19<4294967296)) (ck (decide ((w).b.length+10≤1099511627776)) (mp_lay.j1 n it v22)))
  (cond (decide ((Itv.kind it)=(6:Int)))
  (ck (!decide ((2:Int)=0)) (ck (Mp.sizeds ((Itv.kind it))&&decide (0≤v23∧v23<4294967296)) (ck (!decide ((2:Int)=0)) (ck (decide ((w).b.length+10≤1099511627776)) (mp_lay.j1 n it v26)))))
  (mp_lay.j1 n it w)))))))))=ρ):mp_lay.F n w it=ρ:=Eq.trans (by kernel_rfl) (K _ rfl _ rfl _ rfl _ rfl _ rfl _ rfl _ rfl _ rfl _ rfl _ rfl _ rfl _ rfl _ rfl _ rfl _ rfl _ rfl _ rfl _ rfl _ rfl _ rfl _ rfl _ rfl _ rfl _ rfl _ rfl _ rfl)
theorem mp_lay.chk (n:Nat):CK 65 (mp_lay.env n) mp_lay.d:=ckOf (by kernel_rfl)
def mp_Encode.env:EV:=[(15,(mp_Check.c,mp_Check.sg)),(64,(cur_Lay.c,cur_Lay.sg)),(65,(mp_lay.c,mp_lay.sg)),(66,(wr_Bytes.c,wr_Bytes.sg))]
def mp_Encode.E:TEnv:=envL trydGl mp_Encode.env
def mp_Encode.m:TM:=oS [oK (.k (.bx 1017)) [0,1017] [1,1017],oW (.sl .bs ([]:List UInt8)) 2,oW (.i .i64 0) 3] (.seq (oS [oM 1017 0 5 1 6,oC 15 1 1 [6] 7,oV 7 4] (oS [oV 4 8,oI .neq 8 (.i .i64 0) 9] (.cond (.s 9) [] (oS [oV 4 10,oW (.sl .bs ([]:List UInt8)) 2,oV 10 3] .ret) .skip))) none (oS [oK (.k (.call 64 ⟨0,none,[],[],1,[],(some (0,1018)),[(0,102,1)]⟩)) [1018,(lk 102)] [11,1018,lk 102],oV 11 5] (oS [oV 5 12,oM 1017 0 5 1 13,oK (.k (.call 65 ⟨2,(some (0,1018)),[(0,102,1)],[(0,103,1)],0,[],none,[]⟩)) [12,13,1018,(lk 102),(lk 103)] [14,1018,lk 102,lk 103]] (oS [oV 5 15,oK (.k (.call 66 ⟨1,(some (0,1018)),[(0,103,1)],[(0,104,1)],1,[],none,[]⟩)) [15,1018,(lk 103),(lk 104)] [16,1018,lk 103,lk 104],oV 16 2,oW (.i .i64 0) 3] .ret))))
def mp_Encode.d:TFD:=D0 1 mp_Encode.m [.t 2,.t 3]
def mp_Encode.F (it:Itv):OT:=mp_Encode.d.run mp_Encode.E [(.ag (Itv.cells it))]
theorem mp_Encode.F_in (it:Itv) {ρ:OT} (K:∀(v1:Wtr) (h1:v1=((Wtr.mk ((((Wtr.mk []))).b++Mp.lay (Itm.of it))))),ck (decide (Itm.bulk (Itm.of it)≤1099511627776)) (cond (!decide ((Mp.chk (Itm.of it))=(0:Int)))
  (some [(.sl .bs ([]:List UInt8)),(.i .i64 (Mp.chk (Itm.of it)))])
  (ck (decide ((((Wtr.mk []))).b.length+16 * Itm.bulk (Itm.of it)≤1099511627776)&&decide (Mp.chk (Itm.of it)=0)) (ck (decide ((v1).b.length≤1099511627776)) (some [(.sl .bs (((v1).b))),(.i .i64 0)]))))=ρ):mp_Encode.F it=ρ:=Eq.trans (by kernel_rfl) (K _ rfl)
theorem mp_Encode.chk:CK 55 mp_Encode.env mp_Encode.d:=ckOf (by kernel_rfl)
def mp_first.env:EV:=[]
def mp_first.E:TEnv:=envL trydGl mp_first.env
def mp_first.m:TM:=oS [oW (.i .i64 0) 2,oW (.u64 0) 3,oW (.i .i64 0) 4] (.seq (.block 0 [] (oS [oV 0 6,oI .lss 6 (.i .i64 128) 7,oV 7 5] (.cond (.s 5) [] (oS [oV 0 8,oK (.k (.ci .u64)) [8] [9],oW (.i .i64 1) 2,oV 9 3,oW (.i .i64 0) 4] .ret) (oS [oV 0 11,oI .lss 11 (.i .i64 144) 12,oV 12 10] (.cond (.s 10) [] (oS [oV 0 13,oI .sub 13 (.i .i64 128) 14,oK (.k (.ci .u64)) [14] [15],oW (.i .i64 6) 2,oV 15 3,oW (.i .i64 0) 4] .ret) (oS [oV 0 17,oI .lss 17 (.i .i64 160) 18,oV 18 16] (.cond (.s 16) [] (oS [oV 0 19,oI .sub 19 (.i .i64 144) 20,oK (.k (.ci .u64)) [20] [21],oW (.i .i64 5) 2,oV 21 3,oW (.i .i64 0) 4] .ret) (oS [oV 0 23,oI .lss 23 (.i .i64 192) 24,oV 24 22] (.cond (.s 22) [] (oS [oV 0 25,oI .sub 25 (.i .i64 160) 26,oK (.k (.ci .u64)) [26] [27],oW (.i .i64 4) 2,oV 27 3,oW (.i .i64 0) 4] .ret) (oS [oV 0 29,oI .geq 29 (.i .i64 224) 30,oV 30 28] (.cond (.s 28) [] (oS [oV 0 31,oX (.k (.bin .sub)) [.c (.i .i64 255),.s 31] [32],oK (.k (.ci .u64)) [32] [33],oW (.i .i64 2) 2,oV 33 3,oW (.i .i64 0) 4] .ret) (oS [oV 0 35,oI .eql 35 (.i .i64 192) 36,oV 36 34] (.cond (.s 34) [] (oS [oW (.i .i64 8) 2,oW (.u64 22) 3,oW (.i .i64 0) 4] .ret) (oS [oV 0 38,oI .eql 38 (.i .i64 194) 39,oV 39 40,oG 40 false (oV 0 41),oG 40 false (oI .eql 41 (.i .i64 195) 42),oX (.k .pick) [.s 40,.c (.b true),.s 42] [43],oV 43 37] (.cond (.s 37) [] (oS [oV 0 44,oI .sub 44 (.i .i64 194) 45,oI .add 45 (.i .i64 20) 46,oK (.k (.ci .u64)) [46] [47],oW (.i .i64 8) 2,oV 47 3,oW (.i .i64 0) 4] .ret) (oS [oV 0 49,oI .geq 49 (.i .i64 196) 50,oV 50 51,oG 51 true (oV 0 52),oG 51 true (oI .leq 52 (.i .i64 198) 53),oP 51 53 false 54,oV 54 48] (.cond (.s 48) [] (oS [oV 0 55,oI .sub 55 (.i .i64 196) 56,oX (.k (.bin .shl)) [.c (.i .i64 1),.s 56] [57],oW (.i .i64 3) 2,oW (.u64 0) 3,oV 57 4] .ret) (oS [oV 0 59,oI .geq 59 (.i .i64 199) 60,oV 60 61,oG 61 true (oV 0 62),oG 61 true (oI .leq 62 (.i .i64 201) 63),oP 61 63 false 64,oV 64 58] (.cond (.s 58) [] (oS [oV 0 65,oI .sub 65 (.i .i64 199) 66,oX (.k (.bin .shl)) [.c (.i .i64 1),.s 66] [67],oW (.i .i64 10) 2,oW (.u64 0) 3,oV 67 4] .ret) (oS [oV 0 69,oI .eql 69 (.i .i64 203) 70,oV 70 68] (.cond (.s 68) [] (oS [oW (.i .i64 9) 2,oW (.u64 0) 3,oW (.i .i64 8) 4] .ret) (oS [oV 0 72,oI .geq 72 (.i .i64 204) 73,oV 73 74,oG 74 true (oV 0 75),oG 74 true (oI .leq 75 (.i .i64 207) 76),oP 74 76 false 77,oV 77 71] (.cond (.s 71) [] (oS [oV 0 78,oI .sub 78 (.i .i64 204) 79,oX (.k (.bin .shl)) [.c (.i .i64 1),.s 79] [80],oW (.i .i64 1) 2,oW (.u64 0) 3,oV 80 4] .ret) (oS [oV 0 82,oI .geq 82 (.i .i64 208) 83,oV 83 84,oG 84 true (oV 0 85),oG 84 true (oI .leq 85 (.i .i64 211) 86),oP 84 86 false 87,oV 87 81] (.cond (.s 81) [] (oS [oV 0 88,oI .sub 88 (.i .i64 208) 89,oX (.k (.bin .shl)) [.c (.i .i64 1),.s 89] [90],oW (.i .i64 2) 2,oW (.u64 0) 3,oV 90 4] .ret) (oS [oV 0 92,oI .geq 92 (.i .i64 212) 93,oV 93 94,oG 94 true (oV 0 95),oG 94 true (oI .leq 95 (.i .i64 216) 96),oP 94 96 false 97,oV 97 91] (.cond (.s 91) [] (oS [oV 0 98,oI .sub 98 (.i .i64 212) 99,oX (.k (.bin .shl)) [.c (.u64 1),.s 99] [100],oW (.i .i64 10) 2,oV 100 3,oW (.i .i64 0) 4] .ret) (oS [oV 0 102,oI .geq 102 (.i .i64 217) 103,oV 103 104,oG 104 true (oV 0 105),oG 104 true (oI .leq 105 (.i .i64 219) 106),oP 104 106 false 107,oV 107 101] (.cond (.s 101) [] (oS [oV 0 108,oI .sub 108 (.i .i64 217) 109,oX (.k (.bin .shl)) [.c (.i .i64 1),.s 109] [110],oW (.i .i64 4) 2,oW (.u64 0) 3,oV 110 4] .ret) (oS [oV 0 112,oI .eql 112 (.i .i64 220) 113,oV 113 114,oG 114 false (oV 0 115),oG 114 false (oI .eql 115 (.i .i64 221) 116),oX (.k .pick) [.s 114,.c (.b true),.s 116] [117],oV 117 111] (.cond (.s 111) [] (oS [oV 0 118,oI .sub 118 (.i .i64 220) 119,oX (.k (.bin .shl)) [.c (.i .i64 2),.s 119] [120],oW (.i .i64 5) 2,oW (.u64 0) 3,oV 120 4] .ret) (oS [oV 0 122,oI .eql 122 (.i .i64 222) 123,oV 123 124,oG 124 false (oV 0 125),oG 124 false (oI .eql 125 (.i .i64 223) 126),oX (.k .pick) [.s 124,.c (.b true),.s 126] [127],oV 127 121] (.cond (.s 121) [] (oS [oV 0 128,oI .sub 128 (.i .i64 222) 129,oX (.k (.bin .shl)) [.c (.i .i64 2),.s 129] [130],oW (.i .i64 6) 2,oW (.u64 0) 3,oV 130 4] .ret) .skip))))))))))))))))))))))))))))))))) none (oS [oW (.i .i64 0) 2,oW (.u64 0) 3,oW (.i .i64 0) 4] .ret))
def mp_first.d:TFD:=D0 1 mp_first.m [.t 2,.t 3,.t 4]
def mp_first.F (c:Int):OT:=mp_first.d.run mp_first.E [(.i .i64 c)]
theorem mp_first.F_in (c:Int) {ρ:OT} (K:∀(v1:Int) (h1:v1=(IntKind.i64.wrap (c - (128:Int)))) (v2:Int) (h2:v2=(IntKind.i64.wrap (c - (144:Int)))) (v3:Int) (h3:v3=(IntKind.i64.wrap (c - (160:Int)))) (v4:Int) (h4:v4=(IntKind.i64.wrap ((255:Int) - c))) (v5:Bool) (h5:v5=(cond (decide (c=(194:Int))) true (decide (c=(195:Int))))) (v6:Int) (h6:v6=(IntKind.i64.wrap (c - (194:Int)))) (v7:Int) (h7:v7=(IntKind.i64.wrap (v6+(20:Int)))) (v8:Bool) (h8:v8=(cond (decide ((196:Int)≤c)) (decide (c≤(198:Int))) false)) (v9:Int) (h9:v9=(IntKind.i64.wrap (c - (196:Int)))) (v10:Int) (h10:v10=(IntKind.i64.wrap ((1:Int) * 2 ^ (min ((v9).toNat) (IntKind.i64.bits))))) (v11:Bool) (h11:v11=(cond (decide ((199:Int)≤c)) (decide (c≤(201:Int))) false)) (v12:Int) (h12:v12=(IntKind.i64.wrap (c - (199:Int)))) (v13:Int) (h13:v13=(IntKind.i64.wrap ((1:Int) * 2 ^ (min ((v12).toNat) (IntKind.i64.bits))))) (v14:Bool) (h14:v14=(cond (decide ((204:Int)≤c)) (decide (c≤(207:Int))) false)) (v15:Int) (h15:v15=(IntKind.i64.wrap (c - (204:Int)))) (v16:Int) (h16:v16=(IntKind.i64.wrap ((1:Int) * 2 ^ (min ((v15).toNat) (IntKind.i64.bits))))) (v17:Bool) (h17:v17=(cond (decide ((208:Int)≤c)) (decide (c≤(211:Int))) false)) (v18:Int) (h18:v18=(IntKind.i64.wrap (c - (208:Int)))) (v19:Int) (h19:v19=(IntKind.i64.wrap ((1:Int) * 2 ^ (min ((v18).toNat) (IntKind.i64.bits))))) (v20:Bool) (h20:v20=(cond (decide ((212:Int)≤c)) (decide (c≤(216:Int))) false)) (v21:Int) (h21:v21=(IntKind.i64.wrap (c - (212:Int)))) (v22:UInt64) (h22:v22=(shl64 (1:UInt64) ((v21).toNat))) (v23:Bool) (h23:v23=(cond (decide ((217:Int)≤c)) (decide (c≤(219:Int))) false)) (v24:Int) (h24:v24=(IntKind.i64.wrap (c - (217:Int)))) (v25:Int) (h25:v25=(IntKind.i64.wrap ((1:Int) * 2 ^ (min ((v24).toNat) (IntKind.i64.bits))))) (v26:Bool) (h26:v26=(cond (decide (c=(220:Int))) true (decide (c=(221:Int))))) (v27:Int) (h27:v27=(IntKind.i64.wrap (c - (220:Int)))) (v28:Int) (h28:v28=(IntKind.i64.wrap ((2:Int) * 2 ^ (min ((v27).toNat) (IntKind.i64.bits))))) (v29:Bool) (h29:v29=(cond (decide (c=(222:Int))) true (decide (c=(223:Int))))) (v30:Int) (h30:v30=(IntKind.i64.wrap (c - (222:Int)))) (v31:Int) (h31:v31=(IntKind.i64.wrap ((2:Int) * 2 ^ (min ((v30).toNat) (IntKind.i64.bits))))),cond (decide (c<(128:Int)))
  (some [(.i .i64 1),(.u64 (UInt64.ofInt c)),(.i .i64 0)])
  (cond (decide (c<(144:Int)))
  (some [(.i .i64 6),(.u64 (UInt64.ofInt v1)),(.i .i64 0)])
  (cond (decide (c<(160:Int)))
  (some [(.i .i64 5),(.u64 (UInt64.ofInt v2)),(.i .i64 0)])
  (cond (decide (c<(192:Int)))
  (some [(.i .i64 4),(.u64 (UInt64.ofInt v3)),(.i .i64 0)])
  (cond (decide ((224:Int)≤c))
  (some [(.i .i64 2),(.u64 (UInt64.ofInt v4)),(.i .i64 0)])
  (cond (decide (c=(192:Int)))
  (some [(.i .i64 8),(.u64 22),(.i .i64 0)])
  (ck (!(!(decide (c=(194:Int)))) || (!(decide (c=(194:Int))))) (ck ((decide (c=(194:Int))) || (!(decide (c=(194:Int))))) (cond v5
  (some [(.i .i64 8),(.u64 (UInt64.ofInt v7)),(.i .i64 0)])
  (ck (!(decide ((196:Int)≤c)) || (decide ((196:Int)≤c))) (ck (!(decide ((196:Int)≤c)) || (decide ((196:Int)≤c))) (cond v8
  (ck (decide (0≤v9)) (some [(.i .i64 3),(.u64 0),(.i .i64 v10)]))
  (ck (!(decide ((199:Int)≤c)) || (decide ((199:Int)≤c))) (ck (!(decide ((199:Int)≤c)) || (decide ((199:Int)≤c))) (cond v11
  (ck (decide (0≤v12)) (some [(.i .i64 10),(.u64 0),(.i .i64 v13)]))
  (cond (decide (c=(203:Int)))
  (some [(.i .i64 9),(.u64 0),(.i .i64 8)])
  (ck (!(decide ((204:Int)≤c)) || (decide ((204:Int)≤c))) (ck (!(decide ((204:Int)≤c)) || (decide ((204:Int)≤c))) (cond v14
  (ck (decide (0≤v15)) (some [(.i .i64 1),(.u64 0),(.i .i64 v16)]))
  (ck (!(decide ((208:Int)≤c)) || (decide ((208:Int)≤c))) (ck (!(decide ((208:Int)≤c)) || (decide ((208:Int)≤c))) (cond v17
  (ck (decide (0≤v18)) (some [(.i .i64 2),(.u64 0),(.i .i64 v19)]))
  (ck (!(decide ((212:Int)≤c)) || (decide ((212:Int)≤c))) (ck (!(decide ((212:Int)≤c)) || (decide ((212:Int)≤c))) (cond v20
  (ck (decide (0≤v21)) (some [(.i .i64 10),(.u64 v22),(.i .i64 0)]))
  (ck (!(decide ((217:Int)≤c)) || (decide ((217:Int)≤c))) (ck (!(decide ((217:Int)≤c)) || (decide ((217:Int)≤c))) (cond v23
  (ck (decide (0≤v24)) (some [(.i .i64 4),(.u64 0),(.i .i64 v25)]))
  (ck (!(!(decide (c=(220:Int)))) || (!(decide (c=(220:Int))))) (ck ((decide (c=(220:Int))) || (!(decide (c=(220:Int))))) (cond v26
  (ck (decide (0≤v27)) (some [(.i .i64 5),(.u64 0),(.i .i64 v28)]))
  (ck (!(!(decide (c=(222:Int)))) || (!(decide (c=(222:Int))))) (ck ((decide (c=(222:Int))) || (!(decide (c=(222:Int))))) (cond v29
  (ck (decide (0≤v30)) (some [(.i .i64 6),(.u64 0),(.i .i64 v31)]))
  (some [(.i .i64 0),(.u64 0),(.i .i64 0)]))))))))))))))))))))))))))))))))))=ρ):mp_first.F c=ρ:=Eq.trans (by kernel_rfl) (K _ rfl _ rfl _ rfl _ rfl _ rfl _ rfl _ rfl _ rfl _ rfl _ rfl _ rfl _ rfl _ rfl _ rfl _ rfl _ rfl _ rfl _ rfl _ rfl _ rfl _ rfl _ rfl _ rfl _ rfl _ rfl _ rfl _ rfl _ rfl _ rfl _ rfl _ rfl)
theorem mp_first.chk:CK 90 mp_first.env mp_first.d:=ckOf (by kernel_rfl)
def mp_number.env:EV:=[(73,(mp_wrong.c,mp_wrong.sg))]
def mp_number.E:TEnv:=envL trydGl mp_number.env
def mp_number.m:TM:=oS [oK (.k (.bx 1020)) [0,1020] [4,1020],oK (.k (.bx 1021)) [3,1021] [7,1021],oN 1022 zI 8,oN 1023 zT 9] (.seq (oS [oA 1021 0 0 7 10,oL 1021 0 1 10 11,oV 2 12,oB .neq 11 12 13] (.cond (.s 13) [] (oS [oV 1 14,oX (.k (.call 73 (.plain 2 2))) [.c (.i .i64 3),.s 14] [15],oE 0 15 16,oE 1 15 17,oT 1022 0 5 8 16,oT 1023 0 3 9 17] .ret) .skip)) none (oS [oM 1020 0 5 4 18,oK (.bd zT []) [] [19],oT 1022 0 5 8 18,oT 1023 0 3 9 19] .ret))
def mp_number.d:TFD:=D0 4 mp_number.m [.c 8 1022 5 true,.c 9 1023 3 true]
def mp_number.F (it:Itv) (p:Int) (c:Int) (f:Spn):OT:=mp_number.d.run mp_number.E [(.ag (Itv.cells it)),(.i .i64 p),(.i .i64 c),(.ag (Spn.cells f))]
theorem mp_number.F_eq (it:Itv) (p:Int) (c:Int) (f:Spn):mp_number.F it p c f=cond (!decide ((Spn.at_ f)=c))
  (some [(.ag (Itv.cells (Itm.val (Mp.zero)))),(.ag (Flt.cells ((Flt.mk ((3:Int)) p []))))])
  (some [(.ag (Itv.cells it)),(.ag [(.i .i64 0),(.i .i64 0),(.sl .is ([]:List Int))])]):=by kernel_rfl
theorem mp_number.chk:CK 92 mp_number.env mp_number.d:=ckOf (by kernel_rfl)
def mp_row.env:EV:=[(25,(utf_Check.c,utf_Check.sg)),(73,(mp_wrong.c,mp_wrong.sg)),(99,(rd_Take.c,rd_Take.sg))]
def mp_row.E:TEnv:=envL trydGl mp_row.env
def mp_row.m:TM:=oS [oK (.k (.bx 1049)) [1,1049] [5,1049],oN 1050 zI 8,oN 1051 zT 9] (oS [oV 0 15,oV 3 16,oK (.k (.call 99 ⟨2,(some (0,999999)),[],[],2,[],none,[]⟩)) [15,16,999999] [17,999999],oV 17 14,oE 0 14 18,oE 1 14 19,oV 18 10,oV 19 11] (.seq (oS [oV 11 20,oK (.k (.un .not)) [20] [21]] (.cond (.s 21) [] (oS [oV 2 22,oX (.k (.call 73 (.plain 2 2))) [.c (.i .i64 2),.s 22] [23],oE 0 23 24,oE 1 23 25,oT 1050 0 5 8 24,oT 1051 0 3 9 25] .ret) .skip)) none (.seq (oS [oA 1049 0 0 5 26,oL 1049 0 1 26 27,oI .neq 27 (.i .i64 4) 28] (.cond (.s 28) [] (oS [oV 10 29,oA 1049 0 2 5 30,oT 1049 2 1 30 29] (oS [oM 1049 0 5 5 31,oK (.bd zT []) [] [32],oT 1050 0 5 8 31,oT 1051 0 3 9 32] .ret)) .skip)) none (.seq (oS [oV 10 34,oC 25 1 2 [34] 35,oV 35 33,oE 0 33 36,oE 1 33 37,oV 36 12,oV 37 13] (oS [oV 13 38,oK (.k (.un .not)) [38] [39]] (.cond (.s 39) [] (oS [oV 2 40,oX (.k (.call 73 (.plain 2 2))) [.c (.i .i64 4),.s 40] [41],oE 0 41 42,oE 1 41 43,oT 1050 0 5 8 42,oT 1051 0 3 9 43] .ret) .skip))) none (oS [oV 10 44,oK (.k .bs) [44] [45],oA 1049 0 3 5 46,oT 1049 3 1 46 45] (oS [oM 1049 0 5 5 47,oK (.bd zT []) [] [48],oT 1050 0 5 8 47,oT 1051 0 3 9 48] .ret))))))
def mp_row.d:TFD:={ np:=4,m:=mp_row.m,ref:=some (0,999999),tips:=[],res:=[.c 8 1050 5 true,.c 9 1051 3 true],own:=[],new:=none,tnew:=[] }
def mp_row.F (r:Rdr) (it:Itv) (p:Int) (n:Int):OT:=mp_row.d.run mp_row.E [(.ag (Rdr.cells r)),(.ag (Itv.cells it)),(.i .i64 p),(.i .i64 n)]
theorem mp_row.F_in (r:Rdr) (it:Itv) (p:Int) (n:Int) {ρ:OT} (K:∀(v1:Int) (h1:v1=(((Utf.look ((Cur.nx r n (Cur.okT r n)))).1:Int))) (v2:Bool) (h2:v2=(Utf.whole ((Cur.nx r n (Cur.okT r n))))),ck (Cur.good r) (cond (!(Cur.okT r n))
  (some [(.ag (Itv.cells (Itm.val (Mp.zero)))),(.ag (Flt.cells ((Flt.mk ((2:Int)) p [])))),(.ag (Rdr.cells (Cur.adv r n (Cur.okT r n))))])
  (cond (!decide ((Itv.kind it)=(4:Int)))
  (some [(.ag [(.i .i64 (Itv.kind it)),(.u64 (Itv.n it)),(.sl .bs (Cur.nx r n (Cur.okT r n))),(.s (Itv.text it)),(.sl .il (Itv.kids it))]),(.ag [(.i .i64 0),(.i .i64 0),(.sl .is ([]:List Int))]),(.ag (Rdr.cells (Cur.adv r n (Cur.okT r n))))])
  (ck (decide (((Cur.nx r n (Cur.okT r n))).length≤1099511627776)) (cond (!v2)
  (some [(.ag (Itv.cells (Itm.val (Mp.zero)))),(.ag (Flt.cells ((Flt.mk ((4:Int)) p [])))),(.ag (Rdr.cells (Cur.adv r n (Cur.okT r n))))])
  (some [(.ag [(.i .i64 (Itv.kind it)),(.u64 (Itv.n it)),(.sl .bs (Itv.bytes it)),(.s (Cur.nx r n (Cur.okT r n))),(.sl .il (Itv.kids it))]),(.ag [(.i .i64 0),(.i .i64 0),(.sl .is ([]:List Int))]),(.ag (Rdr.cells (Cur.adv r n (Cur.okT r n))))])))))=ρ):mp_row.F r it p n=ρ:=Eq.trans (by kernel_rfl) (K _ rfl _ rfl)
theorem mp_row.chk:CK 94 mp_row.env mp_row.d:=ckOf (by kernel_rfl)
def mp_kids.env (n:Nat):EV:=[(75,(mp_read.cn n,mp_read.sg))]
def mp_kids.E (n:Nat):TEnv:=envL trydGl (mp_kids.env n)
def mp_kids.m1:TM:=oS [oB .lss 18 17 19] (.seq (.cond (.s 19) [] .skip (.exit 0)) none (.seq (.block 1 [(0,.ptr 999999 0),(5,.ptr 1041 0),(8,.ptr 1042 0),(9,.ptr 1043 0),(1041,.cl [(4,111,5)]),(1042,.cl []),(1043,.cl []),(999999,.cl []),(lk 111,.live 5)] (oS [oV 0 21,oV 3 22,oI .sub 22 (.i .i64 1) 23,oK (.k (.call 75 ⟨2,(some (0,999999)),[],[],2,[],none,[]⟩)) [21,23,999999] [24,999999],oV 24 20,oE 0 20 25,oE 1 20 26,oN 1044 zI 10,oN 1045 zT 11,oT 1044 0 5 10 25,oT 1045 0 3 11 26] (.seq (oS [oA 1045 0 0 11 27,oL 1045 0 1 27 28,oI .neq 28 (.i .i64 0) 29] (.cond (.s 29) [] (oS [oK (.bd zI []) [] [30],oM 1045 0 3 11 31,oT 1042 0 5 8 30,oT 1043 0 3 9 31] .ret) .skip)) none (.reg [oA 1041 0 4 5 32,oL 1041 4 1 32 33,oM 1044 0 5 10 34,oK (.bl .il 1) [34] [35],oK (.k (.ap 101 111 5 80)) [33,35,(lk 101),(lk 111)] [36,lk 101,lk 111],oA 1041 0 4 5 37,oT 1041 4 1 37 36])))) none (.reg [oI .add 18 (.i .i64 1) 38,oV 38 18])))
def mp_kids.m2:TM := .seq (oS [oV 2 17,oW (.i .i64 0) 18] (.block 0 [(5,.ptr 1041 0),(8,.ptr 1042 0),(9,.ptr 1043 0),(1041,.cl [(4,101,5)]),(1042,.cl []),(1043,.cl []),(999999,.cl []),(lk 101,.live 5)] (.loop [0,3,5,8,9,17,18,1041,1042,1043,999999] [(0,.ptr 999999 0),(5,.ptr 1041 0),(8,.ptr 1042 0),(9,.ptr 1043 0),(1041,.cl [(4,101,5)]),(1042,.cl []),(1043,.cl []),(999999,.cl []),(lk 101,.live 5)] mp_kids.m1))) none (oS [oM 1041 0 5 5 39,oK (.bd zT []) [] [40],oK (.stt 1042 0 5 [(2,112,.bs)]) [8,1042,39,(lk 112)] [1042,lk 112],oT 1043 0 3 9 40] .ret)
def mp_kids.m:TM:=oS [oK (.bxt 1041 [(4,101,.il)]) [1,1041,(lk 101)] [5,1041,lk 101],oN 1042 zI 8,oN 1043 zT 9] (.seq (oS [oA 1041 0 0 5 12,oL 1041 0 1 12 13,oI .eql 13 (.i .i64 6) 14] (.cond (.s 14) [(0,.ptr 999999 0),(5,.ptr 1041 0),(8,.ptr 1042 0),(9,.ptr 1043 0),(1041,.cl [(4,101,5)]),(1042,.cl []),(1043,.cl []),(999999,.cl []),(lk 101,.live 5)] (.reg [oV 2 15,oI .mul 15 (.i .i64 2) 16,oV 16 2]) .skip)) (some [0,2,3,5,8,9,1041,1042,1043,999999]) mp_kids.m2)
def mp_kids.d:TFD:={ np:=4,m:=mp_kids.m,ref:=some (0,999999),tips:=[],res:=[.c 8 1042 5 true,.c 9 1043 3 true],own:=[],new:=none,tnew:=[] }
def mp_kids.F (n:Nat) (r:Rdr) (it:Itv) (m:Int) (depth:Int):OT:=mp_kids.d.run (mp_kids.E n) [(.ag (Rdr.cells r)),(.ag [(.i .i64 (Itv.kind it)),(.u64 (Itv.n it)),(.c (.slice none 0 0)),(.s (Itv.text it)),(.c (.slice none 0 0))]),(.i .i64 m),(.i .i64 depth)]
def mp_kids.k1 (n:Nat):Cont (List TV):=seqK (ev _ (mp_kids.E n) (oS [oM 1041 0 5 5 39,oK (.bd [(.i .i64 0),(.i .i64 0),(.sl .is ([]:List Int))] []) [] [40],oK (.stt 1042 0 5 [(2,112,.bs)]) [8,1042,39,(lk 112)] [1042,lk 112],oT 1043 0 3 9 40] .ret)) none (endK mp_kids.d)
def mp_kids.j1 (n:Nat) (x0:Int) (x1:Int) (x2:Int) (x3:UInt64) (x4:Str) (x5:List Itm) (x6:Itv) (x7:Flt) (x8:Rdr):OT:=evO _ (mp_kids.E n) mp_kids.m2 (headT [0,2,3,5,8,9,1041,1042,1043,999999] [.pt,(.i .i64 x0),(.i .i64 x1),.pt,.pt,.pt,(.ag [(.i .i64 x2),(.u64 x3),(.c (.slice none 0 0)),(.s x4),(.sl .il x5)]),(.ag (Itv.cells x6)),(.ag (Flt.cells x7)),(.ag (Rdr.cells x8))]) (endK mp_kids.d)
def mp_kids.l2 (n:Nat) (x0:Int) (x1:Int) (x2:Int) (x3:Int) (x4:UInt64) (x5:Str) (x6:List Itm) (x7:Itv) (x8:Flt) (x9:Rdr):OT:=loopL (evO _ (mp_kids.E n) mp_kids.m1) isN [0,3,5,8,9,17,18,1041,1042,1043,999999] (headT [0,3,5,8,9,17,18,1041,1042,1043,999999] [.pt,(.i .i64 x0),.pt,.pt,.pt,(.i .i64 x1),(.i .i64 x2),(.ag [(.i .i64 x3),(.u64 x4),(.c (.slice none 0 0)),(.s x5),(.sl .il x6)]),(.ag (Itv.cells x7)),(.ag (Flt.cells x8)),(.ag (Rdr.cells x9))]) (blockK 0 (mp_kids.k1 n))
theorem mp_kids.j1_eq (n:Nat) (x0:Int) (x1:Int) (x2:Int) (x3:UInt64) (x4:Str) (x5:List Itm) (x6:Itv) (x7:Flt) (x8:Rdr):mp_kids.j1 n x0 x1 x2 x3 x4 x5 x6 x7 x8=mp_kids.l2 n x1 x0 (0:Int) x2 x3 x4 x5 x6 x7 x8:=((congrFun (congrFun (ev_eq _ _) _) _).trans (by kernel_rfl))
theorem mp_kids.l2_in (n:Nat) (x0:Int) (x1:Int) (x2:Int) (x3:Int) (x4:UInt64) (x5:Str) (x6:List Itm) (x7:Itv) (x8:Flt) (x9:Rdr) {ρ:OT} (K:∀(v1:Int) (h1:v1=(IntKind.i64.wrap (x0 - (1:Int)))) (v2:Flt) (h2:v2=((Flt.mk (Mp.read (x9).b (v1).toNat (x9).at_).err (Mp.read (x9).b (v1).toNat (x9).at_).at_ []))) (v3:Rdr) (h3:v3=((Rdr.mk (x9).b (Mp.read (x9).b (v1).toNat (x9).at_).pos))) (v4:List Itm) (h4:v4=([(Itm.of (Itm.val ((Mp.read (x9).b (v1).toNat (x9).at_).it)))]:List Itm)) (v5:Int) (h5:v5=(IntKind.i64.wrap (x2+(1:Int)))),cond (decide (x2<x1))
  (ck ((Cur.good x9&&decide (0≤v1∧v1≤1000))&&decide ((2 * (v1).toNat+1)<n)) (cond (!decide ((Flt.err v2)=(0:Int)))
  (some [(.ag [(.i .i64 0),(.u64 0),(.sl .bs ([]:List UInt8)),(.s []),(.sl .il ([]:List Itm))]),(.ag (Flt.cells v2)),(.ag (Rdr.cells v3))])
  (ck (apOK ((x6).length+(v4).length) 80) (mp_kids.l2 n x0 x1 v5 x3 x4 x5 (x6++v4) x7 x8 v3))))
  (some [(.ag [(.i .i64 x3),(.u64 x4),(.sl .bs ([]:List UInt8)),(.s x5),(.sl .il x6)]),(.ag [(.i .i64 0),(.i .i64 0),(.sl .is ([]:List Int))]),(.ag (Rdr.cells x9))])=ρ):mp_kids.l2 n x0 x1 x2 x3 x4 x5 x6 x7 x8 x9=ρ:=((ev_loop _ _ _ _ _ _).trans (by kernel_rfl)).trans (K _ rfl _ rfl _ rfl _ rfl _ rfl)
theorem mp_kids.F_in (n:Nat) (r:Rdr) (it:Itv) (m:Int) (depth:Int) {ρ:OT} (K:∀(v1:Int) (h1:v1=(IntKind.i64.wrap (m * (2:Int)))),cond (decide ((Itv.kind it)=(6:Int)))
  (mp_kids.j1 n v1 depth (Itv.kind it) (Itv.n it) (Itv.text it) ([]:List Itm) (Itv.mk 0 0 [] [] []) (Flt.mk 0 0 []) r)
  (mp_kids.j1 n m depth (Itv.kind it) (Itv.n it) (Itv.text it) ([]:List Itm) (Itv.mk 0 0 [] [] []) (Flt.mk 0 0 []) r)=ρ):mp_kids.F n r it m depth=ρ:=Eq.trans (by kernel_rfl) (K _ rfl)
theorem mp_kids.chk (n:Nat):CK 93 (mp_kids.env n) mp_kids.d:=ckOf (by kernel_rfl)
def mp_read.env (n:Nat):EV:=[(73,(mp_wrong.c,mp_wrong.sg)),(77,(rd_At.c,rd_At.sg)),(79,(mp_unsigned.c,mp_unsigned.sg)),(80,(mp_signed.c,mp_signed.sg)),(82,(mp_sized.c,mp_sized.sg)),(89,(rd_Byte.c,rd_Byte.sg)),(90,(mp_first.c,mp_first.sg)),(91,(rd_High.c,rd_High.sg)),(92,(mp_number.cw,mp_number.sg)),(93,(mp_kids.cn n,mp_kids.sg)),(94,(mp_row.cw,mp_row.sg))]
def mp_read.E (n:Nat):TEnv:=envL trydGl (mp_read.env n)
def mp_read.m1:TM := .seq (oS [oV 10 114,oI .geq 114 (.u64 9223372036854775808) 115] (.cond (.s 115) [] (oS [oV 6 116,oX (.k (.call 73 (.plain 2 2))) [.c (.i .i64 3),.s 116] [117],oE 0 117 118,oE 1 117 119,oT 1168 0 5 4 118,oT 1169 0 3 5 119] .ret) .skip)) none (oS [oV 10 120,oA 1170 0 1 12 121,oT 1170 1 1 121 120] (oS [oM 1170 0 5 12 122,oV 6 123,oV 7 124,oV 10 125,oC 80 1 1 [125] 126,oC 92 4 2 [122,123,124,126] 127,oE 0 127 128,oE 1 127 129,oT 1168 0 5 4 128,oT 1169 0 3 5 129] .ret))
def mp_read.m2:TM := .cond (.s 79) [] (oS [oV 10 82,oA 1170 0 1 12 83,oT 1170 1 1 83 82] (oS [oM 1170 0 5 12 84,oK (.bd zT []) [] [85],oK (.stt 1168 0 5 [(2,107,.bs),(4,108,.il)]) [4,1168,84,(lk 107),(lk 108)] [1168,lk 107,lk 108],oT 1169 0 3 5 85] .ret)) (oS [oI .eql 78 (.i .i64 1) 87,oV 87 86] (.cond (.s 86) [] (oS [oV 10 88,oA 1170 0 1 12 89,oT 1170 1 1 89 88] (oS [oM 1170 0 5 12 90,oV 6 91,oV 7 92,oV 10 93,oC 79 1 1 [93] 94,oC 92 4 2 [90,91,92,94] 95,oE 0 95 96,oE 1 95 97,oT 1168 0 5 4 96,oT 1169 0 3 5 97] .ret)) (oS [oI .eql 78 (.i .i64 2) 99,oV 99 98] (.cond (.s 98) [] (.seq (oS [oV 11 100,oI .gtr 100 (.i .i64 0) 101] (.cond (.s 101) [(4,.ptr 1168 0),(5,.ptr 1169 0),(12,.ptr 1170 0),(1168,.cl []),(1169,.cl []),(1170,.cl []),(999999,.cl [])] (.reg [oV 10 102,oV 11 103,oX (.k (.bin .mul)) [.c (.i .i64 8),.s 103] [104],oX (.k (.bin .sub)) [.c (.i .i64 64),.s 104] [105],oB .shl 102 105 106,oK (.k (.ci .i64)) [106] [107],oV 11 108,oX (.k (.bin .mul)) [.c (.i .i64 8),.s 108] [109],oX (.k (.bin .sub)) [.c (.i .i64 64),.s 109] [110],oB .shr 107 110 111,oK (.k (.ci .u64)) [111] [112],oK (.k (.un .xor)) [112] [113],oV 113 10]) .skip)) (some [4,5,6,7,10,12,1168,1169,1170,999999]) mp_read.m1) .skip))))
def mp_read.m3:TM := .seq (oS [oV 9 78] (.block 0 [(0,.ptr 999999 0),(4,.ptr 1168 0),(5,.ptr 1169 0),(12,.ptr 1170 0),(1168,.cl []),(1169,.cl []),(1170,.cl []),(999999,.cl [])] (.seq (oS [oI .eql 78 (.i .i64 8) 80,oV 80 79] (.cond (.s 79) [(0,.ptr 999999 0),(4,.ptr 1168 0),(5,.ptr 1169 0),(12,.ptr 1170 0),(1168,.cl []),(1169,.cl []),(1170,.cl []),(999999,.cl [])] .skip (.reg [oI .eql 78 (.i .i64 9) 81,oV 81 79]))) (some [0,1,4,5,6,7,9,10,11,12,78,79,1168,1169,1170,999999]) mp_read.m2))) none (.seq (oS [oV 9 130,oV 10 131,oK (.k (.ci .i64)) [131] [132],oC 82 2 1 [130,132] 133,oK (.k (.fe 0 1 false)) [133] [134],oV 7 135,oB .neq 134 135 136,oV 136 137,oG 137 false (oA 1170 0 1 12 138),oG 137 false (oL 1170 1 1 138 139),oG 137 false (oI .gtr 139 (.u64 127) 140),oX (.k .pick) [.s 137,.c (.b true),.s 140] [141]] (.cond (.s 141) [] (oS [oV 6 142,oX (.k (.call 73 (.plain 2 2))) [.c (.i .i64 3),.s 142] [143],oE 0 143 144,oE 1 143 145,oT 1168 0 5 4 144,oT 1169 0 3 5 145] .ret) .skip)) none (.seq (oS [oV 9 146,oI .eql 146 (.i .i64 5) 147,oV 147 148,oG 148 false (oV 9 149),oG 148 false (oI .eql 149 (.i .i64 6) 150),oX (.k .pick) [.s 148,.c (.b true),.s 150] [151]] (.cond (.s 151) [] (oS [oV 0 152,oM 1170 0 5 12 153,oV 10 154,oK (.k (.ci .i64)) [154] [155],oV 1 156,oK (.k (.call 93 ⟨4,(some (0,999999)),[],[],2,[],none,[]⟩)) [152,153,155,156,999999] [157,999999],oE 0 157 158,oE 1 157 159,oT 1168 0 5 4 158,oT 1169 0 3 5 159] .ret) .skip)) none (oS [oV 0 160,oM 1170 0 5 12 161,oV 6 162,oV 10 163,oK (.k (.ci .i64)) [163] [164],oK (.k (.call 94 ⟨4,(some (0,999999)),[],[],2,[],none,[]⟩)) [160,161,162,164,999999] [165,999999],oE 0 165 166,oE 1 165 167,oT 1168 0 5 4 166,oT 1169 0 3 5 167] .ret)))
def mp_read.m4:TM:=oS [oV 9 60,oK (.bd [(.i .i64 0),(.u64 0),(.c (.slice none 0 0)),(.s []),(.c (.slice none 0 0))] [(0,1)]) [60] [61],oN 1170 zI 12,oT 1170 0 5 12 61] (.seq (oS [oV 9 62,oI .eql 62 (.i .i64 10) 63] (.cond (.s 63) [(0,.ptr 999999 0),(4,.ptr 1168 0),(5,.ptr 1169 0),(12,.ptr 1170 0),(1168,.cl []),(1169,.cl []),(1170,.cl []),(999999,.cl [])] (oS [oV 0 65,oK (.k (.call 89 ⟨1,(some (0,999999)),[],[],2,[],none,[]⟩)) [65,999999] [66,999999],oV 66 64,oE 0 64 67,oE 1 64 68,oV 67 13,oV 68 14] (.seq (oS [oV 14 69,oK (.k (.un .not)) [69] [70]] (.cond (.s 70) [] (oS [oV 6 71,oX (.k (.call 73 (.plain 2 2))) [.c (.i .i64 2),.s 71] [72],oE 0 72 73,oE 1 72 74,oT 1168 0 5 4 73,oT 1169 0 3 5 74] .ret) .skip)) none (.reg [oV 13 75,oK (.k (.ci .u64)) [75] [76],oA 1170 0 1 12 77,oT 1170 1 1 77 76]))) .skip)) (some [0,1,4,5,6,7,9,10,11,12,1168,1169,1170,999999]) mp_read.m3)
def mp_read.m:TM:=oS [oN 1168 zI 4,oN 1169 zT 5] (oS [oV 0 15,oK (.k (.rcall 77 1 1 0 999999)) [15,999999] [16],oV 16 6] (.seq (oS [oV 1 17,oI .eql 17 (.i .i64 0) 18] (.cond (.s 18) [] (oS [oV 6 19,oX (.k (.call 73 (.plain 2 2))) [.c (.i .i64 8),.s 19] [20],oE 0 20 21,oE 1 20 22,oT 1168 0 5 4 21,oT 1169 0 3 5 22] .ret) .skip)) none (oS [oV 0 24,oK (.k (.call 89 ⟨1,(some (0,999999)),[],[],2,[],none,[]⟩)) [24,999999] [25,999999],oV 25 23,oE 0 23 26,oE 1 23 27,oV 26 7,oV 27 8] (.seq (oS [oV 8 28,oK (.k (.un .not)) [28] [29]] (.cond (.s 29) [] (oS [oV 6 30,oX (.k (.call 73 (.plain 2 2))) [.c (.i .i64 2),.s 30] [31],oE 0 31 32,oE 1 31 33,oT 1168 0 5 4 32,oT 1169 0 3 5 33] .ret) .skip)) none (oS [oV 7 35,oC 90 1 3 [35] 36,oV 36 34,oE 0 34 37,oE 1 34 38,oE 2 34 39,oV 37 9,oV 38 10,oV 39 11] (.seq (oS [oV 9 40,oI .eql 40 (.i .i64 0) 41] (.cond (.s 41) [] (oS [oV 6 42,oX (.k (.call 73 (.plain 2 2))) [.c (.i .i64 3),.s 42] [43],oE 0 43 44,oE 1 43 45,oT 1168 0 5 4 44,oT 1169 0 3 5 45] .ret) .skip)) none (.seq (oS [oV 11 46,oI .gtr 46 (.i .i64 0) 47] (.cond (.s 47) [(0,.ptr 999999 0),(4,.ptr 1168 0),(5,.ptr 1169 0),(1168,.cl []),(1169,.cl []),(999999,.cl [])] (oS [oV 0 49,oV 11 50,oK (.k (.call 91 ⟨2,(some (0,999999)),[],[],2,[],none,[]⟩)) [49,50,999999] [51,999999],oV 51 48,oE 0 48 52,oE 1 48 53,oV 52 10,oV 53 8] (oS [oV 8 54,oK (.k (.un .not)) [54] [55]] (.cond (.s 55) [] (oS [oV 6 56,oX (.k (.call 73 (.plain 2 2))) [.c (.i .i64 2),.s 56] [57],oE 0 57 58,oE 1 57 59,oT 1168 0 5 4 58,oT 1169 0 3 5 59] .ret) .skip))) .skip)) (some [0,1,4,5,6,7,9,10,11,1168,1169,999999]) mp_read.m4)))))))
def mp_read.d:TFD:={ np:=2,m:=mp_read.m,ref:=some (0,999999),tips:=[],res:=[.c 4 1168 5 true,.c 5 1169 3 true],own:=[],new:=none,tnew:=[] }
def mp_read.F (n:Nat) (r:Rdr) (depth:Int):OT:=mp_read.d.run (mp_read.E n) [(.ag (Rdr.cells r)),(.i .i64 depth)]
def mp_read.k1 (n:Nat):Cont (List TV):=seqK (ev _ (mp_read.E n) (.seq (oS [oV 9 130,oV 10 131,oK (.k (.ci .i64)) [131] [132],oC 82 2 1 [130,132] 133,oK (.k (.fe 0 1 false)) [133] [134],oV 7 135,oB .neq 134 135 136,oV 136 137,oG 137 false (oA 1170 0 1 12 138),oG 137 false (oL 1170 1 1 138 139),oG 137 false (oI .gtr 139 (.u64 127) 140),oX (.k .pick) [.s 137,.c (.b true),.s 140] [141]] (.cond (.s 141) [] (oS [oV 6 142,oX (.k (.call 73 (.plain 2 2))) [.c (.i .i64 3),.s 142] [143],oE 0 143 144,oE 1 143 145,oT 1168 0 5 4 144,oT 1169 0 3 5 145] .ret) .skip)) none (.seq (oS [oV 9 146,oI .eql 146 (.i .i64 5) 147,oV 147 148,oG 148 false (oV 9 149),oG 148 false (oI .eql 149 (.i .i64 6) 150),oX (.k .pick) [.s 148,.c (.b true),.s 150] [151]] (.cond (.s 151) [] (oS [oV 0 152,oM 1170 0 5 12 153,oV 10 154,oK (.k (.ci .i64)) [154] [155],oV 1 156,oK (.k (.call 93 ⟨4,(some (0,999999)),[],[],2,[],none,[]⟩)) [152,153,155,156,999999] [157,999999],oE 0 157 158,oE 1 157 159,oT 1168 0 5 4 158,oT 1169 0 3 5 159] .ret) .skip)) none (oS [oV 0 160,oM 1170 0 5 12 161,oV 6 162,oV 10 163,oK (.k (.ci .i64)) [163] [164],oK (.k (.call 94 ⟨4,(some (0,999999)),[],[],2,[],none,[]⟩)) [160,161,162,164,999999] [165,999999],oE 0 165 166,oE 1 165 167,oT 1168 0 5 4 166,oT 1169 0 3 5 167] .ret)))) none (endK mp_read.d)
def mp_read.j1 (n:Nat) (x0:Int) (x1:Int) (x2:Int) (x3:Int) (x4:UInt64) (x5:Int) (x6:Itv) (x7:Flt) (x8:Rdr):OT:=evO _ (mp_read.E n) mp_read.m4 (headT [0,1,4,5,6,7,9,10,11,1168,1169,999999] [.pt,(.i .i64 x0),.pt,.pt,(.i .i64 x1),(.i .i64 x2),(.i .i64 x3),(.u64 x4),(.i .i64 x5),(.ag (Itv.cells x6)),(.ag (Flt.cells x7)),(.ag (Rdr.cells x8))]) (endK mp_read.d)
def mp_read.j2 (n:Nat) (x0:Int) (x1:Int) (x2:Int) (x3:Int) (x4:UInt64) (x5:Int) (x6:Itv) (x7:Flt) (x8:Int) (x9:UInt64) (x10:Str) (x11:Rdr):OT:=evO _ (mp_read.E n) mp_read.m3 (headT [0,1,4,5,6,7,9,10,11,12,1168,1169,1170,999999] [.pt,(.i .i64 x0),.pt,.pt,(.i .i64 x1),(.i .i64 x2),(.i .i64 x3),(.u64 x4),(.i .i64 x5),.pt,(.ag (Itv.cells x6)),(.ag (Flt.cells x7)),(.ag [(.i .i64 x8),(.u64 x9),(.c (.slice none 0 0)),(.s x10),(.c (.slice none 0 0))]),(.ag (Rdr.cells x11))]) (endK mp_read.d)
def mp_read.j3 (n:Nat) (x0:Int) (x1:Int) (x2:Int) (x3:Int) (x4:UInt64) (x5:Int) (x6:Int) (x7:Bool) (x8:Itv) (x9:Flt) (x10:Int) (x11:UInt64) (x12:Str) (x13:Rdr):OT:=evO _ (mp_read.E n) mp_read.m2 (headT [0,1,4,5,6,7,9,10,11,12,78,79,1168,1169,1170,999999] [.pt,(.i .i64 x0),.pt,.pt,(.i .i64 x1),(.i .i64 x2),(.i .i64 x3),(.u64 x4),(.i .i64 x5),.pt,(.i .i64 x6),(.b x7),(.ag (Itv.cells x8)),(.ag (Flt.cells x9)),(.ag [(.i .i64 x10),(.u64 x11),(.c (.slice none 0 0)),(.s x12),(.c (.slice none 0 0))]),(.ag (Rdr.cells x13))]) (blockK 0 (mp_read.k1 n))
def mp_read.j4 (n:Nat) (x0:Int) (x1:Int) (x2:UInt64) (x3:Itv) (x4:Flt) (x5:Int) (x6:UInt64) (x7:Str) (x8:Rdr):OT:=evO _ (mp_read.E n) mp_read.m1 (headT [4,5,6,7,10,12,1168,1169,1170,999999] [.pt,.pt,(.i .i64 x0),(.i .i64 x1),(.u64 x2),.pt,(.ag (Itv.cells x3)),(.ag (Flt.cells x4)),(.ag [(.i .i64 x5),(.u64 x6),(.c (.slice none 0 0)),(.s x7),(.c (.slice none 0 0))]),(.ag (Rdr.cells x8))]) (blockK 0 (mp_read.k1 n))
theorem mp_read.j1_eq (n:Nat) (x0:Int) (x1:Int) (x2:Int) (x3:Int) (x4:UInt64) (x5:Int) (x6:Itv) (x7:Flt) (x8:Rdr):mp_read.j1 n x0 x1 x2 x3 x4 x5 x6 x7 x8=cond (decide (x3=(10:Int)))
  (ck (Cur.good x8) (cond (!(Cur.more x8))
  (some [(.ag (Itv.cells (Itm.val (Mp.zero)))),(.ag (Flt.cells ((Flt.mk ((2:Int)) x1 [])))),(.ag (Rdr.cells (Cur.adv x8 1 (Cur.more x8))))])
  (mp_read.j2 n x0 x1 x2 x3 x4 x5 x6 x7 x3 (UInt64.ofInt (Cur.byte x8)) ([]:Str) (Cur.adv x8 1 (Cur.more x8)))))
  (mp_read.j2 n x0 x1 x2 x3 x4 x5 x6 x7 x3 (0:UInt64) ([]:Str) x8):=((congrFun (congrFun (ev_eq _ _) _) _).trans (by kernel_rfl))
theorem mp_read.j2_eq (n:Nat) (x0:Int) (x1:Int) (x2:Int) (x3:Int) (x4:UInt64) (x5:Int) (x6:Itv) (x7:Flt) (x8:Int) (x9:UInt64) (x10:Str) (x11:Rdr):mp_read.j2 n x0 x1 x2 x3 x4 x5 x6 x7 x8 x9 x10 x11=cond (decide (x3=(8:Int)))
  (mp_read.j3 n x0 x1 x2 x3 x4 x5 x3 (decide (x3=(8:Int))) x6 x7 x8 x9 x10 x11)
  (mp_read.j3 n x0 x1 x2 x3 x4 x5 x3 (decide (x3=(9:Int))) x6 x7 x8 x9 x10 x11):=((congrFun (congrFun (ev_eq _ _) _) _).trans (by kernel_rfl))
theorem mp_read.j3_in (n:Nat) (x0:Int) (x1:Int) (x2:Int) (x3:Int) (x4:UInt64) (x5:Int) (x6:Int) (x7:Bool) (x8:Itv) (x9:Flt) (x10:Int) (x11:UInt64) (x12:Str) (x13:Rdr) {ρ:OT} (K:∀(v1:Flt) (h1:v1=((Flt.mk (Mp.num (Itm.of (Itv.mk x10 x4 [] x12 [])) x1 x2 ((Spn.mk (Mp.unsigned x4).1 (Mp.unsigned x4).2)).at_ 0).err (Mp.num (Itm.of (Itv.mk x10 x4 [] x12 [])) x1 x2 ((Spn.mk (Mp.unsigned x4).1 (Mp.unsigned x4).2)).at_ 0).at_ []))) (v2:Int) (h2:v2=(IntKind.i64.wrap ((8:Int) * x5))) (v3:Int) (h3:v3=(IntKind.i64.wrap ((64:Int) - v2))) (v4:Int) (h4:v4=(IntKind.i64.wrap (((shl64 x4 ((v3).toNat))).toNat:Int))) (v5:Int) (h5:v5=(Int.fdiv v4 (2 ^ (min ((v3).toNat) (IntKind.i64.bits))))) (v6:Int) (h6:v6=(IntKind.i64.wrap ((x4).toNat:Int))) (v7:Bool) (h7:v7=(!(!decide ((Mp.sized x3 v6).1=x2)))) (v8:Bool) (h8:v8=(cond (!decide ((Mp.sized x3 v6).1=x2)) true (decide ((127:UInt64)<x11)))) (v9:Bool) (h9:v9=(cond (decide (x3=(5:Int))) true (decide (x3=(6:Int))))) (v10:Flt) (h10:v10=((Flt.mk (Mp.kids (Mp.read (x13).b (x0 - 1).toNat) (Itm.of (Itv.mk x10 x11 [] x12 [])) (Mp.many ((Itv.mk x10 x11 [] x12 [])).kind v6) (x13).at_).err (Mp.kids (Mp.read (x13).b (x0 - 1).toNat) (Itm.of (Itv.mk x10 x11 [] x12 [])) (Mp.many ((Itv.mk x10 x11 [] x12 [])).kind v6) (x13).at_).at_ []))) (v11:Rdr) (h11:v11=((Rdr.mk (x13).b (Mp.kids (Mp.read (x13).b (x0 - 1).toNat) (Itm.of (Itv.mk x10 x11 [] x12 [])) (Mp.many ((Itv.mk x10 x11 [] x12 [])).kind v6) (x13).at_).pos))) (v12:Flt) (h12:v12=((Flt.mk (Mp.row (x13).b (Itm.of (Itv.mk x10 x11 [] x12 [])) x1 (x13).at_ v6).err (Mp.row (x13).b (Itm.of (Itv.mk x10 x11 [] x12 [])) x1 (x13).at_ v6).at_ []))) (v13:Rdr) (h13:v13=((Rdr.mk (x13).b (Mp.row (x13).b (Itm.of (Itv.mk x10 x11 [] x12 [])) x1 (x13).at_ v6).pos))),cond x7
  (some [(.ag [(.i .i64 x10),(.u64 x4),(.sl .bs ([]:List UInt8)),(.s x12),(.sl .il ([]:List Itm))]),(.ag [(.i .i64 0),(.i .i64 0),(.sl .is ([]:List Int))]),(.ag (Rdr.cells x13))])
  (cond (decide (x6=(1:Int)))
  (some [(.ag (Itv.cells (Itm.val ((Mp.num (Itm.of (Itv.mk x10 x4 [] x12 [])) x1 x2 ((Spn.mk (Mp.unsigned x4).1 (Mp.unsigned x4).2)).at_ 0).it)))),(.ag (Flt.cells v1)),(.ag (Rdr.cells x13))])
  (cond (decide (x6=(2:Int)))
  (cond (decide ((0:Int)<x5))
  (ck (decide (0≤v3)) (ck (decide (0≤v3)) (mp_read.j4 n x1 x2 (~~~(UInt64.ofInt v5)) x8 x9 x10 x11 x12 x13)))
  (mp_read.j4 n x1 x2 x4 x8 x9 x10 x11 x12 x13))
  (ck (Mp.sizeds x3&&decide (0≤v6∧v6<4294967296)) (ck (!v7 || v7) (ck (!v7 || v7) (ck ((!decide ((Mp.sized x3 v6).1=x2)) || v7) (cond v8
  (some [(.ag (Itv.cells (Itm.val (Mp.zero)))),(.ag (Flt.cells ((Flt.mk ((3:Int)) x1 [])))),(.ag (Rdr.cells x13))])
  (ck (!(!(decide (x3=(5:Int)))) || (!(decide (x3=(5:Int))))) (ck ((decide (x3=(5:Int))) || (!(decide (x3=(5:Int))))) (cond v9
  (ck ((Cur.good x13&&decide (0≤v6∧v6≤4294967296∧1≤x0∧x0≤1000))&&decide ((2 * (x0).toNat)<n)) (some [(.ag (Itv.cells (Itm.val ((Mp.kids (Mp.read (x13).b (x0 - 1).toNat) (Itm.of (Itv.mk x10 x11 [] x12 [])) (Mp.many ((Itv.mk x10 x11 [] x12 [])).kind v6) (x13).at_).it)))),(.ag (Flt.cells v10)),(.ag (Rdr.cells v11))]))
  (ck (Cur.good x13) (some [(.ag (Itv.cells (Itm.val ((Mp.row (x13).b (Itm.of (Itv.mk x10 x11 [] x12 [])) x1 (x13).at_ v6).it)))),(.ag (Flt.cells v12)),(.ag (Rdr.cells v13))]))))))))))))=ρ):mp_read.j3 n x0 x1 x2 x3 x4 x5 x6 x7 x8 x9 x10 x11 x12 x13=ρ:=((congrFun (congrFun (ev_eq _ _) _) _).trans (by kernel_rfl)).trans (K _ rfl _ rfl _ rfl _ rfl _ rfl _ rfl _ rfl _ rfl _ rfl _ rfl _ rfl _ rfl _ rfl)
theorem mp_read.j4_in (n:Nat) (x0:Int) (x1:Int) (x2:UInt64) (x3:Itv) (x4:Flt) (x5:Int) (x6:UInt64) (x7:Str) (x8:Rdr) {ρ:OT} (K:∀(v1:Flt) (h1:v1=((Flt.mk (Mp.num (Itm.of (Itv.mk x5 x2 [] x7 [])) x0 x1 ((Spn.mk (Mp.signed x2).1 (Mp.signed x2).2)).at_ 0).err (Mp.num (Itm.of (Itv.mk x5 x2 [] x7 [])) x0 x1 ((Spn.mk (Mp.signed x2).1 (Mp.signed x2).2)).at_ 0).at_ []))),cond (decide ((9223372036854775808:UInt64)≤x2))
  (some [(.ag (Itv.cells (Itm.val (Mp.zero)))),(.ag (Flt.cells ((Flt.mk ((3:Int)) x0 [])))),(.ag (Rdr.cells x8))])
  (some [(.ag (Itv.cells (Itm.val ((Mp.num (Itm.of (Itv.mk x5 x2 [] x7 [])) x0 x1 ((Spn.mk (Mp.signed x2).1 (Mp.signed x2).2)).at_ 0).it)))),(.ag (Flt.cells v1)),(.ag (Rdr.cells x8))])=ρ):mp_read.j4 n x0 x1 x2 x3 x4 x5 x6 x7 x8=ρ:=((congrFun (congrFun (ev_eq _ _) _) _).trans (by kernel_rfl)).trans (K _ rfl)
theorem mp_read.F_in (n:Nat) (r:Rdr) (depth:Int) {ρ:OT} (K:∀(v1:Flt) (h1:v1=((Flt.mk ((8:Int)) ((((r).at_))) []))) (v2:Flt) (h2:v2=((Flt.mk ((2:Int)) ((((r).at_))) []))) (v3:Int) (h3:v3=((Mp.first ((Cur.byte r))).1)) (v4:UInt64) (h4:v4=((Mp.first ((Cur.byte r))).2.1)) (v5:Int) (h5:v5=((Mp.first ((Cur.byte r))).2.2)) (v6:Flt) (h6:v6=((Flt.mk ((3:Int)) ((((r).at_))) []))) (v7:UInt64) (h7:v7=(Cur.be (Cur.nx (Cur.adv r 1 (Cur.more r)) v5 (Cur.ok8 (Cur.adv r 1 (Cur.more r)) v5)))) (v8:Bool) (h8:v8=(Cur.ok8 (Cur.adv r 1 (Cur.more r)) v5)) (v9:Rdr) (h9:v9=(Cur.adv (Cur.adv r 1 (Cur.more r)) v5 (Cur.ok8 (Cur.adv r 1 (Cur.more r)) v5))),cond (decide (depth=(0:Int)))
  (some [(.ag (Itv.cells (Itm.val (Mp.zero)))),(.ag (Flt.cells v1)),(.ag (Rdr.cells r))])
  (ck (Cur.good r) (cond (!(Cur.more r))
  (some [(.ag (Itv.cells (Itm.val (Mp.zero)))),(.ag (Flt.cells v2)),(.ag (Rdr.cells (Cur.adv r 1 (Cur.more r))))])
  (ck (decide (0≤((Cur.byte r))∧((Cur.byte r))≤255)) (cond (decide (v3=(0:Int)))
  (some [(.ag (Itv.cells (Itm.val (Mp.zero)))),(.ag (Flt.cells v6)),(.ag (Rdr.cells (Cur.adv r 1 (Cur.more r))))])
  (cond (decide ((0:Int)<v5))
  (ck (Cur.good (Cur.adv r 1 (Cur.more r))) (cond (!v8)
  (some [(.ag (Itv.cells (Itm.val (Mp.zero)))),(.ag (Flt.cells v2)),(.ag (Rdr.cells v9))])
  (mp_read.j1 n depth (((r).at_)) (Cur.byte r) v3 v7 v5 (Itv.mk 0 0 [] [] []) (Flt.mk 0 0 []) v9)))
  (mp_read.j1 n depth (((r).at_)) (Cur.byte r) v3 v4 v5 (Itv.mk 0 0 [] [] []) (Flt.mk 0 0 []) (Cur.adv r 1 (Cur.more r))))))))=ρ):mp_read.F n r depth=ρ:=Eq.trans (by kernel_rfl) (K _ rfl _ rfl _ rfl _ rfl _ rfl _ rfl _ rfl _ rfl _ rfl)
theorem mp_read.chk (n:Nat):CK 75 (mp_read.env n) mp_read.d:=ckOf (by kernel_rfl)
def mp_Decode.env:EV:=[(73,(mp_wrong.c,mp_wrong.sg)),(74,(cur_New.c,cur_New.sg)),(75,(mp_read.c,mp_read.sg)),(76,(rd_Left.c,rd_Left.sg)),(77,(rd_At.c,rd_At.sg))]
def mp_Decode.E:TEnv:=envL trydGl mp_Decode.env
def mp_Decode.m:TM:=oS [oN 1041 zI 4,oN 1042 zT 5] (.seq (oS [oV 1 9,oI .lss 9 (.i .i64 0) 10,oV 10 11,oG 11 false (oV 1 12),oG 11 false (oI .gtr 12 (.i .i64 1000) 13),oX (.k .pick) [.s 11,.c (.b true),.s 13] [14]] (.cond (.s 14) [] (oS [oX (.k (.call 73 (.plain 2 2))) [.c (.i .i64 1),.c (.i .i64 0)] [15],oE 0 15 16,oE 1 15 17,oT 1041 0 5 4 16,oT 1042 0 3 5 17] .ret) .skip)) none (oS [oV 0 18,oK (.k (.call 74 ⟨1,none,[],[],1,[],(some (0,1043)),[]⟩)) [18,1043] [19,1043],oV 19 6] (oS [oV 6 21,oV 1 22,oK (.k (.call 75 ⟨2,(some (0,1043)),[],[],2,[],none,[]⟩)) [21,22,1043] [23,1043],oV 23 20,oE 0 20 24,oE 1 20 25,oN 1044 zI 7,oN 1045 zT 8,oT 1044 0 5 7 24,oT 1045 0 3 8 25] (.seq (oS [oA 1045 0 0 8 26,oL 1045 0 1 26 27,oI .neq 27 (.i .i64 0) 28] (.cond (.s 28) [] (oS [oK (.bd zI []) [] [29],oM 1045 0 3 8 30,oT 1041 0 5 4 29,oT 1042 0 3 5 30] .ret) .skip)) none (.seq (oS [oV 6 31,oK (.k (.rcall 76 1 1 0 1043)) [31,1043] [32],oI .gtr 32 (.i .i64 0) 33] (.cond (.s 33) [] (oS [oV 6 34,oK (.k (.rcall 77 1 1 0 1043)) [34,1043] [35],oX (.k (.call 73 (.plain 2 2))) [.c (.i .i64 7),.s 35] [36],oE 0 36 37,oE 1 36 38,oT 1041 0 5 4 37,oT 1042 0 3 5 38] .ret) .skip)) none (oS [oM 1044 0 5 7 39,oK (.bd zT []) [] [40],oT 1041 0 5 4 39,oT 1042 0 3 5 40] .ret))))))
def mp_Decode.d:TFD:=D0 2 mp_Decode.m [.c 4 1041 5 true,.c 5 1042 3 true]
def mp_Decode.F (b:List UInt8) (depth:Int):OT:=mp_Decode.d.run mp_Decode.E [(.sl .bs b),(.i .i64 depth)]
theorem mp_Decode.F_in (b:List UInt8) (depth:Int) {ρ:OT} (K:∀(v1:Bool) (h1:v1=(cond (decide (depth<(0:Int))) true (decide ((1000:Int)<depth)))) (v2:Flt) (h2:v2=((Flt.mk ((1:Int)) ((0:Int)) []))) (v3:Flt) (h3:v3=((Flt.mk (Mp.read (((Rdr.mk b 0))).b (depth).toNat (((Rdr.mk b 0))).at_).err (Mp.read (((Rdr.mk b 0))).b (depth).toNat (((Rdr.mk b 0))).at_).at_ []))) (v4:Rdr) (h4:v4=((Rdr.mk (((Rdr.mk b 0))).b (Mp.read (((Rdr.mk b 0))).b (depth).toNat (((Rdr.mk b 0))).at_).pos))) (v5:Flt) (h5:v5=((Flt.mk ((7:Int)) ((((v4).at_))) []))),ck (!(!(decide (depth<(0:Int)))) || (!(decide (depth<(0:Int))))) (ck ((decide (depth<(0:Int))) || (!(decide (depth<(0:Int))))) (cond v1
  (some [(.ag (Itv.cells (Itm.val (Mp.zero)))),(.ag (Flt.cells v2))])
  (ck (decide ((b).length≤1099511627776)) (ck (Cur.good ((Rdr.mk b 0))&&decide (0≤depth∧depth≤1000)) (cond (!decide ((Flt.err v3)=(0:Int)))
  (some [(.ag [(.i .i64 0),(.u64 0),(.sl .bs ([]:List UInt8)),(.s []),(.sl .il ([]:List Itm))]),(.ag (Flt.cells v3))])
  (ck (Cur.good v4) (cond (decide ((0:Int)<(Cur.left v4)))
  (some [(.ag (Itv.cells (Itm.val (Mp.zero)))),(.ag (Flt.cells v5))])
  (some [(.ag (Itv.cells (Itm.val ((Mp.read (((Rdr.mk b 0))).b (depth).toNat (((Rdr.mk b 0))).at_).it)))),(.ag [(.i .i64 0),(.i .i64 0),(.sl .is ([]:List Int))])]))))))))=ρ):mp_Decode.F b depth=ρ:=Eq.trans (by kernel_rfl) (K _ rfl _ rfl _ rfl _ rfl _ rfl)
theorem mp_Decode.chk:CK 62 mp_Decode.env mp_Decode.d:=ckOf (by kernel_rfl)
end
end Go.Eng
