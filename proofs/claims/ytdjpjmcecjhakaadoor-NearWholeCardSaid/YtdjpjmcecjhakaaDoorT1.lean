/- Texts of my own, one behind the other: EngA, EngFl, EngB, EngC, EngD, EngE, EngF, EngG, EngH, EngI, EngJ, EngK, EngL, EngM, EngN, EngO. -/
import Derived.Calls
import Derived.Below
import Derived.Laws.OwnMore
import Derived.Laws.FloatArith
import Derived.WalkKit
import Derived.Lib.Bytealg
import Derived.Orders
import Derived.Laws.IdiomStrings
import Derived.Laws.Entries
import Derived.Laws.BytesString
import Derived.Lib.Strings
import Derived.Laws.BytesArg
import Derived.Laws.MakeOwn
set_option linter.unusedVariables false
set_option linter.unusedSimpArgs false
namespace Go.Eng
open Go.RowKit
inductive AV where
 | v (x:Value)
 | ag (cs:List AV)
 | tu (vs:List AV)
 | sl (s:Nat) (es:List AV)
 | ro (x:AV)
 | pt
 | dead
 | el (i s o:Nat)
 | ab
 | gv (zs:List Value)
 deriving Inhabited
def AV.cells:AV→List AV
 | .ag cs=>cs
 | x=>[x]
def AV.isAg:AV→Bool
 | .ag _=>true
 | _=>false
abbrev Reach:=Nat→Nat→Prop
mutual
inductive Rep (R:Reach) (w:World):AV→Value→Prop
 | v (x:Value):Rep R w (.v x) x
 | ag {cs:List AV} {ys:List Value}:RepL R w cs ys→Rep R w (.ag cs) (.agg ⟨ys⟩)
 | tu {vs:List AV} {ys:List Value}:RepT R w vs ys→Rep R w (.tu vs) (.tuple ⟨ys⟩)
 | nil (s:Nat):Rep R w (.sl s []) (.slice none 0 0)
 | sl {s:Nat} {es:List AV} {b off n cap:Nat}:n=es.length→n≤cap→cap≤maxLen→RepE R w s es b off→Rep R w (.sl s es) (.slice (some ⟨b,off,none⟩) n cap)
 | em {a:Addr} {cap:Nat} (s:Nat):cap≤maxLen→Rep R w (.sl s []) (.slice (some a) 0 cap)
 | ro {x:AV} {b off s:Nat}:RepAt R w s x b off→Rep R w (.ro x) (.pointer (some ⟨b,off,none⟩))
 | pt (y:Value):Rep R w .pt y
 | dead (y:Value):Rep R w .dead y
 | el (i s o b:Nat):Rep R w (.el i s o) (.pointer (some ⟨b,i * s+o,none⟩))
 | ab (x:Bool):Rep R w .ab (.bool x)
 | gv {zs:List Value} {b:Nat}:(∀o,R b o)→(∀o,w.cell? ⟨b,o,none⟩=zs[o]?)→Rep R w (.gv zs) (.pointer (some ⟨b,0,none⟩))
inductive RepL (R:Reach) (w:World):List AV→List Value→Prop
 | nil:RepL R w [] []
 | cons {x:AV} {y:Value} {xs:List AV} {ys:List Value}:y.oneCell'=true→Rep R w x y→RepL R w xs ys→RepL R w (x :: xs) (y :: ys)
inductive RepT (R:Reach) (w:World):List AV→List Value→Prop
 | nil:RepT R w [] []
 | cons {x:AV} {y:Value} {xs:List AV} {ys:List Value}:Rep R w x y→RepT R w xs ys→RepT R w (x :: xs) (y :: ys)
inductive RepC (R:Reach) (w:World):List AV→Nat→Nat→Prop
 | nil (b off:Nat):RepC R w [] b off
 | cons {x:AV} {y:Value} {xs:List AV} {b off:Nat}:R b off→w.cell? ⟨b,off,none⟩=some y→y.oneCell'=true→Rep R w x y→RepC R w xs b (off+1)→RepC R w (x :: xs) b off
inductive RepAt (R:Reach) (w:World):Nat→AV→Nat→Nat→Prop
 | ag {cs:List AV} {b off s:Nat}:s=cs.length→RepC R w cs b off→RepAt R w s (.ag cs) b off
 | one {x:AV} {y:Value} {b off:Nat}:x.isAg=false→R b off→w.cell? ⟨b,off,none⟩=some y→y.oneCell'=true→Rep R w x y→RepAt R w 1 x b off
inductive RepE (R:Reach) (w:World):Nat→List AV→Nat→Nat→Prop
 | nil (s b off:Nat):RepE R w s [] b off
 | cons {s:Nat} {x:AV} {xs:List AV} {b off:Nat}:RepAt R w s x b off→RepE R w s xs b (off+s)→RepE R w s (x :: xs) b off
end
def Keeps (R:Reach) (w:World) (R':Reach) (w':World):Prop:=∀b o,R b o→R' b o∧w'.cell? ⟨b,o,none⟩=w.cell? ⟨b,o,none⟩
theorem Keeps.refl (R:Reach) (w:World):Keeps R w R w:=fun _ _ h=>⟨h,rfl⟩
theorem Keeps.trans {R R' R'':Reach} {w w' w'':World} (h:Keeps R w R' w') (k:Keeps R' w' R'' w''):Keeps R w R'' w'' :=
 fun b o hr=>⟨(k b o (h b o hr).1).1,(k b o (h b o hr).1).2.trans (h b o hr).2⟩
section
variable {R R':Reach} {w w':World}
mutual
theorem Rep.mono (k:Keeps R w R' w'):∀{x:AV} {y:Value},Rep R w x y→Rep R' w' x y
 | _,_,.v x => .v x
 | _,_,.ag h => .ag (RepL.mono k h)
 | _,_,.tu h => .tu (RepT.mono k h)
 | _,_,.nil s => .nil s
 | _,_,.sl a b c h => .sl a b c (RepE.mono k h)
 | _,_,.em s h => .em s h
 | _,_,.ro h => .ro (RepAt.mono k h)
 | _,_,.pt y => .pt y
 | _,_,.dead y => .dead y
 | _,_,.el i s o b => .el i s o b
 | _,_,.ab x => .ab x
 | _,_,.gv h1 h2 => .gv (fun o=>(k _ o (h1 o)).1) (fun o=>(k _ o (h1 o)).2.trans (h2 o))
theorem RepL.mono (k:Keeps R w R' w'):∀{x:List AV} {y:List Value},RepL R w x y→RepL R' w' x y
 | _,_,.nil => .nil
 | _,_,.cons a h t => .cons a (Rep.mono k h) (RepL.mono k t)
theorem RepT.mono (k:Keeps R w R' w'):∀{x:List AV} {y:List Value},RepT R w x y→RepT R' w' x y
 | _,_,.nil => .nil
 | _,_,.cons h t => .cons (Rep.mono k h) (RepT.mono k t)
theorem RepC.mono (k:Keeps R w R' w'):∀{x:List AV} {b o:Nat},RepC R w x b o→RepC R' w' x b o
 | _,_,_,.nil b o => .nil b o
 | _,_,_,.cons r c a h t => .cons (k _ _ r).1 ((k _ _ r).2.trans c) a (Rep.mono k h) (RepC.mono k t)
theorem RepAt.mono (k:Keeps R w R' w'):∀{s:Nat} {x:AV} {b o:Nat},RepAt R w s x b o→RepAt R' w' s x b o
 | _,_,_,_,.ag e h => .ag e (RepC.mono k h)
 | _,_,_,_,.one n r c a h => .one n (k _ _ r).1 ((k _ _ r).2.trans c) a (Rep.mono k h)
theorem RepE.mono (k:Keeps R w R' w'):∀{s:Nat} {x:List AV} {b o:Nat},RepE R w s x b o→RepE R' w' s x b o
 | _,_,_,_,.nil s b o => .nil s b o
 | _,_,_,_,.cons h t => .cons (RepAt.mono k h) (RepE.mono k t)
end
end
section
variable {R:Reach} {w:World}
theorem RepL.length:∀{xs:List AV} {ys:List Value},RepL R w xs ys→xs.length=ys.length
 | _,_,.nil=>rfl
 | _,_,.cons _ _ t=>by simp [RepL.length t]
theorem RepT.length:∀{xs:List AV} {ys:List Value},RepT R w xs ys→xs.length=ys.length
 | _,_,.nil=>rfl
 | _,_,.cons _ t=>by simp [RepT.length t]
theorem RepL.get:∀{xs:List AV} {ys:List Value} (_:RepL R w xs ys) (i:Nat) (x:AV),xs[i]?=some x→∃y,ys[i]?=some y∧y.oneCell'=true∧Rep R w x y
 | _,_,.cons a h _,0,x,e=>by simp at e;subst e;exact ⟨_,rfl,a,h⟩
 | _,_,.cons _ _ t,i+1,x,e=>by simpa using RepL.get t i x (by simpa using e)
theorem RepT.get:∀{xs:List AV} {ys:List Value} (_:RepT R w xs ys) (i:Nat) (x:AV),xs[i]?=some x→∃y,ys[i]?=some y∧Rep R w x y
 | _,_,.cons h _,0,x,e=>by simp at e;subst e;exact ⟨_,rfl,h⟩
 | _,_,.cons _ t,i+1,x,e=>by simpa using RepT.get t i x (by simpa using e)
theorem RepL.one:∀{xs:List AV} {ys:List Value},RepL R w xs ys→∀y∈ys,y.oneCell'=true
 | _,_,.cons a _ t,y,hy=>by
  rcases List.mem_cons.1 hy with rfl | h
  ·exact a
  ·exact RepL.one t y h
theorem RepL.append:∀{xs:List AV} {ys:List Value} {xs':List AV} {ys':List Value},RepL R w xs ys→RepL R w xs' ys'→RepL R w (xs++xs') (ys++ys')
 | _,_,_,_,.nil,h=>h
 | _,_,_,_,.cons a h t,k => .cons a h (RepL.append t k)
theorem RepL.take:∀{xs:List AV} {ys:List Value} (n:Nat),RepL R w xs ys→RepL R w (xs.take n) (ys.take n)
 | _,_,0,_=>by simp;exact .nil
 | _,_,n+1,.nil=>by simp;exact .nil
 | _,_,n+1,.cons a h t=>by simp;exact .cons a h (RepL.take n t)
theorem RepL.drop:∀{xs:List AV} {ys:List Value} (n:Nat),RepL R w xs ys→RepL R w (xs.drop n) (ys.drop n)
 | _,_,0,h=>by simpa using h
 | _,_,n+1,.nil=>by simp;exact .nil
 | _,_,n+1,.cons a h t=>by simp;exact RepL.drop n t
theorem RepC.read:∀{xs:List AV} {b o:Nat},RepC R w xs b o→∃ys,RepL R w xs ys∧∀j y,ys[j]?=some y→w.cell? ⟨b,o+j,none⟩=some y
 | _,_,_,.nil _ _=>⟨[],.nil,by simp⟩
 | _,b,o,.cons (y:=y) r c a h t=>by
  obtain ⟨ys,hl,hc⟩:=RepC.read t
  refine ⟨y :: ys,.cons a h hl,fun j z hz=>?_⟩
  cases j with
  | zero=>simp at hz;subst hz;exact c
  | succ j=>have:=hc j z (by simpa using hz);rw [show o+(j+1)=o+1+j by omega];exact this
theorem RepC.write:∀{xs:List AV} {ys:List Value} {b o:Nat},RepL R w xs ys→(∀j,j<ys.length→R b (o+j))→(∀j y,ys[j]?=some y→w.cell? ⟨b,o+j,none⟩=some y)→RepC R w xs b o
 | _,_,b,o,.nil,_,_ => .nil b o
 | _,_,b,o,.cons a h t,hr,hc => .cons (hr 0 (by simp)) (hc 0 _ rfl) a h
   (RepC.write t (fun j hj=>by have:=hr (j+1) (by simp;omega);rwa [show o+(j+1)=o+1+j by omega] at this)
    (fun j y hy=>by have:=hc (j+1) y (by simpa using hy);rwa [show o+(j+1)=o+1+j by omega] at this))
theorem RepC.drop:∀{xs:List AV} {b o:Nat} (n:Nat),RepC R w xs b o→RepC R w (xs.drop n) b (o+n)
 | _,b,o,0,h=>by simpa using h
 | _,b,o,n+1,.nil _ _=>by simp;exact .nil _ _
 | _,b,o,n+1,.cons r c a h t=>by simp;have:=RepC.drop n t;rwa [show o+1+n=o+(n+1) by omega] at this
theorem RepC.take:∀{xs:List AV} {b o:Nat} (n:Nat),RepC R w xs b o→RepC R w (xs.take n) b o
 | _,b,o,0,h=>by simp;exact .nil _ _
 | _,b,o,n+1,.nil _ _=>by simp;exact .nil _ _
 | _,b,o,n+1,.cons r c a h t=>by simp;exact .cons r c a h (RepC.take n t)
theorem RepC.lt:∀{xs:List AV} {b o:Nat},RepC R w xs b o→∀j,j<xs.length→R b (o+j)
 | _,b,o,.cons r _ _ _ t,0,_=>r
 | _,b,o,.cons _ _ _ _ t,j+1,hj=>by have:=RepC.lt t j (by simpa using hj);rwa [show o+1+j=o+(j+1) by omega] at this
theorem RepE.get:∀{s:Nat} {es:List AV} {b o:Nat} (_:RepE R w s es b o) (i:Nat) (x:AV),es[i]?=some x→RepAt R w s x b (o+i * s)
 | s,_,b,o,.cons h _,0,x,e=>by simp at e;subst e;simpa using h
 | s,_,b,o,.cons _ t,i+1,x,e=>by
  have:=RepE.get t i x (by simpa using e)
  rwa [show o+s+i * s=o+(i+1) * s by rw [Nat.succ_mul];omega] at this
theorem RepE.drop:∀{s:Nat} {es:List AV} {b o:Nat} (n:Nat),RepE R w s es b o→RepE R w s (es.drop n) b (o+n * s)
 | s,_,b,o,0,h=>by simpa using h
 | s,_,b,o,n+1,.nil _ _ _=>by simp;exact .nil _ _ _
 | s,_,b,o,n+1,.cons h t=>by simp;have:=RepE.drop n t;rwa [show o+s+n * s=o+(n+1) * s by rw [Nat.succ_mul];omega] at this
theorem RepE.take:∀{s:Nat} {es:List AV} {b o:Nat} (n:Nat),RepE R w s es b o→RepE R w s (es.take n) b o
 | s,_,b,o,0,h=>by simp;exact .nil _ _ _
 | s,_,b,o,n+1,.nil _ _ _=>by simp;exact .nil _ _ _
 | s,_,b,o,n+1,.cons h t=>by simp;exact .cons h (RepE.take n t)
theorem RepE.append:∀{s:Nat} {es fs:List AV} {b o:Nat},RepE R w s es b o→RepE R w s fs b (o+es.length * s)→RepE R w s (es++fs) b o
 | s,[],fs,b,o,_,h=>by simpa using h
 | s,e :: es,fs,b,o,.cons h t,k => .cons h (RepE.append t (by rwa [show o+s+es.length * s=o+(e :: es).length * s by rw [List.length_cons,Nat.succ_mul];omega]))
theorem RepAt.read {s:Nat} {x:AV} {b o:Nat} (h:RepAt R w s x b o):∃ys:List Value,ys.length=s∧(∀j y,ys[j]?=some y→w.cell? ⟨b,o+j,none⟩=some y)∧RepL R w x.cells ys:=by
 cases h with
 | ag e h=>obtain ⟨ys,hl,hc⟩:=h.read;exact ⟨ys,by rw [e,hl.length],hc,hl⟩
 | one n r c a h =>
  rename_i y
  refine ⟨[y],rfl,?_,?_⟩
  ·intro j z hz
   cases j with
   | zero=>simp at hz;subst hz;exact c
   | succ j=>simp at hz
  ·cases x <;> simp [AV.cells,AV.isAg] at n ⊢ <;> exact .cons a h .nil
theorem RepAt.write {s:Nat} {x:AV} {ys:List Value} {b o:Nat} (hs:x.cells.length=s) (h:RepL R w x.cells ys) (hr:∀j,j<s→R b (o+j)) (hc:∀j y,ys[j]?=some y→w.cell? ⟨b,o+j,none⟩=some y):RepAt R w s x b o:=by
 have hl:=h.length
 cases x with
 | ag cs=>exact .ag hs.symm (RepC.write h (fun j hj=>hr j (by omega)) hc)
 | _ =>
  simp only [AV.cells,List.length_singleton] at hs h hl
  subst hs
  cases h with
  | cons a h t=>exact .one rfl (hr 0 (by omega)) (hc 0 _ rfl) a h
theorem RepE.cells:∀{s:Nat} {es:List AV} {b o:Nat},RepE R w s es b o→∃ys:List Value,ys.length=es.length * s∧(∀j y,ys[j]?=some y→w.cell? ⟨b,o+j,none⟩=some y)∧RepL R w (es.flatMap AV.cells) ys∧∀e∈es,e.cells.length=s
 | s,_,b,o,.nil _ _ _=>⟨[],by simp,by simp,.nil,by simp⟩
 | s,_,b,o,.cons (x:=x) (xs:=xs) h t=>by
  obtain ⟨ys,hl,hc,hr⟩:=h.read
  obtain ⟨zs,kl,kc,kr,ke⟩:=RepE.cells t
  have hx:x.cells.length=s:=by rw [hr.length,hl]
  refine ⟨ys++zs,by simp [hl,kl,Nat.succ_mul];omega,?_,?_,?_⟩
  ·intro j y hy
   by_cases hj:j<ys.length
   ·exact hc j y (by rwa [List.getElem?_append_left hj] at hy)
   ·rw [List.getElem?_append_right (by omega)] at hy
    have:=kc _ y hy
    rwa [show o+s+(j - ys.length)=o+j by omega] at this
  ·simpa using hr.append kr
  ·intro e he
   rcases List.mem_cons.1 he with rfl | h'
   ·exact hx
   ·exact ke e h'
theorem RepE.write:∀{s:Nat} {es:List AV} {ys:List Value} {b o:Nat},(∀e∈es,e.cells.length=s)→RepL R w (es.flatMap AV.cells) ys→(∀j,j<es.length * s→R b (o+j)) →
  (∀j y,ys[j]?=some y→w.cell? ⟨b,o+j,none⟩=some y)→RepE R w s es b o
 | s,[],ys,b,o,_,_,_,_ => .nil _ _ _
 | s,e :: es,ys,b,o,he,h,hr,hc=>by
  have hs:=he e (by simp)
  have hl:=h.length
  simp only [List.flatMap_cons,List.length_append] at hl
  have h1:RepL R w e.cells (ys.take s):=by simpa [hs] using h.take s
  have h2:RepL R w (es.flatMap AV.cells) (ys.drop s):=by have:=h.drop s;simpa [List.drop_append,hs,List.drop_of_length_le] using this
  refine .cons (.write hs h1 (fun j hj=>hr j (by simp [Nat.succ_mul];omega)) (fun j y hy=>hc j y ?_))
   (RepE.write (fun e' h'=>he e' (by simp [h'])) h2 (fun j hj=>?_) (fun j y hy=>?_))
  ·rw [List.getElem?_take] at hy;split at hy
   ·exact hy
   ·cases hy
  ·have:=hr (s+j) (by simp [Nat.succ_mul];omega);rwa [←Nat.add_assoc] at this
  ·have:=hc (s+j) y (by simpa using hy);rwa [←Nat.add_assoc] at this
end
end Go.Eng
namespace Go.Eng
namespace Fl
def add (a b:Nat):Nat:=(Ieee.double.add a b).getD 0
def addOK (a b:Nat):Bool:=(Ieee.double.add a b).isSome
def sub (a b:Nat):Nat:=(Ieee.double.sub a b).getD 0
def subOK (a b:Nat):Bool:=(Ieee.double.sub a b).isSome
def mul (a b:Nat):Nat:=(Ieee.double.mul a b).getD 0
def mulOK (a b:Nat):Bool:=(Ieee.double.mul a b).isSome
def eq (a b:Nat):Bool:=Ieee.double.order a b == some .eq
def lt (a b:Nat):Bool:=Ieee.double.order a b == some .lt
def gt (a b:Nat):Bool:=Ieee.double.order a b == some .gt
def neg (a:Nat):Nat:=a ^^^ 9223372036854775808
def cmulRe (a b c d:Nat):Nat:=sub (mul a c) (mul b d)
def cmulIm (a b c d:Nat):Nat:=add (mul a d) (mul b c)
def cmulOK (a b c d:Nat):Bool:=mulOK a c&&mulOK b d&&subOK (mul a c) (mul b d)&&(mulOK a d&&mulOK b c&&addOK (mul a d) (mul b c))
def ofInt (n:Int):Nat:=FloatKind.f64.nearest n
def trunc (a:Nat):Nat:=FloatKind.f64.encode ((FloatKind.f64.decode a).integral .zero)
def num (a:Nat):Bool:=!(FloatKind.f64.decode a).isNaN
def toInt (a:Nat):Int:=(floatToIntVal .f64 a .i64).getD 0
def toIntOK (a:Nat):Bool:=(floatToIntVal .f64 a .i64).isSome
theorem some_add {a b:Nat} (h:addOK a b=true):Ieee.double.add a b=some (add a b):=by
 unfold addOK at h;obtain ⟨x,hx⟩:=Option.isSome_iff_exists.1 h;unfold add;rw [hx];rfl
theorem some_sub {a b:Nat} (h:subOK a b=true):Ieee.double.sub a b=some (sub a b):=by
 unfold subOK at h;obtain ⟨x,hx⟩:=Option.isSome_iff_exists.1 h;unfold sub;rw [hx];rfl
theorem some_mul {a b:Nat} (h:mulOK a b=true):Ieee.double.mul a b=some (mul a b):=by
 unfold mulOK at h;obtain ⟨x,hx⟩:=Option.isSome_iff_exists.1 h;unfold mul;rw [hx];rfl
end Fl
def fltV:BinOp→Value→Value→Option Value
 | .add,.float .f64 a,.float .f64 b=>if Fl.addOK a b then some (.float .f64 (Fl.add a b)) else none
 | .sub,.float .f64 a,.float .f64 b=>if Fl.subOK a b then some (.float .f64 (Fl.sub a b)) else none
 | .mul,.float .f64 a,.float .f64 b=>if Fl.mulOK a b then some (.float .f64 (Fl.mul a b)) else none
 | .eql,.float .f64 a,.float .f64 b=>some (.bool (Fl.eq a b))
 | .neq,.float .f64 a,.float .f64 b=>some (.bool (!Fl.eq a b))
 | .lss,.float .f64 a,.float .f64 b=>some (.bool (Fl.lt a b))
 | .leq,.float .f64 a,.float .f64 b=>some (.bool (Fl.lt a b || Fl.eq a b))
 | .gtr,.float .f64 a,.float .f64 b=>some (.bool (Fl.gt a b))
 | .geq,.float .f64 a,.float .f64 b=>some (.bool (Fl.gt a b || Fl.eq a b))
 | .add,.complex .f64 a b,.complex .f64 c d=>if Fl.addOK a c&&Fl.addOK b d then some (.complex .f64 (Fl.add a c) (Fl.add b d)) else none
 | .mul,.complex .f64 a b,.complex .f64 c d=>if Fl.cmulOK a b c d then some (.complex .f64 (Fl.cmulRe a b c d) (Fl.cmulIm a b c d)) else none
 | .lss,.string a,.string b=>some (.bool (Op.bytesLess a.toList b.toList))
 | .leq,.string a,.string b=>some (.bool (Op.bytesLess a.toList b.toList || a.toList == b.toList))
 | .gtr,.string a,.string b=>some (.bool (!(Op.bytesLess a.toList b.toList || a.toList == b.toList)))
 | .geq,.string a,.string b=>some (.bool (!Op.bytesLess a.toList b.toList))
 | _,_,_=>none
section
variable {P:Program} {w:World}
theorem run_arith_add {a b:Nat} (h:Fl.addOK a b=true):(Op.Complex.arith .add .f64 a b).run P w = .ok (Fl.add a b) w:=by
 have e:FloatKind.f64.format.add a b=some (Fl.add a b):=Fl.some_add h
 simp [Op.Complex.arith,Op.floatArith,e]
theorem run_arith_sub {a b:Nat} (h:Fl.subOK a b=true):(Op.Complex.arith .sub .f64 a b).run P w = .ok (Fl.sub a b) w:=by
 have e:FloatKind.f64.format.sub a b=some (Fl.sub a b):=Fl.some_sub h
 simp [Op.Complex.arith,Op.floatArith,e]
theorem run_arith_mul {a b:Nat} (h:Fl.mulOK a b=true):(Op.Complex.arith .mul .f64 a b).run P w = .ok (Fl.mul a b) w:=by
 have e:FloatKind.f64.format.mul a b=some (Fl.mul a b):=Fl.some_mul h
 simp [Op.Complex.arith,Op.floatArith,e]
theorem fltV_run {op:BinOp} {t:TypeId} {x y z:Value} (h:fltV op x y=some z):(binOp op t x y).run P w = .ok z w:=by
 unfold fltV at h
 split at h
 ·rw [Option.ite_none_right_eq_some] at h
  obtain ⟨h1,h⟩:=h
  cases h
  have e:FloatKind.f64.format.add _ _=some (Fl.add _ _):=Fl.some_add h1
  simp [binOp,Op.floatArith,e]
 ·rw [Option.ite_none_right_eq_some] at h
  obtain ⟨h1,h⟩:=h
  cases h
  have e:FloatKind.f64.format.sub _ _=some (Fl.sub _ _):=Fl.some_sub h1
  simp [binOp,Op.floatArith,e]
 ·rw [Option.ite_none_right_eq_some] at h
  obtain ⟨h1,h⟩:=h
  cases h
  have e:FloatKind.f64.format.mul _ _=some (Fl.mul _ _):=Fl.some_mul h1
  simp [binOp,Op.floatArith,e]
 ·cases h;rfl
 ·cases h;rfl
 ·cases h;rfl
 ·cases h;rfl
 ·cases h;rfl
 ·cases h;rfl
 ·rw [Option.ite_none_right_eq_some,Bool.and_eq_true] at h
  obtain ⟨⟨h1,h2⟩,h⟩:=h
  cases h
  simp [binOp,Op.complexOp,run_arith_add h1,run_arith_add h2]
 ·rw [Option.ite_none_right_eq_some] at h
  obtain ⟨h1,h⟩:=h
  cases h
  unfold Fl.cmulOK at h1
  simp only [Bool.and_eq_true] at h1
  obtain ⟨⟨⟨a1,a2⟩,a3⟩,⟨a4,a5⟩,a6⟩:=h1
  simp [binOp,Op.complexOp,Op.Complex.conv,Op.Complex.product,Op.Complex.mul,Op.Complex.sub,Op.Complex.add,run_arith_mul a1,run_arith_mul a2,run_arith_sub a3,run_arith_mul a4,run_arith_mul a5,run_arith_add a6,Fl.cmulRe,Fl.cmulIm]
 ·cases h;rfl
 ·cases h;rfl
 ·cases h;rfl
 ·cases h;rfl
 ·cases h
theorem fltV_guard {op:BinOp} {t:TypeId} {x y:Operand} {u v z:Value} (h:fltV op u v=some z):eqGuard op t x y u v=pure ():=by
 unfold fltV at h
 split at h <;> first | rfl | cases h
theorem run_neg_float {a:Nat}:(Op.unary .neg (.float .f64 a)).run P w = .ok (.float .f64 (Fl.neg a)) w:=rfl
end
end Go.Eng
namespace Go.Eng
inductive Gh where
 | no
 | ptr (m o:Nat)
 | tip (k s:Nat)
 | cl (ts:List (Nat × (Nat × Nat)))
 | tup (ts:List (Nat × (Nat × Nat))) (p:Option (Nat × Nat))
 | live (s:Nat)
 | used
 | pv (s:Nat)
 | sus (d s:Nat)
 | pe (k:Nat)
 | pm (m:Nat)
 | pc (s:Nat)
 deriving DecidableEq,Inhabited
def lk (k:Nat):Nat:=1000000+k
theorem lk_ge (k:Nat):1000000≤lk k:=by unfold lk;omega
theorem lk_inj {j k:Nat} (h:lk j=lk k):j=k:=by unfold lk at h;omega
attribute [irreducible] lk
inductive Opd where
 | s (t:Nat)
 | c (x:AV)
 | g (n:Nat)
 deriving Inhabited
structure CS where
 n:Nat
 ref:Option (Nat × Nat)
 tin:List (Nat × (Nat × Nat))
 tout:List (Nat × (Nat × Nat))
 nres:Nat
 own:List (Nat × (Nat × Nat))
 new:Option (Nat × Nat)
 tnew:List (Nat × (Nat × Nat))
def CS.plain (n nres:Nat):CS:=⟨n,none,[],[],nres,[],none,[]⟩
structure FSig where
 ref:Option Nat:=none
 tips:List (Nat × Nat):=[]
 nres:Nat:=1
 own:List (Nat × Nat):=[]
 new:Option Nat:=none
 tnew:List (Nat × Nat):=[]
 ps:Option (Nat × Nat):=none
 deriving DecidableEq,Inhabited
def FSig.plain (g:FSig):Bool:=g.ref.isNone&&g.tips.isEmpty&&g.own.isEmpty&&g.new.isNone&&g.tnew.isEmpty&&g.ps.isNone
def cut3 (l:List (Nat × (Nat × Nat))):List (Nat × Nat):=l.map fun t=>(t.1,t.2.2)
def CS.fits (c:CS) (g:FSig):Bool :=
 decide (c.ref.map (·.1)=g.ref∧cut3 c.tin=g.tips∧cut3 c.tout=g.tips∧c.nres=g.nres∧cut3 c.own=g.own∧c.new.map (·.1)=g.new∧cut3 c.tnew=g.tnew ∧
  ((c.tin++c.tout++c.own++c.tnew).map (·.2.1)).Nodup∧(c.ref=none→c.tin=[])∧(c.new=none→c.tnew=[])∧(c.ref=none∨c.new=none)∧(∀q∈c.new.toList,q.1<c.nres∧q.2<999999)∧g.ps=none)
def CS.lks (c:CS):List Nat:=(c.tin++c.tout++c.own++c.tnew).map fun t=>lk t.2.1
def CS.mems (c:CS):List Nat:=(c.new.map (·.2)).toList++(c.ref.map (·.2)).toList
inductive K where
 | mv
 | pick
 | bin (o:BinOp)
 | be (neg:Bool)
 | un (o:UnOp)
 | ci (k:IntKind)
 | cs
 | sb
 | sbt (k:Nat)
 | bs
 | len
 | lns
 | mn
 | mx
 | ix (s:Nat)
 | si
 | ai (n s:Nat) (agg:Bool)
 | fe (o n:Nat) (agg:Bool)
 | sc (s:Nat) (lo hi:Bool)
 | ss (lo hi:Bool)
 | bl (s n:Nat)
 | blt (s n k:Nat)
 | bd (z:List AV) (pl:List (Nat × Nat))
 | al (m:Nat) (z:List AV) (ts:List (Nat × (Nat × Nat)))
 | bx (m:Nat)
 | ld (m o n:Nat) (agg:Bool)
 | st (m o n:Nat)
 | lr (n:Nat) (agg:Bool)
 | fa (m o d:Nat)
 | fr (o n:Nat) (agg:Bool)
 | nc (m o:Nat)
 | ncr
 | ex (i:Nat)
 | ap (k d s by_:Nat)
 | aps (k d by_:Nat)
 | an (d s by_:Nat)
 | ans (d by_:Nat)
 | mk (d s by_:Nat) (z:AV)
 | nl (d s:Nat)
 | call (f:Nat) (c:CS)
 | pss (k:Nat)
 | pln (k:Nat)
 | pix (k s:Nat)
 | pfa (k o:Nat)
 | pld (k s n:Nat) (agg:Bool)
 | pst (k s n:Nat)
 | pfz (k s:Nat)
 | pcall (f n nres i k s:Nat)
 | pcaln (f n nres i s:Nat)
 | ppa (k d s by_:Nat)
 | pnl (k:Nat)
 | apq (k d q s by_:Nat)
 | la (m n s:Nat)
 | ll (m s:Nat)
 | nls
 | xib
 | nev (b:Bool)
 | rcall (f n nres i m:Nat)
 | bxt (m:Nat) (ts:List (Nat × (Nat × Nat)))
 | stt (m o n:Nat) (ts:List (Nat × (Nat × Nat)))
 | apv (k d s by_:Nat)
 | mvz (k s:Nat)
 | stp (m o:Nat)
 | ldz (m o n c k s:Nat)
 | rl
 | im
 | cx
 | cf
 | fc
 | xtr
 | mkv (k s by_:Nat) (z:AV)
 | blv (s n k:Nat)
 | psl (k d s:Nat)
 | ls (m s:Nat)
 | callv (f n k:Nat)
 | gcall (f n nres i k s:Nat)
 | gcalv (f n i k d:Nat)
 | callq (f n nres:Nat)
 | ppv (k d s by_:Nat)
structure MOp where
 k:K
 rs:List Opd
 ds:List Nat
 gd:Option (Nat × Bool):=none
inductive M where
 | skip
 | reg (ops:List MOp)
 | seq (a b:M)
 | cond (x:Opd) (G:List (Nat × Gh)) (a b:M)
 | block (id:Nat) (G:List (Nat × Gh)) (b:M)
 | loop (keep:List Nat) (G:List (Nat × Gh)) (b:M)
 | exit (id:Nat)
 | ret
 | sw (k k':Nat) (b:M)
 | sco (b:M)
 | scp (b:M)
 | lab (l:Nat) (keep:List Nat) (G:List (Nat × Gh)) (r b:M)
def gid (l:Nat):Nat:=1000000+l
structure FS where
 G:List AV→List AV→Prop
 sg:FSig
abbrev Sg:=Nat→AV
abbrev Ga:=Nat→Gh
def upd {X:Type} (σ:Nat→X) (t:Nat) (x:X):Nat→X:=fun k=>if k=t then x else σ k
def updL {X:Type} (σ:Nat→X):List Nat→List X→Nat→X
 | t :: ts,x :: xs=>upd (updL σ ts xs) t x
 | _,_=>σ
structure Env where
 fs:Nat→FS
 gl:Nat→AV
def Opd.ev (E:Env) (σ:Sg):Opd→AV
 | .s t=>σ t
 | .c x=>x
 | .g n=>E.gl n
def Opd.gh (γ:Ga):Opd→Gh
 | .s t=>γ t
 | _ => .no
def intBitsV (o:BinOp) (k:IntKind) (x y:Int):Int :=
 let a:=BitVec.ofInt k.bits x
 let b:=BitVec.ofInt k.bits y
 match o with
 | .and=>k.wrap (a &&& b).toNat
 | .or=>k.wrap (a ||| b).toNat
 | .xor=>k.wrap (a ^^^ b).toNat
 | _=>k.wrap (a &&& ~~~b).toNat
def binV:BinOp→Value→Value→Option Value
 | .shl,.int k a,.int _ b=>if b<0 then none else some (.int k (k.wrap (a * 2 ^ (min b.toNat k.bits))))
 | .shr,.int k a,.int _ b=>if b<0 then none else some (.int k (a.fdiv (2 ^ (min b.toNat k.bits))))
 | .add,.int k a,.int k' b=>if k=k' then some (.int k (k.wrap (a+b))) else none
 | .sub,.int k a,.int k' b=>if k=k' then some (.int k (k.wrap (a - b))) else none
 | .mul,.int k a,.int k' b=>if k=k' then some (.int k (k.wrap (a * b))) else none
 | .quo,.int k a,.int k' b=>if k=k' then (if b=0 then none else some (.int k (k.wrap (a.tdiv b)))) else none
 | .rem,.int k a,.int k' b=>if k=k' then (if b=0 then none else some (.int k (a.tmod b))) else none
 | .and,.int k a,.int k' b=>if k=k' then some (.int k (intBitsV .and k a b)) else none
 | .or,.int k a,.int k' b=>if k=k' then some (.int k (intBitsV .or k a b)) else none
 | .xor,.int k a,.int k' b=>if k=k' then some (.int k (intBitsV .xor k a b)) else none
 | .andNot,.int k a,.int k' b=>if k=k' then some (.int k (intBitsV .andNot k a b)) else none
 | .eql,.int k a,.int k' b=>if k=k' then some (.bool (a == b)) else none
 | .neq,.int k a,.int k' b=>if k=k' then some (.bool (a != b)) else none
 | .lss,.int k a,.int k' b=>if k=k' then some (.bool (decide (a<b))) else none
 | .leq,.int k a,.int k' b=>if k=k' then some (.bool (decide (a≤b))) else none
 | .gtr,.int k a,.int k' b=>if k=k' then some (.bool (decide (a > b))) else none
 | .geq,.int k a,.int k' b=>if k=k' then some (.bool (decide (a ≥ b))) else none
 | .add,.string a,.string b=>if ((a.size+b.size:Nat):Int) > IntKind.i64.max then none else some (.string (a++b))
 | .eql,.string a,.string b=>some (.bool (a.toList == b.toList))
 | .neq,.string a,.string b=>some (.bool (!(a.toList == b.toList)))
 | o,x,y=>fltV o x y
def unV:UnOp→Value→Option Value
 | .neg,.int k n=>some (.int k (k.wrap (0 - n)))
 | .xor,.int k n=>some (.int k (intBitsV .xor k (if k.signed then -1 else k.max) n))
 | .not,.bool b=>some (.bool !b)
 | .neg,.float .f64 a=>some (.float .f64 (Fl.neg a))
 | _,_=>none
def byteAV (b:UInt8):AV := .v (.int .u8 b.toNat)
def AV.plain:AV→Bool
 | .v x=>x.oneCell'
 | .ag _ | .sl _ _ | .ro _=>true
 | _=>false
def partAV (cs:List AV) (o n:Nat) (agg:Bool):Option AV :=
 if agg then (if o+n≤cs.length then some (.ag ((cs.drop o).take n)) else none) else cs[o]?
def partEl (e:AV) (o n:Nat) (agg:Bool):Option AV :=
 match e with
 | .ag cs=>partAV cs o n agg
 | x=>if o=0∧n=1∧agg=false then some x else none
def splice (cs:List AV) (o:Nat) (xs:List AV):List AV:=cs.take o++xs++cs.drop (o+xs.length)
def putEl (e:AV) (o:Nat) (x:AV):Option AV :=
 match e with
 | .ag cs=>if o+x.cells.length≤cs.length then some (.ag (splice cs o x.cells)) else none
 | _=>if o=0∧x.isAg=false then some x else none
def fillAV (z:List AV):List (Nat × Nat)→List AV→Option (List AV)
 | [],[]=>some z
 | (o,n) :: pl,x :: xs=>if x.plain=true∧x.cells.length=n∧o+n≤z.length then fillAV (splice z o x.cells) pl xs else none
 | _,_=>none
def minI (a b:Int):Int:=if b<a then b else a
def maxI (a b:Int):Int:=if a<b then b else a
def CS.ins (c:CS) (vs:List AV):List AV :=
 match c.ref with
 | some (i,_)=>(vs.take c.n).set i (vs.getD (c.n+(c.new.map (·.2)).toList.length) .dead)
 | none=>vs.take c.n
def CS.main (c:CS) (outs:List AV):AV :=
 if c.nres=1 then (if c.new.isSome then .pt else outs.headD .dead)
 else .tu ((outs.take c.nres).mapIdx fun i x=>if c.new.any (·.1 == i) then .pt else x)
def nilAt (cs:List AV):List (Nat × (Nat × Nat))→List AV
 | []=>cs
 | t :: ts=>(nilAt cs ts).set t.1 (.sl t.2.2 [])
abbrev AV.nil:AV := .v (.slice none 0 0)
def CS.dg (c:CS):Gh:=if c.nres=1 then (match c.new,c.own with | some (_,m),_=>Gh.ptr m 0 | none,[(0,k,s)] => .tip k s | none,_ => .no) else .tup c.own c.new
section
variable (E:Env)
def sem (k:K) (vs ws:List AV):Prop :=
 match k with
 | .mv=>match vs with
  | [x]=>ws=[x]
  | _=>False
 | .pick=>match vs with
  | [.v (.bool b),x,y]=>ws=[if b then x else y]
  | _=>False
 | .bin o=>match vs with
  | [.v a,.v b]=>∃x,binV o a b=some x∧ws=[.v x]
  | _=>False
 | .be neg=>match vs with
  | [.v (.bool a),.v (.bool b)]=>ws=[.v (.bool (if neg then !(a == b) else a == b))]
  | _=>False
 | .un o=>match vs with
  | [.v a]=>∃x,unV o a=some x∧ws=[.v x]
  | _=>False
 | .ci k=>match vs with
  | [.v (.int _ n)]=>ws=[.v (.int k (k.wrap n))]
  | _=>False
 | .cs=>match vs with
  | [.v (.string b)]=>ws=[.v (.string b)]
  | _=>False
 | .sb=>match vs with
  | [.v (.string b)]=>b.data.toList.length≤maxLen∧ws=[.sl 1 (b.data.toList.map byteAV)]
  | _=>False
 | .sbt _=>match vs with
  | [.v (.string b),_]=>b.data.toList.length≤maxLen∧ws=[.sl 1 (b.data.toList.map byteAV),.dead]
  | _=>False
 | .bs=>match vs with
  | [.sl s es]=>∃l:List UInt8,s=1∧es=l.map byteAV∧ws=[.v (.string ⟨⟨l⟩⟩)]
  | _=>False
 | .len=>match vs with
  | [.sl _ es]=>ws=[.v (.int .i64 es.length)]
  | _=>False
 | .lns=>match vs with
  | [.v (.string b)]=>ws=[.v (.int .i64 b.data.toList.length)]
  | _=>False
 | .mn=>match vs with
  | [.v (.int k a),.v (.int _ b)]=>ws=[.v (.int k (minI a b))]
  | _=>False
 | .mx=>match vs with
  | [.v (.int k a),.v (.int _ b)]=>ws=[.v (.int k (maxI a b))]
  | _=>False
 | .ix s=>match vs with
  | [.sl s' es,.v (.int _ i)]=>∃x,s=s'∧0≤i∧es[i.toNat]?=some x∧ws=[.ro x]
  | _=>False
 | .si=>match vs with
  | [.v (.string b),.v (.int _ i)]=>∃x,0≤i∧b.data.toList[i.toNat]?=some x∧ws=[byteAV x]
  | _=>False
 | .ai n s agg=>match vs with
  | [.ag cs,.v (.int _ i)]=>∃x,0≤i∧i<n∧partAV cs (i.toNat * s) s agg=some x∧ws=[x]
  | _=>False
 | .fe o n agg=>match vs with
  | [.ag cs]=>∃x,partAV cs o n agg=some x∧ws=[x]
  | _=>False
 | .sc s true true=>match vs with
  | [.sl s' es,.v (.int _ l),.v (.int _ h)]=>s=s'∧0≤l∧l≤h∧h≤es.length∧ws=[.sl s ((es.take h.toNat).drop l.toNat)]
  | _=>False
 | .sc s true false=>match vs with
  | [.sl s' es,.v (.int _ l)]=>s=s'∧0≤l∧l≤es.length∧ws=[.sl s (es.drop l.toNat)]
  | _=>False
 | .sc s false true=>match vs with
  | [.sl s' es,.v (.int _ h)]=>s=s'∧0≤h∧h≤es.length∧ws=[.sl s (es.take h.toNat)]
  | _=>False
 | .sc s false false=>match vs with
  | [.sl s' es]=>s=s'∧ws=[.sl s es]
  | _=>False
 | .ss true true=>match vs with
  | [.v (.string b),.v (.int _ l),.v (.int _ h)]=>0≤l∧l≤h∧h≤b.data.toList.length∧ws=[.v (.string ⟨⟨(b.data.toList.take h.toNat).drop l.toNat⟩⟩)]
  | _=>False
 | .ss true false=>match vs with
  | [.v (.string b),.v (.int _ l)]=>0≤l∧l≤b.data.toList.length∧ws=[.v (.string ⟨⟨b.data.toList.drop l.toNat⟩⟩)]
  | _=>False
 | .ss false true=>match vs with
  | [.v (.string b),.v (.int _ h)]=>0≤h∧h≤b.data.toList.length∧ws=[.v (.string ⟨⟨b.data.toList.take h.toNat⟩⟩)]
  | _=>False
 | .ss false false=>match vs with
  | [.v (.string b)]=>ws=[.v (.string b)]
  | _=>False
 | .bl s n=>vs.length=n∧(∀x∈vs,x.plain=true∧x.cells.length=s)∧ws=[.sl s vs]
 | .blt s n _=>vs.length=n+1∧(∀x∈vs.take n,x.plain=true∧x.cells.length=s)∧ws=[.sl s (vs.take n),.dead]
 | .bd z pl=>∃cs,fillAV z pl vs=some cs∧ws=[.ag cs]
 | .al _ z ts=>ws = .pt :: .ag z :: ts.map fun _ => .dead
 | .bx _=>match vs with
  | [x,_]=>x.plain=true∧ws=[.pt,.ag x.cells]
  | _=>False
 | .ld _ o n agg=>match vs with
  | [.pt,.ag cs]=>∃x,partAV cs o n agg=some x∧ws=[x]
  | _=>False
 | .st _ o n=>match vs with
  | [.pt,.ag cs,x]=>x.plain=true∧x.cells.length=n∧o+n≤cs.length∧ws=[.ag (splice cs o x.cells)]
  | _=>False
 | .lr n agg=>match vs with
  | [.ro x]=>x.isAg=agg∧x.cells.length=n∧ws=[x]
  | _=>False
 | .fa _ _ _=>match vs with
  | [.pt]=>ws=[.pt]
  | _=>False
 | .fr o n agg=>match vs with
  | [.ro (.ag cs)]=>∃x,partAV cs o n agg=some x∧ws=[.ro x]
  | _=>False
 | .nc _ _=>match vs with
  | [.pt]=>ws=[.pt]
  | _=>False
 | .ncr=>match vs with
  | [.ro x]=>ws=[.ro x]
  | _=>False
 | .ex i=>match vs with
  | [.tu vs]=>∃x,vs[i]?=some x∧ws=[x]
  | _=>False
 | .ap _ _ s by_=>match vs with
  | [.sl s' es,.sl s'' fs,_,_]=>s'=s∧s''=s∧(∀x∈fs,x.cells.length=s)∧es.length+fs.length≤maxLen∧(es.length+fs.length) * by_≤140737488355328∧ws=[.sl s (es++fs),.dead,.dead]
  | _=>False
 | .aps _ _ by_=>match vs with
  | [.sl s' es,.v (.string b),_,_]=>s'=1∧es.length+b.data.toList.length≤maxLen∧(es.length+b.data.toList.length) * by_≤140737488355328∧ws=[.sl 1 (es++b.data.toList.map byteAV),.dead,.dead]
  | _=>False
 | .an _ s by_=>match vs with
  | [.sl s'' fs,_]=>s''=s∧(∀x∈fs,x.cells.length=s)∧fs.length≤maxLen∧fs.length * by_≤140737488355328∧ws=[.sl s fs,.dead]
  | _=>False
 | .ans _ by_=>match vs with
  | [.v (.string b),_]=>b.data.toList.length≤maxLen∧b.data.toList.length * by_≤140737488355328∧ws=[.sl 1 (b.data.toList.map byteAV),.dead]
  | _=>False
 | .mk _ s by_ z=>match vs with
  | [.v (.int .i64 l),.v (.int .i64 c),_]=>z.plain=true∧z.cells.length=s∧0≤l∧l≤c∧c * by_≤140737488355328∧c≤maxLen∧ws=[.sl s (List.replicate l.toNat z),.dead]
  | _=>False
 | .nl _ s=>match vs with
  | [_]=>ws=[.sl s [],.dead]
  | _=>False
 | .pss _=>match vs with
  | [.v (.string b),_]=>b.data.toList.length≤maxLen∧ws=[.pt,.sl 1 (b.data.toList.map byteAV)]
  | _=>False
 | .pln _=>match vs with
  | [.pt,.sl _ es]=>ws=[.v (.int .i64 es.length)]
  | _=>False
 | .pix _ s=>match vs with
  | [.pt,.v (.int _ i),.sl s' es]=>s'=s∧0≤i∧i.toNat<es.length∧ws=[.el i.toNat s 0]
  | _=>False
 | .pfa _ o=>match vs with
  | [.el i s o']=>ws=[.el i s (o'+o)]
  | _=>False
 | .pld _ s n agg=>match vs with
  | [.el i s' o,.sl s'' es]=>∃e x,s'=s∧s''=s∧es[i]?=some e∧partEl e o n agg=some x∧ws=[x]
  | _=>False
 | .pst _ s n=>match vs with
  | [.el i s' o,.sl s'' es,x]=>∃e e',s'=s∧s''=s∧es[i]?=some e∧x.plain=true∧x.cells.length=n∧putEl e o x=some e'∧ws=[.sl s (es.set i e')]
  | _=>False
 | .pfz _ s=>match vs with
  | [.pt,.sl s' es]=>s'=s∧ws=[.sl s es,.sl s es,.dead]
  | _=>False
 | .pcall f n nres i _ s=>∃es outs,vs[n]?=some (.sl s es)∧vs[i]?=some .pt∧(E.fs f).G ((vs.take n).set i (.sl s es)) outs∧outs.length=nres∧ws=[if nres=1 then outs.headD .dead else .tu outs]
 | .pcaln f _ nres i s=>∃outs,vs[i]?=some (.sl s [])∧(E.fs f).G vs outs∧outs.length=nres∧ws=[if nres=1 then outs.headD .dead else .tu outs]
 | .ppa _ _ s by_=>match vs with
  | [.pt,.sl s'' fs,.sl s' es,_]=>s'=s∧s''=s∧es.length+fs.length≤maxLen∧(es.length+fs.length) * by_≤140737488355328∧ws=[.pt,.sl s es,.sl s (es++fs)]
  | _=>False
 | .pnl _=>match vs with
  | [.pt,.sl _ []]=>ws=[.ab]
  | [.pt,.sl _ (_ :: _)]=>ws=[.v (.bool false)]
  | _=>False
 | .apq _ _ _ s by_=>match vs with
  | [.sl s' es,.pt,_,_,.sl s'' fs]=>s'=s∧s''=s∧es.length+fs.length≤maxLen∧(es.length+fs.length) * by_≤140737488355328∧ws=[.sl s (es++fs),.dead,.dead]
  | _=>False
 | .apv _ _ s by_=>match vs with
  | [.sl s' [],.sl s'' fs,_,_]=>s'=s∧s''=s∧(∀x∈fs,x.cells.length=s)∧fs.length≤maxLen∧fs.length * by_≤140737488355328∧ws=[.pt,.dead,.sl s fs]
  | _=>False
 | .mvz _ s=>match vs with
  | [x,.pt,.sl s' es]=>s'=s∧ws=[x,.sl s es,.dead]
  | _=>False
 | .stp _ o=>match vs with
  | [.pt,.ag cs,.pt]=>o+1≤cs.length∧ws=[.ag (splice cs o [.pt])]
  | _=>False
 | .ldz _ o n c _ s=>match vs with
  | [.pt,.ag cs,.sl s' es]=>∃x,s'=s∧c<cs.length∧partAV (cs.set c (.sl s es)) o n true=some x∧ws=[x,.ag (cs.set c (.sl s es)),.dead]
  | _=>False
 | .rl=>match vs with
  | [.v (.complex k a _)]=>ws=[.v (.float k a)]
  | _=>False
 | .im=>match vs with
  | [.v (.complex k _ b)]=>ws=[.v (.float k b)]
  | _=>False
 | .cx=>match vs with
  | [.v (.float .f64 a),.v (.float .f64 b)]=>ws=[.v (.complex .f64 a b)]
  | _=>False
 | .cf=>match vs with
  | [.v (.int _ n)]=>ws=[.v (.float .f64 (Fl.ofInt n))]
  | _=>False
 | .fc=>match vs with
  | [.v (.float .f64 b)]=>Fl.toIntOK b=true∧ws=[.v (.int .i64 (Fl.toInt b))]
  | _=>False
 | .xtr=>match vs with
  | [.v (.float .f64 b)]=>Fl.num b=true∧ws=[.v (.float .f64 (Fl.trunc b))]
  | _=>False
 | .mkv _ s by_ z=>match vs with
  | [.v (.int .i64 l),.v (.int .i64 c),_]=>z.plain=true∧z.cells.length=s∧0≤l∧l≤c∧c * by_≤140737488355328∧c≤maxLen∧ws=[.pt,.sl s (List.replicate l.toNat z)]
  | _=>False
 | .blv s n _=>vs.length=n+1∧(∀x∈vs.take n,x.plain=true∧x.cells.length=s)∧ws=[.pt,.sl s (vs.take n)]
 | .psl _ _ s=>match vs with
  | [.pt,.v (.int _ i),.sl s' es,_]=>s'=s∧0≤i∧i.toNat≤es.length∧ws=[.pt,.dead,.sl s (es.take i.toNat)]
  | _=>False
 | .ls _ s=>match vs with
  | [.el i s' o,.ag cs,x]=>s'=s∧x.plain=true∧x.cells.length=1∧i * s+o+1≤cs.length∧ws=[.ag (splice cs (i * s+o) x.cells)]
  | _=>False
 | .callv f n _=>∃es,(E.fs f).G (vs.take n) [.sl 1 es]∧(∀e∈es,∃x,e = .v x)∧ws=[.pt,.sl 1 es]
 | .gcall f n nres i _ s=>∃es outs,vs[n]?=some (.sl s es)∧vs[i]?=some .pt∧(E.fs f).G ((vs.take n).set i (.sl s es)) outs∧outs.length=nres∧ws=[if nres=1 then outs.headD .dead else .tu outs,.dead]
 | .gcalv f n i _ _=>∃es fs,vs[n]?=some (.sl 1 es)∧vs[i]?=some .pt∧(E.fs f).G ((vs.take n).set i (.sl 1 es)) [.sl 1 fs]∧(∀e∈fs,∃x,e = .v x)∧ws=[.pt,.dead,.sl 1 fs]
 | .ppv _ _ s by_=>match vs with
  | [.pt,.sl s'' fs,.sl s' es,_]=>s'=s∧s''=s∧(∀x∈fs,x.cells.length=s)∧es.length+fs.length≤maxLen∧(es.length+fs.length) * by_≤140737488355328∧ws=[.pt,.dead,.sl s (es++fs)]
  | _=>False
 | .callq f _ nres=>∃vs' outs,vs = .v (.func (.func f) #[] #[]) :: vs'∧(E.fs f).G vs' outs∧outs.length=nres∧ws=[if nres=1 then outs.headD .dead else .tu outs]
 | .la _ n s=>match vs with
  | [.pt,.v (.int _ i),.ag _]=>0≤i∧i<n∧ws=[.el i.toNat s 0]
  | _=>False
 | .ll _ s=>match vs with
  | [.el i s' o,.ag cs]=>∃x,s'=s∧partAV cs (i * s+o) 1 false=some x∧ws=[x]
  | _=>False
 | .nls=>match vs with
  | [.sl _ []]=>ws=[.ab]
  | [.sl _ (_ :: _)]=>ws=[.v (.bool false)]
  | _=>False
 | .xib=>match vs with
  | [.v (.string b),.v (.int .u8 c)]=>ws=[.v (.int .i64 (Lib.indexByte b.data.toList c.toNat.toUInt8))]
  | _=>False
 | .nev _=>False
 | .rcall f n nres i _=>∃cs outs,vs[n]?=some (.ag cs)∧vs[i]?=some .pt∧(E.fs f).G ((vs.take n).set i (.ro (.ag cs))) outs∧outs.length=nres∧(∀x∈outs,∃y,x = .v y)∧ws=[if nres=1 then outs.headD .dead else .tu outs]
 | .bxt _ ts=>match vs with
  | x :: _=>x.plain=true∧(∀t∈ts,x.cells[t.1]?=some .nil)∧ws = .pt :: .ag (nilAt x.cells ts) :: ts.map fun _ => .dead
  | _=>False
 | .stt _ o n ts=>match vs with
  | .pt :: .ag cs :: x :: _=>x.plain=true∧x.cells.length=n∧o+n≤cs.length∧(∀t∈ts,(splice cs o x.cells)[t.1]?=some .nil)∧ws = .ag (nilAt (splice cs o x.cells) ts) :: ts.map fun _ => .dead
  | _=>False
 | .call f c=>(match c.ref with | some (i,_)=>vs[i]?=some .pt | none=>True)∧∃outs,(E.fs f).G (c.ins vs) outs∧outs.length=c.nres+c.mems.length∧ws=c.main outs :: (outs.drop c.nres++c.lks.map fun _ => .dead)
end
def Gh.strip:Gh→Gh
 | .cl _ | .live _ | .used | .pv _ | .sus _ _ | .pc _ => .no
 | g=>g
def Gh.comp (i:Nat):Gh→Gh
 | .tup ts p=>match ts.find? (fun t=>t.1 == i) with
  | some (_,k,s) => .tip k s
  | none=>match p with
   | some (j,m)=>if j=i then .ptr m 0 else .no
   | none => .no
 | _ => .no
def gsem (k : K) (gs : List Gh) : Option (List Gh) :=
  match k with
  | .mv => match gs with
    | [g] => some [g.strip]
    | _ => none
  | .ex i => match gs with
    | [g] => some [g.comp i]
    | _ => none
  | .sbt k => match gs with
    | [_, .no] => some [.tip k 1, .live 1]
    | _ => none
  | .blt s n k => if gs.drop n = [.no] then some [.tip k s, .live s] else none
  | .al m _ ts => if gs.length = 1 + ts.length ∧ gs.all (· = .no) ∧ (ts.map (·.2.1)).Nodup then some (.ptr m 0 :: .cl ts :: ts.map fun t => .live t.2.2) else none
  | .bx m => match gs with
    | [_, .no] => some [.ptr m 0, .cl []]
    | _ => none
  | .rcall _ n _ i m => match gs[n]? with
    | some (.cl _) => if gs[i]? = some (.ptr m 0) then some [.no] else none
    | _ => none
  | .nev b => some (if b then [.no] else [])
  | .bxt m ts => match gs with
    | _ :: rest => if rest.length = 1 + ts.length ∧ rest.all (· = .no) ∧ (ts.map (·.2.1)).Nodup then some (.ptr m 0 :: .cl ts :: ts.map fun t => .live t.2.2) else none
    | _ => none
  | .stt m o n ts => match gs with
    | .ptr m' o' :: .cl us :: _ :: rest => if m = m' ∧ o = o' ∧ rest.length = ts.length ∧ rest.all (· = .no) ∧ (ts.map (·.2.1)).Nodup then some (.cl (us.filter (fun t => t.1 < o || o + n ≤ t.1) ++ ts) :: ts.map fun t => .live t.2.2) else none
    | _ => none
  | .ld m o _ agg => match gs with
    | [.ptr m' o', .cl ts] => if m = m' ∧ o = o' then some [if agg then .no else match ts.find? (fun t => t.1 == o) with | some (_, k, s) => .tip k s | none => .no] else none
    | _ => none
  | .st m o n => match gs with
    | [.ptr m' o', .cl ts, g] => if m = m' ∧ o = o' then some [.cl (ts.filter (fun t => t.1 < o || o + n ≤ t.1) ++ match g with | .tip k s => if n = 1 then [(o, k, s)] else [] | _ => [])] else none
    | _ => none
  | .fa m o d => match gs with
    | [.ptr m' o'] => if m = m' ∧ o = o' then some [.ptr m (o + d)] else none
    | _ => none
  | .nc m o => match gs with
    | [.ptr m' o'] => if m = m' ∧ o = o' then some [.ptr m o] else none
    | _ => none
  | .ap k d s _ => match gs with
    | [.tip k' s', _, .live s'', .no] => if k = k' ∧ s = s' ∧ s = s'' ∧ k ≠ d then some [.tip d s, .used, .live s] else none
    | _ => none
  | .aps k d _ => match gs with
    | [.tip k' s', _, .live s'', .no] => if k = k' ∧ 1 = s' ∧ 1 = s'' ∧ k ≠ d then some [.tip d 1, .used, .live 1] else none
    | _ => none
  | .an d s _ => match gs with
    | [_, .no] => some [.tip d s, .live s]
    | _ => none
  | .ans d _ => match gs with
    | [_, .no] => some [.tip d 1, .live 1]
    | _ => none
  | .mk d s _ _ => match gs with
    | [_, _, .no] => some [.tip d s, .live s]
    | _ => none
  | .nl d s => match gs with
    | [.no] => some [.tip d s, .live s]
    | _ => none
  | .pss k => match gs with
    | [_, .no] => some [.tip k 1, .pv 1]
    | _ => none
  | .pln k => match gs with
    | [.tip k' _, .pv _] => if k' = k then some [.no] else none
    | _ => none
  | .pix k s => match gs with
    | [.tip k' _, _, .pv s'] => if k' = k ∧ s' = s then some [.pe k] else none
    | _ => none
  | .pfa k _ => match gs with
    | [.pe k'] => if k' = k then some [.pe k] else none
    | _ => none
  | .pld k s _ _ => match gs with
    | [.pe k', .pv s'] => if k' = k ∧ s' = s then some [.no] else none
    | _ => none
  | .pst k s _ => match gs with
    | [.pe k', .pv s', _] => if k' = k ∧ s' = s then some [.pv s] else none
    | _ => none
  | .pfz k s => match gs with
    | [.tip k' _, .pv s'] => if k' = k ∧ s' = s then some [.tip k s, .tip k s, .live s] else none
    | _ => none
  | .pcall _ n _ i k s => if gs[i]? = some (.tip k s) ∧ (gs[n]? = some (.pv s) ∨ gs[n]? = some (.pc s)) then some [.no] else none
  | .mkv k s _ _ => match gs with
    | [_, _, .no] => some [.tip k s, .pv s]
    | _ => none
  | .blv s n k => if gs.drop n = [.no] then some [.tip k s, .pv s] else none
  | .psl k d s => match gs with
    | [.tip k' s', _, .pv s'', .no] => if k' = k ∧ s' = s ∧ s'' = s ∧ k ≠ d then some [.tip d s, .used, .pv s] else none
    | _ => none
  | .ppv k d s _ => match gs with
    | [.tip k' s', _, .pv s'', .no] => if k' = k ∧ s' = s ∧ s'' = s ∧ k ≠ d then some [.tip d s, .used, .pv s] else none
    | _ => none
  | .ls m _ => match gs with
    | [.pm m', .cl ts, _] => if m' = m ∧ ts = [] then some [.cl []] else none
    | _ => none
  | .callv _ n k => if gs.drop n = [.no] then some [.tip k 1, .pv 1] else none
  | .gcall _ n _ i k s => if gs[i]? = some (.tip k s) ∧ gs.drop n = [.pv s] then some [.no, .used] else none
  | .gcalv _ n i k d => if gs[i]? = some (.tip k 1) ∧ gs.drop n = [.pv 1, .no] ∧ k ≠ d then some [.tip d 1, .used, .pv 1] else none
  | .ppa k d s _ => match gs with
    | [.tip k' s', _, .pv s'', .no] => if k' = k ∧ s' = s ∧ s'' = s ∧ k ≠ d then some [.tip d s, .sus (lk d) s, .pc s] else none
    | _ => none
  | .pnl k => match gs with
    | [.tip k' _, .pv _] => if k' = k then some [.no] else none
    | _ => none
  | .apq k d q s _ => match gs with
    | [.tip k' s', .tip q' s1, .live s'', .no, .pv s2] => if k = k' ∧ s = s' ∧ s = s'' ∧ k ≠ d ∧ q' = q ∧ s1 = s ∧ s2 = s then some [.tip d s, .used, .live s] else none
    | _ => none
  | .apv k d s _ => match gs with
    | [.tip k' s', _, .live s'', .no] => if k = k' ∧ s = s' ∧ s = s'' ∧ k ≠ d then some [.tip d s, .used, .pv s] else none
    | _ => none
  | .mvz k s => match gs with
    | [g, .tip k' _, .pv s'] => if k' = k ∧ s' = s then some [g.strip, .tip k s, .live s] else none
    | _ => none
  | .stp m o => match gs with
    | [.ptr m' o', .cl ts, .tip k s] => if m = m' ∧ o = o' then some [.cl (ts.filter (fun t => t.1 < o || o + 1 ≤ t.1) ++ [(o, k, s)])] else none
    | _ => none
  | .ldz m o _ c k s => match gs with
    | [.ptr m' o', .cl ts, .pv s'] => if m = m' ∧ o = o' ∧ s = s' ∧ (c, k, s) ∈ ts then some [.no, .cl ts, .live s] else none
    | _ => none
  | .la m _ s => match gs with
    | [.ptr m' o, _, .cl _] => if m' = m ∧ o = 0 ∧ 0 < s then some [.pm m] else none
    | _ => none
  | .ll m _ => match gs with
    | [.pm m', .cl ts] => if m' = m ∧ ts = [] then some [.no] else none
    | _ => none
  | .call _ c =>
    let rest := gs.drop c.n
    let nm := rest.take (c.new.map (·.2)).toList.length
    let rm := (rest.drop nm.length).take (c.ref.map (·.2)).toList.length
    let ls := rest.drop (nm.length + rm.length)
    if nm.all (· = .no) ∧
       (match c.ref, rm with
        | some (i, m), [.cl ts] => decide (gs[i]? = some (.ptr m 0) ∧ i < c.n ∧ ∀ t ∈ c.tin, t ∈ ts)
        | none, [] => true
        | _, _ => false) = true ∧
       ls = c.tin.map (fun t => Gh.live t.2.2) ++ (c.tout ++ c.own ++ c.tnew).map fun _ => Gh.no
    then some (c.dg :: (c.new.toList.map (fun _ => .cl c.tnew) ++ c.ref.toList.map (fun _ => .cl c.tout) ++ c.tin.map (fun _ => .used) ++ (c.tout ++ c.own ++ c.tnew).map fun t => .live t.2.2)) else none
  | _ => some [.no]
end Go.Eng
namespace Go.Eng
open Go.RowKit
structure Dyn where
 R:Reach
 β:Nat→Nat
 τ:Nat→Value
def GhOK (D:Dyn):Gh→Value→Prop
 | .ptr m o,x=>x = .pointer (some ⟨D.β m,o,none⟩)
 | .tip k _,x=>x=D.τ (lk k)∧x.oneCell'=true
 | .pe k,x=>∃g n cap o,D.τ (lk k) = .slice (some ⟨g,0,none⟩) n cap∧x = .pointer (some ⟨g,o,none⟩)
 | .pm m,x=>∃o,x = .pointer (some ⟨D.β m,o,none⟩)
 | .tup ts p,x=>∃ys:List Value,x = .tuple ⟨ys⟩∧(∀t∈ts,ys[t.1]?=some (D.τ (lk t.2.1))∧(D.τ (lk t.2.1)).oneCell'=true)∧(∀q,p=some q→ys[q.1]?=some (.pointer (some ⟨D.β q.2,0,none⟩)))
 | _,_=>True
abbrev AV.sk:AV := .tu []
def SlotOK (D:Dyn) (w:World) (s:AV) (g:Gh) (x:Value):Prop:=s = .dead∨(Rep D.R w s x∧(s ≠ .sk→GhOK D g x))
def TipOK (R:Reach) (w:World) (x:Value) (s:Nat):Prop :=
 x = .slice none 0 0∨∃g n cap cur e fz,x = .slice (some ⟨g,0,none⟩) n cap∧w.heap[g]?=some (.cells cur e fz)∧(∀o,o<cur.size→¬(fz.1≤o∧o<fz.2))∧cur.size=cap * s∧n≤cap∧cap≤maxLen∧∀o,n * s≤o→¬R g o
def PrivOK (R:Reach) (w:World) (v:Value) (s:Nat) (x:AV):Prop :=
 (∀g,v.ownBlock=some g→∀o,¬R g o)∧(x = .dead∨∃es,x = .sl s es∧(∀e∈es,e.cells.length=s) ∧
  ((es=[]∧v = .slice none 0 0)∨∃g cap cur e fz,v = .slice (some ⟨g,0,none⟩) es.length cap∧w.heap[g]?=some (.cells cur e fz)∧RepL R w (es.flatMap AV.cells) (cur.toList.take (es.length * s))))
def VarAt (R:Reach) (w:World) (x:AV) (b:Nat) (cs:List Value):Prop :=
 ∃elem,w.heap[b]?=some (.cells ⟨cs⟩ elem (0,0))∧(x = .dead∨∃acs,x = .ag acs∧RepL R w acs (cs.take acs.length))∧∀o,¬R b o
structure Ext (w0:World) (R0:Reach) (io:Nat→Prop) (w:World) (R:Reach):Prop where
 os:w.os=w0.os
 tape:w.tape=w0.tape
 output:w.output=w0.output
 size:w0.heap.size≤w.heap.size
 heap:∀b,b<w0.heap.size→¬io b→w.heap[b]?=w0.heap[b]?
 keep:Keeps R0 w0 R w
 rnew:∀b o,R b o→R0 b o∨w0.heap.size≤b∨io b
def blk (D:Dyn) (γ:Ga) (key:Nat):Option Nat :=
 match γ key with
 | .cl _=>some (D.β key)
 | .live _=>(D.τ key).ownBlock
 | .pv _=>(D.τ key).ownBlock
 | .sus _ _=>(D.τ key).ownBlock
 | .pc _=>(D.τ key).ownBlock
 | _=>none
structure Ctx where
 P:Program
 E:Env
 nt:Nat
 w0:World
 R0:Reach
 io:Nat→Prop
 fix:Option Nat
 fixp:Option Value
def Ctx.mine (C:Ctx) (b:Nat):Prop:=C.io b∨C.w0.heap.size≤b
def Gh.isCl:Gh→Bool | .cl _=>true | _=>false
def Gh.isLk:Gh→Bool | .live _=>true | .used=>true | .pv _=>true | .sus _ _=>true | .pc _=>true | _=>false
def Ment (γ:Ga):Gh→Prop
 | .ptr m _=>(γ m).isCl=true
 | .tip k _=>(γ (lk k)).isLk=true
 | .cl ts=>∀t∈ts,(γ (lk t.2.1)).isLk=true
 | .pe k=>(γ (lk k)).isLk=true
 | .pm m=>(γ m).isCl=true
 | .sus d _=>γ d = .used∨∃s,γ d = .pc s
 | .tup ts p=>(∀t∈ts,(γ (lk t.2.1)).isLk=true)∧∀q,p=some q→(γ q.2).isCl=true
 | _=>True
def Gh.isP:Gh→Bool | .pv _=>true | .sus _ _=>true | .pc _=>true | _=>false
def Gh.par:Gh→Option Nat | .sus d _=>some d | _=>none
def Gh.psz:Gh→Option Nat | .pv s=>some s | .sus _ s=>some s | .pc s=>some s | _=>none
def PreAt (σ:Sg) (γ:Ga) (key:Nat):Prop:=∀d s s',γ key = .sus d s→γ d = .pc s'→σ key = .dead∨σ d = .dead∨∃es more,σ key = .sl s es∧σ d = .sl s (es++more)
def PSOK (D:Dyn) (σ:Sg) (γ:Ga) (w:World):Prop :=
 ∀key s,(γ key).psz=some s→TipOK D.R w (D.τ key) s∧PrivOK D.R w (D.τ key) s (σ key)∧PreAt σ γ key
def FixOK (C:Ctx) (D:Dyn) (γ:Ga):Prop:=(∀b,C.fix=some b→D.β 999999=b)∧∀v,C.fixp=some v→(γ (lk 999999)).isP=true∧D.τ (lk 999999)=v
theorem FixOK.of {C:Ctx} {D D':Dyn} {γ γ':Ga} (h:FixOK C D γ) (hβ:D'.β 999999=D.β 999999) (hp:(γ (lk 999999)).isP=true→(γ' (lk 999999)).isP=true∧D'.τ (lk 999999)=D.τ (lk 999999)):FixOK C D' γ' :=
 ⟨fun b hb=>hβ.trans (h.1 b hb),fun v hv=>by
  obtain ⟨h1,h2⟩:=h.2 v hv
  obtain ⟨h3,h4⟩:=hp h1
  exact ⟨h3,h4.trans h2⟩⟩
theorem FixOK.upd {C:Ctx} {D D':Dyn} {γ:Ga} {k:Nat} {g:Gh} (h:FixOK C D γ) (hk:(γ k).isP=false) (hβ:D'.β 999999=D.β 999999) (hτ:D'.τ (lk 999999)=D.τ (lk 999999)):FixOK C D' (Eng.upd γ k g) :=
 h.of hβ fun hp=>by
  have:lk 999999≠k:=fun e=>by rw [e,hk] at hp;cases hp
  unfold Eng.upd
  rw [if_neg this]
  exact ⟨hp,hτ⟩
structure Sim (C:Ctx) (D:Dyn) (σ:Sg) (γ:Ga) (a:Act) (w:World):Prop where
 size:a.tmps.size=C.nt
 defers:a.defers=[]
 ntlt:C.nt≤1000000
 rng:∀m,(γ m).isCl=true→C.nt≤m∧m<1000000
 lrng:∀m,(γ m).isLk=true→1000000≤m
 slot:∀t,t<C.nt→SlotOK D w (σ t) (γ t) (a.tmps.getD t undef)
 mem:∀m ts,γ m = .cl ts→∃cs,VarAt D.R w (σ m) (D.β m) cs∧∀t∈ts,cs[t.1]?=some (D.τ (lk t.2.1))
 tip:∀key s,γ key = .live s→TipOK D.R w (D.τ key) s
 ps:PSOK D σ γ w
 sep:∀key key' g,blk D γ key=some g→blk D γ key'=some g→key=key'∨(γ key).par=some key'∨(γ key').par=some key
 own:∀key g,blk D γ key=some g→C.mine g
 inv:∀key,Ment γ (γ key)
 ext:Ext C.w0 C.R0 C.io w D.R
 rlt:∀b o,D.R b o→b<w.heap.size
 gl:∀n,Rep D.R w (C.E.gl n) (.pointer (some ⟨n,0,none⟩))
 fix:FixOK C D γ
def ArgsOK (g:FSig) (R:Reach) (w:World) (ins:List AV) (xs:List Value):Prop :=
 match g.ref with
 | none=>RepT R w ins xs
 | some i=>∃(b:Nat) (cs:List Value) (x:AV) (tv:List Value),xs[i]?=some (.pointer (some ⟨b,0,none⟩))∧ins[i]?=some x∧VarAt R w x b cs∧RepT R w (ins.set i .pt) xs ∧
   tv.length=g.tips.length∧(∀(p:Nat) (t:Nat × Nat) (v:Value),g.tips[p]?=some t→tv[p]?=some v→cs[t.1]?=some v∧TipOK R w v t.2) ∧
   (∀(p q h:Nat),(some b :: tv.map Value.ownBlock)[p]?=some (some h)→(some b :: tv.map Value.ownBlock)[q]?=some (some h)→p=q)
def ioOf (g:FSig) (w:World) (xs:List Value) (c:Nat):Prop :=
 match g.ref with
 | none=>False
 | some i=>∃(b:Nat) (cs:List Value) (elem:TypeId),xs[i]?=some (.pointer (some ⟨b,0,none⟩))∧w.heap[b]?=some (.cells ⟨cs⟩ elem (0,0))∧(c=b∨∃t∈g.tips,∃v,cs[t.1]?=some v∧v.ownBlock=some c)
def owners (g:FSig) (bn br:Nat) (tv:List Value):List (Option Nat) :=
 (if g.new.isSome then [some bn] else [])++(if g.ref.isSome then [some br] else [])++tv.map Value.ownBlock
def OutOK (g:FSig) (R:Reach) (w:World) (mine:Nat→Prop) (xs:List Value) (outs:List AV) (x:Value):Prop :=
 ∃(rvs tr to_ tn:List Value) (bn br:Nat) (cn cr:List Value),
  rvs.length=g.nres∧x=(if g.nres=1 then rvs.headD undef else .tuple ⟨rvs⟩) ∧
  outs.length=g.nres+(if g.new.isSome then 1 else 0)+(if g.ref.isSome then 1 else 0) ∧
  RepT R w ((outs.take g.nres).mapIdx fun i y=>if g.new=some i then .pt else y) rvs ∧
  (∀j,g.new=some j→rvs[j]?=some (.pointer (some ⟨bn,0,none⟩))∧VarAt R w (outs.getD g.nres .dead) bn cn) ∧
  (∀i,g.ref=some i→xs[i]?=some (.pointer (some ⟨br,0,none⟩))∧VarAt R w (outs.getD (g.nres+(if g.new.isSome then 1 else 0)) .dead) br cr) ∧
  tr.length=g.tips.length∧to_.length=g.own.length∧tn.length=g.tnew.length ∧
  (∀(p:Nat) (t:Nat × Nat) (v:Value),g.tips[p]?=some t→tr[p]?=some v→cr[t.1]?=some v) ∧
  (∀(p:Nat) (t:Nat × Nat) (v:Value),g.own[p]?=some t→to_[p]?=some v→rvs[t.1]?=some v) ∧
  (∀(p:Nat) (t:Nat × Nat) (v:Value),g.tnew[p]?=some t→tn[p]?=some v→cn[t.1]?=some v) ∧
  (∀(p:Nat) (t:Nat × Nat) (v:Value),(g.tips++g.own++g.tnew)[p]?=some t→(tr++to_++tn)[p]?=some v→TipOK R w v t.2) ∧
  (∀(p q h:Nat),(owners g bn br (tr++to_++tn))[p]?=some (some h)→(owners g bn br (tr++to_++tn))[q]?=some (some h)→p=q) ∧
  (∀h,some h∈owners g bn br (tr++to_++tn)→mine h)
def SpecN (P:Program) (gl:Nat→AV) (f:Nat) (S:FS):Prop :=
 ∀(w:World) (R:Reach) (ins outs:List AV) (xs:List Value),S.G ins outs→(∀b o,R b o→b<w.heap.size) →
  (∀n,Rep R w (gl n) (.pointer (some ⟨n,0,none⟩)))→ArgsOK S.sg R w ins xs →
  Calls P f ⟨xs⟩ w fun e w'=>∃x R',e = .returned x∧Ext w R (ioOf S.sg w xs) w' R'∧(∀b o,R' b o→b<w'.heap.size) ∧
   OutOK S.sg R' w' (fun b=>ioOf S.sg w xs b∨w.heap.size≤b) xs outs x
def SpecP (P:Program) (gl:Nat→AV) (f:Nat) (S:FS) (i s:Nat):Prop :=
 ∀(w:World) (R:Reach) (ins outs:List AV) (xs:List Value) (v:Value) (es:List AV),S.G ins outs→(∀b o,R b o→b<w.heap.size) →
  (∀n,Rep R w (gl n) (.pointer (some ⟨n,0,none⟩)))→xs[i]?=some v→ins[i]?=some (.sl s es)→TipOK R w v s→PrivOK R w v s (.sl s es)→RepT R w (ins.set i .pt) xs →
  Calls P f ⟨xs⟩ w fun e w'=>∃x R' rvs,e = .returned x∧Ext w R (fun c=>v.ownBlock=some c) w' R'∧(∀b o,R' b o→b<w'.heap.size) ∧
   rvs.length=S.sg.nres∧x=(if S.sg.nres=1 then rvs.headD undef else .tuple ⟨rvs⟩)∧RepT R' w' outs rvs∧TipOK R' w' v s∧PrivOK R' w' v s (.sl s es)
def SpecC (P:Program) (gl:Nat→AV) (f:Nat) (S:FS) (i s:Nat):Prop :=
 ∀(w:World) (R:Reach) (ins outs:List AV) (xs:List Value) (v:Value) (es:List AV),S.G ins outs→(∀b o,R b o→b<w.heap.size) →
  (∀n,Rep R w (gl n) (.pointer (some ⟨n,0,none⟩)))→xs[i]?=some v→ins[i]?=some (.sl s es)→TipOK R w v s→PrivOK R w v s (.sl s es)→RepT R w (ins.set i .pt) xs →
  Calls P f ⟨xs⟩ w fun e w'=>∃x R',e = .returned x∧Ext w R (fun c=>v.ownBlock=some c) w' R'∧(∀b o,R' b o→b<w'.heap.size) ∧
   OutOK S.sg R' w' (fun b=>v.ownBlock=some b∨w.heap.size≤b) xs outs x
def SpecOK (P:Program) (gl:Nat→AV) (f:Nat) (S:FS):Prop :=
 (S.sg.ps=none→SpecN P gl f S)∧∀i s,S.sg.ps=some (i,s)→(i<1000→SpecP P gl f S i s)∧(1000≤i→SpecC P gl f S (i - 1000) s)
inductive MX where
 | normal
 | exit (id:Nat)
 | ret
def guardV (σ:Sg):Option (Nat × Bool)→Option Bool
 | none=>some true
 | some (t,b)=>match σ t with
  | .v (.bool x)=>some (x == b)
  | .tu []=>some false
  | _=>none
def stepS (E:Env) (m:MOp) (σ σ':Sg):Prop :=
 ∃ws,(match guardV σ m.gd with
  | some true=>sem E m.k (m.rs.map (Opd.ev E σ)) ws
  | some false=>ws=m.ds.map fun _ => .sk
  | none=>False)∧ws.length=m.ds.length∧σ'=updL σ m.ds ws
def runS (E:Env):List MOp→Sg→Sg→Prop
 | [],σ,σ'=>σ'=σ
 | m :: ms,σ,σ'=>∃σ1,stepS E m σ σ1∧runS E ms σ1 σ'
def head (keep:List Nat) (vals:List AV):Sg:=updL (fun _ => .dead) keep vals
def Agr (σ:Sg):List Nat→List AV→Prop
 | [],[]=>True
 | k :: ks,v :: vs=>σ k=v∧Agr σ ks vs
 | _,_=>False
def Le (σ' σ:Sg):Prop:=∀k,σ' k=σ k∨σ' k = .dead
def swJ (k k' j:Nat):Nat:=if j=lk k then lk k' else if j=lk k' then lk k else j
def swN (k k' j:Nat):Nat:=if j=k then k' else if j=k' then k else j
def swGh (k k':Nat):Gh→Gh
 | .tip j s => .tip (swN k k' j) s
 | .cl ts => .cl (ts.map fun t=>(t.1,(swN k k' t.2.1,t.2.2)))
 | .pe j => .pe (swN k k' j)
 | .sus d s => .sus (swJ k k' d) s
 | .tup ts p => .tup (ts.map fun t=>(t.1,(swN k k' t.2.1,t.2.2))) p
 | g=>g
def swS {X:Type} (k k':Nat) (σ:Nat→X):Nat→X:=fun j=>σ (swJ k k' j)
def wpm (E:Env):M→(MX→Sg→Prop)→Sg→Prop
 | .skip,Q,σ=>Q .normal σ
 | .reg ms,Q,σ=>∃σ',runS E ms σ σ'∧Q .normal σ'
 | .seq a b,Q,σ=>wpm E a (fun e σ'=>match e with | .normal=>∃σ2,Le σ2 σ'∧wpm E b Q σ2 | e=>Q e σ') σ
 | .cond x _ a b,Q,σ=>(∃t,x.ev E σ = .v (.bool t)∧(t=true→wpm E a Q σ)∧(t=false→wpm E b Q σ))∨(x.ev E σ = .ab∧wpm E a Q σ∧wpm E b Q σ)
 | .block id _ b,Q,σ=>wpm E b (fun e σ'=>match e with | .exit j=>if j=id then Q .normal σ' else Q (.exit j) σ' | e=>Q e σ') σ
 | .loop keep _ b,Q,σ=>∃(ι:Type) (vals:ι→List AV) (μ:ι→Nat) (i0:ι),Agr σ keep (vals i0) ∧
   ∀i,wpm E b (fun e σ'=>match e with | .normal=>∃j,μ j<μ i∧Agr σ' keep (vals j) | e=>Q e σ') (head keep (vals i))
 | .exit id,Q,σ=>Q (.exit id) σ
 | .ret,Q,σ=>Q .ret σ
 | .sw k k' b,Q,σ=>wpm E b (fun e σ'=>match e with | .normal=>Q .normal (swS k k' σ') | e=>Q e σ') σ
 | .sco b,Q,σ=>wpm E b Q σ
 | .scp b,Q,σ=>wpm E b Q σ
 | .lab l keep _ r b,Q,σ=>∃(ι:Type) (vals:ι→List AV) (μ:ι→Nat),
   wpm E b (fun e σ'=>match e with | .exit j=>if j=gid l then ∃i,Agr σ' keep (vals i) else Q (.exit j) σ' | e=>Q e σ') σ ∧
   ∀i,wpm E r (fun e σ'=>match e with | .exit j=>if j=gid l then ∃k,μ k<μ i∧Agr σ' keep (vals k) else Q (.exit j) σ' | e=>Q e σ') (head keep (vals i))
abbrev GL:=List (Nat × Gh)
def GL.get (G:GL) (k:Nat):Gh:=match G with
 | [] => .no
 | (j,g) :: r=>if k=j then g else GL.get r k
def GL.updL:GL→List Nat→List Gh→GL
 | G,t :: ts,x :: xs=>(t,x) :: GL.updL G ts xs
 | G,_,_=>G
def swGL (k k':Nat) (G:GL):GL:=G.map fun p=>(swJ k k' p.1,swGh k k' p.2)
def sameV:Value→Value→Bool
 | .bool a,.bool b=>a == b
 | .int j a,.int k b=>j == k&&a == b
 | .float j a,.float k b=>j == k&&a == b
 | .complex j a b,.complex k c d=>j == k&&a == c&&b == d
 | .string a,.string b=>a.data.toList == b.data.toList
 | .func (.func f) a b,.func (.func g) c d=>f == g&&a.isEmpty&&b.isEmpty&&c.isEmpty&&d.isEmpty
 | .nilFunc,.nilFunc=>true
 | .nilIface,.nilIface=>true
 | .pointer none,.pointer none=>true
 | _,_=>false
def constCell (x:Value) (y:AV):Bool :=
 match x,y with
 | .slice none 0 0,.sl _ []=>true
 | .slice none 0 0,.v (.slice none 0 0)=>true
 | .slice none 0 0,_=>false
 | x,.v z=>sameV x z
 | _,_=>false
def constCells:List Value→List AV→Bool
 | [],[]=>true
 | x :: xs,y :: ys=>constCell x y&&constCells xs ys
 | _,_=>false
def constOK:Value→AV→Bool
 | .agg cs,.ag ys=>constCells cs.toList ys
 | .agg _,_=>false
 | x,y=>constCell x y
def opdOK:Operand→Opd→Bool
 | .tmp t,.s u=>t == u
 | .const v,.c x=>constOK v x
 | .func f,.c (.v (.func (.func g) a b))=>f == g&&a.isEmpty&&b.isEmpty
 | .global g,.g n=>g == n
 | _,_=>false
def opdsOK:List Operand→List Opd→Bool
 | [],[]=>true
 | x :: xs,y :: ys=>opdOK x y&&opdsOK xs ys
 | _,_=>false
section
variable (P:Program)
def isAggT (t:TypeId):Option Bool:=(P.underlying t).map fun d=>match d with | .struct _=>true | .array _ _=>true | _=>false
def sizeT (t:TypeId):Option Nat:=(P.info? t).map (·.size)
def elemT (t:TypeId):Option TypeId:=(P.underlying t).bind fun d=>match d with | .slice e=>some e | _=>none
def fieldT (t:TypeId) (f:Nat):Option Field:=(P.underlying t).bind fun d=>match d with | .struct fs=>fs[f]? | _=>none
def shapeOK (t:TypeId) (n:Nat) (agg:Bool):Bool:=sizeT P t == some n&&isAggT P t == some agg&&(agg || n == 1)
def zeroOK (t:TypeId) (z:List AV):Bool:=((P.info? t).bind (·.zero)).any fun v=>constCells v.cells.toList z
def isIntT (t:TypeId) (k:IntKind):Bool:=match P.underlying t with | some (.int j)=>j == k | _=>false
def isBoolT (t:TypeId):Bool:=match P.underlying t with | some .bool=>true | _=>false
def isStrT (t:TypeId):Bool:=match P.underlying t with | some .string=>true | _=>false
def sliceOK (t:TypeId) (s b:Nat):Bool:=(elemT P t).any fun e=>(P.info? e).any (fun i=>i.size == s&&i.bytes == b&&i.zero.any fun z=>z.cells.size == s)&&decide (0<s)
def sliceOK' (t:TypeId) (s:Nat):Bool:=(elemT P t).any fun e=>sizeT P e == some s&&decide (0<s)
def sliceOKz (t:TypeId) (s:Nat):Bool:=(elemT P t).any fun e=>(P.info? e).any (fun i=>i.size == s&&i.zero.isSome)&&decide (0<s)
def isByteSl (t:TypeId):Bool:=(elemT P t).any fun e=>isIntT P e .u8
def fieldsSized (t:TypeId):Bool:=match P.underlying t with
 | some (.struct fs)=>fs.toList.all fun f=>(sizeT P f.type).isSome
 | some (.array _ e)=>(sizeT P e).isSome
 | _=>false
def placesOK (t:TypeId) (pl:List (Nat × Nat)) (parts:List (Nat × Operand)):Bool :=
 fieldsSized P t&&pl.length == parts.length&&(pl.zip parts).all fun (q,p) =>
  match P.underlying t with
  | some (.struct fs)=>(fs[p.1]?).any fun f=>f.offset == q.1&&sizeT P f.type == some q.2
  | some (.array _ e)=>sizeT P e == some q.2&&p.1 * q.2 == q.1
  | _=>false
def plainFn (f:Nat):Bool:=(P.funcs[f]?).any fun fn=>fn.body.isSome&&!(fn.name == "runtime.NumGoroutine")
def ibName:String:=((Extern.BytealgIndexByte.rows[1]?).map Prod.fst).getD ""
def externFn (f:Nat) (nm:String):Bool:=(P.funcs[f]?).any fun fn=>fn.name == nm&&fn.body.isNone&&(fn.origin == "" || fn.origin == nm)
def opOK (sg:Nat→FSig) (o:Oper) (m:MOp):Bool :=
 match m.k with
 | .mv=>match o.op,m.rs with
  | .move x,rs=>opdsOK [x] rs
  | .assign x,rs=>opdsOK [x] rs
  | _,_=>false
 | .nl _ _=>match o.op,m.rs with
  | .move (.const (.slice none 0 0)),[_]=>true
  | .assign (.const (.slice none 0 0)),[_]=>true
  | _,_=>false
 | .pick=>match o.op,m.rs with
  | .pick c a b,rs=>opdsOK [c,a,b] rs
  | _,_=>false
 | .bin b=>match o.op,m.rs with
  | .binOp b' _ x y _,rs=>b == b'&&opdsOK [x,y] rs
  | _,_=>false
 | .be neg=>match o.op,m.rs with
  | .binOp o' t x y _,rs=>isBoolT P t&&o' == (if neg then .neq else .eql)&&opdsOK [x,y] rs
  | _,_=>false
 | .un b=>match o.op,m.rs with
  | .unOp b' _ x,rs=>b == b'&&opdsOK [x] rs
  | _,_=>false
 | .ci k=>match o.op,m.rs with
  | .convert s d x,rs=>isIntT P d k&&(P.underlying s).isSome&&opdsOK [x] rs
  | _,_=>false
 | .cs=>match o.op,m.rs with
  | .convert s d x,rs=>isStrT P s&&isStrT P d&&opdsOK [x] rs
  | _,_=>false
 | .sb=>match o.op,m.rs with
  | .convert s d x,rs=>isStrT P s&&isByteSl P d&&opdsOK [x] rs
  | _,_=>false
 | .sbt _=>match o.op,m.rs with
  | .convert s d x,r :: _=>isStrT P s&&isByteSl P d&&opdOK x r
  | _,_=>false
 | .bs=>match o.op,m.rs with
  | .convert s d x,rs=>isByteSl P s&&isStrT P d&&opdsOK [x] rs
  | _,_=>false
 | .len=>match o.op,m.rs with
  | .call { callee := .builtin .len,args,argTypes },rs=>argTypes.toList.length == 1&&argTypes.toList.all (fun t=>(elemT P t).isSome)&&args.toList.length == 1&&opdsOK args.toList rs
  | _,_=>false
 | .lns=>match o.op,m.rs with
  | .call { callee := .builtin .len,args,argTypes },rs=>argTypes.toList.length == 1&&argTypes.toList.all (fun t=>isStrT P t)&&args.toList.length == 1&&opdsOK args.toList rs
  | _,_=>false
 | .mn=>match o.op,m.rs with
  | .call { callee := .builtin .min,args,.. },rs=>args.toList.length == 2&&opdsOK args.toList rs
  | _,_=>false
 | .mx=>match o.op,m.rs with
  | .call { callee := .builtin .max,args,.. },rs=>args.toList.length == 2&&opdsOK args.toList rs
  | _,_=>false
 | .ix s=>match o.op,m.rs with
  | .indexAddr t x i,rs=>sliceOK' P t s&&opdsOK [x,i] rs
  | _,_=>false
 | .si=>match o.op,m.rs with
  | .index t x i,rs=>isStrT P t&&opdsOK [x,i] rs
  | _,_=>false
 | .ai n s agg=>match o.op,m.rs with
  | .index t x i,rs=>(match P.underlying t with | some (.array n' e)=>n == n'&&shapeOK P e s agg | _=>false)&&opdsOK [x,i] rs
  | _,_=>false
 | .fe o' n agg=>match o.op,m.rs with
  | .field t x f,rs=>(fieldT P t f).any (fun fl=>fl.offset == o'&&shapeOK P fl.type n agg)&&opdsOK [x] rs
  | _,_=>false
 | .sc s lo hi=>match o.op,m.rs with
  | .slice t x l h none,rs=>sliceOK' P t s&&l.isSome == lo&&h.isSome == hi&&opdsOK (x :: (l.toList++h.toList)) rs
  | _,_=>false
 | .ss lo hi=>match o.op,m.rs with
  | .slice t x l h none,rs=>isStrT P t&&l.isSome == lo&&h.isSome == hi&&opdsOK (x :: (l.toList++h.toList)) rs
  | _,_=>false
 | .bl s n=>match o.op,m.rs with
  | .buildSlice t len parts,rs=>sliceOKz P t s&&len == n&&decide (n * s≤2 ^ 24)&&parts.toList.map (·.1) == List.range n&&opdsOK (parts.toList.map (·.2)) rs
  | _,_=>false
 | .blt s n _=>match o.op,m.rs with
  | .buildSlice t len parts,rs=>sliceOKz P t s&&len == n&&decide (n * s≤2 ^ 24)&&parts.toList.map (·.1) == List.range n&&opdsOK (parts.toList.map (·.2)) (rs.take n)&&rs.length == n+1
  | _,_=>false
 | .bd z pl=>match o.op,m.rs with
  | .build t parts,rs=>zeroOK P t z&&placesOK P t pl parts.toList&&opdsOK (parts.toList.map (·.2)) rs
  | _,_=>false
 | .al _ z ts=>match o.op,m.rs with
  | .alloc t,_=>zeroOK P t z&&ts.all fun q=>match z[q.1]? with | some (.sl _ [])=>true | _=>false
  | _,_=>false
 | .bx _=>match o.op,m.rs with
  | .box _ x,r :: _=>opdOK x r
  | _,_=>false
 | .ld _ _ n agg=>match o.op,m.rs with
  | .load t x,r :: _=>shapeOK P t n agg&&opdOK x r
  | _,_=>false
 | .st _ _ n=>match o.op,m.rs with
  | .store t x v,[p,_,r]=>sizeT P t == some n&&opdOK x p&&opdOK v r
  | _,_=>false
 | .lr n agg=>match o.op,m.rs with
  | .load t x,[r]=>shapeOK P t n agg&&opdOK x r
  | _,_=>false
 | .fa _ _ d=>match o.op,m.rs with
  | .fieldAddr t x f,[r]=>(fieldT P t f).any (fun fl=>fl.offset == d&&(sizeT P fl.type).any (fun n=>decide (0<n)))&&opdOK x r
  | _,_=>false
 | .fr d n agg=>match o.op,m.rs with
  | .fieldAddr t x f,[r]=>(fieldT P t f).any (fun fl=>fl.offset == d&&shapeOK P fl.type n agg&&decide (0<n))&&opdOK x r
  | _,_=>false
 | .nc _ _=>match o.op,m.rs with
  | .nilCheck x,[r]=>opdOK x r
  | _,_=>false
 | .ncr=>match o.op,m.rs with
  | .nilCheck x,[r]=>opdOK x r
  | _,_=>false
 | .ex i=>match o.op,m.rs with
  | .extract x j,[r]=>i == j&&opdOK x r
  | _,_=>false
 | .ap _ _ s b=>match o.op,m.rs with
  | .call { callee := .builtin .append,args,argTypes },[r,q,_,_]=>opdsOK args.toList [r,q]&&argTypes.toList.length == 2&&argTypes.toList.all (fun t=>sliceOK P t s b)
  | _,_=>false
 | .aps _ _ b=>match o.op,m.rs with
  | .call { callee := .builtin .append,args,argTypes },[r,q,_,_]=>opdsOK args.toList [r,q]&&(match argTypes.toList with | [t,u]=>sliceOK P t 1 b&&isByteSl P t&&isStrT P u | _=>false)
  | _,_=>false
 | .an _ s b=>match o.op,m.rs with
  | .call { callee := .builtin .append,args,argTypes },[q,_]=>(match args.toList with | [.const (.slice none 0 0),x]=>opdOK x q | _=>false)&&argTypes.toList.length == 2&&argTypes.toList.all (fun t=>sliceOK P t s b)
  | _,_=>false
 | .ans _ b=>match o.op,m.rs with
  | .call { callee := .builtin .append,args,argTypes },[q,_]=>(match args.toList with | [.const (.slice none 0 0),x]=>opdOK x q | _=>false)&&(match argTypes.toList with | [t,u]=>sliceOK P t 1 b&&isByteSl P t&&isStrT P u | _=>false)
  | _,_=>false
 | .mk _ s b z=>match o.op,m.rs with
  | .makeSlice t l c,[r,q,_]=>sliceOK P t s b&&opdsOK [l,c] [r,q]&&(elemT P t).any (fun e=>zeroOK P e z.cells&&isAggT P e == some z.isAg)
  | _,_=>false
 | .pss _=>match o.op,m.rs with
  | .convert s d x,r :: _=>isStrT P s&&isByteSl P d&&opdOK x r
  | _,_=>false
 | .pln _=>match o.op,m.rs with
  | .call { callee := .builtin .len,args,argTypes },r :: _=>argTypes.toList.length == 1&&argTypes.toList.all (fun t=>(elemT P t).isSome)&&opdsOK args.toList [r]
  | _,_=>false
 | .pix _ s=>match o.op,m.rs with
  | .indexAddr t x i,[r,q,_]=>sliceOK' P t s&&opdsOK [x,i] [r,q]
  | _,_=>false
 | .pfa _ d=>match o.op,m.rs with
  | .fieldAddr t x f,[r]=>(fieldT P t f).any (fun fl=>fl.offset == d&&(sizeT P fl.type).any (fun n=>decide (0<n)))&&opdOK x r
  | _,_=>false
 | .pld _ _ n agg=>match o.op,m.rs with
  | .load t x,r :: _=>shapeOK P t n agg&&opdOK x r
  | _,_=>false
 | .pst _ _ n=>match o.op,m.rs with
  | .store t x v,[p,_,r]=>sizeT P t == some n&&opdOK x p&&opdOK v r
  | _,_=>false
 | .pfz _ _=>match o.op,m.rs with
  | .move x,[r,_]=>opdOK x r
  | .assign x,[r,_]=>opdOK x r
  | _,_=>false
 | .pcall f n nres i _ s=>match o.op,m.rs with
  | .call { callee := .value (.func g),args,.. },rs=>f == g&&plainFn P f&&decide ((sg f).ps=some (i,s)∧(sg f).nres=nres)&&opdsOK args.toList (rs.take n)&&args.size == n&&decide (i<n∧i<1000)
  | _,_=>false
 | .pcaln f n nres i s=>match o.op,m.rs with
  | .call { callee := .value (.func g),args,.. },rs=>f == g&&plainFn P f&&decide ((sg f).ps=some (i,s)∧(sg f).nres=nres)&&opdsOK args.toList rs&&args.size == n&&decide (i<1000) &&
    (match args.toList[i]? with | some (.const (.slice none 0 0))=>true | _=>false)
  | _,_=>false
 | .ppa _ _ s b=>match o.op,m.rs with
  | .call { callee := .builtin .append,args,argTypes },[r,q,_,_]=>opdsOK args.toList [r,q]&&argTypes.toList.length == 2&&argTypes.toList.all (fun t=>sliceOK P t s b)
  | _,_=>false
 | .pnl _=>match o.op,m.rs with
  | .binOp .eql t x (.const (.slice none 0 0)) _,[r,_]=>opdOK x r&&(elemT P t).isSome
  | _,_=>false
 | .apq _ _ _ s b=>match o.op,m.rs with
  | .call { callee := .builtin .append,args,argTypes },[r,q,_,_,_]=>opdsOK args.toList [r,q]&&argTypes.toList.length == 2&&argTypes.toList.all (fun t=>sliceOK P t s b)
  | _,_=>false
 | .apv _ _ s b=>match o.op,m.rs with
  | .call { callee := .builtin .append,args,argTypes },[r,q,_,_]=>opdsOK args.toList [r,q]&&argTypes.toList.length == 2&&argTypes.toList.all (fun t=>sliceOK P t s b)
  | _,_=>false
 | .mvz _ _=>match o.op,m.rs with
  | .move x,[r,_,_]=>opdOK x r
  | .assign x,[r,_,_]=>opdOK x r
  | _,_=>false
 | .stp _ _=>match o.op,m.rs with
  | .store t x v,[p,_,r]=>sizeT P t == some 1&&opdOK x p&&opdOK v r
  | _,_=>false
 | .ldz _ _ n _ _ _=>match o.op,m.rs with
  | .load t x,r :: _=>shapeOK P t n true&&opdOK x r
  | _,_=>false
 | .rl=>match o.op,m.rs with
  | .call { callee := .builtin .real,args,.. },rs=>opdsOK args.toList rs&&args.size == 1
  | _,_=>false
 | .im=>match o.op,m.rs with
  | .call { callee := .builtin .imag,args,.. },rs=>opdsOK args.toList rs&&args.size == 1
  | _,_=>false
 | .cx=>match o.op,m.rs with
  | .call { callee := .builtin .complex,args,.. },rs=>opdsOK args.toList rs&&args.size == 2
  | _,_=>false
 | .cf=>match o.op,m.rs with
  | .convert s d x,rs=>(P.underlying s).isSome&&(match P.underlying d with | some (.float .f64)=>true | _=>false)&&opdsOK [x] rs
  | _,_=>false
 | .fc=>match o.op,m.rs with
  | .convert s d x,rs=>(P.underlying s).isSome&&(match P.underlying d with | some (.int .i64)=>true | _=>false)&&opdsOK [x] rs
  | _,_=>false
 | .xtr=>match o.op,m.rs with
  | .call { callee := .value (.func g),args,.. },rs=>externFn P g "math.archTrunc" && opdsOK args.toList rs&&args.size == 1
  | _,_=>false
 | .mkv _ s b z=>match o.op,m.rs with
  | .makeSlice t l c,[r,q,_]=>sliceOK P t s b&&opdsOK [l,c] [r,q]&&(elemT P t).any (fun e=>zeroOK P e z.cells&&isAggT P e == some z.isAg)
  | _,_=>false
 | .blv s n _=>match o.op,m.rs with
  | .buildSlice t len parts,rs=>sliceOKz P t s&&len == n&&decide (n * s≤2 ^ 24)&&parts.toList.map (·.1) == List.range n&&opdsOK (parts.toList.map (·.2)) (rs.take n)&&rs.length == n+1
  | _,_=>false
 | .psl _ _ s=>match o.op,m.rs with
  | .slice t x none (some u) none,[r,q,_,_]=>sliceOK' P t s&&opdsOK [x,u] [r,q]
  | _,_=>false
 | .ls _ _=>match o.op,m.rs with
  | .store t x v,[p,_,r]=>sizeT P t == some 1&&opdOK x p&&opdOK v r
  | _,_=>false
 | .callv f n _=>match o.op,m.rs with
  | .call { callee := .value (.func g),args,.. },rs=>f == g&&plainFn P f&&decide (sg f={ own:=[(0,1)] })&&opdsOK args.toList (rs.take n)&&args.size == n
  | _,_=>false
 | .gcall f n nres i _ s=>match o.op,m.rs with
  | .call { callee := .value (.func g),args,.. },rs=>f == g&&plainFn P f&&decide ((sg f).ps=some (1000+i,s)∧(sg f).nres=nres∧(sg f).new=none∧(sg f).ref=none)&&opdsOK args.toList (rs.take n)&&args.size == n&&decide (i<n)
  | _,_=>false
 | .gcalv f n i _ _=>match o.op,m.rs with
  | .call { callee := .value (.func g),args,.. },rs=>f == g&&plainFn P f&&decide (sg f={ ps:=some (1000+i,1),own:=[(0,1)] })&&opdsOK args.toList (rs.take n)&&args.size == n&&decide (i<n)
  | _,_=>false
 | .ppv _ _ s b=>match o.op,m.rs with
  | .call { callee := .builtin .append,args,argTypes },[r,q,_,_]=>opdsOK args.toList [r,q]&&argTypes.toList.length == 2&&argTypes.toList.all (fun t=>sliceOK P t s b)
  | _,_=>false
 | .callq f n nres=>match o.op,m.rs with
  | .call { callee := .value c,args,.. },r :: rs=>plainFn P f&&decide ((sg f).plain=true∧(sg f).nres=nres)&&opdOK c r&&opdsOK args.toList rs&&args.size == n
  | _,_=>false
 | .la _ n s=>match o.op,m.rs with
  | .indexAddr t x i,[r,q,_]=>(match P.underlying t with | some (.array n' e)=>n' == n&&sizeT P e == some s | _=>false)&&opdsOK [x,i] [r,q]
  | _,_=>false
 | .ll _ _=>match o.op,m.rs with
  | .load t x,r :: _=>shapeOK P t 1 false&&opdOK x r
  | _,_=>false
 | .nev _=>true
 | .rcall f n nres i _=>match o.op,m.rs with
  | .call { callee := .value (.func g),args,.. },rs=>f == g&&plainFn P f&&decide ((sg f).plain=true∧(sg f).nres=nres)&&opdsOK args.toList (rs.take n)&&args.size == n&&decide (i<n)
  | _,_=>false
 | .bxt _ _=>match o.op,m.rs with
  | .box _ x,r :: _=>opdOK x r
  | _,_=>false
 | .stt _ o' n ts=>match o.op,m.rs with
  | .store t x v,r :: _ :: q :: _=>sizeT P t == some n&&opdOK x r&&opdOK v q&&ts.all fun t=>decide (o'≤t.1∧t.1<o'+n)
  | _,_=>false
 | .nls=>match o.op,m.rs with
  | .binOp .eql t x (.const (.slice none 0 0)) _,[r]=>opdOK x r&&(elemT P t).isSome
  | _,_=>false
 | .xib=>match o.op,m.rs with
  | .call { callee := .value (.func g),args,.. },rs=>externFn P g ibName&&opdsOK args.toList rs&&args.size == 2
  | _,_=>false
 | .call f c=>match o.op,m.rs with
  | .call { callee := .value (.func g),args,.. },rs=>f == g&&plainFn P f&&c.fits (sg f)&&opdsOK args.toList (rs.take c.n)&&args.size == c.n
  | _,_=>false
def small (nt:Nat) (l:List Operand):Bool:=l.all fun x=>match x with | .tmp t=>decide (t<nt) | _=>true
def keysOK (nt:Nat) (dst:Option Nat) (m:MOp):Bool :=
 let slot:=fun x=>match x with | Opd.s t=>some t | _=>none
 let tail:=fun (n:Nat) (ks:List Nat)=>m.rs.length == n+ks.length&&(m.rs.drop n).map slot == ks.map some
 let mr:=fun x=>decide (nt≤x)&&decide (x<1000000)
 let mn:=fun x=>decide (nt≤x)&&decide (x<999999)
 let dOK:=fun (l:List Nat)=>match dst with | some d=>decide (d<nt)&&m.ds == d :: l | none=>false
 match m.k with
 | .al m0 _ ts=>mn m0&&tail 0 (m0 :: ts.map fun t=>lk t.2.1)&&dOK (m0 :: ts.map fun t=>lk t.2.1)
 | .bx m0=>mn m0&&tail 1 [m0]&&dOK [m0]
 | .rcall _ n _ _ m0=>mr m0&&tail n [m0]&&dOK []
 | .nev b=>match b with | true=>dOK [] | false=>dst.isNone&&m.ds == []
 | .bxt m0 ts=>mn m0&&tail 1 (m0 :: ts.map fun t=>lk t.2.1)&&dOK (m0 :: ts.map fun t=>lk t.2.1)
 | .stt m0 _ _ ts=>mr m0&&dst.isNone&&m.ds == m0 :: (ts.map fun t=>lk t.2.1)&&tail 3 (ts.map fun t=>lk t.2.1)&&(match m.rs with | _ :: .s t :: _=>t == m0 | _=>false)
 | .ld m0 _ _ _=>mr m0&&tail 1 [m0]&&dOK []
 | .st m0 _ _=>mr m0&&dst.isNone&&m.ds == [m0]&&(match m.rs with | [_,.s t,_]=>t == m0 | _=>false)
 | .sbt k=>tail 1 [lk k]&&dOK [lk k]
 | .blt _ n k=>tail n [lk k]&&dOK [lk k]
 | .ap k d _ _=>tail 2 [lk k,lk d]&&dOK [lk k,lk d]
 | .aps k d _=>tail 2 [lk k,lk d]&&dOK [lk k,lk d]
 | .an d _ _=>tail 1 [lk d]&&dOK [lk d]
 | .ans d _=>tail 1 [lk d]&&dOK [lk d]
 | .mk d _ _ _=>tail 2 [lk d]&&dOK [lk d]
 | .nl d _=>tail 0 [lk d]&&dOK [lk d]
 | .pss k=>tail 1 [lk k]&&dOK [lk k]
 | .pln k=>tail 1 [lk k]&&dOK []
 | .pix k _=>tail 2 [lk k]&&dOK []
 | .pld k _ _ _=>tail 1 [lk k]&&dOK []
 | .pst k _ _=>dst.isNone&&m.ds == [lk k]&&(match m.rs with | [_,.s t,_]=>t == lk k | _=>false)
 | .pfz k _=>decide (k≠999999)&&tail 1 [lk k]&&(match m.rs with | .s j :: _=>decide (j<nt)&&dOK [j,lk k] | _=>false)
 | .pcall _ n _ _ k _=>tail n [lk k]&&dOK []
 | .pcaln _ n _ _ _=>m.rs.length == n&&dOK []
 | .ppa k d _ _=>tail 2 [lk k,lk d]&&dOK [lk k,lk d]
 | .pnl k=>tail 1 [lk k]&&dOK []
 | .apq k d q _ _=>tail 2 [lk k,lk d,lk q]&&dOK [lk k,lk d]
 | .apv k d _ _=>tail 2 [lk k,lk d]&&dOK [lk k,lk d]
 | .mvz k _=>decide (k≠999999)&&tail 2 [lk k]&&(match m.rs with | r :: .s j :: _=>decide (j<nt)&&(match r with | .s t=>t != j | _=>true)&&dOK [j,lk k] | _=>false)
 | .stp m0 _=>mr m0&&dst.isNone&&m.ds == [m0]&&(match m.rs with | [_,.s t,_]=>t == m0 | _=>false)
 | .ldz m0 _ _ _ k _=>decide (k≠999999)&&mr m0&&tail 1 [m0,lk k]&&dOK [m0,lk k]
 | .la m0 _ _=>mr m0&&tail 2 [m0]&&dOK []
 | .mkv k _ _ _=>tail 2 [lk k]&&dOK [lk k]
 | .blv _ n k=>tail n [lk k]&&dOK [lk k]
 | .ppv k d _ _=>decide (k≠999999)&&tail 2 [lk k,lk d]&&dOK [lk k,lk d]
 | .psl k d _=>decide (k≠999999)&&tail 2 [lk k,lk d]&&dOK [lk k,lk d]
 | .ls m0 _=>mr m0&&dst.isNone&&m.ds == [m0]&&(match m.rs with | [_,.s t,_]=>t == m0 | _=>false)
 | .callv _ n k=>tail n [lk k]&&dOK [lk k]
 | .gcall _ n _ _ k _=>decide (k≠999999)&&tail n [lk k]&&dOK [lk k]
 | .gcalv _ n _ k d=>decide (k≠999999)&&tail n [lk k,lk d]&&dOK [lk k,lk d]
 | .ll m0 _=>mr m0&&tail 1 [m0]&&dOK []
 | .call _ c=>c.mems.all mr&&tail c.n (c.mems++c.lks)&&dOK (c.mems++c.lks)&&decide ((c.mems++c.lks).Nodup)
 | _=>dOK []
def guardOK (nt:Nat) (ops:Array Oper) (o:Oper) (m:MOp):Bool :=
 match o.guard,m.gd with
 | none,none=>true
 | some (j,b),some (t,b')=>b == b'&&decide (t<nt)&&(match (ops[j]?).bind (·.dst) with | some d=>d == t | none=>false)&&m.ds.length == 1&&o.dst.isSome
 | _,_=>false
def MOp.reads (m:MOp):List Nat:=m.rs.filterMap (fun x=>match x with | .s t=>some t | _=>none)++m.gd.toList.map (·.1)
def clash (m n:MOp):Bool:=m.ds.any (fun d=>n.reads.contains d || n.ds.contains d) || n.ds.any (fun d=>m.reads.contains d)
def befs (o:Oper):List Nat:=(o.after.toList.filter (Region.binds .any)).map (·.on)
def befores (ops:List Oper):List (List Nat) :=
 ops.foldl (fun acc o=>acc++[(befs o).flatMap fun e=>e :: (acc.getD e [])]) []
def edgesOK (ops:List Oper):Bool:=ops.zipIdx.all fun (o,i)=>(befs o).all fun e=>decide (e<i)
def orderOK (ops:List Oper) (ms:List MOp):Bool :=
 edgesOK ops&&(let b:=befores ops;ms.zipIdx.all fun (m,i)=>(ms.take i).zipIdx.all fun (n,j)=>!clash n m || (b.getD i []).contains j)
def all2 {A B:Type} (f:A→B→Bool):List A→List B→Bool
 | [],[]=>true
 | a :: as,b :: bs=>f a b&&all2 f as bs
 | _,_=>false
def regOK (sg:Nat→FSig) (nt:Nat) (ops:Array Oper) (draw:Bool) (ms:List MOp):Bool :=
 all2 (fun o m=>opOK P sg o m&&keysOK nt o.dst m&&guardOK nt ops o m&&small nt o.op.operands.toList) ops.toList ms&&(!draw || (P.follows .mixedOrders&&orderOK ops.toList ms))
def gstep (m:MOp) (G:GL):Option GL:=(gsem m.k (m.rs.map (Opd.gh G.get))).bind fun gs=>if gs.length=m.ds.length then some (GL.updL G m.ds gs) else none
def grun:List MOp→GL→Option GL
 | [],G=>some G
 | m :: ms,G=>(gstep m G).bind (grun ms)
def pairsOf (G H:GL):List (Nat × Nat) :=
 H.flatMap fun (k,h)=>match h,G.get k with
  | .tip i _,.tip j _=>[(i,j)]
  | .cl ts,.cl us=>ts.flatMap fun t=>match us.find? (fun u=>u.1 == t.1) with | some u=>[(t.2.1,u.2.1)] | none=>[]
  | .pv _,_=>[(k - 1000000,k - 1000000)]
  | _,_=>[]
def refines (G H:GL):Bool :=
 let ρ:=pairsOf G H
 let nm:=fun i=>(ρ.find? (fun p=>p.1 == i)).map (·.2)
 (!(G.get (lk 999999)).isP || (H.get (lk 999999)).isP)&&ρ.all (fun p=>ρ.all fun q=>(p.1 == q.1) == (p.2 == q.2)) &&
 H.all fun (k,h)=>match h,G.get k with
  | .no,_=>true
  | .ptr m o,.ptr m' o'=>m == m'&&o == o'&&(match H.get m with | .cl _=>true | _=>false)
  | .tip i s,.tip j s'=>s == s'&&nm i == some j&&(H.get (lk i)).isLk
  | .cl ts,.cl us=>ts.all fun t=>(match us.find? (fun u=>u.1 == t.1) with | some u=>nm t.2.1 == some u.2.1&&t.2.2 == u.2.2 | none=>false)&&(H.get (lk t.2.1)).isLk
  | .live s,_=>ρ.any fun p=>lk p.1 == k&&G.get (lk p.2) == .live s
  | .pv s,.pv s'=>s == s'&&ρ.any fun p=>lk p.1 == k&&p.1 == p.2
  | .pv s,.sus d s'=>s == s'&&!(H.get d).isLk&&ρ.any fun p=>lk p.1 == k&&p.1 == p.2
  | .used,_=>decide (1000000≤k)
  | _,_=>false
mutual
def chk (sg:Nat→FSig) (nt:Nat) (rt:GL→Bool):Code→M→GL→Option (Option GL × List (Nat × GL))
 | c,.sw k k' x,G=>if k≠999999∧k'≠999999 then (chk sg nt rt c x G).map fun r=>(r.1.map (swGL k k'),r.2) else none
 | .skip,.skip,G=>some (some G,[])
 | .label _,.skip,G=>some (some G,[])
 | .region _ ops d,.reg ms,G=>if regOK P sg nt ops d ms then (grun ms G).map fun G'=>(some G',[]) else none
 | .seq a b,.seq x y,G=>(chk sg nt rt a x G).bind fun r=>match r.1 with
  | none=>some (none,r.2)
  | some G1=>(chk sg nt rt b y G1).map fun q=>(q.1,r.2++q.2)
 | .cond c a b,.cond x H y z,G=>if opdOK c x&&small nt [c] then (chk sg nt rt a y G).bind fun r=>(chk sg nt rt b z G).bind fun q =>
   match r.1,q.1 with
   | none,n=>some (n,r.2++q.2)
   | n,none=>some (n,r.2++q.2)
   | some A,some B=>if refines A H&&refines B H then some (some H,r.2++q.2) else none
  else none
 | .block i b,.block j H y,G=>if i=j∧i<1000000 then (chk sg nt rt b y G).bind fun r =>
   if (r.1.toList++(r.2.filter (·.1 == i)).map (·.2)).all (refines · H) then
    some (if r.1.isNone&&(r.2.filter (·.1 == i)).isEmpty then none else some H,r.2.filter (·.1 != i)) else none
  else none
 | .loop b,.loop keep H y,G=>if refines G H&&H.all (fun p=>keep.contains p.1 || decide (1000000≤p.1))&&decide keep.Nodup then
   (chk sg nt rt b y H).bind fun r=>if r.1.all (refines · H) then some (none,r.2) else none
  else none
 | .exit i,.exit j,G=>if i=j∧i<1000000 then some (none,[(i,G)]) else none
 | .goto l,.exit j,G=>if j=gid l then some (none,[(j,G)]) else none
 | .ret,.ret,G=>if rt G then some (none,[]) else none
 | .scope c,.sco x,G=>(chkS sg nt rt c x G).bind fun r=>if r.2.all (fun p=>decide (p.1<1000000)) then some r else none
 | _,_,_=>none
def chkS (sg:Nat→FSig) (nt:Nat) (rt:GL→Bool):Code→M→GL→Option (Option GL × List (Nat × GL))
 | c,.scp b,G=>chk sg nt rt c b G
 | c,.lab l _ H r b,G=>match findLabel c l with
  | some rest=>(chk sg nt rt rest r H).bind fun q=>(chkS sg nt rt c b G).bind fun p =>
   if ((q.2++p.2).filter (·.1 == gid l)).all (fun x=>refines x.2 H)&&(q.1.isNone || p.1.isNone) then
    some (if q.1.isNone then p.1 else q.1,(q.2++p.2).filter (·.1 != gid l)) else none
  | none=>none
 | _,_,_=>none
end
end
end Go.Eng
namespace Go.Eng
open Go.RowKit
theorem upd_same {X:Type} (σ:Nat→X) (t:Nat) (x:X):upd σ t x t=x:=by simp [upd]
theorem upd_ne {X:Type} (σ:Nat→X) {t k:Nat} (x:X) (h:k≠t):upd σ t x k=σ k:=by simp [upd,h]
theorem VarAt.lt {R:Reach} {w:World} {x:AV} {b:Nat} {cs:List Value} (h:VarAt R w x b cs):b<w.heap.size:=by
 obtain ⟨_,h,_⟩:=h
 exact (Array.getElem?_eq_some_iff.1 h).1
theorem VarAt.noR {R:Reach} {w:World} {x:AV} {b:Nat} {cs:List Value} (h:VarAt R w x b cs):∀o,¬R b o:=h.elim fun _ h=>h.2.2
theorem VarAt.ag {R:Reach} {w:World} {acs:List AV} {b:Nat} {cs:List Value} (h:VarAt R w (.ag acs) b cs):∃elem,w.heap[b]?=some (.cells ⟨cs⟩ elem (0,0))∧RepL R w acs (cs.take acs.length):=by
 obtain ⟨elem,h1,h2 | ⟨acs',h2,h3⟩,_⟩:=h
 ·cases h2
 ·cases h2;exact ⟨elem,h1,h3⟩
theorem TipOK.lt {R:Reach} {w:World} {x:Value} {s g:Nat} (h:TipOK R w x s) (hg:x.ownBlock=some g):g<w.heap.size:=by
 rcases h with rfl | ⟨g',n,cap,cur,e,fz,rfl,h,_⟩
 ·simp [Value.ownBlock] at hg
 ·simp [Value.ownBlock] at hg;subst hg;exact (Array.getElem?_eq_some_iff.1 h).1
theorem VarAt.keep {R R':Reach} {w w':World} {x:AV} {b:Nat} {cs:List Value} (h:VarAt R w x b cs) (k:Keeps R w R' w') (hh:w'.heap[b]?=w.heap[b]?) (hr:∀o,¬R' b o):VarAt R' w' x b cs:=by
 obtain ⟨e,h1,h2,_⟩:=h
 exact ⟨e,hh.trans h1,h2.imp id (fun ⟨acs,h2,h3⟩=>⟨acs,h2,h3.mono k⟩),hr⟩
theorem TipOK.keep {R R':Reach} {w w':World} {x:Value} {s:Nat} (h:TipOK R w x s) (hh:∀g,x.ownBlock=some g→w'.heap[g]?=w.heap[g]?∧∀o,R' g o→R g o):TipOK R' w' x s:=by
 rcases h with rfl | ⟨g,n,cap,cur,e,fz,rfl,h1,h2,h3,h4,h5,h6⟩
 ·exact .inl rfl
 ·obtain ⟨e1,e2⟩:=hh g rfl
  exact .inr ⟨g,n,cap,cur,e,fz,rfl,e1.trans h1,h2,h3,h4,h5,fun o ho hr=>h6 o ho (e2 o hr)⟩
theorem GhOK.congr {D D':Dyn} {γ:Ga} {g:Gh} {x:Value} (hm:Ment γ g) (hβ:∀m,(γ m).isCl=true→D'.β m=D.β m) (hτ:∀k,(γ (lk k)).isLk=true→D'.τ (lk k)=D.τ (lk k)) (h:GhOK D g x):GhOK D' g x:=by
 cases g with
 | ptr m o=>simp only [GhOK,Ment] at *;rw [hβ m hm];exact h
 | tip k s=>simp only [GhOK,Ment] at *;rw [hτ k hm];exact h
 | pe k=>simp only [GhOK,Ment] at *;rw [hτ k hm];exact h
 | pm m=>simp only [GhOK,Ment] at *;rw [hβ m hm];exact h
 | tup ts p =>
  simp only [GhOK,Ment] at *
  obtain ⟨ys,h1,h2,h3⟩:=h
  exact ⟨ys,h1,fun t ht=>by rw [hτ _ (hm.1 t ht)];exact h2 t ht,fun q hq=>by rw [hβ _ (hm.2 q hq)];exact h3 q hq⟩
 | _=>trivial
theorem PrivOK.keep {R R':Reach} {w w':World} {v:Value} {s:Nat} {x:AV} (h:PrivOK R w v s x) (k:Keeps R w R' w') (hh:∀g,v.ownBlock=some g→w'.heap[g]?=w.heap[g]?∧∀o,R' g o→R g o):PrivOK R' w' v s x:=by
 refine ⟨fun g hg o hr=>h.1 g hg o ((hh g hg).2 o hr),h.2.imp id ?_⟩
 rintro ⟨es,e1,e2,e3⟩
 refine ⟨es,e1,e2,e3.imp id ?_⟩
 rintro ⟨g,cap,cur,e,fz,rfl,f1,f2⟩
 exact ⟨g,cap,cur,e,fz,rfl,(hh g rfl).1.trans f1,f2.mono k⟩
theorem PSOK.keep {D D':Dyn} {σ σ':Sg} {γ γ':Ga} {w w':World} (h:PSOK D σ γ w) (k:Keeps D.R w D'.R w')
  (hp:∀key,(γ' key).isP=true→γ key=γ' key∧σ' key=σ key∧D'.τ key=D.τ key∧∀g,(D.τ key).ownBlock=some g→w'.heap[g]?=w.heap[g]?∧∀o,D'.R g o→D.R g o):PSOK D' σ' γ' w':=by
 intro key s hk
 obtain ⟨e1,e2,e3,e4⟩:=hp key (by cases e:γ' key <;> rw [e] at hk <;> simp [Gh.psz] at hk <;> rfl)
 have:=h key s ((congrArg Gh.psz e1).trans hk)
 rw [e2,e3]
 refine ⟨this.1.keep e4,this.2.1.keep k e4,fun d s1 s' h1 h2=>?_⟩
 obtain ⟨f1,f2,_,_⟩:=hp d (by rw [h2];rfl)
 rw [e2,f2]
 exact this.2.2 d s1 s' (e1.trans h1) (f1.trans h2)
theorem PSOK.same {D D':Dyn} {σ σ':Sg} {γ γ':Ga} {w:World} (h:PSOK D σ γ w) (hR:D'.R=D.R) (hp:∀key,(γ' key).isP=true→γ key=γ' key∧σ' key=σ key∧D'.τ key=D.τ key):PSOK D' σ' γ' w :=
 h.keep (hR ▸ Keeps.refl _ _) fun key hk=>⟨(hp key hk).1,(hp key hk).2.1,(hp key hk).2.2,fun _ _=>⟨rfl,fun o hr=>hR ▸ hr⟩⟩
theorem Gh.psz_isP {g:Gh} {s:Nat} (h:g.psz=some s):g.isP=true:=by cases g <;> simp [Gh.psz] at h <;> rfl
theorem Gh.isP_lk {g:Gh} (h:g.isP=true):g.isLk=true∧g.isCl=false:=by cases g <;> simp [Gh.isP] at h <;> exact ⟨rfl,rfl⟩
theorem Ext.refl (w:World) (R:Reach) (io:Nat→Prop):Ext w R io w R:=⟨rfl,rfl,rfl,Nat.le_refl _,fun _ _ _=>rfl,Keeps.refl _ _,fun _ _ h => .inl h⟩
theorem Ext.trans {w0 w1 w2:World} {R0 R1 R2:Reach} {io io':Nat→Prop} (h:Ext w0 R0 io w1 R1) (k:Ext w1 R1 io' w2 R2) (hi:∀b,io' b→io b∨w0.heap.size≤b):Ext w0 R0 io w2 R2 where
 os:=k.os.trans h.os
 tape:=k.tape.trans h.tape
 output:=k.output.trans h.output
 size:=Nat.le_trans h.size k.size
 heap b hb hn:=(k.heap b (Nat.lt_of_lt_of_le hb h.size) (fun c=>by rcases hi b c with c | c <;> first | exact hn c | omega)).trans (h.heap b hb hn)
 keep:=h.keep.trans k.keep
 rnew b o hr:=by
  rcases k.rnew b o hr with r | r | r
  ·exact h.rnew b o r
  ·exact .inr (.inl (Nat.le_trans h.size r))
  ·rcases hi b r with r | r
   ·exact .inr (.inr r)
   ·exact .inr (.inl r)
section
variable {C:Ctx} {D:Dyn} {σ:Sg} {γ:Ga} {a:Act} {w:World}
theorem blk_isP {key:Nat} (h:(γ key).isP=true):blk D γ key=(D.τ key).ownBlock:=by
 unfold blk;cases hg:γ key <;> rw [hg] at h <;> first | cases h | rfl
theorem Sim.psAt (h:Sim C D σ γ a w) {key:Nat} (hp:(γ key).isP=true):∃s,(γ key).psz=some s∧TipOK D.R w (D.τ key) s∧PrivOK D.R w (D.τ key) s (σ key)∧PreAt σ γ key:=by
 cases hg:γ key <;> rw [hg] at hp <;> first | cases hp | skip
 all_goals exact ⟨_,rfl,h.ps key _ (by rw [hg];rfl)⟩
theorem Sim.lt (h:Sim C D σ γ a w) {key g:Nat} (hb:blk D γ key=some g):g<w.heap.size:=by
 cases hp:(γ key).isP with
 | true =>
  rw [blk_isP hp] at hb
  obtain ⟨s,_,ht,_⟩:=h.psAt hp
  exact ht.lt hb
 | false =>
  unfold blk at hb
  split at hb
  ·rename_i ts hg
   cases hb
   obtain ⟨cs,hv,_⟩:=h.mem _ _ hg
   exact hv.lt
  ·rename_i s hg
   exact (h.tip _ _ hg).lt hb
  ·rename_i s hg;rw [hg] at hp;cases hp
  ·rename_i d s hg;rw [hg] at hp;cases hp
  ·rename_i s hg;rw [hg] at hp;cases hp
  ·cases hb
theorem Sim.sepN (h:Sim C D σ γ a w) {key key' g:Nat} (hn:(γ key).isP=false) (h1:blk D γ key=some g) (h2:blk D γ key'=some g):key=key':=by
 rcases h.sep key key' g h1 h2 with e | e | e
 ·exact e
 ·cases hg:γ key <;> rw [hg] at e hn <;> first | (cases hn;done) | (cases e;done)
 ·cases hg:γ key' <;> rw [hg] at e <;> first | (cases e;done) | skip
  cases e
  have:=h.inv key'
  rw [hg] at this
  rcases this with e | ⟨s,e⟩
  ·unfold blk at h1;rw [e] at h1;cases h1
  ·rw [e] at hn;cases hn
theorem blk_cl {key:Nat} {ts:List (Nat × (Nat × Nat))} (h:γ key = .cl ts):blk D γ key=some (D.β key):=by simp [blk,h]
theorem blk_live {key s:Nat} (h:γ key = .live s):blk D γ key=(D.τ key).ownBlock:=by simp [blk,h]
theorem Sim.world (h:Sim C D σ γ a w) {w':World} {R':Reach} (os:w'.os=w.os) (tape:w'.tape=w.tape) (out:w'.output=w.output) (size:w.heap.size≤w'.heap.size)
  (hh:∀b,b<w.heap.size→((∃key,blk D γ key=some b)∨¬C.mine b)→w'.heap[b]?=w.heap[b]?) (keep:Keeps D.R w R' w')
  (new:∀b o,R' b o→D.R b o∨(C.mine b∧∀key,blk D γ key≠some b)) (lt:∀b o,R' b o→b<w'.heap.size):Sim C { D with R:=R' } σ γ a w' where
 size:=h.size
 defers:=h.defers
 ntlt:=h.ntlt
 rng:=h.rng
 lrng:=h.lrng
 slot t ht:=(h.slot t ht).imp id fun ⟨r,g⟩=>⟨r.mono keep,by cases hg:γ t <;> rw [hg] at g <;> exact g⟩
 mem m ts hm:=by
  obtain ⟨cs,hv,ht⟩:=h.mem m ts hm
  refine ⟨cs,hv.keep keep (hh _ hv.lt (.inl ⟨m,blk_cl hm⟩)) (fun o hr=>?_),ht⟩
  rcases new _ _ hr with r | ⟨_,r⟩
  ·exact hv.noR o r
  ·exact r m (blk_cl hm)
 tip key s hk:=(h.tip key s hk).keep fun g hg=>by
  have hb:blk D γ key=some g:=(blk_live hk).trans hg
  refine ⟨hh g (h.lt hb) (.inl ⟨key,hb⟩),fun o hr=>?_⟩
  rcases new _ _ hr with r | ⟨_,r⟩
  ·exact r
  ·exact (r key hb).elim
 ps:=h.ps.keep keep fun key hp=>⟨rfl,rfl,rfl,fun g hg=>by
  have hb:blk D γ key=some g:=(blk_isP hp).trans hg
  refine ⟨hh g (h.lt hb) (.inl ⟨key,hb⟩),fun o hr=>?_⟩
  rcases new _ _ hr with r | ⟨_,r⟩
  ·exact r
  ·exact (r key hb).elim⟩
 sep:=h.sep
 own:=h.own
 inv:=h.inv
 ext:=by
  refine ⟨os.trans h.ext.os,tape.trans h.ext.tape,out.trans h.ext.output,Nat.le_trans h.ext.size size,fun b hb hn=>?_,h.ext.keep.trans keep,fun b o hr=>?_⟩
  ·exact (hh b (Nat.lt_of_lt_of_le hb h.ext.size) (.inr fun hm=>by rcases hm with hm | hm <;> first | exact hn hm | omega)).trans (h.ext.heap b hb hn)
  ·rcases new b o hr with r | ⟨r,_⟩
   ·exact h.ext.rnew b o r
   ·rcases r with r | r
    ·exact .inr (.inr r)
    ·exact .inr (.inl r)
 rlt:=lt
 gl n:=(h.gl n).mono keep
 fix:=h.fix
theorem Sim.grow (h:Sim C D σ γ a w) {w':World} {R':Reach} (os:w'.os=w.os) (tape:w'.tape=w.tape) (out:w'.output=w.output) (size:w.heap.size≤w'.heap.size)
  (hh:∀b,b<w.heap.size→w'.heap[b]?=w.heap[b]?) (sub:∀b o,D.R b o→R' b o) (new:∀b o,R' b o→D.R b o∨w.heap.size≤b) (lt:∀b o,R' b o→b<w'.heap.size):Sim C { D with R:=R' } σ γ a w' :=
 h.world os tape out size (fun b hb _=>hh b hb) (fun b o hr=>⟨sub b o hr,World.cell?_of_block (w:=w) (hh b (h.rlt b o hr))⟩)
  (fun b o hr=>(new b o hr).imp id fun hb=>⟨.inr (Nat.le_trans h.ext.size hb),fun key hk=>by have:=h.lt hk;omega⟩) lt
theorem Sim.drew (h:Sim C D σ γ a w):Sim C D σ γ a { w with drawn:=w.drawn+1 } :=
 h.grow (w':={ w with drawn:=w.drawn+1 }) (R':=D.R) rfl rfl rfl (Nat.le_refl _) (fun _ _=>rfl) (fun _ _ h=>h) (fun _ _ h => .inl h) h.rlt
theorem Act.getD_put (a:Act) (d t:Nat) (v:Value) (hd:d<a.tmps.size):(a.put (some d) v).tmps.getD t undef=if t=d then v else a.tmps.getD t undef:=by
 simp only [Act.put,Array.getD_eq_getD_getElem?,Array.getElem?_setIfInBounds]
 by_cases h:d=t
 ·subst h;simp [hd]
 ·simp [h,Ne.symm h]
theorem Act.size_put (a:Act) (d:Option Nat) (v:Value):(a.put d v).tmps.size=a.tmps.size:=by cases d <;> simp [Act.put]
theorem Act.defers_put (a:Act) (d:Option Nat) (v:Value):(a.put d v).defers=a.defers:=by cases d <;> simp [Act.put]
theorem Sim.noClk (h:Sim C D σ γ a w) {d:Nat} (hd:d<C.nt):(γ d).isCl=false∧(γ d).isLk=false:=by
 constructor
 ·cases hc:(γ d).isCl with
  | false=>rfl
  | true=>have:=(h.rng d hc).1;omega
 ·cases hc:(γ d).isLk with
  | false=>rfl
  | true=>have:=h.lrng d hc;have:=h.ntlt;omega
theorem Ment.upd_slot {γ:Ga} {d:Nat} {g:Gh} (h1:(γ d).isCl=false) (h2:(γ d).isLk=false):∀{x:Gh},Ment γ x→Ment (upd γ d g) x:=by
 have hc:∀m,(γ m).isCl=true→(upd γ d g m).isCl=true:=fun m hm=>by
  by_cases e:m=d
  ·subst e;rw [h1] at hm;cases hm
  ·rw [upd_ne _ _ e];exact hm
 have hl:∀m,(γ m).isLk=true→(upd γ d g m).isLk=true:=fun m hm=>by
  by_cases e:m=d
  ·subst e;rw [h2] at hm;cases hm
  ·rw [upd_ne _ _ e];exact hm
 intro x hx
 cases x with
 | ptr m o=>exact hc m hx
 | tip k s=>exact hl _ hx
 | cl ts=>exact fun t ht=>hl _ (hx t ht)
 | tup ts p=>exact ⟨fun t ht=>hl _ (hx.1 t ht),fun q hq=>hc _ (hx.2 q hq)⟩
 | pe k=>exact hl _ hx
 | pm m=>exact hc m hx
 | sus k s =>
  have hk:k≠d:=fun e=>by subst e;rcases hx with e | ⟨s',e⟩ <;> rw [e] at h2 <;> cases h2
  simp only [Ment,upd_ne _ _ hk];exact hx
 | _=>trivial
theorem par_upd {γ:Ga} {d:Nat} {g:Gh} (h2:(γ d).isP=false) (g2:g.isP=false) (key:Nat):(upd γ d g key).par=(γ key).par:=by
 by_cases e:key=d
 ·subst e;rw [upd_same]
  have f:∀g:Gh,g.isP=false→g.par=none:=fun g h=>by cases g <;> first | rfl | cases h
  rw [f _ g2,f _ h2]
 ·rw [upd_ne _ _ e]
theorem Gh.notP {g:Gh} (h:g.isLk=false):g.isP=false:=by cases g <;> first | rfl | cases h
theorem blk_upd_slot {D:Dyn} {γ:Ga} {d:Nat} {g:Gh} (h1:(γ d).isCl=false) (h2:(γ d).isLk=false) (g1:g.isCl=false) (g2:g.isLk=false) (key:Nat):blk D (upd γ d g) key=blk D γ key:=by
 unfold blk
 by_cases e:key=d
 ·subst e
  rw [upd_same]
  cases g <;> simp [Gh.isCl,Gh.isLk] at g1 g2 <;> cases hg:γ key <;> simp [hg,Gh.isCl,Gh.isLk] at h1 h2 <;> rfl
 ·rw [upd_ne _ _ e]
theorem Sim.put (h:Sim C D σ γ a w) {d:Nat} (hd:d<C.nt) {s:AV} {g:Gh} {v:Value} (hs:SlotOK D w s g v) (g1:g.isCl=false) (g2:g.isLk=false) (gm:Ment γ g) :
  Sim C D (upd σ d s) (upd γ d g) (a.put (some d) v) w:=by
 obtain ⟨h1,h2⟩:=h.noClk hd
 have hlt:d<a.tmps.size:=by rw [h.size];exact hd
 have hne:∀m,C.nt≤m→m≠d:=fun m hm=>by omega
 have hcl:∀m,(upd γ d g m).isCl=true→m≠d:=fun m hm e=>by subst e;rw [upd_same,g1] at hm;cases hm
 have hlv:∀m,(upd γ d g m).isLk=true→m≠d:=fun m hm e=>by subst e;rw [upd_same,g2] at hm;cases hm
 refine ⟨by rw [Act.size_put,h.size],by rw [Act.defers_put,h.defers],h.ntlt,fun m hm=>?_,fun m hm=>?_,fun t ht=>?_,fun m ts hm=>?_,fun key s' hk=>?_,h.ps.same rfl (fun key hp=>?_),fun k k' g' hk hk'=>?_,fun k g' hk=>?_,fun key=>?_,h.ext,h.rlt,h.gl,h.fix.upd (Gh.notP h2) rfl rfl⟩
 ·have e:=hcl m hm;rw [upd_ne _ _ e] at hm;exact h.rng m hm
 ·have e:=hlv m hm;rw [upd_ne _ _ e] at hm;exact h.lrng m hm
 ·rw [Act.getD_put _ _ _ _ hlt]
  by_cases e:t=d
  ·subst e;rw [upd_same,upd_same,if_pos rfl];exact hs
  ·rw [upd_ne _ _ e,upd_ne _ _ e,if_neg e];exact h.slot t ht
 ·have e:=hcl m (by rw [hm];rfl);rw [upd_ne _ _ e] at hm ⊢;exact h.mem m ts hm
 ·have e:=hlv key (by rw [hk];rfl);rw [upd_ne _ _ e] at hk;exact h.tip key s' hk
 ·have e:=hlv key (Gh.isP_lk hp).1;rw [upd_ne _ _ e,upd_ne _ _ e];exact ⟨rfl,rfl,rfl⟩
 ·rw [blk_upd_slot h1 h2 g1 g2] at hk hk';rw [par_upd (Gh.notP h2) (Gh.notP g2),par_upd (Gh.notP h2) (Gh.notP g2)];exact h.sep k k' g' hk hk'
 ·rw [blk_upd_slot h1 h2 g1 g2] at hk;exact h.own k g' hk
 ·by_cases e:key=d
  ·subst e;rw [upd_same];exact Ment.upd_slot h1 h2 gm
  ·rw [upd_ne _ _ e];exact Ment.upd_slot h1 h2 (h.inv key)
theorem Sim.dead (h:Sim C D σ γ a w) {k:Nat} (hk:(γ k).isCl=false):Sim C D (upd σ k .dead) γ a w:=by
 refine ⟨h.size,h.defers,h.ntlt,h.rng,h.lrng,fun t ht=>?_,fun m ts hm=>?_,h.tip,fun key s hs=>?_,h.sep,h.own,h.inv,h.ext,h.rlt,h.gl,h.fix⟩
 ·by_cases e:t=k
  ·subst e;rw [upd_same];exact .inl rfl
  ·rw [upd_ne _ _ e];exact h.slot t ht
 ·have e:m≠k:=fun e=>by subst e;rw [hm] at hk;cases hk
  rw [upd_ne _ _ e];exact h.mem m ts hm
 ·obtain ⟨h1,h2⟩:=h.ps key s hs
  have hpre:PreAt (upd σ k .dead) γ key:=fun d s1 s' e1 e2=>by
   by_cases e:key=k
   ·subst e;rw [upd_same];exact .inl rfl
   ·by_cases e':d=k
    ·subst e';rw [upd_same];exact .inr (.inl rfl)
    ·rw [upd_ne _ _ e,upd_ne _ _ e'];exact h2.2 d s1 s' e1 e2
  by_cases e:key=k
  ·subst e;rw [upd_same];exact ⟨h1,⟨h2.1.1,.inl rfl⟩,hpre⟩
  ·rw [upd_ne _ _ e];exact ⟨h1,h2.1,hpre⟩
theorem Sim.kill (h:Sim C D σ γ a w) {k s:Nat} (hk:γ k = .live s):Sim C D σ (upd γ k .used) a w:=by
 have hkr:=h.lrng k (by rw [hk];rfl)
 have hlk:∀m,(upd γ k .used m).isLk=(γ m).isLk:=fun m=>by
  by_cases e:m=k
  ·subst e;rw [upd_same,hk];rfl
  ·rw [upd_ne _ _ e]
 have hcl:∀m,(upd γ k .used m).isCl=(γ m).isCl:=fun m=>by
  by_cases e:m=k
  ·subst e;rw [upd_same,hk];rfl
  ·rw [upd_ne _ _ e]
 have hm:∀g,Ment γ g→Ment (upd γ k .used) g:=fun g hg=>by
  cases g <;> simp only [Ment,hlk,hcl] at hg ⊢ <;> first | exact hg | skip
  rename_i d s'
  have hd:d≠k:=fun e=>by subst e;rcases hg with e | ⟨s'',e⟩ <;> rw [hk] at e <;> cases e
  rw [upd_ne _ _ hd];exact hg
 have hb:∀key g,blk D (upd γ k .used) key=some g→blk D γ key=some g:=fun key g hg=>by
  unfold blk at hg ⊢
  by_cases e:key=k
  ·subst e;rw [upd_same] at hg;cases hg
  ·rw [upd_ne _ _ e] at hg;exact hg
 refine ⟨h.size,h.defers,h.ntlt,fun m hm=>h.rng m (by rwa [hcl] at hm),fun m hm=>h.lrng m (by rwa [hlk] at hm),fun t ht=>?_,fun m ts hm'=>?_,fun key s' hk'=>?_,h.ps.same rfl (fun key hp=>?_),fun p q g hp hq=>(by rw [par_upd (by rw [hk];rfl) rfl,par_upd (by rw [hk];rfl) rfl];exact h.sep p q g (hb p g hp) (hb q g hq)),fun p g hp=>h.own p g (hb p g hp),fun key=>?_,h.ext,h.rlt,h.gl,h.fix.upd (by rw [hk];rfl) rfl rfl⟩
 ·have e:t≠k:=by have:=h.ntlt;omega
  rw [upd_ne _ _ e];exact h.slot t ht
 ·have e:m≠k:=fun e=>by subst e;rw [upd_same] at hm';cases hm'
  rw [upd_ne _ _ e] at hm';exact h.mem m ts hm'
 ·have e:key≠k:=fun e=>by subst e;rw [upd_same] at hk';cases hk'
  rw [upd_ne _ _ e] at hk';exact h.tip key s' hk'
 ·have e:key≠k:=fun e=>by subst e;rw [upd_same] at hp;cases hp
  rw [upd_ne _ _ e];exact ⟨rfl,rfl,rfl⟩
 ·by_cases e:key=k
  ·subst e;rw [upd_same];trivial
  ·rw [upd_ne _ _ e];exact hm _ (h.inv key)
theorem Sim.newTip (h:Sim C D σ γ a w) {k s:Nat} {v:Value} (hk:γ (lk k) = .no) (ht:TipOK D.R w v s) (hg:∀g,v.ownBlock=some g→C.mine g∧∀key,blk D γ key≠some g) :
  Sim C { D with τ:=upd D.τ (lk k) v } σ (upd γ (lk k) (.live s)) a w:=by
 have hτ:∀j,(γ (lk j)).isLk=true→upd D.τ (lk k) v (lk j)=D.τ (lk j):=fun j hj=>by
  have e:lk j≠lk k:=fun e=>by rw [e,hk] at hj;cases hj
  exact upd_ne _ _ e
 have hlk:∀m,(γ m).isLk=true→(upd γ (lk k) (.live s) m).isLk=true:=fun m hm=>by
  by_cases e:m=lk k
  ·subst e;rw [upd_same];rfl
  ·rw [upd_ne _ _ e];exact hm
 have hcl:∀m,(upd γ (lk k) (.live s) m).isCl=(γ m).isCl:=fun m=>by
  by_cases e:m=lk k
  ·subst e;rw [upd_same,hk];rfl
  ·rw [upd_ne _ _ e]
 have hm:∀g,Ment γ g→Ment (upd γ (lk k) (.live s)) g:=fun g hg=>by
  cases g with
  | ptr m o=>simp only [Ment,hcl] at hg ⊢;exact hg
  | tip j s'=>exact hlk _ hg
  | cl ts=>exact fun t ht=>hlk _ (hg t ht)
  | tup ts p=>exact ⟨fun t ht=>hlk _ (hg.1 t ht),fun q hq=>by rw [hcl];exact hg.2 q hq⟩
  | pe j=>exact hlk _ hg
  | pm m=>simp only [Ment,hcl] at hg ⊢;exact hg
  | sus d s' =>
   have hd:d≠lk k:=fun e=>by subst e;rcases hg with e | ⟨s'',e⟩ <;> rw [hk] at e <;> cases e
   simp only [Ment,upd_ne _ _ hd];exact hg
  | _=>trivial
 have hb:∀key,blk { D with τ:=upd D.τ (lk k) v } (upd γ (lk k) (.live s)) key=if key=lk k then v.ownBlock else blk D γ key:=fun key=>by
  unfold blk
  by_cases e:key=lk k
  ·subst e;rw [upd_same];simp [upd_same]
  ·rw [upd_ne _ _ e,if_neg e]
   cases hg:γ key with
   | live s'=>simp [upd_ne _ _ e]
   | pv s'=>simp [upd_ne _ _ e]
   | pc s'=>simp [upd_ne _ _ e]
   | sus d s'=>simp [upd_ne _ _ e]
   | _=>rfl
 refine ⟨h.size,h.defers,h.ntlt,fun m hm=>h.rng m (by rwa [hcl] at hm),fun m hm=>?_,fun t ht=>?_,fun m ts hm'=>?_,fun key s' hk'=>?_,h.ps.same rfl (fun key hp=>?_),fun p q g hp hq=>?_,fun p g hp=>?_,fun key=>?_,h.ext,h.rlt,h.gl,h.fix.of rfl (fun hp=>by
  have e:lk 999999≠lk k:=fun e=>by rw [e,hk] at hp;cases hp
  rw [upd_ne _ _ e];exact ⟨hp,upd_ne _ _ e⟩)⟩
 ·by_cases e:m=lk k
  ·subst e;exact lk_ge k
  ·rw [upd_ne _ _ e] at hm;exact h.lrng m hm
 ·have e:t≠lk k:=by have:=h.ntlt;have:=lk_ge k;omega
  rw [upd_ne _ _ e]
  rcases h.slot t ht with e | ⟨r,g⟩
  ·exact .inl e
  ·exact .inr ⟨r,fun hs=>GhOK.congr (D:=D) (h.inv t) (fun _ _=>rfl) hτ (g hs)⟩
 ·have e:m≠lk k:=fun e=>by subst e;rw [upd_same] at hm';cases hm'
  rw [upd_ne _ _ e] at hm'
  obtain ⟨cs,hv,hts⟩:=h.mem m ts hm'
  refine ⟨cs,hv,fun t ht=>?_⟩
  have hi:=h.inv m
  rw [hm'] at hi
  show cs[t.1]?=some (upd D.τ (lk k) v (lk t.2.1))
  rw [hτ _ (hi t ht)];exact hts t ht
 ·by_cases e:key=lk k
  ·subst e;rw [upd_same] at hk';cases hk';simpa [upd_same] using ht
  ·rw [upd_ne _ _ e] at hk'
   have:=h.tip key s' hk'
   rw [←upd_ne D.τ v e] at this
   exact this
 ·have e:key≠lk k:=fun e=>by subst e;rw [upd_same] at hp;cases hp
  rw [upd_ne _ _ e];exact ⟨rfl,rfl,upd_ne _ _ e⟩
 ·rw [par_upd (by rw [hk];rfl) rfl,par_upd (by rw [hk];rfl) rfl]
  rw [hb] at hp hq
  split at hp <;> split at hq
  ·rename_i e1 e2;left;rw [e1,e2]
  ·exact ((hg g hp).2 q hq).elim
  ·exact ((hg g hq).2 p hp).elim
  ·exact h.sep p q g hp hq
 ·rw [hb] at hp
  split at hp
  ·exact (hg g hp).1
  ·exact h.own p g hp
 ·by_cases e:key=lk k
  ·subst e;rw [upd_same];trivial
  ·rw [upd_ne _ _ e];exact hm _ (h.inv key)
theorem Sim.newVar (h:Sim C D σ γ a w) {m b:Nat} {x:AV} {cs:List Value} {ts:List (Nat × (Nat × Nat))} (hm:γ m = .no) (h1:C.nt≤m) (h2:m<999999) (hv:VarAt D.R w x b cs)
  (hts:∀t∈ts,(γ (lk t.2.1)).isLk=true∧cs[t.1]?=some (D.τ (lk t.2.1))) (hb:C.mine b∧∀key,blk D γ key≠some b) :
  Sim C { D with β:=upd D.β m b } (upd σ m x) (upd γ m (.cl ts)) a w:=by
 have hβ:∀j,(γ j).isCl=true→upd D.β m b j=D.β j:=fun j hj=>by
  have e:j≠m:=fun e=>by subst e;rw [hm] at hj;cases hj
  exact upd_ne _ _ e
 have hcl:∀j,(γ j).isCl=true→(upd γ m (.cl ts) j).isCl=true:=fun j hj=>by
  by_cases e:j=m
  ·subst e;rw [upd_same];rfl
  ·rw [upd_ne _ _ e];exact hj
 have hlk:∀j,(upd γ m (.cl ts) j).isLk=(γ j).isLk:=fun j=>by
  by_cases e:j=m
  ·subst e;rw [upd_same,hm];rfl
  ·rw [upd_ne _ _ e]
 have hM:∀g,Ment γ g→Ment (upd γ m (.cl ts)) g:=fun g hg=>by
  cases g with
  | ptr j o=>exact hcl _ hg
  | tip j s'=>simp only [Ment,hlk] at hg ⊢;exact hg
  | cl us=>exact fun t ht=>by rw [hlk];exact hg t ht
  | tup us p=>exact ⟨fun t ht=>by rw [hlk];exact hg.1 t ht,fun q hq=>hcl _ (hg.2 q hq)⟩
  | pe j=>simp only [Ment,hlk] at hg ⊢;exact hg
  | pm m=>exact hcl _ hg
  | sus d s' =>
   have hd:d≠m:=fun e=>by subst e;rcases hg with e | ⟨s'',e⟩ <;> rw [hm] at e <;> cases e
   simp only [Ment,upd_ne _ _ hd];exact hg
  | _=>trivial
 have hB:∀key,blk { D with β:=upd D.β m b } (upd γ m (.cl ts)) key=if key=m then some b else blk D γ key:=fun key=>by
  unfold blk
  by_cases e:key=m
  ·subst e;rw [upd_same];simp [upd_same]
  ·rw [upd_ne _ _ e,if_neg e]
   cases hg:γ key with
   | cl us=>simp [upd_ne _ _ e]
   | _=>rfl
 refine ⟨h.size,h.defers,h.ntlt,fun j hj=>?_,fun j hj=>h.lrng j (by rwa [hlk] at hj),fun t ht=>?_,fun j us hj=>?_,fun key s' hk'=>?_,h.ps.same rfl (fun key hp=>?_),fun p q g hp hq=>?_,fun p g hp=>?_,fun key=>?_,h.ext,h.rlt,h.gl,h.fix.upd (by rw [hm];rfl) (by
  have e:999999≠m:=by omega
  exact upd_ne _ _ e) rfl⟩
 ·by_cases e:j=m
  ·subst e;exact ⟨h1,by omega⟩
  ·rw [upd_ne _ _ e] at hj;exact h.rng j hj
 ·have e:t≠m:=by omega
  rw [upd_ne _ _ e,upd_ne _ _ e]
  rcases h.slot t ht with e | ⟨r,g⟩
  ·exact .inl e
  ·exact .inr ⟨r,fun hs=>GhOK.congr (D:=D) (h.inv t) hβ (fun _ _=>rfl) (g hs)⟩
 ·by_cases e:j=m
  ·subst e;rw [upd_same] at hj;cases hj;rw [upd_same]
   exact ⟨cs,by simpa [upd_same] using hv,fun t ht=>(hts t ht).2⟩
  ·rw [upd_ne _ _ e] at hj;rw [upd_ne _ _ e]
   simpa [upd_ne _ _ e] using h.mem j us hj
 ·have e:key≠m:=fun e=>by subst e;rw [upd_same] at hk';cases hk'
  rw [upd_ne _ _ e] at hk';exact h.tip key s' hk'
 ·have e:key≠m:=fun e=>by subst e;rw [upd_same] at hp;cases hp
  rw [upd_ne _ _ e,upd_ne _ _ e];exact ⟨rfl,rfl,rfl⟩
 ·rw [par_upd (by rw [hm];rfl) rfl,par_upd (by rw [hm];rfl) rfl]
  rw [hB] at hp hq
  split at hp <;> split at hq
  ·rename_i e1 e2;left;rw [e1,e2]
  ·cases hp;exact (hb.2 q hq).elim
  ·cases hq;exact (hb.2 p hp).elim
  ·exact h.sep p q g hp hq
 ·rw [hB] at hp
  split at hp
  ·cases hp;exact hb.1
  ·exact h.own p g hp
 ·by_cases e:key=m
  ·subst e;rw [upd_same];exact fun t ht=>by rw [hlk];exact (hts t ht).1
  ·rw [upd_ne _ _ e];exact hM _ (h.inv key)
theorem Sim.store (h:Sim C D σ γ a w) {m:Nat} {w':World} {x:AV} {cs:List Value} {ts us:List (Nat × (Nat × Nat))} (hm:γ m = .cl ts)
  (os:w'.os=w.os) (tape:w'.tape=w.tape) (out:w'.output=w.output) (size:w'.heap.size=w.heap.size) (hh:∀b,b≠D.β m→w'.heap[b]?=w.heap[b]?)
  (hv:VarAt D.R w' x (D.β m) cs) (hus:∀t∈us,(γ (lk t.2.1)).isLk=true∧cs[t.1]?=some (D.τ (lk t.2.1))):Sim C D (upd σ m x) (upd γ m (.cl us)) a w':=by
 obtain ⟨cs0,hv0,_⟩:=h.mem m ts hm
 have hnR:∀o,¬D.R (D.β m) o:=hv0.noR
 have keep:Keeps D.R w D.R w':=fun b o hr=>⟨hr,World.cell?_of_block (w:=w) (hh b (fun e=>hnR o (e ▸ hr)))⟩
 have hcl:∀j,(upd γ m (.cl us) j).isCl=(γ j).isCl:=fun j=>by
  by_cases e:j=m
  ·subst e;rw [upd_same,hm];rfl
  ·rw [upd_ne _ _ e]
 have hlk:∀j,(upd γ m (.cl us) j).isLk=(γ j).isLk:=fun j=>by
  by_cases e:j=m
  ·subst e;rw [upd_same,hm];rfl
  ·rw [upd_ne _ _ e]
 have hM:∀g,Ment γ g→Ment (upd γ m (.cl us)) g:=fun g hg=>by
  cases g <;> simp only [Ment,hcl,hlk] at hg ⊢ <;> first | exact hg | skip
  rename_i d s'
  have hd:d≠m:=fun e=>by subst e;rcases hg with e | ⟨s'',e⟩ <;> rw [hm] at e <;> cases e
  rw [upd_ne _ _ hd];exact hg
 have hB:∀key,blk D (upd γ m (.cl us)) key=blk D γ key:=fun key=>by
  unfold blk
  by_cases e:key=m
  ·subst e;rw [upd_same,hm]
  ·rw [upd_ne _ _ e]
 refine ⟨h.size,h.defers,h.ntlt,fun j hj=>h.rng j (by rwa [hcl] at hj),fun j hj=>h.lrng j (by rwa [hlk] at hj),fun t ht=>?_,fun j vs hj=>?_,fun key s' hk'=>?_,h.ps.keep keep (fun key hp=>?_),fun p q g hp hq=>(by rw [par_upd (by rw [hm];rfl) rfl,par_upd (by rw [hm];rfl) rfl];exact h.sep p q g (by rwa [hB] at hp) (by rwa [hB] at hq)),fun p g hp=>h.own p g (by rwa [hB] at hp),fun key=>?_,?_,fun b o hr=>by rw [size];exact h.rlt b o hr,fun n=>(h.gl n).mono keep,h.fix.upd (by rw [hm];rfl) rfl rfl⟩
 ·have e:t≠m:=by have:=(h.rng m (by rw [hm];rfl)).1;omega
  rw [upd_ne _ _ e,upd_ne _ _ e]
  exact (h.slot t ht).imp id fun ⟨r,g⟩=>⟨r.mono keep,g⟩
 ·by_cases e:j=m
  ·subst e;rw [upd_same] at hj;cases hj;rw [upd_same];exact ⟨cs,hv,fun t ht=>(hus t ht).2⟩
  ·rw [upd_ne _ _ e] at hj;rw [upd_ne _ _ e]
   obtain ⟨cs',hv',ht'⟩:=h.mem j vs hj
   have hne:D.β j≠D.β m:=fun he=>e (h.sepN (by rw [hj];rfl) (by rw [blk_cl hj,he]) (blk_cl hm))
   exact ⟨cs',hv'.keep keep (hh _ hne) hv'.noR,ht'⟩
 ·have e:key≠m:=fun e=>by subst e;rw [upd_same] at hk';cases hk'
  rw [upd_ne _ _ e] at hk'
  refine (h.tip key s' hk').keep fun g hg=>⟨hh g fun he=>e (h.sepN (by rw [hk'];rfl) (by rw [blk_live hk',hg,he]) (blk_cl hm)),fun _ hr=>hr⟩
 ·have e:key≠m:=fun e=>by subst e;rw [upd_same] at hp;cases hp
  rw [upd_ne _ _ e] at hp ⊢
  rw [upd_ne _ _ e]
  exact ⟨rfl,rfl,rfl,fun g hg=>⟨hh g fun he=>e (h.sepN (by rw [hm];rfl) (by rw [blk_cl hm,←he]) ((blk_isP hp).trans hg)).symm,fun _ hr=>hr⟩⟩
 ·by_cases e:key=m
  ·subst e;rw [upd_same];exact fun t ht=>by rw [hlk];exact (hus t ht).1
  ·rw [upd_ne _ _ e];exact hM _ (h.inv key)
 ·have hmine:=h.own m _ (blk_cl hm)
  refine ⟨os.trans h.ext.os,tape.trans h.ext.tape,out.trans h.ext.output,by rw [size];exact h.ext.size,fun b hb hn=>?_,h.ext.keep.trans keep,h.ext.rnew⟩
  refine (hh b fun e=>?_).trans (h.ext.heap b hb hn)
  subst e
  rcases hmine with hm' | hm'
  ·exact hn hm'
  ·omega
end
end Go.Eng
namespace Go.Eng
open Go.RowKit
theorem opds1 {x:Operand} {rs:List Opd} (h:opdsOK [x] rs=true):∃r,rs=[r]∧opdOK x r=true:=by
 match rs,h with
 | [r],h=>simp [opdsOK] at h;exact ⟨r,rfl,h⟩
 | [],h=>simp [opdsOK] at h
 | _ :: _ :: _,h=>simp [opdsOK] at h
theorem opds2 {x y:Operand} {rs:List Opd} (h:opdsOK [x,y] rs=true):∃r q,rs=[r,q]∧opdOK x r=true∧opdOK y q=true:=by
 match rs,h with
 | [r,q],h=>simp [opdsOK] at h;exact ⟨r,q,rfl,h⟩
 | [],h=>simp [opdsOK] at h
 | [_],h=>simp [opdsOK] at h
 | _ :: _ :: _ :: _,h=>simp [opdsOK] at h
theorem opds3 {x y z:Operand} {rs:List Opd} (h:opdsOK [x,y,z] rs=true):∃r q s,rs=[r,q,s]∧opdOK x r=true∧opdOK y q=true∧opdOK z s=true:=by
 match rs,h with
 | [r,q,s],h=>simp [opdsOK] at h;exact ⟨r,q,s,rfl,h⟩
 | [],h=>simp [opdsOK] at h
 | [_],h=>simp [opdsOK] at h
 | [_,_],h=>simp [opdsOK] at h
 | _ :: _ :: _ :: _ :: _,h=>simp [opdsOK] at h
theorem sameV_eq {x y:Value} (h:sameV x y=true):x=y:=by
 unfold sameV at h
 split at h <;> first | (simp at h;done) | (simp_all;done) | skip
 ·rename_i a b
  cases a;cases b;rename_i a b;cases a;cases b;simp_all
section
variable {R:Reach} {w:World}
theorem constCell_rep {x:Value} {y:AV} (h:constCell x y=true):Rep R w y x:=by
 unfold constCell at h
 split at h
 ·exact .nil _
 ·exact .v _
 ·cases h
 ·rw [sameV_eq h];exact .v _
 ·cases h
theorem constCell_one {x:Value} {y:AV} (h:constCell x y=true):x.oneCell'=true:=by
 unfold constCell at h
 split at h
 ·rfl
 ·rfl
 ·cases h
 ·have:=sameV_eq h;subst this;unfold sameV at h;split at h <;> first | rfl | (simp at h)
 ·cases h
theorem constCells_rep:∀{xs:List Value} {ys:List AV},constCells xs ys=true→RepL R w ys xs
 | [],[],_ => .nil
 | x :: xs,y :: ys,h=>by
  simp [constCells] at h
  exact .cons (constCell_one h.1) (constCell_rep h.1) (constCells_rep h.2)
 | [],_ :: _,h=>by simp [constCells] at h
 | _ :: _,[],h=>by simp [constCells] at h
theorem constOK_rep {x:Value} {y:AV} (h:constOK x y=true):Rep R w y x:=by
 unfold constOK at h
 split at h
 ·rename_i cs ys;cases cs;exact .ag (constCells_rep h)
 ·cases h
 ·exact constCell_rep h
end
section
variable {C:Ctx} {D:Dyn} {σ:Sg} {γ:Ga} {a:Act} {w:World}
theorem Sim.opd (h:Sim C D σ γ a w) {x:Operand} {r:Opd} (hx:opdOK x r=true) (hs:small C.nt [x]=true):SlotOK D w (r.ev C.E σ) (r.gh γ) (a.eval x):=by
 unfold opdOK at hx
 split at hx
 ·simp at hx;subst hx;simp [small] at hs;exact h.slot _ hs
 ·exact .inr ⟨constOK_rep hx,fun _=>trivial⟩
 ·simp at hx;obtain ⟨⟨h1,h2⟩,h3⟩:=hx;subst h1;subst h2;subst h3;exact .inr ⟨.v _,fun _=>trivial⟩
 ·simp at hx;subst hx;exact .inr ⟨h.gl _,fun _=>trivial⟩
 ·cases hx
theorem SlotOK.rep {s:AV} {g:Gh} {x:Value} (h:SlotOK D w s g x) (hs:s ≠ .dead):Rep D.R w s x:=(h.resolve_left hs).1
theorem SlotOK.gh {s:AV} {g:Gh} {x:Value} (h:SlotOK D w s g x) (hs:s ≠ .dead) (hk:s ≠ .sk):GhOK D g x:=(h.resolve_left hs).2 hk
theorem SlotOK.plain {s:AV} {x:Value} (h:Rep D.R w s x):SlotOK D w s .no x := .inr ⟨h,fun _=>trivial⟩
theorem Sim.val (h:Sim C D σ γ a w) {o:Oper} {d:Nat} (hd:o.dst=some d) (hl:d<C.nt) {v:Value} {s:AV} {g:Gh} (hr:(execOp a.eval o).run C.P w = .ok (.value v) w)
  (hs:SlotOK D w s g v) (g1:g.isCl=false) (g2:g.isLk=false) (gm:Ment γ g) {K:Act→World→Prop} {Q:Exit→Act→World→Prop}
  (hK:∀D' a' w',Sim C D' (upd σ d s) (upd γ d g) a' w'→K a' w'):o.wp C.P a w K Q:=by
 unfold Oper.wp
 rw [hr,Oper.upon_value,hd]
 exact hK _ _ _ (h.put hl hs g1 g2 gm)
theorem Sim.valNo (h:Sim C D σ γ a w) {o:Oper} {d:Nat} (hd:o.dst=some d) (hl:d<C.nt) {v:Value} {s:AV} (hr:(execOp a.eval o).run C.P w = .ok (.value v) w)
  (hs:Rep D.R w s v) {K:Act→World→Prop} {Q:Exit→Act→World→Prop}
  (hK:∀D' a' w',Sim C D' (upd σ d s) (upd γ d .no) a' w'→K a' w'):o.wp C.P a w K Q :=
 h.val hd hl hr (.plain hs) rfl rfl trivial hK
theorem Sim.ment_opd (h:Sim C D σ γ a w) (r:Opd):Ment γ (r.gh γ):=by
 cases r with
 | s t=>exact h.inv t
 | _=>trivial
theorem Ment.strip {g:Gh} (h:Ment γ g):Ment γ g.strip:=by cases g <;> first | exact h | trivial
variable {o:Oper} {d:Nat} {K:Act→World→Prop} {Q:Exit→Act→World→Prop} (h:Sim C D σ γ a w) (hd:o.dst=some d) (hl:d<C.nt)
include h hd hl
theorem op_mv {x:Operand} {r:Opd} (ho:o.op = .move x∨o.op = .assign x) (hx:opdOK x r=true) (hs:small C.nt [x]=true)
  (hK:∀D' a' w',Sim C D' (upd σ d (r.ev C.E σ)) (upd γ d (r.gh γ).strip) a' w'→K a' w'):o.wp C.P a w K Q:=by
 have hr:(execOp a.eval o).run C.P w = .ok (.value (a.eval x)) w:=by rcases ho with e | e <;> simp [execOp,e]
 refine h.val hd hl hr (g:=(r.gh γ).strip) ?_ ?_ ?_ (h.ment_opd r).strip hK
 ·rcases h.opd hx hs with e | ⟨e1,e2⟩
  ·exact .inl e
  ·exact .inr ⟨e1,by cases hg:r.gh γ <;> rw [hg] at e2 <;> first | exact e2 | trivial⟩
 ·cases r.gh γ <;> rfl
 ·cases r.gh γ <;> rfl
theorem op_pick {c x y:Operand} {r q s:Opd} {b:Bool} (ho:o.op = .pick c x y) (hc:opdOK c r=true) (hx:opdOK x q=true) (hy:opdOK y s=true) (hs:small C.nt [c]=true) (hs1:small C.nt [x]=true) (hs2:small C.nt [y]=true)
  (hb:r.ev C.E σ = .v (.bool b)) (hK:∀D' a' w',Sim C D' (upd σ d (if b then q.ev C.E σ else s.ev C.E σ)) (upd γ d .no) a' w'→K a' w'):o.wp C.P a w K Q:=by
 have hv:=(h.opd hc hs).rep (by rw [hb];simp)
 rw [hb] at hv
 have hv':a.eval c = .bool b:=by generalize a.eval c=z at hv;cases hv;rfl
 have hr:(execOp a.eval o).run C.P w = .ok (.value (if b then a.eval x else a.eval y)) w:=by cases b <;> simp [execOp,ho,hv',asBool]
 refine h.val hd hl hr (g := .no) ?_ rfl rfl trivial hK
 cases b with
 | true=>exact (h.opd hx hs1).imp id fun e=>⟨e.1,fun _=>trivial⟩
 | false=>exact (h.opd hy hs2).imp id fun e=>⟨e.1,fun _=>trivial⟩
omit h hd hl in
theorem Rep.v_inv {R:Reach} {x y:Value} (h:Rep R w (.v x) y):y=x:=by cases h;rfl
omit h hd hl in
theorem binV_run {P:Program} {w:World} {op:BinOp} {t:TypeId} {x y z:Value} (h:binV op x y=some z):(binOp op t x y).run P w = .ok z w:=by
 unfold binV at h
 split at h
 all_goals repeat' split at h
 all_goals first
  | (cases h;done)
  | (cases h;simp only [binOp,Op.shift,Sem.run_ite];rw [if_neg (by assumption)];rfl)
  | (cases h;simp_all [binOp,Op.shift,Op.intArith,Op.intDiv,Op.intBits,Op.intCmp,Op.stringOp,intBitsV];done)
  | exact fltV_run h
  | skip
omit h hd hl in
theorem unV_run {P:Program} {w:World} {op:UnOp} {x z:Value} (h:unV op x=some z):(Op.unary op x).run P w = .ok z w:=by
 unfold unV at h
 split at h <;> cases h <;> first | exact run_neg_float | simp [Op.unary,Op.intArith,Op.intBits,intBitsV]
theorem op_bin {b:BinOp} {t t':TypeId} {x y:Operand} {r q:Opd} {u v z:Value} (ho:o.op = .binOp b t x y t') (hx:opdOK x r=true) (hy:opdOK y q=true) (hs1:small C.nt [x]=true) (hs2:small C.nt [y]=true)
  (hr:r.ev C.E σ = .v u) (hq:q.ev C.E σ = .v v) (hz:binV b u v=some z) (hK:∀D' a' w',Sim C D' (upd σ d (.v z)) (upd γ d .no) a' w'→K a' w'):o.wp C.P a w K Q:=by
 have e1:=(h.opd hx hs1).rep (by rw [hr];simp)
 have e2:=(h.opd hy hs2).rep (by rw [hq];simp)
 rw [hr] at e1;rw [hq] at e2
 have hg:eqGuard b t x y u v=pure ():=by
  unfold binV at hz
  split at hz <;> first | (cases hz;done) | exact fltV_guard hz | (unfold eqGuard;split <;> simp_all)
 have hrun:(execOp a.eval o).run C.P w = .ok (.value z) w:=by
  simp only [execOp,ho,e1.v_inv,e2.v_inv,hg,Sem.run_bind,Sem.run_pure,Result.andThen_ok,binV_run hz]
 exact h.valNo hd hl hrun (.v z) hK
theorem op_be {neg:Bool} {b:BinOp} {t t':TypeId} {x y:Operand} {r q:Opd} {u v:Bool} (ho:o.op = .binOp b t x y t') (hb:b=if neg then .neq else .eql) (ht:C.P.underlying t=some .bool) (hx:opdOK x r=true) (hy:opdOK y q=true) (hs1:small C.nt [x]=true) (hs2:small C.nt [y]=true)
  (hr:r.ev C.E σ = .v (.bool u)) (hq:q.ev C.E σ = .v (.bool v)) (hK:∀D' a' w',Sim C D' (upd σ d (.v (.bool (if neg then !(u == v) else u == v)))) (upd γ d .no) a' w'→K a' w'):o.wp C.P a w K Q:=by
 have e1:=(h.opd hx hs1).rep (by rw [hr];simp)
 have e2:=(h.opd hy hs2).rep (by rw [hq];simp)
 rw [hr] at e1;rw [hq] at e2
 have hg:eqGuard b t x y (.bool u) (.bool v)=pure ():=by unfold eqGuard;cases neg <;> simp [hb]
 have he:(Op.equal t (.bool u) (.bool v)).run C.P w = .ok (u == v) w:=by
  unfold Op.equal Op.maxDepth
  rw [show (10000:Nat)=9999+1 from rfl,Op.equalIn]
  simp [run_underlying ht]
 have hrun:(execOp a.eval o).run C.P w = .ok (.value (.bool (if neg then !(u == v) else u == v))) w:=by
  simp only [execOp,ho,e1.v_inv,e2.v_inv,hg,Sem.run_bind,Sem.run_pure,Result.andThen_ok]
  cases neg <;> simp [hb,binOp,he]
 exact h.valNo hd hl hrun (.v _) hK
theorem op_un {b:UnOp} {t:TypeId} {x:Operand} {r:Opd} {u z:Value} (ho:o.op = .unOp b t x) (hx:opdOK x r=true) (hs1:small C.nt [x]=true)
  (hr:r.ev C.E σ = .v u) (hz:unV b u=some z) (hK:∀D' a' w',Sim C D' (upd σ d (.v z)) (upd γ d .no) a' w'→K a' w'):o.wp C.P a w K Q:=by
 have e1:=(h.opd hx hs1).rep (by rw [hr];simp)
 rw [hr] at e1
 have hrun:(execOp a.eval o).run C.P w = .ok (.value z) w:=by
  simp only [execOp,ho,e1.v_inv,Sem.run_bind,Sem.run_pure,Result.andThen_ok,unV_run hz]
 exact h.valNo hd hl hrun (.v z) hK
theorem op_ci {k k':IntKind} {n:Int} {s t:TypeId} {x:Operand} {r:Opd} (ho:o.op = .convert s t x) (ht:C.P.underlying t=some (.int k)) (hs:(C.P.underlying s).isSome=true) (hx:opdOK x r=true) (hs1:small C.nt [x]=true)
  (hr:r.ev C.E σ = .v (.int k' n)) (hK:∀D' a' w',Sim C D' (upd σ d (.v (.int k (k.wrap n)))) (upd γ d .no) a' w'→K a' w'):o.wp C.P a w K Q:=by
 have e1:=(h.opd hx hs1).rep (by rw [hr];simp)
 rw [hr] at e1
 obtain ⟨u,hu⟩:=Option.isSome_iff_exists.1 hs
 have hrun:(execOp a.eval o).run C.P w = .ok (.value (.int k (k.wrap n))) w:=by
  simp only [execOp,ho,e1.v_inv,convert,Sem.run_bind,run_underlying hu,run_underlying ht,Result.andThen_ok,Conv.intToInt,Sem.run_pure]
 exact h.valNo hd hl hrun (.v _) hK
theorem op_cs {s t:TypeId} {x:Operand} {r:Opd} {b:ByteArray} (ho:o.op = .convert s t x) (ht:C.P.underlying t=some .string) (hs:C.P.underlying s=some .string) (hx:opdOK x r=true) (hs1:small C.nt [x]=true)
  (hr:r.ev C.E σ = .v (.string b)) (hK:∀D' a' w',Sim C D' (upd σ d (.v (.string b))) (upd γ d .no) a' w'→K a' w'):o.wp C.P a w K Q:=by
 have e1:=(h.opd hx hs1).rep (by rw [hr];simp)
 rw [hr] at e1
 have hrun:(execOp a.eval o).run C.P w = .ok (.value (.string b)) w:=by
  simp [execOp,ho,e1.v_inv,convert,run_underlying hs,run_underlying ht]
 exact h.valNo hd hl hrun (.v _) hK
theorem op_minmax {x y:Operand} {r q:Opd} {k k':IntKind} {u v:Int} {mx:Bool} {ts:Array TypeId} (ho:o.op = .call { callee := .builtin (if mx then .max else .min),args:=#[x,y],argTypes:=ts }) (hx:opdOK x r=true) (hy:opdOK y q=true) (hs1:small C.nt [x]=true) (hs2:small C.nt [y]=true)
  (hr:r.ev C.E σ = .v (.int k u)) (hq:q.ev C.E σ = .v (.int k' v)) (hK:∀D' a' w',Sim C D' (upd σ d (.v (.int k (if mx then maxI u v else minI u v)))) (upd γ d .no) a' w'→K a' w'):o.wp C.P a w K Q:=by
 have e1:=(h.opd hx hs1).rep (by rw [hr];simp)
 have e2:=(h.opd hy hs2).rep (by rw [hq];simp)
 rw [hr] at e1;rw [hq] at e2
 have hrun:(execOp a.eval o).run C.P w = .ok (.value (.int k (if mx then maxI u v else minI u v))) w:=by
  cases mx <;> simp [execOp,ho,e1.v_inv,e2.v_inv,resolve,invoke,builtin,Builtin.min_,Builtin.max_,Builtin.min2,Builtin.max2,minI,maxI]
 exact h.valNo hd hl hrun (.v _) hK
omit h hd hl in
theorem GhOK.comp {i:Nat} {ys:List Value} {y:Value} {g:Gh} (hg:GhOK D g (.tuple ⟨ys⟩)) (hy:ys[i]?=some y):GhOK D (g.comp i) y:=by
 cases g with
 | tup ts p =>
  obtain ⟨zs,e,h1,h2⟩:=hg
  cases e
  simp only [Gh.comp]
  split
  ·rename_i t hf
   have hm:=List.mem_of_find?_eq_some hf
   have hp:=List.find?_some hf
   simp at hp
   have:=h1 _ hm
   simp only [hp,hy] at this
   have e:=Option.some.inj this.1
   exact ⟨e,by rw [e];exact this.2⟩
  ·split
   ·rename_i j m
    split
    ·rename_i e;subst e
     have:=h2 _ rfl
     rw [hy] at this
     exact Option.some.inj this
    ·trivial
   ·trivial
 | _=>trivial
omit h hd hl in
theorem Ment.comp {i:Nat} {g:Gh} (hg:Ment γ g):Ment γ (g.comp i):=by
 cases g with
 | tup ts p =>
  simp only [Gh.comp]
  split
  ·rename_i t hf;exact hg.1 _ (List.mem_of_find?_eq_some hf)
  ·split
   ·rename_i j m
    split
    ·exact hg.2 _ rfl
    ·trivial
   ·trivial
 | _=>trivial
omit h hd hl in
theorem Gh.comp_flat (i:Nat) (g:Gh):(g.comp i).isCl=false∧(g.comp i).isLk=false:=by
 unfold Gh.comp
 repeat' split
 all_goals exact ⟨rfl,rfl⟩
theorem op_ex {i:Nat} {x:Operand} {r:Opd} {vs:List AV} {s:AV} (ho:o.op = .extract x i) (hx:opdOK x r=true) (hs1:small C.nt [x]=true)
  (hr:r.ev C.E σ = .tu vs) (hi:vs[i]?=some s) (hK:∀D' a' w',Sim C D' (upd σ d s) (upd γ d ((r.gh γ).comp i)) a' w'→K a' w'):o.wp C.P a w K Q:=by
 have e0:=h.opd hx hs1
 have e1:=e0.rep (by rw [hr];simp)
 have e2:=e0.gh (by rw [hr];simp) (by rw [hr];rintro e;cases e;simp at hi)
 rw [hr] at e1
 obtain ⟨ys,hy,hT⟩:∃ys,a.eval x = .tuple ⟨ys⟩∧RepT D.R w vs ys:=by generalize a.eval x=z at e1;cases e1;exact ⟨_,rfl,‹_›⟩
 obtain ⟨y,hy1,hy2⟩:=hT.get i s hi
 have hrun:(execOp a.eval o).run C.P w = .ok (.value y) w:=by
  simp [execOp,ho,hy,Instr.extract,hy1]
 rw [hy] at e2
 exact h.val hd hl hrun (.inr ⟨hy2,fun _=>e2.comp hy1⟩) (Gh.comp_flat _ _).1 (Gh.comp_flat _ _).2 (h.ment_opd r).comp hK
end
end Go.Eng
namespace Go.Eng
open Go.RowKit
section
variable {P:Program}
theorem isStrT_spec {t:TypeId} (h:isStrT P t=true):P.underlying t=some .string:=by
 unfold isStrT at h;split at h <;> simp_all
theorem isBoolT_spec {t:TypeId} (h:isBoolT P t=true):P.underlying t=some .bool:=by
 unfold isBoolT at h;split at h <;> simp_all
theorem isIntT_spec {t:TypeId} {k:IntKind} (h:isIntT P t k=true):P.underlying t=some (.int k):=by
 unfold isIntT at h;split at h <;> simp_all
theorem elemT_spec {t e:TypeId} (h:elemT P t=some e):P.underlying t=some (.slice e):=by
 unfold elemT at h
 cases hu:P.underlying t with
 | none=>simp [hu] at h
 | some d=>simp only [hu,Option.bind_some] at h;split at h <;> simp_all
theorem sizeT_spec {t:TypeId} {n:Nat} (h:sizeT P t=some n):∃i,P.info? t=some i∧i.size=n:=by
 unfold sizeT at h
 cases hu:P.info? t with
 | none=>simp [hu] at h
 | some i=>simp [hu] at h;exact ⟨i,rfl,h⟩
theorem sliceOK'_spec {t:TypeId} {s:Nat} (h:sliceOK' P t s=true):∃e i,P.underlying t=some (.slice e)∧P.info? e=some i∧i.size=s∧0<s:=by
 unfold sliceOK' at h
 cases he:elemT P t with
 | none=>simp [he] at h
 | some e =>
  simp [he] at h
  obtain ⟨i,h1,h2⟩:=sizeT_spec h.1
  exact ⟨e,i,elemT_spec he,h1,h2,h.2⟩
theorem isByteSl_spec {t:TypeId} (h:isByteSl P t=true):∃e,P.underlying t=some (.slice e)∧P.underlying e=some (.int .u8):=by
 unfold isByteSl at h
 cases he:elemT P t with
 | none=>simp [he] at h
 | some e=>simp [he] at h;exact ⟨e,elemT_spec he,isIntT_spec h⟩
theorem shapeOK_spec {t:TypeId} {n:Nat} {agg:Bool} (h:shapeOK P t n agg=true):∃i,P.info? t=some i∧i.size=n∧isAggT P t=some agg∧(agg=true∨n=1):=by
 unfold shapeOK at h
 simp at h
 obtain ⟨⟨h1,h2⟩,h3⟩:=h
 obtain ⟨i,e1,e2⟩:=sizeT_spec h1
 exact ⟨i,e1,e2,h2,h3⟩
theorem fieldT_spec {t:TypeId} {f:Nat} {fl:Field} (h:fieldT P t f=some fl):∃fs,P.underlying t=some (.struct fs)∧fs[f]?=some fl:=by
 unfold fieldT at h
 cases hu:P.underlying t with
 | none=>simp [hu] at h
 | some d=>simp only [hu,Option.bind_some] at h;split at h <;> simp_all
theorem run_sizeOf {t:TypeId} {i:TypeInfo} (h:P.info? t=some i) (w:World):(sizeOf t).run P w = .ok i.size w:=by simp [sizeOf,typeInfo,h]
theorem run_isAgg {t:TypeId} {b:Bool} (h:isAggT P t=some b) (w:World):(isAgg t).run P w = .ok b w:=by
 unfold isAggT at h
 cases hu:P.underlying t with
 | none=>simp [hu] at h
 | some d =>
  simp only [hu,Option.map_some,Option.some.injEq] at h
  unfold isAgg
  simp only [Sem.run_bind,run_underlying hu,Result.andThen_ok]
  cases d <;> simp_all
theorem run_loadVar {t:TypeId} {i:TypeInfo} {agg:Bool} (hi:P.info? t=some i) (ha:isAggT P t=some agg) (h1:agg=true∨i.size=1) {w:World} {b off:Nat} {ys:List Value} (hl:ys.length=i.size)
  (hc:∀j y,ys[j]?=some y→w.cell? ⟨b,off+j,none⟩=some y):(loadVar t ⟨b,off,none⟩).run P w = .ok (if agg then .agg ⟨ys⟩ else ys.headD undef) w:=by
 unfold loadVar
 simp only [Sem.run_bind,run_isAgg ha,Result.andThen_ok]
 cases agg with
 | true =>
  have:=run_loadCells_list (P:=P) w ⟨b,off,none⟩ ys (fun j v hj=>by
   have h:=hc j v hj
   unfold Addr.add
   split
   ·rename_i e;subst e;exact h
   ·exact h)
  simp [run_sizeOf hi,←hl,this]
 | false =>
  have hs:i.size=1:=by simpa using h1
  match ys,hl with
  | [y],_ =>
   have:=hc 0 y rfl
   simp at this
   simp [this]
  | [],hl=>simp [hs] at hl
  | _ :: _ :: _,hl=>simp [hs] at hl
end
theorem take1 {α:Type} {l:List α} {i:Nat} (h:i<l.length):(l.drop i).take 1=[l[i]]:=by
 rw [List.drop_eq_getElem_cons h,List.take_succ_cons,List.take_zero]
theorem bsize (b:ByteArray):b.data.toList.length=b.size:=by rw [Array.length_toList];rfl
theorem bget {b:ByteArray} {i:Nat} {x:UInt8} (h:b.data.toList[i]?=some x):b[i]?=some x:=by
 have hlt:=(List.getElem?_eq_some_iff.1 h).1
 rw [bsize] at hlt
 rw [getElem?_pos b i hlt,←(List.getElem?_eq_some_iff.1 h).2]
 rfl
section
variable {C:Ctx} {D:Dyn} {σ:Sg} {γ:Ga} {a:Act} {w:World}
theorem Rep.sl_inv {R:Reach} {w:World} {s:Nat} {es:List AV} {y:Value} (h:Rep R w (.sl s es) y) :
  (es=[]∧y = .slice none 0 0)∨(∃b off cap,y = .slice (some ⟨b,off,none⟩) es.length cap∧es.length≤cap∧cap≤maxLen∧RepE R w s es b off)∨(es=[]∧∃ad cap,y = .slice (some ad) 0 cap∧cap≤maxLen):=by
 cases h with
 | nil=>exact .inl ⟨rfl,rfl⟩
 | sl h1 h2 h3 h4=>subst h1;exact .inr (.inl ⟨_,_,_,rfl,h2,h3,h4⟩)
 | em _ h=>exact .inr (.inr ⟨rfl,_,_,rfl,h⟩)
theorem Rep.sl_tip {R:Reach} {w:World} {s s':Nat} {es:List AV} {y:Value} (h:Rep R w (.sl s es) y) (ht:TipOK R w y s') :
  (es=[]∧y = .slice none 0 0)∨∃b off cap,y = .slice (some ⟨b,off,none⟩) es.length cap∧es.length≤cap∧cap≤maxLen∧RepE R w s es b off:=by
 rcases h.sl_inv with e | e | ⟨rfl,ad,cap,rfl,hc⟩
 ·exact .inl e
 ·exact .inr e
 ·rcases ht with e | ⟨g,n,cap',cur,el,fz,e,_⟩
  ·cases e
  ·cases e;exact .inr ⟨_,_,_,rfl,Nat.zero_le _,hc,.nil _ _ _⟩
theorem Rep.ro_inv {R:Reach} {w:World} {x:AV} {y:Value} (h:Rep R w (.ro x) y):∃b off s,y = .pointer (some ⟨b,off,none⟩)∧RepAt R w s x b off:=by
 cases h with
 | ro h=>exact ⟨_,_,_,rfl,h⟩
theorem Rep.ag_inv {R:Reach} {w:World} {cs:List AV} {y:Value} (h:Rep R w (.ag cs) y):∃ys,y = .agg ⟨ys⟩∧RepL R w cs ys:=by
 cases h with
 | ag h=>exact ⟨_,rfl,h⟩
theorem Rep.sl_len {R:Reach} {w:World} {s:Nat} {es:List AV} {y:Value} (h:Rep R w (.sl s es) y):∃q cap,y = .slice q es.length cap:=by
 rcases h.sl_inv with ⟨rfl,rfl⟩ | ⟨b,off,cap,rfl,_⟩ | ⟨rfl,ad,cap,rfl,_⟩
 ·exact ⟨_,_,rfl⟩
 ·exact ⟨_,_,rfl⟩
 ·exact ⟨_,_,rfl⟩
theorem repOf {R:Reach} {x:AV} {ys:List Value} (h:RepL R w x.cells ys):Rep R w x (if x.isAg then .agg ⟨ys⟩ else ys.headD undef):=by
 cases x with
 | ag cs=>exact .ag h
 | _ =>
  simp only [AV.cells,AV.isAg] at h ⊢
  cases h with
  | cons _ h1 h2=>cases h2;simpa using h1
theorem part_rep {R:Reach} {cs:List AV} {ys:List Value} {o n:Nat} {agg:Bool} {x:AV} (h:RepL R w cs ys) (hp:partAV cs o n agg=some x) (h1:agg=true∨n=1) :
  ((ys.drop o).take n).length=n∧Rep R w x (if agg then .agg ⟨(ys.drop o).take n⟩ else ((ys.drop o).take n).headD undef):=by
 have hlen:=h.length
 unfold partAV at hp
 cases agg with
 | true =>
  simp only [if_true] at hp
  split at hp
  ·rename_i hle
   cases hp
   exact ⟨by simp;omega,.ag ((h.drop o).take n)⟩
  ·cases hp
 | false =>
  simp at h1
  subst h1
  simp at hp
  obtain ⟨y,hy1,_,hy2⟩:=h.get o x hp
  have hlt:=(List.getElem?_eq_some_iff.1 hy1).1
  refine ⟨by simp;omega,?_⟩
  have:(ys.drop o).take 1=[y]:=by
   rw [take1 hlt,(List.getElem?_eq_some_iff.1 hy1).2]
  simpa [this] using hy2
variable {o:Oper} {d:Nat} {K:Act→World→Prop} {Q:Exit→Act→World→Prop} (h:Sim C D σ γ a w) (hd:o.dst=some d) (hl:d<C.nt)
include h hd hl
theorem op_len_sl {x:Operand} {r:Opd} {t e:TypeId} {s:Nat} {es:List AV} (ho:o.op = .call { callee := .builtin .len,args:=#[x],argTypes:=#[t] }) (ht:C.P.underlying t=some (.slice e)) (hx:opdOK x r=true) (hs1:small C.nt [x]=true)
  (hr:r.ev C.E σ = .sl s es) (hK:∀D' a' w',Sim C D' (upd σ d (.v (.int .i64 es.length))) (upd γ d .no) a' w'→K a' w'):o.wp C.P a w K Q:=by
 have e1:=(h.opd hx hs1).rep (by rw [hr];simp)
 rw [hr] at e1
 obtain ⟨q,cap,hq⟩:=e1.sl_len
 have hrun:(execOp a.eval o).run C.P w = .ok (.value (.int .i64 es.length)) w:=by
  simp [execOp,ho,hq,resolve,invoke,builtin,Builtin.len_,run_underlying ht,goInt]
 exact h.valNo hd hl hrun (.v _) hK
theorem op_len_str {x:Operand} {r:Opd} {t:TypeId} {b:ByteArray} (ho:o.op = .call { callee := .builtin .len,args:=#[x],argTypes:=#[t] }) (ht:C.P.underlying t=some .string) (hx:opdOK x r=true) (hs1:small C.nt [x]=true)
  (hr:r.ev C.E σ = .v (.string b)) (hK:∀D' a' w',Sim C D' (upd σ d (.v (.int .i64 b.data.toList.length))) (upd γ d .no) a' w'→K a' w'):o.wp C.P a w K Q:=by
 have e1:=(h.opd hx hs1).rep (by rw [hr];simp)
 rw [hr] at e1
 have hrun:(execOp a.eval o).run C.P w = .ok (.value (.int .i64 b.data.toList.length)) w:=by
  rw [bsize]
  simp [execOp,ho,e1.v_inv,resolve,invoke,builtin,Builtin.len_,run_underlying ht,goInt]
 exact h.valNo hd hl hrun (.v _) hK
omit h hd hl in
theorem addr_add (b off n:Nat):(⟨b,off,none⟩:Addr).add n=⟨b,off+n,none⟩:=by
 unfold Addr.add;split
 ·rename_i e;subst e;rfl
 ·rfl
theorem op_ix {x y:Operand} {r q:Opd} {t e:TypeId} {inf:TypeInfo} {s:Nat} {es:List AV} {k:IntKind} {i:Int} {el:AV} (ho:o.op = .indexAddr t x y) (ht:C.P.underlying t=some (.slice e)) (hi:C.P.info? e=some inf) (hz:inf.size=s)
  (hx:opdOK x r=true) (hy:opdOK y q=true) (hs1:small C.nt [x]=true) (hs2:small C.nt [y]=true)
  (hr:r.ev C.E σ = .sl s es) (hq:q.ev C.E σ = .v (.int k i)) (h0:0≤i) (hel:es[i.toNat]?=some el) (hK:∀D' a' w',Sim C D' (upd σ d (.ro el)) (upd γ d .no) a' w'→K a' w'):o.wp C.P a w K Q:=by
 have e1:=(h.opd hx hs1).rep (by rw [hr];simp)
 have e2:=(h.opd hy hs2).rep (by rw [hq];simp)
 rw [hr] at e1;rw [hq] at e2
 have hlt:=(List.getElem?_eq_some_iff.1 hel).1
 rcases e1.sl_inv with ⟨rfl,_⟩ | ⟨b,off,cap,hv,_,_,hE⟩ | ⟨rfl,_⟩
 rotate_left 2
 ·simp at hlt
 ·simp at hlt
 ·have hrun:(execOp a.eval o).run C.P w = .ok (.value (.pointer (some ⟨b,off+i.toNat * s,none⟩))) w:=by
   simp [execOp,ho,hv,e2.v_inv,Instr.indexAt,asIntOf,run_underlying ht,run_sizeOf hi,hz,h0,addr_add]
   omega
  exact h.valNo hd hl hrun (.ro (hE.get _ _ hel)) hK
theorem op_si {x y:Operand} {r q:Opd} {t:TypeId} {b:ByteArray} {k:IntKind} {i:Int} {el:UInt8} (ho:o.op = .index t x y) (ht:C.P.underlying t=some .string)
  (hx:opdOK x r=true) (hy:opdOK y q=true) (hs1:small C.nt [x]=true) (hs2:small C.nt [y]=true)
  (hr:r.ev C.E σ = .v (.string b)) (hq:q.ev C.E σ = .v (.int k i)) (h0:0≤i) (hel:b.data.toList[i.toNat]?=some el) (hK:∀D' a' w',Sim C D' (upd σ d (byteAV el)) (upd γ d .no) a' w'→K a' w'):o.wp C.P a w K Q:=by
 have e1:=(h.opd hx hs1).rep (by rw [hr];simp)
 have e2:=(h.opd hy hs2).rep (by rw [hq];simp)
 rw [hr] at e1;rw [hq] at e2
 have hb:=bget hel
 have hrun:(execOp a.eval o).run C.P w = .ok (.value (.int .u8 el.toNat)) w:=by
  simp [execOp,ho,e1.v_inv,e2.v_inv,Instr.index,asIntOf,run_underlying ht,h0,hb]
 exact h.valNo hd hl hrun (.v _) hK
theorem op_fe {x:Operand} {r:Opd} {t:TypeId} {f o' n:Nat} {agg:Bool} {fs:Array Field} {fl:Field} {inf:TypeInfo} {cs:List AV} {s:AV} (ho:o.op = .field t x f) (ht:C.P.underlying t=some (.struct fs)) (hf:fs[f]?=some fl) (hoff:fl.offset=o') (hi:C.P.info? fl.type=some inf) (hz:inf.size=n) (ha:isAggT C.P fl.type=some agg) (h1:agg=true∨n=1)
  (hx:opdOK x r=true) (hs1:small C.nt [x]=true) (hr:r.ev C.E σ = .ag cs) (hp:partAV cs o' n agg=some s) (hK:∀D' a' w',Sim C D' (upd σ d s) (upd γ d .no) a' w'→K a' w'):o.wp C.P a w K Q:=by
 have e1:=(h.opd hx hs1).rep (by rw [hr];simp)
 rw [hr] at e1
 obtain ⟨ys,hy,hL⟩:=e1.ag_inv
 obtain ⟨hlen,hrep⟩:=part_rep hL hp h1
 have hrun:(execOp a.eval o).run C.P w = .ok (.value (if agg then .agg ⟨(ys.drop o').take n⟩ else ((ys.drop o').take n).headD undef)) w:=by
  simp only [execOp,ho,hy,Instr.field,Sem.run_bind,run_underlying ht,Result.andThen_ok,hf,asAgg,Sem.run_pure,part,run_isAgg ha]
  cases agg with
  | true=>simp [run_sizeOf hi,hz,hoff,List.extract_eq_take_drop]
  | false =>
   have hn:n=1:=by simpa using h1
   subst hn
   have hlt:o'<ys.length:=by simp at hlen;omega
   rw [take1 hlt]
   simp [hoff,List.getElem?_eq_getElem hlt]
 exact h.valNo hd hl hrun hrep hK
theorem op_ai {x y:Operand} {r q:Opd} {t e:TypeId} {nn s:Nat} {agg:Bool} {inf:TypeInfo} {cs:List AV} {k:IntKind} {i:Int} {el:AV} (ho:o.op = .index t x y) (ht:C.P.underlying t=some (.array nn e)) (hi:C.P.info? e=some inf) (hz:inf.size=s) (ha:isAggT C.P e=some agg) (h1:agg=true∨s=1)
  (hx:opdOK x r=true) (hy:opdOK y q=true) (hs1:small C.nt [x]=true) (hs2:small C.nt [y]=true)
  (hr:r.ev C.E σ = .ag cs) (hq:q.ev C.E σ = .v (.int k i)) (h0:0≤i) (hn:i<nn) (hp:partAV cs (i.toNat * s) s agg=some el) (hK:∀D' a' w',Sim C D' (upd σ d el) (upd γ d .no) a' w'→K a' w'):o.wp C.P a w K Q:=by
 have e1:=(h.opd hx hs1).rep (by rw [hr];simp)
 have e2:=(h.opd hy hs2).rep (by rw [hq];simp)
 rw [hr] at e1;rw [hq] at e2
 obtain ⟨ys,hy',hL⟩:=e1.ag_inv
 obtain ⟨hlen,hrep⟩:=part_rep hL hp h1
 have hrun:(execOp a.eval o).run C.P w = .ok (.value (if agg then .agg ⟨(ys.drop (i.toNat * s)).take s⟩ else ((ys.drop (i.toNat * s)).take s).headD undef)) w:=by
  simp only [execOp,ho,hy',e2.v_inv,Instr.index,asIntOf,Sem.run_bind,run_underlying ht,Result.andThen_ok,Sem.run_pure,h0,hn,and_self,if_true,run_sizeOf hi,hz,part,run_isAgg ha]
  cases agg with
  | true=>simp [run_sizeOf hi,hz,List.extract_eq_take_drop]
  | false =>
   have hn:s=1:=by simpa using h1
   subst hn
   rw [Nat.mul_one] at hlen ⊢
   have hlt:i.toNat<ys.length:=by simp at hlen;omega
   rw [take1 hlt]
   simp [List.getElem?_eq_getElem hlt]
 exact h.valNo hd hl hrun hrep hK
theorem op_lr {x:Operand} {r:Opd} {t:TypeId} {inf:TypeInfo} {n:Nat} {agg:Bool} {s:AV} (ho:o.op = .load t x) (hi:C.P.info? t=some inf) (hz:inf.size=n) (ha:isAggT C.P t=some agg) (h1:agg=true∨n=1)
  (hx:opdOK x r=true) (hs1:small C.nt [x]=true) (hr:r.ev C.E σ = .ro s) (hs2:s.isAg=agg) (hs3:s.cells.length=n) (hK:∀D' a' w',Sim C D' (upd σ d s) (upd γ d .no) a' w'→K a' w'):o.wp C.P a w K Q:=by
 have e1:=(h.opd hx hs1).rep (by rw [hr];simp)
 rw [hr] at e1
 obtain ⟨b,off,s',hv,hA⟩:=e1.ro_inv
 obtain ⟨ys,hl1,hc,hL⟩:=hA.read
 have hys:ys.length=n:=by rw [←hL.length,hs3]
 have hrun:(execOp a.eval o).run C.P w = .ok (.value (if agg then .agg ⟨ys⟩ else ys.headD undef)) w:=by
  simp only [execOp,ho,hv,Instr.loadAt,Instr.sureAddr,Sem.run_bind,Sem.run_pure,Result.andThen_ok,run_loadVar hi ha (hz ▸ h1) (hys.trans hz.symm) hc]
 exact h.valNo hd hl hrun (by rw [←hs2];exact repOf hL) hK
theorem op_fr {x:Operand} {r:Opd} {t:TypeId} {f o' n:Nat} {agg:Bool} {fs:Array Field} {fl:Field} {inf:TypeInfo} {cs:List AV} {s:AV} (ho:o.op = .fieldAddr t x f) (ht:C.P.underlying t=some (.struct fs)) (hf:fs[f]?=some fl) (hoff:fl.offset=o') (hi:C.P.info? fl.type=some inf) (hz:inf.size=n) (hn:0<n) (h1:agg=true∨n=1)
  (hx:opdOK x r=true) (hs1:small C.nt [x]=true) (hr:r.ev C.E σ = .ro (.ag cs)) (hp:partAV cs o' n agg=some s) (hK:∀D' a' w',Sim C D' (upd σ d (.ro s)) (upd γ d .no) a' w'→K a' w'):o.wp C.P a w K Q:=by
 have e1:=(h.opd hx hs1).rep (by rw [hr];simp)
 rw [hr] at e1
 obtain ⟨b,off,s',hv,hA⟩:=e1.ro_inv
 have hne:inf.size≠0:=by omega
 have hrun:(execOp a.eval o).run C.P w = .ok (.value (.pointer (some ⟨b,off+o',none⟩))) w:=by
  simp [execOp,ho,hv,Instr.fieldAt,Instr.sureAddr,run_underlying ht,hf,fieldPlace,run_sizeOf hi,hne,addr_add,hoff]
 refine h.valNo hd hl hrun ?_ hK
 cases hA with
 | one n _ _ _ _=>simp [AV.isAg] at n
 | ag _ hC =>
  unfold partAV at hp
  cases agg with
  | true =>
   simp only [if_true] at hp
   split at hp
   ·cases hp
    exact .ro (.ag rfl ((hC.drop o').take n))
   ·cases hp
  | false =>
   simp at hp
   have hlt:=(List.getElem?_eq_some_iff.1 hp).1
   have hD:=hC.drop o'
   rw [List.drop_eq_getElem_cons hlt] at hD
   have hs:cs[o']=s:=(List.getElem?_eq_some_iff.1 hp).2
   rw [hs] at hD
   cases hD with
   | cons r c a hr' _ =>
    refine .ro (.one ?_ r c a hr')
    cases s with
    | ag _=>cases hr';simp [Value.oneCell'] at a
    | _=>rfl
theorem op_ncr {x:Operand} {r:Opd} {s:AV} (ho:o.op = .nilCheck x) (hx:opdOK x r=true) (hs1:small C.nt [x]=true) (hr:r.ev C.E σ = .ro s) (hK:∀D' a' w',Sim C D' (upd σ d (.ro s)) (upd γ d .no) a' w'→K a' w'):o.wp C.P a w K Q:=by
 have e1:=(h.opd hx hs1).rep (by rw [hr];simp)
 rw [hr] at e1
 obtain ⟨b,off,s',hv,hA⟩:=e1.ro_inv
 have hrun:(execOp a.eval o).run C.P w = .ok (.value (.pointer (some ⟨b,off,none⟩))) w:=by simp [execOp,ho,hv]
 exact h.valNo hd hl hrun (.ro hA) hK
theorem op_fa {x:Operand} {r:Opd} {t:TypeId} {f m o' dd:Nat} {fs:Array Field} {fl:Field} {inf:TypeInfo} (ho:o.op = .fieldAddr t x f) (ht:C.P.underlying t=some (.struct fs)) (hf:fs[f]?=some fl) (hoff:fl.offset=dd) (hi:C.P.info? fl.type=some inf) (hn:0<inf.size)
  (hx:opdOK x r=true) (hs1:small C.nt [x]=true) (hr:r.ev C.E σ = .pt) (hg:r.gh γ = .ptr m o') (hK:∀D' a' w',Sim C D' (upd σ d .pt) (upd γ d (.ptr m (o'+dd))) a' w'→K a' w'):o.wp C.P a w K Q:=by
 have e0:=h.opd hx hs1
 have hv:=e0.gh (by rw [hr];simp) (by rw [hr];simp)
 rw [hg] at hv
 simp only [GhOK] at hv
 have hne:inf.size≠0:=by omega
 have hrun:(execOp a.eval o).run C.P w = .ok (.value (.pointer (some ⟨D.β m,o'+dd,none⟩))) w:=by
  simp [execOp,ho,hv,Instr.fieldAt,Instr.sureAddr,run_underlying ht,hf,fieldPlace,run_sizeOf hi,hne,addr_add,hoff]
 have hm:=h.ment_opd r
 rw [hg] at hm
 exact h.val (g := .ptr m (o'+dd)) hd hl hrun (.inr ⟨.pt _,fun _=>rfl⟩) rfl rfl hm hK
theorem op_nc {x:Operand} {r:Opd} {m o':Nat} (ho:o.op = .nilCheck x) (hx:opdOK x r=true) (hs1:small C.nt [x]=true) (hr:r.ev C.E σ = .pt) (hg:r.gh γ = .ptr m o') (hK:∀D' a' w',Sim C D' (upd σ d .pt) (upd γ d (.ptr m o')) a' w'→K a' w'):o.wp C.P a w K Q:=by
 have e0:=h.opd hx hs1
 have hv:=e0.gh (by rw [hr];simp) (by rw [hr];simp)
 rw [hg] at hv
 simp only [GhOK] at hv
 have hrun:(execOp a.eval o).run C.P w = .ok (.value (.pointer (some ⟨D.β m,o',none⟩))) w:=by simp [execOp,ho,hv]
 have hm:=h.ment_opd r
 rw [hg] at hm
 exact h.val (g := .ptr m o') hd hl hrun (.inr ⟨.pt _,fun _=>rfl⟩) rfl rfl hm hK
theorem op_ld {x:Operand} {r:Opd} {t:TypeId} {m o' n:Nat} {agg:Bool} {inf:TypeInfo} {cs:List AV} {ts:List (Nat × (Nat × Nat))} {s:AV} (ho:o.op = .load t x) (hi:C.P.info? t=some inf) (hz:inf.size=n) (ha:isAggT C.P t=some agg) (h1:agg=true∨n=1)
  (hx:opdOK x r=true) (hs1:small C.nt [x]=true) (hr:r.ev C.E σ = .pt) (hg:r.gh γ = .ptr m o') (hm:γ m = .cl ts) (hσ:σ m = .ag cs) (hp:partAV cs o' n agg=some s)
  (hK:∀D' a' w',Sim C D' (upd σ d s) (upd γ d (if agg then .no else match ts.find? (fun t=>t.1 == o') with | some (_,k,s) => .tip k s | none => .no)) a' w'→K a' w'):o.wp C.P a w K Q:=by
 have e0:=h.opd hx hs1
 have hv:=e0.gh (by rw [hr];simp) (by rw [hr];simp)
 rw [hg] at hv
 simp only [GhOK] at hv
 obtain ⟨ws,hVA,hts0⟩:=h.mem m ts hm
 rw [hσ] at hVA
 obtain ⟨elem,hh,hL⟩:=hVA.ag
 have hws:∀(j:Nat) (y:Value),(ws.take cs.length)[j]?=some y→ws[j]?=some y:=fun j y hj=>by
  rw [List.getElem?_take] at hj;split at hj
  ·exact hj
  ·cases hj
 have hts:agg=false→∀t∈ts,t.1=o'→(ws.take cs.length)[t.1]?=some (D.τ (lk t.2.1)):=fun ha t ht he=>by
  have hlt:o'<cs.length:=by
   subst ha
   simp only [partAV,Bool.false_eq_true,if_false] at hp
   exact (List.getElem?_eq_some_iff.1 hp).1
  rw [List.getElem?_take,if_pos (by omega)]
  exact hts0 t ht
 generalize hvs:ws.take cs.length=vs at hL hts hws
 obtain ⟨hlen,hrep⟩:=part_rep hL hp h1
 have hc:∀j y,((vs.drop o').take n)[j]?=some y→w.cell? ⟨D.β m,o'+j,none⟩=some y:=by
  intro j y hj
  rw [List.getElem?_take] at hj
  split at hj
  ·rw [List.getElem?_drop] at hj
   have:=hws _ _ hj
   simp only [World.cell?,hh]
   simpa using this
  ·cases hj
 have hrun:(execOp a.eval o).run C.P w = .ok (.value (if agg then .agg ⟨(vs.drop o').take n⟩ else ((vs.drop o').take n).headD undef)) w:=by
  simp only [execOp,ho,hv,Instr.loadAt,Instr.sureAddr,Sem.run_bind,Sem.run_pure,Result.andThen_ok,run_loadVar hi ha (hz ▸ h1) (hlen.trans hz.symm) hc]
 have hmm:=h.inv m
 rw [hm] at hmm
 refine h.val hd hl hrun (.inr ⟨hrep,fun _=>?_⟩) ?_ ?_ ?_ hK
 ·cases agg with
  | true=>trivial
  | false =>
   simp only [if_false,Bool.false_eq_true]
   split
   ·rename_i q k s' hf
    have hme:=List.mem_of_find?_eq_some hf
    have hpe:=List.find?_some hf
    simp at hpe
    subst hpe
    have:=hts rfl _ hme rfl
    have hn:n=1:=by simpa using h1
    subst hn
    have hlt:=(List.getElem?_eq_some_iff.1 this).1
    simp only [GhOK]
    rw [take1 hlt]
    have e:=(List.getElem?_eq_some_iff.1 this).2
    exact ⟨e,hL.one _ (List.getElem_mem hlt)⟩
   ·trivial
 ·split
  ·rfl
  ·split <;> rfl
 ·split
  ·rfl
  ·split <;> rfl
 ·split
  ·trivial
  ·split
   ·rename_i hf;exact hmm _ (List.mem_of_find?_eq_some hf)
   ·trivial
end
end Go.Eng
namespace Go.Eng
open Go.RowKit
theorem sliceOK_spec {P:Program} {t:TypeId} {s b:Nat} (h:sliceOK P t s b=true):∃e i z,P.underlying t=some (.slice e)∧P.info? e=some i∧i.size=s∧i.bytes=b∧i.zero=some z∧z.cells.size=s∧0<s:=by
 unfold sliceOK at h
 cases he:elemT P t with
 | none=>simp [he] at h
 | some e =>
  simp [he] at h
  obtain ⟨h1,h0⟩:=h
  cases hi:P.info? e with
  | none=>simp [hi] at h1
  | some i =>
   simp [hi] at h1
   obtain ⟨⟨h1,h2⟩,h3⟩:=h1
   cases hz:i.zero with
   | none=>simp [hz] at h3
   | some z=>simp [hz] at h3;exact ⟨e,i,z,elemT_spec he,hi,h1,h2,hz,h3,h0⟩
theorem run_storeCells_free {P:Program} (g o:Nat) (t:TypeId) (fz:Nat × Nat):∀(vs:List Value) (i:Nat) (cur:Array Value) (w:World),w.heap[g]?=some (.cells cur t fz)→o+i+vs.length≤cur.size →
  (∀j,j<cur.size→¬(fz.1≤j∧j<fz.2))→(∀v∈vs,v.oneCell'=true) →
  (storeCells ⟨g,o,none⟩ vs i).run P w = .ok () (w.setRow g (cur.toList.take (o+i)++vs++cur.toList.drop (o+i+vs.length)).toArray)
 | [],i,cur,w,hg,_,_,_=>by
  simp only [storeCells,List.append_nil,List.length_nil,Nat.add_zero,List.take_append_drop,Array.toArray_toList]
  rw [setRow_self w g cur t fz hg]
  rfl
 | v :: rest,i,cur,w,hg,hl,hf,h1=>by
  have hi:o+i<cur.size:=by simp at hl;omega
  have hadd:(⟨g,o,none⟩:Addr).add i=⟨g,o+i,none⟩:=addr_add g o i
  have hcell:w.cell? ⟨g,o+i,none⟩=some cur[o+i]:=by simp [World.cell?,hg,hi]
  have hfro:w.frozen? ⟨g,o+i,none⟩=false:=by
   obtain ⟨f1,f2⟩:=fz
   have:=hf (o+i) hi
   simp only [World.frozen?,hg]
   simp only [Bool.and_eq_false_iff,decide_eq_false_iff_not]
   simp only at this
   omega
  have hst:(store ((⟨g,o,none⟩:Addr).add i) v).run P w = .ok () (w.setRow g (cur.setIfInBounds (o+i) v)):=by
   rw [hadd,run_store P w _ v _ (h1 v (by simp)),hcell]
   simp [hfro,setCell_eq_setRow w g (o+i) cur t fz v hg]
  have ih:=run_storeCells_free (P:=P) g o t fz rest (i+1) (cur.setIfInBounds (o+i) v) (w.setRow g (cur.setIfInBounds (o+i) v)) (setRow_heap w g cur _ t _ hg) (by simp at hl ⊢;omega) (by simpa using hf) (fun x hx=>h1 x (by simp [hx]))
  simp only [storeCells,Sem.run_bind,hst,Result.andThen_ok,ih,setRow_setRow]
  congr 3
  have e:=list_seg_step cur.toList (o+i) v rest (by simp at hl ⊢;omega)
  simpa [Array.toList_setIfInBounds,Nat.add_assoc] using e
theorem plain_rep {R:Reach} {w:World} {x:AV} {v:Value} (h:Rep R w x v) (hp:x.plain=true):RepL R w x.cells v.cells.toList:=by
 cases h with
 | v =>
  simp only [AV.plain] at hp
  simp only [AV.cells]
  cases v <;> simp [Value.oneCell'] at hp <;> exact .cons rfl (.v _) .nil
 | ag h=>exact h
 | nil s=>exact .cons rfl (.nil s) .nil
 | sl a b c d=>exact .cons rfl (.sl a b c d) .nil
 | em s h=>exact .cons rfl (.em s h) .nil
 | ro h=>exact .cons rfl (.ro h) .nil
 | tu=>simp [AV.plain] at hp
 | pt=>simp [AV.plain] at hp
 | el=>simp [AV.plain] at hp
 | ab=>simp [AV.plain] at hp
 | gv _=>simp [AV.plain] at hp
 | dead=>simp [AV.plain] at hp
section
variable {P:Program} {w:World}
def Source (P:Program) (w:World) (s:Nat) (x:Value) (m:Nat) (news:List Value):Prop :=
 (∀w',(Builtin.lenOf x).run P w' = .ok m w')∧(∀w':World,w'.heap=w.heap→(Builtin.firstCells s m x).run P w' = .ok ⟨news⟩ w')∧news.length=m * s∧∀v∈news,v.oneCell'=true
theorem run_append_room' {t u ty e:TypeId} {i:TypeInfo} {du:TypeDesc} (ht:P.underlying t=some (.slice e)) (hi:P.info? e=some i) (hu:P.underlying u=some du) (hdu:∀k,du ≠ .int k)
  {g n cap m:Nat} {cur:Array Value} {ce:TypeId} {fz:Nat × Nat} {x:Value} {news:List Value} (hg:w.heap[g]?=some (.cells cur ce fz)) (hf:∀j,j<cur.size→¬(fz.1≤j∧j<fz.2))
  (hx:Source P w i.size x m news) (hroom:n+m≤cap) (hfit:cur.size=cap * i.size) :
  (Builtin.append_ #[t,u] ty #[.slice (some ⟨g,0,none⟩) n cap,x]).run P w =
   .ok (.slice (some ⟨g,0,none⟩) (n+m) cap) (w.setRow g (cur.toList.take (n * i.size)++news++cur.toList.drop (n * i.size+news.length)).toArray):=by
 obtain ⟨h1,h2,h3,h4⟩:=hx
 have hle:n * i.size+news.length≤cur.size:=by rw [h3,hfit,←Nat.add_mul];exact Nat.mul_le_mul_right _ hroom
 have hst:=run_storeCells_free (P:=P) g (n * i.size) ce fz news 0 cur w hg (by simpa using hle) hf h4
 simp only [Nat.add_zero] at hst
 have hz:(match du with | .int _=>true | _=>false)=false:=by cases du <;> first | rfl | exact (hdu _ rfl).elim
 simp only [Builtin.append_,List.getElem?_toArray,List.getElem?_cons_zero,List.getElem?_cons_succ,Sem.run_bind,run_underlying ht,run_underlying hu,Result.andThen_ok,run_sizeOf hi,Sem.run_pure,hz,Bool.false_eq_true,if_false,h1,hroom,if_true,Bool.not_false,h2 w rfl]
 simp [addr_add,hst]
theorem run_append_grow' {t u ty e:TypeId} {i:TypeInfo} {z:Value} {du:TypeDesc} (ht:P.underlying t=some (.slice e)) (hi:P.info? e=some i) (hz:i.zero=some z) (hu:P.underlying u=some du) (hdu:∀k,du ≠ .int k)
  {q:Option Addr} {n cap m:Nat} {x:Value} {olds news:List Value} (ho:∀w':World,w'.heap=w.heap→(Builtin.firstCells i.size n (.slice q n cap)).run P w' = .ok ⟨olds⟩ w')
  (hx:Source P w i.size x m news) (hg:cap<n+m) (h63:n+m≤maxLen) (hb:(n+m) * i.bytes≤140737488355328) :
  (Builtin.append_ #[t,u] ty #[.slice q n cap,x]).run P w =
   .ok (.slice (some ⟨w.heap.size,0,none⟩) (n+m) (grownCap w (n+m) cap e))
    (w.drew.alloc (.cells ((⟨olds⟩:Array Value)++⟨news⟩++Builtin.zeroCells z.cells (grownCap w (n+m) cap e - (n+m))) e)):=by
 obtain ⟨h1,h2,h3,h4⟩:=hx
 have hn:¬(n+m≤cap):=by omega
 have h63':¬(9223372036854775807<((n:Int)+(m:Int))):=by simp only [maxLen] at h63;omega
 have h48':¬(281474976710656<Builtin.nextslicecap (n+m) cap * i.bytes):=by
  have:=growslice_fits hg hb;omega
 have hdz:(match du with | .int _=>true | _=>false)=false:=by cases du <;> first | rfl | exact (hdu _ rfl).elim
 simp [Builtin.append_,run_underlying ht,run_underlying hu,hdz,sizeOf,typeInfo,zeroValue,hi,hz,h1,hn,h63',h48',Question.forced,ho w.drew rfl,h2 w.drew rfl,newRow,grownCap]
 congr 2
 apply Array.ext'
 simp [List.append_assoc]
end
section
variable {C:Ctx} {D:Dyn} {σ:Sg} {γ:Ga} {a:Act} {w:World}
theorem Sim.newRow (h:Sim C D σ γ a w) {w':World} {cur:Array Value} {e:TypeId} {fz:Nat × Nat} {s cap:Nat} {es:List AV} {ys:List Value}
  (os:w'.os=w.os) (tape:w'.tape=w.tape) (out:w'.output=w.output) (hh:w'.heap=w.heap.push (.cells cur e fz))
  (hes:∀x∈es,x.cells.length=s) (hL:RepL D.R w (es.flatMap AV.cells) ys) (hcur:∀(j:Nat) (y:Value),ys[j]?=some y→cur[j]?=some y) (hc1:es.length≤cap) (hc2:cap≤maxLen) :
  ∃R',Sim C { D with R:=R' } σ γ a w'∧Rep R' w' (.sl s es) (.slice (some ⟨w.heap.size,0,none⟩) es.length cap)∧(∀o,es.length * s≤o→¬R' w.heap.size o) ∧
   (∀b o,D.R b o→R' b o)∧Keeps D.R w R' w'∧w'.heap[w.heap.size]?=some (.cells cur e fz):=by
 have hsz:w'.heap.size=w.heap.size+1:=by rw [hh];simp
 have hold:∀b,b<w.heap.size→w'.heap[b]?=w.heap[b]?:=fun b hb=>by rw [hh,Array.getElem?_push,if_neg (by omega)]
 have hnew:w'.heap[w.heap.size]?=some (.cells cur e fz):=by rw [hh];simp
 let R':Reach:=fun b o=>D.R b o∨(b=w.heap.size∧o<es.length * s)
 have hS:=h.grow (w':=w') (R':=R') os tape out (by omega) hold (fun b o hr => .inl hr) (fun b o hr=>hr.imp id fun e=>by omega)
  (fun b o hr=>by
   rcases hr with hr | ⟨e,_⟩
   ·exact Nat.lt_trans (h.rlt b o hr) (by omega)
   ·omega)
 have hk:Keeps D.R w R' w':=fun b o hr=>⟨.inl hr,World.cell?_of_block (w:=w) (hold b (h.rlt b o hr))⟩
 refine ⟨R',hS,?_,fun o ho hr=>?_,fun b o hr => .inl hr,hk,hnew⟩
 ·refine .sl rfl hc1 hc2 (RepE.write hes (hL.mono hk) (fun j hj => .inr ⟨rfl,by omega⟩) (fun j y hy=>?_))
  simp only [World.cell?,hnew,Nat.zero_add]
  exact hcur j y hy
 ·rcases hr with hr | ⟨_,hr⟩
  ·have:=h.rlt _ _ hr;omega
  ·omega
theorem Source.of_sl {P:Program} {R:Reach} {s:Nat} {fs:List AV} {x:Value} (h:Rep R w (.sl s fs) x):∃news,Source P w s x fs.length news∧RepL R w (fs.flatMap AV.cells) news∧∀e∈fs,e.cells.length=s:=by
 rcases h.sl_inv with ⟨rfl,rfl⟩ | ⟨b,off,cap,rfl,_,_,hE⟩ | ⟨rfl,ad,cap,rfl,_⟩
 rotate_left 2
 ·exact ⟨[],⟨fun _=>rfl,fun w' _=>run_firstCells_some (P:=P) w' s 0 ad 0 cap [] (by simp) (fun j v hj=>by simp at hj),by simp,by simp⟩,.nil,by simp⟩
 ·exact ⟨[],⟨fun _=>rfl,fun _ _=>rfl,by simp,by simp⟩,.nil,by simp⟩
 ·obtain ⟨ys,h1,h2,h3,h4⟩:=hE.cells
  refine ⟨ys,⟨fun _=>rfl,fun w' hw=>?_,h1,h3.one⟩,h3,h4⟩
  exact run_firstCells_some (P:=P) w' s fs.length ⟨b,off,none⟩ fs.length cap ys h1 (fun j v hj=>by rw [addr_add];rw [World.cell?_of_block (w:=w) (by rw [hw])];exact h2 j v hj)
theorem bytes_cells (l:List UInt8):(l.map byteAV).flatMap AV.cells=l.map byteAV:=by
 induction l with
 | nil=>rfl
 | cons b l ih=>simp [ih];rfl
theorem bytes_repL {R:Reach} (l:List UInt8):RepL R w (l.map byteAV) (l.map fun b => .int .u8 b.toNat):=by
 induction l with
 | nil=>exact .nil
 | cons b l ih=>exact .cons rfl (.v _) ih
theorem Source.of_string {P:Program} (b:ByteArray):Source P w 1 (.string b) b.data.toList.length (b.data.toList.map fun b => .int .u8 b.toNat):=by
 refine ⟨fun _=>?_,fun w' _=>?_,by simp,by simp;exact fun _ _=>rfl⟩
 ·rw [bsize];rfl
 ·have:b.extract 0 b.size=b:=by simp
  simp only [Builtin.firstCells,bsize,this,Sem.run_pure]
  congr 1
  apply Array.ext'
  simp
theorem Sim.append (h : Sim C D σ γ a w) {P : Program} {t u ty e : TypeId} {i : TypeInfo} {z : Value} {du : TypeDesc} (ht : P.underlying t = some (.slice e)) (hi : P.info? e = some i) (hz : i.zero = some z) (hzs : z.cells.size = i.size) (hu : P.underlying u = some du) (hdu : ∀ k, du ≠ .int k)
    {x0 x : Value} {es fs : List AV} {news : List Value} (hr : Rep D.R w (.sl i.size es) x0) (htip : TipOK D.R w x0 i.size) (hown : ∀ g, x0.ownBlock = some g → C.mine g ∧ ∀ key, blk D γ key ≠ some g)
    (hx : Source P w i.size x fs.length news) (hL : RepL D.R w (fs.flatMap AV.cells) news) (hfs : ∀ e ∈ fs, e.cells.length = i.size) (h63 : es.length + fs.length ≤ maxLen) (hb : (es.length + fs.length) * i.bytes ≤ 140737488355328) :
    ∃ v w' R', (Builtin.append_ #[t, u] ty #[x0, x]).run P w = .ok v w' ∧ Sim C { D with R := R' } σ γ a w' ∧ Rep R' w' (.sl i.size (es ++ fs)) v ∧ TipOK R' w' v i.size ∧ Keeps D.R w R' w' ∧
      ∀ g, v.ownBlock = some g → C.mine g ∧ ∀ key, blk D γ key ≠ some g := by
  have hnews := hx.2.2.1
  -- the row grows
  have grow : ∀ (q : Option Addr) (cap : Nat) (olds : List Value), cap < es.length + fs.length → (∀ w' : World, w'.heap = w.heap → (Builtin.firstCells i.size es.length (.slice q es.length cap)).run P w' = .ok ⟨olds⟩ w') →
      RepL D.R w (es.flatMap AV.cells) olds → (∀ e ∈ es, e.cells.length = i.size) → olds.length = es.length * i.size →
      ∃ v w' R', (Builtin.append_ #[t, u] ty #[.slice q es.length cap, x]).run P w = .ok v w' ∧ Sim C { D with R := R' } σ γ a w' ∧ Rep R' w' (.sl i.size (es ++ fs)) v ∧ TipOK R' w' v i.size ∧ Keeps D.R w R' w' ∧
        ∀ g, v.ownBlock = some g → C.mine g ∧ ∀ key, blk D γ key ≠ some g := by
    intro q cap olds hlt ho hLo hes hlo
    have hrun := run_append_grow' (ty := ty) ht hi hz hu hdu ho hx hlt h63 hb
    have hge := grownCap_ge w (es.length + fs.length) cap e
    have hle := grownCap_le_maxLen w (es.length + fs.length) cap e h63
    obtain ⟨R', hS, hR, hn, _, hk, hh⟩ := h.newRow (w' := w.drew.alloc (.cells ((⟨olds⟩ : Array Value) ++ ⟨news⟩ ++ Builtin.zeroCells z.cells (grownCap w (es.length + fs.length) cap e - (es.length + fs.length))) e))
      (es := es ++ fs) (s := i.size) (ys := olds ++ news) (cap := grownCap w (es.length + fs.length) cap e) rfl rfl rfl rfl
      (fun y hy => by rcases List.mem_append.1 hy with hy | hy; · exact hes y hy
                      · exact hfs y hy)
      (by rw [List.flatMap_append]; exact hLo.append hL)
      (fun j y hj => by
        rw [Array.getElem?_append_left (by simp; have := (List.getElem?_eq_some_iff.1 hj).1; simpa using this)]
        simpa using hj) (by simpa using hge) hle
    rw [List.length_append] at hR hn
    refine ⟨_, _, R', hrun, hS, hR, .inr ⟨_, _, _, _, _, _, rfl, hh, by simp, ?_, hge, hle, hn⟩, hk, fun g hg => ?_⟩
    · simp only [Array.size_append, List.size_toArray, size_zeroCells, hzs, hlo, hnews, ← Nat.add_mul]
      congr 1; omega
    · simp [Value.ownBlock] at hg
      subst hg
      exact ⟨.inr h.ext.size, fun key hk => by have := h.lt hk; omega⟩
  rcases hr.sl_tip htip with ⟨rfl, rfl⟩ | ⟨b, off, cap, rfl, hcap, hcm, hE⟩
  · by_cases hm : fs.length = 0
    · have hfs0 : fs = [] := List.eq_nil_of_length_eq_zero hm
      subst hfs0
      refine ⟨.slice none 0 0, w, D.R, ?_, by cases D; exact h, .nil _, .inl rfl, Keeps.refl _ _, by simp [Value.ownBlock]⟩
      obtain ⟨h1, h2, h3, h4⟩ := hx
      have hdz : (match du with | .int _ => true | _ => false) = false := by cases du <;> first | rfl | exact (hdu _ rfl).elim
      have h2' := h2 w rfl
      simp only [List.length_nil] at h1 h2'
      simp [Builtin.append_, run_underlying ht, run_underlying hu, hdz, sizeOf, typeInfo, hi, h1, h2']
    · exact grow none 0 [] (by simp; omega) (fun _ _ => rfl) .nil (by simp) (by simp)
  · rcases htip with e0 | ⟨g, n, cap', cur, ce, fz, e0, hg, hfz, hcs, hnc, hcm', hnR⟩
    · cases e0
    · cases e0
      obtain ⟨olds, hlo, hco, hLo, hes⟩ := hE.cells
      simp only [Nat.zero_add] at hco
      by_cases hroom : es.length + fs.length ≤ cap
      · obtain ⟨hm1, hm2⟩ := hown b rfl
        have hrun := run_append_room' (ty := ty) ht hi hu hdu hg hfz hx hroom hcs
        have hle : (es.length + fs.length) * i.size ≤ cap * i.size := Nat.mul_le_mul_right _ hroom
        rw [Nat.add_mul] at hle
        let cur' : Array Value := (cur.toList.take (es.length * i.size) ++ news ++ cur.toList.drop (es.length * i.size + news.length)).toArray
        have hcur' : ∀ j, j < es.length * i.size → cur'[j]? = cur[j]? := fun j hj => by
          have h1 : j < (cur.toList.take (es.length * i.size)).length := by simp; omega
          simp only [cur', List.getElem?_toArray, List.append_assoc]
          rw [List.getElem?_append_left h1, List.getElem?_take, if_pos hj]; simp
        have hnew' : ∀ j y, news[j]? = some y → cur'[es.length * i.size + j]? = some y := fun j y hj => by
          have h1 : (cur.toList.take (es.length * i.size)).length = es.length * i.size := by simp; omega
          have h2 := (List.getElem?_eq_some_iff.1 hj).1
          simp only [cur', List.getElem?_toArray, List.append_assoc]
          rw [List.getElem?_append_right (by omega), h1, Nat.add_sub_cancel_left, List.getElem?_append_left h2]; exact hj
        have hcell : ∀ j, (w.setRow b cur').cell? ⟨b, j, none⟩ = cur'[j]? := fun j => cell_setRow_same w b j cur cur' ce fz hg
        let R' : Reach := fun c o => D.R c o ∨ (c = b ∧ o < (es.length + fs.length) * i.size)
        have hk : Keeps D.R w R' (w.setRow b cur') := fun c o hr' => ⟨.inl hr', by
          by_cases hcb : c = b
          · subst hcb
            have ho : o < es.length * i.size := by
              rcases Nat.lt_or_ge o (es.length * i.size) with ho | ho
              · exact ho
              · exact (hnR o ho hr').elim
            rw [hcell, hcur' o ho]
            simp [World.cell?, hg]
          · exact cell_setRow_other w b cur' ⟨c, o, none⟩ hcb⟩
        have hblt : b < w.heap.size := (Array.getElem?_eq_some_iff.1 hg).1
        have hS := h.world (w' := w.setRow b cur') (R' := R') rfl rfl rfl (by simp) (fun c hc hor => setRow_other w b c cur' (fun e => by
            subst e
            rcases hor with ⟨key, hkey⟩ | hor
            · exact hm2 key hkey
            · exact hor hm1)) hk
          (fun c o hr' => hr'.imp id fun ⟨e, _⟩ => by subst e; exact ⟨hm1, hm2⟩)
          (fun c o hr' => by
            rw [setRow_size]
            rcases hr' with hr' | ⟨e, _⟩
            · exact h.rlt c o hr'
            · omega)
        refine ⟨_, _, R', hrun, hS, ?_, .inr ⟨_, _, _, _, _, _, rfl, setRow_heap w b cur cur' ce fz hg, ?_, ?_, hroom, hcm, fun o ho hr' => ?_⟩, hk, fun g' hg' => ?_⟩
        · rw [← List.length_append]
          refine .sl rfl (by simpa using hroom) hcm ?_
          refine (hE.mono hk).append (RepE.write hfs (hL.mono hk) (fun j hj => .inr ⟨rfl, ?_⟩) (fun j y hj => ?_))
          · rw [Nat.add_mul]; omega
          · rw [hcell, Nat.zero_add]; exact hnew' j y hj
        · intro o ho
          refine hfz o ?_
          simp [cur'] at ho
          omega
        · simp [cur']; omega
        · rcases hr' with hr' | ⟨_, hr'⟩
          · exact hnR o (by rw [Nat.add_mul] at ho; omega) hr'
          · omega
        · simp [Value.ownBlock] at hg'
          subst hg'
          exact ⟨hm1, hm2⟩
      · refine grow (some ⟨b, 0, none⟩) cap olds (by omega) (fun w' hw => ?_) hLo hes hlo
        exact run_firstCells_some (P := P) w' i.size es.length ⟨b, 0, none⟩ es.length cap olds hlo (fun j v hj => by
          rw [addr_add, Nat.zero_add, World.cell?_of_block (w := w) (by rw [hw])]; exact hco j v hj)
end
end Go.Eng
namespace Go.Eng
open Go.RowKit
theorem upd_comm {X:Type} (σ:Nat→X) {a b:Nat} (x y:X) (h:a≠b):upd (upd σ a x) b y=upd (upd σ b y) a x:=by
 funext k
 simp only [upd]
 by_cases h1:k=a
 ·subst h1;simp [h]
 ·by_cases h2:k=b
  ·subst h2;simp [Ne.symm h]
  ·simp [h1,h2]
theorem arr_eq {s:ByteArray} {l:List UInt8} (h:s.data.toList=l):s=⟨⟨l⟩⟩:=by
 cases s with
 | mk d=>cases d with
  | mk t=>simp at h;rw [h]
section
variable {C:Ctx} {D:Dyn} {σ:Sg} {γ:Ga} {a:Act} {w:World}
theorem Sim.putTip (h:Sim C D σ γ a w) {d k s:Nat} {v:Value} {x:AV} (hd:d<C.nt) (hk:γ (lk k) = .no) (hr:Rep D.R w x v) (ht:TipOK D.R w v s) (hg:∀g,v.ownBlock=some g→C.mine g∧∀key,blk D γ key≠some g) :
  Sim C { D with τ:=upd D.τ (lk k) v } (updL σ [d,lk k] [x,.dead]) (updL γ [d,lk k] [.tip k s,.live s]) (a.put (some d) v) w:=by
 have h1:=h.newTip hk ht hg
 have h2:=h1.dead (k:=lk k) (by rw [upd_same];rfl)
 refine h2.put (g := .tip k s) hd (.inr ⟨hr,?_⟩) rfl rfl ?_
 ·intro _;show v=upd D.τ (lk k) v (lk k)∧v.oneCell'=true
  rw [upd_same]
  exact ⟨rfl,by rcases ht with rfl | ⟨_,_,_,_,_,_,rfl,_⟩ <;> rfl⟩
 ·show (upd γ (lk k) (.live s) (lk k)).isLk=true
  rw [upd_same];rfl
variable {o:Oper} {d:Nat} {K:Act→World→Prop} {Q:Exit→Act→World→Prop} (h:Sim C D σ γ a w) (hd:o.dst=some d) (hl:d<C.nt)
include h hd hl
theorem op_nl {k s:Nat} (ho:o.op = .move (.const (.slice none 0 0))∨o.op = .assign (.const (.slice none 0 0))) (hk:γ (lk k) = .no)
  (hK:∀D' a' w',Sim C D' (updL σ [d,lk k] [.sl s [],.dead]) (updL γ [d,lk k] [.tip k s,.live s]) a' w'→K a' w'):o.wp C.P a w K Q:=by
 have hr:(execOp a.eval o).run C.P w = .ok (.value (.slice none 0 0)) w:=by rcases ho with e | e <;> simp [execOp,e,Act.eval]
 unfold Oper.wp
 rw [hr,Oper.upon_value,hd]
 exact hK _ _ _ (h.putTip hl hk (.nil s) (.inl rfl) (by simp [Value.ownBlock]))
omit h in
theorem Sim.valNew {D':Dyn} {w':World} {v:Value} {s:AV} (hr:(execOp a.eval o).run C.P w = .ok (.value v) w') (hS:Sim C D' σ γ a w') (hs:Rep D'.R w' s v)
  (hK:∀D' a' w',Sim C D' (upd σ d s) (upd γ d .no) a' w'→K a' w'):o.wp C.P a w K Q:=by
 unfold Oper.wp
 rw [hr,Oper.upon_value,hd]
 exact hK _ _ _ (hS.put hl (.plain hs) rfl rfl trivial)
theorem op_sc {x:Operand} {lo hi:Option Operand} {r:Opd} {t e:TypeId} {inf:TypeInfo} {s:Nat} {es:List AV} {l u:Nat} (ho:o.op = .slice t x lo hi none) (ht:C.P.underlying t=some (.slice e)) (hi':C.P.info? e=some inf) (hz:inf.size=s)
  (hx:opdOK x r=true) (hs1:small C.nt [x]=true) (hr:r.ev C.E σ = .sl s es)
  (hlo:(lo=none∧l=0)∨∃y k,lo=some y∧a.eval y = .int k (l:Int)) (hhi:(hi=none∧u=es.length)∨∃y k,hi=some y∧a.eval y = .int k (u:Int)) (h1:l≤u) (h2:u≤es.length)
  (hK:∀D' a' w',Sim C D' (upd σ d (.sl s ((es.take u).drop l))) (upd γ d .no) a' w'→K a' w'):o.wp C.P a w K Q:=by
 have e1:=(h.opd hx hs1).rep (by rw [hr];simp)
 rw [hr] at e1
 have hb:∀cap,es.length≤cap→(Instr.sliceBounds true es.length cap (lo.map a.eval) (hi.map a.eval) none).run C.P w = .ok (l,u,cap) w:=by
  intro cap hcap
  have hu:u≤cap:=by omega
  unfold Instr.sliceBounds
  rcases hlo with ⟨rfl,rfl⟩ | ⟨y,k,rfl,hy⟩ <;> rcases hhi with ⟨rfl,rfl⟩ | ⟨y',k',rfl,hy'⟩ <;>
   simp [Instr.sliceBound,asIntOf, *]
 rcases e1.sl_inv with ⟨rfl,hv⟩ | ⟨b,off,cap,hv,hcap,hcm,hE⟩ | ⟨rfl,ad,cap,hv,hcm⟩
 rotate_left 2
 ·have hl0:l=0:=by simp at h2;omega
  have hu0:u=0:=by simpa using h2
  have hb0:=hb cap (by simp)
  have hrun:(execOp a.eval o).run C.P w = .ok (.value (.slice (some ad) 0 cap)) w:=by
   simp only [List.length_nil] at hb0
   simp only [execOp,ho,hv,Instr.sliceAt,Instr.slice,Sem.run_bind,run_underlying ht,Result.andThen_ok,Option.map_none,hb0,run_sizeOf hi',Sem.run_pure,hl0,hu0]
   simp [Addr.add]
  refine h.valNo hd hl hrun ?_ hK
  simp only [List.take_nil,List.drop_nil]
  exact .em s hcm
 ·have hl0:l=0:=by simp at h2;omega
  have hu0:u=0:=by simpa using h2
  have hb0:=hb 0 (by simp)
  have hrun:(execOp a.eval o).run C.P w = .ok (.value (.slice none 0 0)) w:=by
   simp only [List.length_nil] at hb0
   simp only [execOp,ho,hv,Instr.sliceAt,Instr.slice,Sem.run_bind,run_underlying ht,Result.andThen_ok,Option.map_none,hb0,run_sizeOf hi',Sem.run_pure,hl0,hu0]
   simp
  refine h.valNo hd hl hrun ?_ hK
  simp only [List.take_nil,List.drop_nil]
  exact .nil s
 ·have hrun:(execOp a.eval o).run C.P w = .ok (.value (.slice (some ⟨b,if cap=l then off else off+l * s,none⟩) (u - l) (cap - l))) w:=by
   simp only [execOp,ho,hv,Instr.sliceAt,Instr.slice,Sem.run_bind,run_underlying ht,Result.andThen_ok,Option.map_none,hb cap hcap,run_sizeOf hi',Sem.run_pure,hz]
   split <;> simp [*,addr_add]
  have hlen:((es.take u).drop l).length=u - l:=by simp;omega
  refine h.valNo hd hl hrun ?_ hK
  rw [←hlen]
  refine .sl rfl (by rw [hlen];omega) (by omega) ?_
  by_cases hc:cap=l
  ·have:(es.take u).drop l=[]:=List.eq_nil_of_length_eq_zero (by rw [hlen];omega)
   rw [this];exact .nil _ _ _
  ·rw [if_neg hc]
   exact (hE.take u).drop l
theorem op_ss {x:Operand} {lo hi:Option Operand} {r:Opd} {t:TypeId} {b:ByteArray} {l u:Nat} (ho:o.op = .slice t x lo hi none) (ht:C.P.underlying t=some .string)
  (hx:opdOK x r=true) (hs1:small C.nt [x]=true) (hr:r.ev C.E σ = .v (.string b))
  (hlo:(lo=none∧l=0)∨∃y k,lo=some y∧a.eval y = .int k (l:Int)) (hhi:(hi=none∧u=b.data.toList.length)∨∃y k,hi=some y∧a.eval y = .int k (u:Int)) (h1:l≤u) (h2:u≤b.data.toList.length)
  (hK:∀D' a' w',Sim C D' (upd σ d (.v (.string ⟨⟨(b.data.toList.take u).drop l⟩⟩))) (upd γ d .no) a' w'→K a' w'):o.wp C.P a w K Q:=by
 have e1:=(h.opd hx hs1).rep (by rw [hr];simp)
 rw [hr] at e1
 rw [bsize] at hhi h2
 have hb:(Instr.sliceBounds false b.size b.size (lo.map a.eval) (hi.map a.eval) none).run C.P w = .ok (l,u,b.size) w:=by
  unfold Instr.sliceBounds
  rcases hlo with ⟨rfl,rfl⟩ | ⟨y,k,rfl,hy⟩ <;> rcases hhi with ⟨rfl,rfl⟩ | ⟨y',k',rfl,hy'⟩ <;>
   simp [Instr.sliceBound,asIntOf, *]
 have hrun:(execOp a.eval o).run C.P w = .ok (.value (.string (b.extract l u))) w:=by
  simp only [execOp,ho,e1.v_inv,Instr.sliceAt,Instr.slice,Sem.run_bind,run_underlying ht,Result.andThen_ok,Option.map_none,hb,Sem.run_pure]
  simp [hb]
 have he:b.extract l u=⟨⟨(b.data.toList.take u).drop l⟩⟩:=arr_eq (by rw [Lib.extract_data,List.drop_take])
 rw [he] at hrun
 exact h.valNo hd hl hrun (.v _) hK
theorem op_bs {x:Operand} {r:Opd} {t u e:TypeId} {l:List UInt8} (ho:o.op = .convert t u x) (ht:C.P.underlying t=some (.slice e)) (he:C.P.underlying e=some (.int .u8)) (hu:C.P.underlying u=some .string)
  (hx:opdOK x r=true) (hs1:small C.nt [x]=true) (hr:r.ev C.E σ = .sl 1 (l.map byteAV)) (hK:∀D' a' w',Sim C D' (upd σ d (.v (.string ⟨⟨l⟩⟩))) (upd γ d .no) a' w'→K a' w'):o.wp C.P a w K Q:=by
 have e1:=(h.opd hx hs1).rep (by rw [hr];simp)
 rw [hr] at e1
 have hrun:(execOp a.eval o).run C.P w = .ok (.value (.string ⟨⟨l⟩⟩)) w:=by
  rcases e1.sl_inv with ⟨hn,hv⟩ | ⟨b,off,cap,hv,hcap,hcm,hE⟩ | ⟨hn,ad,cap,hv,hcm⟩
  rotate_left 2
  ·have:l=[]:=by simpa using hn
   subst this
   have hc:=run_convert_bytes_back (P:=C.P) w t u e ad cap [] ht he hu (fun j hj=>by simp at hj)
   simp only [List.length_nil] at hc
   simp only [execOp,ho,hv,Sem.run_bind,hc,Result.andThen_ok,Sem.run_pure]
  ·have:l=[]:=by simpa using hn
   subst this
   simp only [execOp,ho,hv,Sem.run_bind,run_convert_bytes_nil w t e ht he 0 0 u hu,Result.andThen_ok,Sem.run_pure]
   rfl
  ·obtain ⟨ys,h1,h2,h3,h4⟩:=hE.cells
   rw [bytes_cells] at h3
   rw [List.length_map] at hv
   have hc:=run_convert_bytes_back (P:=C.P) w t u e ⟨b,off,none⟩ cap l ht he hu (fun j hj=>by
    rw [addr_add]
    obtain ⟨y,hy1,_,hy2⟩:=h3.get j (byteAV l[j]) (by simp [hj])
    rw [h2 j y hy1,hy2.v_inv])
   simp only [execOp,ho,hv,Sem.run_bind,hc,Result.andThen_ok,Sem.run_pure]
 exact h.valNo hd hl hrun (.v _) hK
omit hd hl in
theorem Sim.stringRow {b:ByteArray} {u e:TypeId} {t:TypeId} (ht:C.P.underlying t=some .string) (hu:C.P.underlying u=some (.slice e)) (he:C.P.underlying e=some (.int .u8)) (hb:b.data.toList.length≤maxLen) :
  ∃v w' R',(convert t u (.string b)).run C.P w = .ok v w'∧Sim C { D with R:=R' } σ γ a w'∧Rep R' w' (.sl 1 (b.data.toList.map byteAV)) v∧TipOK R' w' v 1∧Keeps D.R w R' w' ∧
   ∀g,v.ownBlock=some g→C.mine g∧∀key,blk D γ key≠some g:=by
 have hrun:=run_bytes_of_string (P:=C.P) w t u e b ht hu he
 have hge:=grownCap_ge w b.size 0 e
 have hle:=grownCap_le_maxLen w b.size 0 e (by rwa [bsize] at hb)
 obtain ⟨R',hS,hR,hn,_,hk,hh⟩:=h.newRow (w':=w.drew.alloc (.cells (bytesRow b (grownCap w b.size 0 e)) e ((bytesRow b (grownCap w b.size 0 e)).size,(bytesRow b (grownCap w b.size 0 e)).size+1)))
  (es:=b.data.toList.map byteAV) (s:=1) (ys:=b.data.toList.map fun x => .int .u8 x.toNat) (cap:=grownCap w b.size 0 e) rfl rfl rfl rfl
  (fun y hy=>by obtain ⟨x,_,rfl⟩:=List.mem_map.1 hy;rfl) (by rw [bytes_cells];exact bytes_repL _)
  (fun j y hj=>by
   have hlt:=(List.getElem?_eq_some_iff.1 hj).1
   unfold bytesRow
   rw [Array.getElem?_append_left (by simp at hlt ⊢;exact hlt)]
   simpa using hj) (by simp only [List.length_map,bsize];exact hge) hle
 simp only [List.length_map,bsize] at hR hn
 have hsz:(bytesRow b (grownCap w b.size 0 e)).size=grownCap w b.size 0 e * 1:=by
  have:b.data.size=b.size:=rfl
  simp only [bytesRow,Array.size_append,Array.size_map,Array.size_replicate,this];omega
 refine ⟨_,_,R',hrun,hS,hR,.inr ⟨_,_,_,_,_,_,rfl,hh,by simp only;intro o ho;omega,hsz,hge,hle,hn⟩,hk,fun g hg=>?_⟩
 simp [Value.ownBlock] at hg
 subst hg
 exact ⟨.inr h.ext.size,fun key hk=>by have:=h.lt hk;omega⟩
theorem op_sb {x:Operand} {r:Opd} {t u e:TypeId} {b:ByteArray} (ho:o.op = .convert t u x) (ht:C.P.underlying t=some .string) (hu:C.P.underlying u=some (.slice e)) (he:C.P.underlying e=some (.int .u8))
  (hx:opdOK x r=true) (hs1:small C.nt [x]=true) (hr:r.ev C.E σ = .v (.string b)) (hb:b.data.toList.length≤maxLen) (hK:∀D' a' w',Sim C D' (upd σ d (.sl 1 (b.data.toList.map byteAV))) (upd γ d .no) a' w'→K a' w'):o.wp C.P a w K Q:=by
 have e1:=(h.opd hx hs1).rep (by rw [hr];simp)
 rw [hr] at e1
 obtain ⟨v,w',R',hrun,hS,hR,_⟩:=h.stringRow ht hu he hb
 exact Sim.valNew hd hl (v:=v) (w':=w') (by simp only [execOp,ho,e1.v_inv,Sem.run_bind,hrun,Result.andThen_ok,Sem.run_pure]) hS hR hK
theorem op_sbt {x:Operand} {r:Opd} {t u e:TypeId} {b:ByteArray} {k:Nat} (ho:o.op = .convert t u x) (ht:C.P.underlying t=some .string) (hu:C.P.underlying u=some (.slice e)) (he:C.P.underlying e=some (.int .u8))
  (hx:opdOK x r=true) (hs1:small C.nt [x]=true) (hr:r.ev C.E σ = .v (.string b)) (hb:b.data.toList.length≤maxLen) (hk:γ (lk k) = .no)
  (hK:∀D' a' w',Sim C D' (updL σ [d,lk k] [.sl 1 (b.data.toList.map byteAV),.dead]) (updL γ [d,lk k] [.tip k 1,.live 1]) a' w'→K a' w'):o.wp C.P a w K Q:=by
 have e1:=(h.opd hx hs1).rep (by rw [hr];simp)
 rw [hr] at e1
 obtain ⟨v,w',R',hrun,hS,hR,hT,_,hG⟩:=h.stringRow ht hu he hb
 unfold Oper.wp
 rw [show (execOp a.eval o).run C.P w = .ok (.value v) w' by simp only [execOp,ho,e1.v_inv,Sem.run_bind,hrun,Result.andThen_ok,Sem.run_pure],Oper.upon_value,hd]
 exact hK _ _ _ (hS.putTip hl hk hR hT hG)
theorem op_ap {x y:Operand} {r q:Opd} {t u e:TypeId} {i:TypeInfo} {z:Value} {du:TypeDesc} {k k' s:Nat} {es fs:List AV} (ho:o.op = .call { callee := .builtin .append,args:=#[x,y],argTypes:=#[t,u] })
  (ht:C.P.underlying t=some (.slice e)) (hi:C.P.info? e=some i) (hz:i.zero=some z) (hzs:z.cells.size=i.size) (hu:C.P.underlying u=some du) (hdu:∀k,du ≠ .int k) (hs:i.size=s)
  (hx:opdOK x r=true) (hs1:small C.nt [x]=true) (hr:r.ev C.E σ = .sl s es) (hg:r.gh γ = .tip k s) (hlk:γ (lk k) = .live s) (hno:γ (lk k') = .no) (hne:k≠k')
  {news:List Value} (hsrc:Source C.P w s (a.eval y) fs.length news) (hL:RepL D.R w (fs.flatMap AV.cells) news) (hfs:∀e∈fs,e.cells.length=s) (h63:es.length+fs.length≤maxLen) (hb:(es.length+fs.length) * i.bytes≤140737488355328)
  (hK:∀D' a' w',Sim C D' (updL σ [d,lk k,lk k'] [.sl s (es++fs),.dead,.dead]) (updL γ [d,lk k,lk k'] [.tip k' s,.used,.live s]) a' w'→K a' w'):o.wp C.P a w K Q:=by
 subst hs
 have e0:=h.opd hx hs1
 have e1:=e0.rep (by rw [hr];simp)
 have e2:=e0.gh (by rw [hr];simp) (by rw [hr];simp)
 rw [hr] at e1
 rw [hg] at e2
 simp only [GhOK] at e2
 replace e2:=e2.1
 have hT:=h.tip _ _ hlk
 rw [←e2] at hT
 have h1:=h.kill hlk
 have hbk:blk D γ (lk k)=(a.eval x).ownBlock:=by rw [blk_live hlk,←e2]
 have hown:∀g,(a.eval x).ownBlock=some g→C.mine g∧∀key,blk D (upd γ (lk k) .used) key≠some g:=fun g hg'=>by
  refine ⟨h.own (lk k) g (hbk.trans hg'),fun key hkey=>?_⟩
  by_cases e:key=lk k
  ·subst e;simp [blk,upd_same] at hkey
  ·have:blk D γ key=some g:=by unfold blk at hkey ⊢;rwa [upd_ne _ _ e] at hkey
   exact e (h.sepN (key:=lk k) (by rw [hlk];rfl) (hbk.trans hg') this).symm
 obtain ⟨v,w',R',hrun,hS,hR,hT',_,hG⟩:=h1.append (ty:=o.type) ht hi hz hzs hu hdu e1 hT hown hsrc hL hfs h63 hb
 unfold Oper.wp
 rw [show (execOp a.eval o).run C.P w = .ok (.value v) w' by simp [execOp,ho,resolve,invoke,builtin,hrun],Oper.upon_value,hd]
 have hno':upd γ (lk k) .used (lk k') = .no:=by rw [upd_ne _ _ (fun e=>hne (lk_inj e).symm)];exact hno
 have hF:=(hS.dead (k:=lk k) (by rw [upd_same];rfl)).putTip hl hno' hR hT' hG
 have hc:lk k'≠lk k:=fun e=>hne (lk_inj e).symm
 have eσ:updL σ [d,lk k,lk k'] [.sl i.size (es++fs),.dead,.dead]=updL (upd σ (lk k) .dead) [d,lk k'] [.sl i.size (es++fs),.dead]:=by
  simp only [updL];rw [upd_comm σ _ _ hc]
 have eγ:updL γ [d,lk k,lk k'] [.tip k' i.size,.used,.live i.size]=updL (upd γ (lk k) .used) [d,lk k'] [.tip k' i.size,.live i.size]:=by
  simp only [updL];rw [upd_comm γ _ _ hc]
 rw [eσ,eγ] at hK
 exact hK _ _ _ hF
theorem op_an {y:Operand} {t u e:TypeId} {i:TypeInfo} {z:Value} {du:TypeDesc} {k' s:Nat} {fs:List AV} (ho:o.op = .call { callee := .builtin .append,args:=#[.const (.slice none 0 0),y],argTypes:=#[t,u] })
  (ht:C.P.underlying t=some (.slice e)) (hi:C.P.info? e=some i) (hz:i.zero=some z) (hzs:z.cells.size=i.size) (hu:C.P.underlying u=some du) (hdu:∀k,du ≠ .int k) (hs:i.size=s)
  (hno:γ (lk k') = .no) {news:List Value} (hsrc:Source C.P w s (a.eval y) fs.length news) (hL:RepL D.R w (fs.flatMap AV.cells) news) (hfs:∀e∈fs,e.cells.length=s) (h63:fs.length≤maxLen) (hb:fs.length * i.bytes≤140737488355328)
  (hK:∀D' a' w',Sim C D' (updL σ [d,lk k'] [.sl s fs,.dead]) (updL γ [d,lk k'] [.tip k' s,.live s]) a' w'→K a' w'):o.wp C.P a w K Q:=by
 subst hs
 obtain ⟨v,w',R',hrun,hS,hR,hT',_,hG⟩:=h.append (ty:=o.type) (x0 := .slice none 0 0) (es:=[]) ht hi hz hzs hu hdu (.nil _) (.inl rfl) (by simp [Value.ownBlock]) hsrc hL hfs (by simpa using h63) (by simpa using hb)
 unfold Oper.wp
 rw [show (execOp a.eval o).run C.P w = .ok (.value v) w' by
  have hc:a.eval (.const (.slice none 0 0)) = .slice none 0 0:=rfl
  simp [execOp,ho,resolve,invoke,builtin,hc,hrun],Oper.upon_value,hd]
 rw [List.nil_append] at hR
 exact hK _ _ _ (hS.putTip hl hno hR hT' hG)
end
end Go.Eng
namespace Go.Eng
open Go.RowKit
section
variable {R:Reach} {w:World}
theorem foldl_set (l:List Value):∀(off k:Nat) (cells:Array Value),off+k+l.length≤cells.size →
  ((l.zipIdx k).foldl (fun cs p=>cs.setIfInBounds (off+p.2) p.1) cells).toList=cells.toList.take (off+k)++l++cells.toList.drop (off+k+l.length):=by
 induction l with
 | nil=>intro off k cells _;simp
 | cons v l ih =>
  intro off k cells hl
  simp only [List.zipIdx_cons,List.foldl_cons]
  rw [ih off (k+1) (cells.setIfInBounds (off+k) v) (by simp at hl ⊢;omega)]
  have e:=list_seg_step cells.toList (off+k) v l (by simp at hl ⊢;omega)
  simpa [Array.toList_setIfInBounds,Nat.add_assoc] using e
theorem fill_rep (place:Nat→Option (Nat × Nat)):∀(parts:List (Nat × Value)) (pl:List (Nat × Nat)) (xs:List AV) (z cs:List AV) (cells:Array Value),RepL R w z cells.toList→parts.length=pl.length →
  (∀(j:Nat) (p:Nat × Value) (q:Nat × Nat),parts[j]?=some p→pl[j]?=some q→place p.1=some q)→(∀(j:Nat) (p:Nat × Value) (x:AV),parts[j]?=some p→xs[j]?=some x→Rep R w x p.2)→fillAV z pl xs=some cs →
  ∃cells',Instr.fill place cells parts=some cells'∧RepL R w cs cells'.toList
 | [],pl,xs,z,cs,cells,hz,hl,_,_,hf=>by
  have:pl=[]:=List.eq_nil_of_length_eq_zero hl.symm
  subst this
  cases xs with
  | nil=>simp [fillAV] at hf;subst hf;exact ⟨cells,rfl,hz⟩
  | cons=>simp [fillAV] at hf
 | (i,v) :: parts,pl,xs,z,cs,cells,hz,hl,hp,hr,hf=>by
  cases pl with
  | nil=>simp at hl
  | cons q pl =>
   obtain ⟨off,n⟩:=q
   cases xs with
   | nil=>simp [fillAV] at hf
   | cons x xs =>
    simp only [fillAV] at hf
    split at hf
    ·rename_i hc
     obtain ⟨hc1,hc2,hc3⟩:=hc
     have hx:=plain_rep (hr 0 _ _ rfl rfl) hc1
     have hxl:=hx.length
     have hzl:=hz.length
     simp only [Array.length_toList] at hxl hzl
     have hpl:=hp 0 _ _ rfl rfl
     simp only at hpl
     have hs:v.cells.size=n:=by omega
     have hfit:¬(v.cells.size≠n∨off+v.cells.size > cells.size):=by omega
     have hcells:=foldl_set v.cells.toList off 0 cells (by simp;omega)
     have hz':RepL R w (splice z off x.cells) (v.cells.zipIdx.foldl (fun cs p=>cs.setIfInBounds (off+p.2) p.1) cells).toList:=by
      have e:(v.cells.zipIdx.foldl (fun cs p=>cs.setIfInBounds (off+p.2) p.1) cells)=(v.cells.toList.zipIdx 0).foldl (fun cs p=>cs.setIfInBounds (off+p.2) p.1) cells:=by
       rw [←Array.foldl_toList];simp
      rw [e,hcells]
      have hle:v.cells.toList.length=x.cells.length:=by simp;omega
      simp only [splice,Nat.add_zero,hle]
      exact ((hz.take off).append hx).append (hz.drop _)
     obtain ⟨cells',h1,h2⟩:=fill_rep place parts pl xs _ cs _ hz' (by simpa using hl) (fun j p q h1 h2=>hp (j+1) p q (by simpa using h1) (by simpa using h2)) (fun j p y h1 h2=>hr (j+1) p y (by simpa using h1) (by simpa using h2)) hf
     refine ⟨cells',?_,h2⟩
     simp only [Instr.fill,hpl]
     rw [if_neg (by simpa using hfit)]
     exact h1
    ·cases hf
end
section
variable {C:Ctx} {D:Dyn} {σ:Sg} {γ:Ga} {a:Act} {w:World}
theorem Sim.newBlock (h:Sim C D σ γ a w) {w':World} {cs:List Value} {acs:List AV} {e:TypeId} (hw:w'={ w with heap:=w.heap.push (.cells ⟨cs⟩ e) }) (hL:RepL D.R w acs cs) :
  Sim C D σ γ a w'∧VarAt D.R w' (.ag acs) w.heap.size cs∧C.mine w.heap.size∧(∀key,blk D γ key≠some w.heap.size):=by
 subst hw
 have hold:∀b,b<w.heap.size→(w.heap.push (.cells ⟨cs⟩ e))[b]?=w.heap[b]?:=fun b hb=>by rw [Array.getElem?_push,if_neg (by omega)]
 have hS:=h.grow (w':={ w with heap:=w.heap.push (.cells ⟨cs⟩ e) }) (R':=D.R) rfl rfl rfl (by simp) hold (fun _ _ h=>h) (fun _ _ h => .inl h) (fun b o hr=>by simp;have:=h.rlt b o hr;omega)
 have hk:Keeps D.R w D.R { w with heap:=w.heap.push (.cells ⟨cs⟩ e) }:=fun b o hr=>⟨hr,World.cell?_of_block (w:=w) (hold b (h.rlt b o hr))⟩
 exact ⟨hS,⟨e,by simp,.inr ⟨acs,rfl,by rw [List.take_of_length_le (by rw [hL.length];exact Nat.le_refl _)];exact hL.mono hk⟩,fun o hr=>by have:=h.rlt _ _ hr;omega⟩,.inr h.ext.size,fun key hk=>by have:=h.lt hk;omega⟩
theorem zeroOK_spec {P:Program} {t:TypeId} {z:List AV} (h:zeroOK P t z=true):∃i v,P.info? t=some i∧i.zero=some v∧constCells v.cells.toList z=true:=by
 unfold zeroOK at h
 cases hi:P.info? t with
 | none=>simp [hi] at h
 | some i =>
  cases hz:i.zero with
  | none=>simp [hi,hz] at h
  | some v=>simp [hi,hz] at h;exact ⟨i,v,rfl,hz,h⟩
theorem run_zero {P:Program} {t:TypeId} {i:TypeInfo} {v:Value} (hi:P.info? t=some i) (hz:i.zero=some v) (w:World):(zeroValue t).run P w = .ok v w:=by simp [zeroValue,typeInfo,hi,hz]
theorem constCells_get:∀{xs:List Value} {ys:List AV},constCells xs ys=true→∀(i:Nat) (y:AV),ys[i]?=some y→∃x,xs[i]?=some x∧constCell x y=true
 | [],[],_,i,y,h=>by simp at h
 | x :: xs,z :: ys,hc,0,y,h=>by simp [constCells] at hc;simp at h;subst h;exact ⟨x,rfl,hc.1⟩
 | x :: xs,z :: ys,hc,i+1,y,h=>by simp [constCells] at hc;simpa using constCells_get hc.2 i y (by simpa using h)
 | [],_ :: _,h,_,_,_=>by simp [constCells] at h
 | _ :: _,[],h,_,_,_=>by simp [constCells] at h
theorem constCell_nil {x:Value} {s:Nat} (h:constCell x (.sl s [])=true):x = .slice none 0 0:=by
 unfold constCell at h;split at h <;> simp_all
theorem Sim.nilTips (ts:List (Nat × (Nat × Nat))):∀{D:Dyn} {σ:Sg} {γ:Ga} {a:Act} {w:World},Sim C D σ γ a w→(∀t∈ts,γ (lk t.2.1) = .no)→(ts.map (·.2.1)).Nodup →
  ∃D',Sim C D' (updL σ (ts.map fun t=>lk t.2.1) (ts.map fun _ => .dead)) (updL γ (ts.map fun t=>lk t.2.1) (ts.map fun t => .live t.2.2)) a w∧D'.R=D.R∧(∀key,blk D γ key=none∨blk D' (updL γ (ts.map fun t=>lk t.2.1) (ts.map fun t => .live t.2.2)) key=blk D γ key) ∧
   (∀key g,blk D' (updL γ (ts.map fun t=>lk t.2.1) (ts.map fun t => .live t.2.2)) key=some g→blk D γ key=some g) ∧
   (∀t∈ts,D'.τ (lk t.2.1) = .slice none 0 0∧(updL γ (ts.map fun t=>lk t.2.1) (ts.map fun t => .live t.2.2) (lk t.2.1)).isLk=true) ∧
   (∀key,(∀t∈ts,key≠lk t.2.1)→updL γ (ts.map fun t=>lk t.2.1) (ts.map fun t => .live t.2.2) key=γ key)∧(∀k,(∀t∈ts,k≠lk t.2.1)→D'.τ k=D.τ k)∧D'.β=D.β:=by
 induction ts with
 | nil=>exact fun {D σ γ a w} h _ _=>⟨D,h,rfl,fun _ => .inr rfl,fun _ _ h=>h,by simp,fun _ _=>rfl,fun _ _=>rfl,rfl⟩
 | cons t ts ih =>
  intro D σ γ a w h hno hnd
  simp only [List.map_cons,List.nodup_cons] at hnd
  obtain ⟨D1,h1,hR,hb1,hb2,ht1,hk1,hτ1,hβ1⟩   := ih h (fun u hu=>hno u (by simp [hu])) hnd.2
  have hne:∀u∈ts,lk t.2.1≠lk u.2.1:=fun u hu e=>hnd.1 (List.mem_map.2 ⟨u,hu,(lk_inj e).symm⟩)
  have hno1:updL γ (ts.map fun t=>lk t.2.1) (ts.map fun t => .live t.2.2) (lk t.2.1) = .no:=by rw [hk1 _ hne];exact hno t (by simp)
  have h2:=(h1.newTip (k:=t.2.1) (s:=t.2.2) (v := .slice none 0 0) hno1 (.inl rfl) (by simp [Value.ownBlock])).dead (k:=lk t.2.1) (by rw [upd_same];rfl)
  have hbk:∀key,blk { D1 with τ:=upd D1.τ (lk t.2.1) (.slice none 0 0) } (upd (updL γ (ts.map fun t=>lk t.2.1) (ts.map fun t => .live t.2.2)) (lk t.2.1) (.live t.2.2)) key=if key=lk t.2.1 then none else blk D1 (updL γ (ts.map fun t=>lk t.2.1) (ts.map fun t => .live t.2.2)) key:=fun key=>by
   unfold blk
   by_cases e:key=lk t.2.1
   ·subst e;rw [upd_same];simp [upd_same,Value.ownBlock]
   ·rw [upd_ne _ _ e,if_neg e]
    cases hg:updL γ (ts.map fun t=>lk t.2.1) (ts.map fun t => .live t.2.2) key with
    | live s'=>simp [upd_ne _ _ e]
    | pv s'=>simp [upd_ne _ _ e]
    | pc s'=>simp [upd_ne _ _ e]
    | sus d s'=>simp [upd_ne _ _ e]
    | _=>rfl
  refine ⟨_,h2,hR,fun key=>?_,fun key g hk=>?_,fun u hu=>?_,fun key hk=>?_,fun k hk=>?_,hβ1⟩
  ·simp only [List.map_cons,updL]
   rw [hbk]
   by_cases e:key=lk t.2.1
   ·subst e;left;unfold blk;rw [hno t (by simp)]
   ·rw [if_neg e];exact hb1 key
  ·simp only [List.map_cons,updL] at hk
   rw [hbk] at hk
   by_cases e:key=lk t.2.1
   ·simp [e] at hk
   ·rw [if_neg e] at hk;exact hb2 key g hk
  ·simp only [List.map_cons,updL]
   rcases List.mem_cons.1 hu with rfl | hu
   ·exact ⟨upd_same _ _ _,by rw [upd_same];rfl⟩
   ·have hn:lk u.2.1≠lk t.2.1:=fun e=>hne u hu e.symm
    refine ⟨by show upd D1.τ (lk t.2.1) _ (lk u.2.1)=_;rw [upd_ne _ _ hn];exact (ht1 u hu).1,?_⟩
    rw [upd_ne _ _ (fun e=>hne u hu e.symm)];exact (ht1 u hu).2
  ·simp only [List.map_cons,updL]
   rw [upd_ne _ _ (hk t (by simp))];exact hk1 key (fun u hu=>hk u (by simp [hu]))
  ·show upd D1.τ (lk t.2.1) _ k=_
   rw [upd_ne _ _ (hk t (by simp))];exact hτ1 k (fun u hu=>hk u (by simp [hu]))
variable {o:Oper} {d:Nat} {K:Act→World→Prop} {Q:Exit→Act→World→Prop} (h:Sim C D σ γ a w) (hd:o.dst=some d) (hl:d<C.nt)
include h hd hl
theorem op_al {t:TypeId} {m:Nat} {z:List AV} {ts:List (Nat × (Nat × Nat))} (ho:o.op = .alloc t) (hz:zeroOK C.P t z=true) (hts:∀q∈ts,∃s,z[q.1]?=some (.sl s [])) (hm:γ m = .no) (h1:C.nt≤m) (h2:m<999999)
  (hno:∀t∈ts,γ (lk t.2.1) = .no) (hnd:(ts.map (·.2.1)).Nodup)
  (hK:∀D' a' w',Sim C D' (updL σ (d :: m :: ts.map fun t=>lk t.2.1) (.pt :: .ag z :: ts.map fun _ => .dead)) (updL γ (d :: m :: ts.map fun t=>lk t.2.1) (.ptr m 0 :: .cl ts :: ts.map fun t => .live t.2.2)) a' w'→K a' w'):o.wp C.P a w K Q:=by
 obtain ⟨i,v,hi,hzv,hcc⟩:=zeroOK_spec hz
 have hL:RepL D.R w z v.cells.toList:=constCells_rep hcc
 have hrun:(execOp a.eval o).run C.P w = .ok (.value (.pointer (some ⟨w.heap.size,0,none⟩))) { w with heap:=w.heap.push (.cells ⟨v.cells.toList⟩ t) }:=by
  simp [execOp,ho,Instr.alloc,run_zero hi hzv,newVar,newRow]
 obtain ⟨hS,hV,hmine,hfree⟩:=h.newBlock rfl hL
 obtain ⟨D1,hS1,hR,hb1,hb2,ht1,hk1,hτ1,hβ1⟩:=hS.nilTips ts hno hnd
 have hmne:∀t∈ts,m≠lk t.2.1:=fun t _=>by have:=lk_ge t.2.1;omega
 have hm1:updL γ (ts.map fun t=>lk t.2.1) (ts.map fun t => .live t.2.2) m = .no:=by rw [hk1 m hmne];exact hm
 have hV':VarAt D1.R { w with heap:=w.heap.push (.cells ⟨v.cells.toList⟩ t) } (.ag z) w.heap.size v.cells.toList:=by rw [hR];exact hV
 have hS2:=hS1.newVar (ts:=ts) hm1 h1 h2 hV' (fun q hq=>⟨(ht1 q hq).2,by
  obtain ⟨s,hs⟩:=hts q hq
  obtain ⟨y,hy1,_,hy2⟩:=hL.get q.1 _ hs
  rw [hy1,(ht1 q hq).1]
  obtain ⟨x,hx1,hx2⟩:=constCells_get hcc q.1 _ hs
  rw [hy1] at hx1;cases hx1
  rw [constCell_nil hx2]⟩) ⟨hmine,fun key hk=>hfree key (hb2 key _ hk)⟩
 have hS3:=hS2.put (d:=d) (s := .pt) (g := .ptr m 0) (v := .pointer (some ⟨w.heap.size,0,none⟩)) hl (.inr ⟨.pt _,by intro _;show _=_;simp [upd_same]⟩) rfl rfl (by show Gh.isCl (upd _ m _ m)=true;rw [upd_same];rfl)
 unfold Oper.wp
 rw [hrun,Oper.upon_value,hd]
 exact hK _ _ _ hS3
end
end Go.Eng
namespace Go.Eng
open Go.RowKit
section
variable {C:Ctx} {D:Dyn} {σ:Sg} {γ:Ga} {a:Act} {w:World}
variable {o:Oper} {d:Nat} {K:Act→World→Prop} {Q:Exit→Act→World→Prop} (h:Sim C D σ γ a w)
include h
theorem op_bx {x:Operand} {r:Opd} {t:TypeId} {m:Nat} (hd:o.dst=some d) (hl:d<C.nt) (ho:o.op = .box t x) (hx:opdOK x r=true) (hs1:small C.nt [x]=true) (hp:(r.ev C.E σ).plain=true) (hm:γ m = .no) (h1:C.nt≤m) (h2:m<999999)
  (hK:∀D' a' w',Sim C D' (updL σ [d,m] [.pt,.ag (r.ev C.E σ).cells]) (updL γ [d,m] [.ptr m 0,.cl []]) a' w'→K a' w'):o.wp C.P a w K Q:=by
 have e1:=(h.opd hx hs1).rep (by intro e;rw [e] at hp;cases hp)
 have hL:=plain_rep e1 hp
 have hrun:(execOp a.eval o).run C.P w = .ok (.value (.pointer (some ⟨w.heap.size,0,none⟩))) { w with heap:=w.heap.push (.cells ⟨(a.eval x).cells.toList⟩ t) }:=by
  simp [execOp,ho,Instr.box,newVar,newRow]
 obtain ⟨hS,hV,hmine,hfree⟩:=h.newBlock rfl hL
 have hS2:=hS.newVar (ts:=[]) hm h1 h2 hV (by simp) ⟨hmine,hfree⟩
 have hS3:=hS2.put (d:=d) (s := .pt) (g := .ptr m 0) (v := .pointer (some ⟨w.heap.size,0,none⟩)) hl (.inr ⟨.pt _,by intro _;show _=_;simp [upd_same]⟩) rfl rfl (by show Gh.isCl (upd _ m _ m)=true;rw [upd_same];rfl)
 unfold Oper.wp
 rw [hrun,Oper.upon_value,hd]
 exact hK _ _ _ hS3
theorem op_stG {x v:Operand} {r q:Opd} {t:TypeId} {inf:TypeInfo} {m o' n:Nat} {cs:List AV} {ts:List (Nat × (Nat × Nat))} (hd:o.dst=none) (ho:o.op = .store t x v) (hi:C.P.info? t=some inf) (hz:inf.size=n)
  (hx:opdOK x r=true) (hs1:small C.nt [x]=true) (hv:opdOK v q=true) (hs2:small C.nt [v]=true) (hr:r.ev C.E σ = .pt) (hg:r.gh γ = .ptr m o') (hm:γ m = .cl ts) (hσ:σ m = .ag cs)
  (hqd:q.ev C.E σ ≠ .dead) (hqk:q.ev C.E σ ≠ .sk) {qs:List AV} (hL:RepL D.R w qs (a.eval v).cells.toList) (hn:qs.length=n) (hfit:o'+n≤cs.length)
  (hK:∀D' a' w',Sim C D' (upd σ m (.ag (splice cs o' qs))) (upd γ m (.cl (ts.filter (fun t=>t.1<o' || o'+n≤t.1)++match q.gh γ with | .tip k s=>if n=1 then [(o',k,s)] else [] | _=>[]))) a' w'→K a' w'):o.wp C.P a w K Q:=by
 have e0:=h.opd hx hs1
 have hpv:=e0.gh (by rw [hr];simp) (by rw [hr];simp)
 rw [hg] at hpv
 simp only [GhOK] at hpv
 have q0:=h.opd hv hs2
 obtain ⟨vs,hVA,hts⟩:=h.mem m ts hm
 rw [hσ] at hVA
 have hnR:=hVA.noR
 obtain ⟨elem,hh,hLm⟩:=hVA.ag
 have hcl:cs.length≤vs.length:=by have:=hLm.length;simp at this;omega
 have hlen:=hL.length
 have hlm:=hLm.length
 have hcn:(a.eval v).cells.size=n:=by simp at hlen;omega
 have hst:=run_storeCells_at (P:=C.P) (D.β m) o' elem (a.eval v).cells.toList 0 ⟨vs⟩ w hh (by simp;omega) hL.one
 simp only [Nat.add_zero] at hst
 let new:List Value:=vs.take o'++(a.eval v).cells.toList++vs.drop (o'+(a.eval v).cells.toList.length)
 have hrun:(execOp a.eval o).run C.P w = .ok .skip (w.setRow (D.β m) ⟨new⟩):=by
  have:¬((a.eval v).cells.size≠n):=by omega
  simp only [execOp,ho,hpv,Instr.storeAt,Instr.sureAddr,Sem.run_bind,Sem.run_pure,Result.andThen_ok,storeVar,run_sizeOf hi,hz,Sem.run_ite,this,if_false,hst]
  rfl
 have hh':=setRow_heap w (D.β m) ⟨vs⟩ ⟨new⟩ elem (0,0) hh
 have keep:Keeps D.R w D.R (w.setRow (D.β m) ⟨new⟩):=fun b o hr=>⟨hr,cell_setRow_other w (D.β m) _ ⟨b,o,none⟩ (fun e=>hnR o (by have:b=D.β m:=e;rw [←this];exact hr))⟩
 have hLn:RepL D.R (w.setRow (D.β m) ⟨new⟩) (splice cs o' qs) (new.take (splice cs o' qs).length):=by
  have hle:(a.eval v).cells.toList.length=qs.length:=hlen.symm
  have hsl:(splice cs o' qs).length=cs.length:=by simp [splice];omega
  have hnt:new.take cs.length=(vs.take cs.length).take o'++(a.eval v).cells.toList++(vs.take cs.length).drop (o'+(a.eval v).cells.toList.length):=by
   apply List.ext_getElem?
   intro j
   simp only [new,List.getElem?_take,List.getElem?_append,List.length_append,List.length_take,List.getElem?_drop,hle,hn]
   have e1:min o' vs.length=o':=by omega
   have e2:min o' (min cs.length vs.length)=o':=by omega
   simp only [e1,e2]
   by_cases c1:j<cs.length
   ·by_cases c2:j<o'
    ·simp [c1,c2,show j<o'+n by omega]
    ·by_cases c3:j<o'+n
     ·simp [c1,c2,c3]
     ·simp [c1,c2,c3,show o'+n+(j - (o'+n))<cs.length by omega]
   ·have c2:¬j<o':=by omega
    have c3:¬j<o'+n:=by omega
    simp [c1,c3,show ¬o'+n+(j - (o'+n))<cs.length by omega]
  rw [hsl,hnt]
  simp only [splice,hle]
  have hX:=(((hLm.take o').append hL).append (hLm.drop (o'+qs.length))).mono keep
  exact hX
 have hmm:=h.inv m
 rw [hm] at hmm
 have hS:=h.store (us:=ts.filter (fun t=>t.1<o' || o'+n≤t.1)++match q.gh γ with | .tip k s=>if n=1 then [(o',k,s)] else [] | _=>[]) hm (w':=w.setRow (D.β m) ⟨new⟩) rfl rfl rfl (by simp) (fun b hb=>setRow_other w (D.β m) b _ hb)
  ⟨elem,hh',.inr ⟨_,rfl,hLn⟩,hnR⟩ (fun t ht=>by
   rcases List.mem_append.1 ht with ht | ht
   ·have hm':=List.mem_filter.1 ht
    refine ⟨hmm t hm'.1,?_⟩
    have hc:=hts t hm'.1
    have hlt:=(List.getElem?_eq_some_iff.1 hc).1
    have hcond:=hm'.2
    simp only [Bool.or_eq_true,decide_eq_true_eq] at hcond
    have hvl:(a.eval v).cells.toList.length=n:=by simp;exact hcn
    simp only [new]
    rcases hcond with hc1 | hc1
    ·rw [List.append_assoc,List.getElem?_append_left (by simp;omega),List.getElem?_take,if_pos hc1];exact hc
    ·rw [List.getElem?_append_right (by simp;omega)]
     simp only [List.length_append,List.length_take,hvl,List.getElem?_drop]
     rw [←hc];congr 1;omega
   ·revert ht
    split
    ·rename_i k s hgq
     split
     ·rename_i hn1
      intro ht
      simp at ht
      subst ht
      have hment:=h.ment_opd q
      rw [hgq] at hment
      refine ⟨hment,?_⟩
      have hgv:=q0.gh hqd hqk
      rw [hgq] at hgv
      simp only [GhOK] at hgv
      have hc1:(a.eval v).cells.toList=[D.τ (lk k)]:=by
       obtain ⟨e1,e2⟩:=hgv
       rw [←e1]
       generalize a.eval v=y at e2
       cases y <;> first | rfl | (simp [Value.oneCell'] at e2)
      simp only [new,hc1]
      rw [List.append_assoc,List.getElem?_append_right (by simp;omega)]
      simp
      have:o' - min o' vs.length=0:=by omega
      simp [this]
     ·intro ht;cases ht
    ·intro ht;cases ht)
 unfold Oper.wp
 rw [hrun,Oper.upon_skip,hd]
 exact hK _ _ _ (by simpa [Act.put] using hS)
theorem op_st {x v:Operand} {r q:Opd} {t:TypeId} {inf:TypeInfo} {m o' n:Nat} {cs:List AV} {ts:List (Nat × (Nat × Nat))} (hd:o.dst=none) (ho:o.op = .store t x v) (hi:C.P.info? t=some inf) (hz:inf.size=n)
  (hx:opdOK x r=true) (hs1:small C.nt [x]=true) (hv:opdOK v q=true) (hs2:small C.nt [v]=true) (hr:r.ev C.E σ = .pt) (hg:r.gh γ = .ptr m o') (hm:γ m = .cl ts) (hσ:σ m = .ag cs)
  (hp:(q.ev C.E σ).plain=true) (hn:(q.ev C.E σ).cells.length=n) (hfit:o'+n≤cs.length)
  (hK:∀D' a' w',Sim C D' (upd σ m (.ag (splice cs o' (q.ev C.E σ).cells))) (upd γ m (.cl (ts.filter (fun t=>t.1<o' || o'+n≤t.1)++match q.gh γ with | .tip k s=>if n=1 then [(o',k,s)] else [] | _=>[]))) a' w'→K a' w'):o.wp C.P a w K Q:=by
 have hqd:q.ev C.E σ ≠ .dead:=by intro e;rw [e] at hp;cases hp
 have hqk:q.ev C.E σ ≠ .sk:=by intro e;rw [e] at hp;cases hp
 exact op_stG h hd ho hi hz hx hs1 hv hs2 hr hg hm hσ hqd hqk (plain_rep ((h.opd hv hs2).rep hqd) hp) hn hfit hK
theorem Sim.opds:∀{l:List Operand} {rs:List Opd},opdsOK l rs=true→small C.nt l=true→RepT D.R w (rs.map (Opd.ev C.E σ)) (l.map a.eval)
 | [],[],_,_ => .nil
 | x :: xs,r :: rs,hx,hs=>by
  simp [opdsOK] at hx
  have h1:small C.nt [x]=true:=by simp [small] at hs ⊢;exact hs.1
  have h2:small C.nt xs=true:=by simp only [small,List.all_cons,Bool.and_eq_true] at hs;exact hs.2
  refine .cons ?_ (Sim.opds hx.2 h2)
  rcases h.opd hx.1 h1 with e | e
  ·rw [e];exact .dead _
  ·exact e.1
 | [],_ :: _,hx,_=>by simp [opdsOK] at hx
 | _ :: _,[],hx,_=>by simp [opdsOK] at hx
omit h
theorem fill_full (s:Nat):∀(vs:List Value) (k:Nat) (cells:Array Value),(∀v∈vs,v.cells.size=s)→(k+vs.length) * s=cells.size →
  ∃cells',Instr.fill (fun i=>some (i * s,s)) cells ((vs.zipIdx k).map fun p=>(p.2,p.1))=some cells'∧cells'.toList=cells.toList.take (k * s)++vs.flatMap fun v=>v.cells.toList
 | [],k,cells,_,hl=>by
  refine ⟨cells,rfl,?_⟩
  simp at hl
  simp [List.take_of_length_le,hl]
 | v :: vs,k,cells,hv,hl=>by
  have h0:=hv v (by simp)
  simp only [List.length_cons] at hl
  have hm:(k+(vs.length+1)) * s=k * s+s+vs.length * s:=by rw [Nat.add_mul,Nat.succ_mul];omega
  have hfit:¬(v.cells.size≠s∨k * s+v.cells.size > cells.size):=by omega
  have hcells:=foldl_set v.cells.toList (k * s) 0 cells (by simp;omega)
  have e:(v.cells.zipIdx.foldl (fun cs p=>cs.setIfInBounds (k * s+p.2) p.1) cells)=(v.cells.toList.zipIdx 0).foldl (fun cs p=>cs.setIfInBounds (k * s+p.2) p.1) cells:=by
   rw [←Array.foldl_toList];simp
  have hsz:(v.cells.zipIdx.foldl (fun cs p=>cs.setIfInBounds (k * s+p.2) p.1) cells).size=cells.size:=by
   rw [e,←Array.length_toList,hcells];simp;omega
  obtain ⟨cells',h1,h2⟩:=fill_full s vs (k+1) (v.cells.zipIdx.foldl (fun cs p=>cs.setIfInBounds (k * s+p.2) p.1) cells) (fun u hu=>hv u (by simp [hu])) (by rw [hsz,←hl];congr 1;omega)
  refine ⟨cells',?_,?_⟩
  ·simp only [List.zipIdx_cons,List.map_cons,Instr.fill]
   rw [if_neg (by simpa using hfit)]
   exact h1
  ·rw [h2,e,hcells]
   have hk1:(k+1) * s=k * s+s:=Nat.succ_mul k s
   have hL:(cells.toList.take (k * s+0)++v.cells.toList).length=(k+1) * s:=by simp;omega
   rw [List.append_assoc,←List.append_assoc (cells.toList.take (k * s+0)),List.take_left' hL]
   simp
theorem range_zip {α:Type}:∀(l:List (Nat × α)) (k:Nat),l.map (·.1)=List.range' k l.length→l=((l.map (·.2)).zipIdx k).map fun p=>(p.2,p.1)
 | [],_,_=>rfl
 | (i,x) :: l,k,h=>by
  simp only [List.map_cons,List.length_cons,List.range'_succ,List.cons.injEq] at h
  simp only [List.map_cons,List.zipIdx_cons]
  rw [←range_zip l (k+1) h.2,h.1]
theorem repT_flat {R:Reach} {w:World} {s:Nat}:∀{xs:List AV} {vs:List Value},RepT R w xs vs→(∀x∈xs,x.plain=true∧x.cells.length=s)→RepL R w (xs.flatMap AV.cells) (vs.flatMap fun v=>v.cells.toList)∧∀v∈vs,v.cells.size=s
 | _,_,.nil,_=>⟨.nil,by simp⟩
 | _,_,.cons (x:=x) h t,hx=>by
  obtain ⟨h1,h2⟩:=repT_flat t (fun x hx'=>hx x (by simp [hx']))
  obtain ⟨p1,p2⟩:=hx x (by simp)
  have hL:=plain_rep h p1
  refine ⟨by simpa using hL.append h1,fun v hv=>?_⟩
  rcases List.mem_cons.1 hv with rfl | hv
  ·have:=hL.length;simp at this;omega
  ·exact h2 v hv
theorem flat_len {s:Nat}:∀{l:List AV},(∀x∈l,x.plain=true∧x.cells.length=s)→(l.flatMap AV.cells).length=l.length * s
 | [],_=>by simp
 | x :: l,hl=>by
  simp only [List.flatMap_cons,List.length_append,List.length_cons,Nat.succ_mul]
  rw [flat_len (fun y hy=>hl y (by simp [hy])),(hl x (by simp)).2];omega
theorem sliceOKz_spec {P:Program} {t:TypeId} {s:Nat} (h:sliceOKz P t s=true):∃e i z,P.underlying t=some (.slice e)∧P.info? e=some i∧i.size=s∧i.zero=some z∧0<s:=by
 unfold sliceOKz at h
 cases he:elemT P t with
 | none=>simp [he] at h
 | some e =>
  simp [he] at h
  obtain ⟨h1,h0⟩:=h
  cases hi:P.info? e with
  | none=>simp [hi] at h1
  | some i =>
   simp [hi] at h1
   obtain ⟨h1,h2⟩:=h1
   obtain ⟨z,hz⟩:=Option.isSome_iff_exists.1 h2
   exact ⟨e,i,z,elemT_spec he,hi,h1,hz,h0⟩
theorem Sim.litRow (h:Sim C D σ γ a w) {t e:TypeId} {inf:TypeInfo} {zv:Value} {s n:Nat} {parts:Array (Nat × Operand)} {rs:List Opd} (ht:C.P.underlying t=some (.slice e)) (hi:C.P.info? e=some inf) (hz:inf.size=s) (hzv:inf.zero=some zv)
  (hn24:n * s≤2 ^ 24) (hnm:n≤maxLen) (hpr:parts.toList.map (·.1)=List.range n) (hx:opdsOK (parts.toList.map (·.2)) rs=true) (hsm:small C.nt (parts.toList.map (·.2))=true)
  (hxs:∀x∈rs.map (Opd.ev C.E σ),x.plain=true∧x.cells.length=s) :
  ∃v w' R',(Instr.buildSlice t n (parts.map fun p=>(p.1,a.eval p.2))).run C.P w = .ok v w'∧Sim C { D with R:=R' } σ γ a w'∧Rep R' w' (.sl s (rs.map (Opd.ev C.E σ))) v∧TipOK R' w' v s∧Keeps D.R w R' w' ∧
   ∀g,v.ownBlock=some g→C.mine g∧∀key,blk D γ key≠some g:=by
 have hT:=h.opds hx hsm
 obtain ⟨hL,hsz⟩:=repT_flat hT hxs
 have hlen:parts.toList.length=n:=by have:=congrArg List.length hpr;simpa using this
 have hlen':parts.size=n:=by simpa using hlen
 have hrs:(rs.map (Opd.ev C.E σ)).length=n:=by have:=hT.length;simp at this ⊢;omega
 have hp:(parts.map fun p=>(p.1,a.eval p.2)).toList=((((parts.toList.map (·.2)).map a.eval).zipIdx 0).map fun p=>(p.2,p.1)):=by
  have e:=range_zip ((parts.map fun p=>(p.1,a.eval p.2)).toList) 0 (by simp only [Array.toList_map,List.map_map,List.length_map,hlen];rw [←List.range_eq_range',←hpr];rfl)
  rw [e]
  simp [Function.comp_def]
 let zc:Array Value:=if n * s=0 then #[] else zv.cells
 let c0:Array Value:=(Array.range (n * s)).map (zc[· % zc.size]!)
 obtain ⟨cells',hf,hc'⟩:=fill_full s ((parts.toList.map (·.2)).map a.eval) 0 c0 hsz (by simp [c0,hlen])
 simp only [Nat.zero_mul,List.take_zero,List.nil_append] at hc'
 have hrun:(Instr.buildSlice t n (parts.map fun p=>(p.1,a.eval p.2))).run C.P w = .ok (.slice (some ⟨w.heap.size,0,none⟩) n n) { w with heap:=w.heap.push (.cells cells' e) }:=by
  have h24:¬(n * s > 2 ^ 24):=by omega
  rw [←hp] at hf
  simp only [c0,zc] at hf
  simp only [Instr.buildSlice,Sem.run_bind,run_underlying ht,Result.andThen_ok,run_sizeOf hi,hz,h24,if_false,Sem.run_pure]
  by_cases h0:n * s=0
  ·rw [if_pos h0] at hf ⊢
   simp only [Sem.run_bind,Sem.run_pure,Result.andThen_ok]
   rw [hf]
   simp [Go.newRow]
  ·rw [if_neg h0] at hf ⊢
   simp only [Sem.run_bind,Sem.run_pure,Result.andThen_ok,run_zero hi hzv]
   rw [hf]
   simp [Go.newRow]
 have hcs:cells'.size=n * s:=by
  rw [←Array.length_toList,hc',←hL.length,flat_len hxs,hrs]
 obtain ⟨R',hS,hR,hnR,_,hk,hh⟩:=h.newRow (w':={ w with heap:=w.heap.push (.cells cells' e) }) (es:=rs.map (Opd.ev C.E σ)) (s:=s) (cap:=n) rfl rfl rfl rfl (fun x hx=>(hxs x hx).2) hL
  (fun j y hj=>by rw [←hc'] at hj;simpa using hj) (by omega) hnm
 rw [hrs] at hR hnR
 refine ⟨_,_,R',hrun,hS,hR,.inr ⟨_,_,_,_,_,_,rfl,hh,by simp,hcs,Nat.le_refl _,hnm,hnR⟩,hk,fun g hg=>?_⟩
 simp [Value.ownBlock] at hg
 subst hg
 exact ⟨.inr h.ext.size,fun key hk=>by have:=h.lt hk;omega⟩
variable (h:Sim C D σ γ a w) (hd:o.dst=some d) (hl:d<C.nt)
include h hd hl
theorem op_bl {t:TypeId} {s n:Nat} {parts:Array (Nat × Operand)} {rs:List Opd} (ho:o.op = .buildSlice t n parts) (ht:sliceOKz C.P t s=true) (hn24:n * s≤2 ^ 24)
  (hpr:parts.toList.map (·.1)=List.range n) (hx:opdsOK (parts.toList.map (·.2)) rs=true) (hsm:small C.nt (parts.toList.map (·.2))=true) (hxs:∀x∈rs.map (Opd.ev C.E σ),x.plain=true∧x.cells.length=s)
  (hK:∀D' a' w',Sim C D' (upd σ d (.sl s (rs.map (Opd.ev C.E σ)))) (upd γ d .no) a' w'→K a' w'):o.wp C.P a w K Q:=by
 obtain ⟨e,i,z,h1,h2,h3,h4,h5⟩:=sliceOKz_spec ht
 have hnm:n≤maxLen:=by
  have:n≤n * s:=Nat.le_mul_of_pos_right n h5
  simp only [maxLen];omega
 obtain ⟨v,w',R',hrun,hS,hR,_⟩:=h.litRow h1 h2 h3 h4 hn24 hnm hpr hx hsm hxs
 exact Sim.valNew hd hl (v:=v) (w':=w') (by simp only [execOp,ho,Sem.run_bind,hrun,Result.andThen_ok,Sem.run_pure]) hS hR hK
theorem op_blt {t:TypeId} {s n k:Nat} {parts:Array (Nat × Operand)} {rs:List Opd} (ho:o.op = .buildSlice t n parts) (ht:sliceOKz C.P t s=true) (hn24:n * s≤2 ^ 24)
  (hpr:parts.toList.map (·.1)=List.range n) (hx:opdsOK (parts.toList.map (·.2)) rs=true) (hsm:small C.nt (parts.toList.map (·.2))=true) (hxs:∀x∈rs.map (Opd.ev C.E σ),x.plain=true∧x.cells.length=s) (hk:γ (lk k) = .no)
  (hK:∀D' a' w',Sim C D' (updL σ [d,lk k] [.sl s (rs.map (Opd.ev C.E σ)),.dead]) (updL γ [d,lk k] [.tip k s,.live s]) a' w'→K a' w'):o.wp C.P a w K Q:=by
 obtain ⟨e,i,z,h1,h2,h3,h4,h5⟩:=sliceOKz_spec ht
 have hnm:n≤maxLen:=by
  have:n≤n * s:=Nat.le_mul_of_pos_right n h5
  simp only [maxLen];omega
 obtain ⟨v,w',R',hrun,hS,hR,hT,_,hG⟩:=h.litRow h1 h2 h3 h4 hn24 hnm hpr hx hsm hxs
 unfold Oper.wp
 rw [show (execOp a.eval o).run C.P w = .ok (.value v) w' by simp only [execOp,ho,Sem.run_bind,hrun,Result.andThen_ok,Sem.run_pure],Oper.upon_value,hd]
 exact hK _ _ _ (hS.putTip hl hk hR hT hG)
omit h hd hl in
theorem flatten_get {α:Type} {zs:List α} (hz:0<zs.length):∀(l j:Nat) (y:α),(List.replicate l zs).flatten[j]?=some y→zs[j % zs.length]?=some y
 | 0,j,y,h=>by simp at h
 | l+1,j,y,h=>by
  simp only [List.replicate_succ,List.flatten_cons] at h
  by_cases hj:j<zs.length
  ·rw [List.getElem?_append_left hj] at h;rwa [Nat.mod_eq_of_lt hj]
  ·rw [List.getElem?_append_right (by omega)] at h
   have:=flatten_get hz l _ y h
   rwa [Nat.mod_eq_sub_mod (by omega)]
omit h hd hl in
theorem repL_replicate {R:Reach} {w:World} {xs:List AV} {ys:List Value} (h:RepL R w xs ys):∀n,RepL R w (List.replicate n xs).flatten (List.replicate n ys).flatten
 | 0 => .nil
 | n+1=>by simp only [List.replicate_succ,List.flatten_cons];exact h.append (repL_replicate h n)
theorem op_mk {t e:TypeId} {x y:Operand} {r q:Opd} {i:TypeInfo} {zv:Value} {k s:Nat} {z:AV} {l c:Int} (ho:o.op = .makeSlice t x y) (ht:C.P.underlying t=some (.slice e)) (hi:C.P.info? e=some i) (hz:i.size=s) (hzv:i.zero=some zv) (hzs:zv.cells.size=s) (h0s:0<s)
  (hzc:constCells zv.cells.toList z.cells=true) (hx:opdOK x r=true) (hy:opdOK y q=true) (hs1:small C.nt [x]=true) (hs2:small C.nt [y]=true) (hr:r.ev C.E σ = .v (.int .i64 l)) (hq:q.ev C.E σ = .v (.int .i64 c))
  (hp:z.cells.length=s) (h0:0≤l) (hlc:l≤c) (hb:c * i.bytes≤140737488355328) (hcm:c≤maxLen) (hk:γ (lk k) = .no)
  (hK:∀D' a' w',Sim C D' (updL σ [d,lk k] [.sl s (List.replicate l.toNat z),.dead]) (updL γ [d,lk k] [.tip k s,.live s]) a' w'→K a' w'):o.wp C.P a w K Q:=by
 have e1:=(h.opd hx hs1).rep (by rw [hr];simp)
 have e2:=(h.opd hy hs2).rep (by rw [hq];simp)
 rw [hr] at e1;rw [hq] at e2
 have hmk:=run_make (P:=C.P) w t e i zv ht hi hzv .i64 .i64 l c h0 hlc (by rw [Int.mul_comm];omega) (by simp only [maxLen] at hcm;omega)
 have hrun:(execOp a.eval o).run C.P w = .ok (.value (.slice (some ⟨w.heap.size,0,none⟩) l.toNat c.toNat)) (w.alloc (.cells (madeCells zv.cells (c.toNat * i.size)) e)):=by
  simp only [execOp,ho,e1.v_inv,e2.v_inv,Sem.run_bind,hmk,Result.andThen_ok,Sem.run_pure]
 have hL:RepL D.R w z.cells zv.cells.toList:=constCells_rep hzc
 have hfm:(List.replicate l.toNat z).flatMap AV.cells=(List.replicate l.toNat z.cells).flatten:=by rw [List.flatMap_def,List.map_replicate]
 have hlc':l.toNat≤c.toNat:=by omega
 obtain ⟨R',hS,hR,hnR,_,_,hh⟩:=h.newRow (w':=w.alloc (.cells (madeCells zv.cells (c.toNat * i.size)) e)) (es:=List.replicate l.toNat z) (s:=s) (cap:=c.toNat) (ys:=(List.replicate l.toNat zv.cells.toList).flatten) rfl rfl rfl rfl
  (fun x hx=>by rw [List.eq_of_mem_replicate hx];exact hp) (by rw [hfm];exact repL_replicate hL _)
  (fun j y hj=>by
   have h1:=flatten_get (by simp;omega) _ _ _ hj
   have hlt:=(List.getElem?_eq_some_iff.1 hj).1
   have hflen:(List.replicate l.toNat zv.cells.toList).flatten.length=l.toNat * s:=by simp [hzs]
   rw [hflen] at hlt
   have hle:l.toNat * s≤c.toNat * s:=Nat.mul_le_mul_right _ hlc'
   have hm:j<c.toNat * i.size:=by rw [hz];omega
   simp only [madeCells,Array.getElem?_map,Array.getElem?_range,hm,if_true,Option.map_some]
   simp only [Array.length_toList,Array.getElem?_toList] at h1
   rw [getElem!_def,h1]) (by simpa using hlc') (by omega)
 simp only [List.length_replicate] at hR hnR
 unfold Oper.wp
 rw [hrun,Oper.upon_value,hd]
 refine hK _ _ _ (hS.putTip hl hk hR (.inr ⟨_,_,_,_,_,_,rfl,hh,by simp,by rw [size_madeCells,hz],hlc',by omega,hnR⟩) fun g hg=>?_)
 simp [Value.ownBlock] at hg
 subst hg
 exact ⟨.inr h.ext.size,fun key hk=>by have:=h.lt hk;omega⟩
omit h hd hl in
theorem run_mapM_sizes {P:Program} {w:World}:∀(fs:List Field),(∀f∈fs,(sizeOf f.type).run P w = .ok ((sizeT P f.type).getD 0) w) →
  ((fs.mapM fun (f:Field)=>do pure (f.offset,←sizeOf f.type)):Sem (List (Nat × Nat))).run P w = .ok (fs.map fun f=>(f.offset,(sizeT P f.type).getD 0)) w
 | [],_=>rfl
 | f :: fs,hs=>by
  simp only [List.mapM_cons,Sem.run_bind,hs f (by simp),Result.andThen_ok,Sem.run_pure,run_mapM_sizes fs (fun g hg=>hs g (by simp [hg])),List.map_cons]
theorem op_bd {t:TypeId} {z:List AV} {pl:List (Nat × Nat)} {parts:Array (Nat × Operand)} {rs:List Opd} {cs:List AV} (ho:o.op = .build t parts) (hz:zeroOK C.P t z=true) (hpl:placesOK C.P t pl parts.toList=true) (hx:opdsOK (parts.toList.map (·.2)) rs=true) (hsm:small C.nt (parts.toList.map (·.2))=true)
  (hf:fillAV z pl (rs.map (Opd.ev C.E σ))=some cs) (hK:∀D' a' w',Sim C D' (upd σ d (.ag cs)) (upd γ d .no) a' w'→K a' w'):o.wp C.P a w K Q:=by
 have hT:=h.opds hx hsm
 obtain ⟨i,zv,hi,hzv,hzc⟩:=zeroOK_spec hz
 have hL:RepL D.R w z zv.cells.toList:=constCells_rep hzc
 simp only [placesOK,Bool.and_eq_true,beq_iff_eq] at hpl
 obtain ⟨⟨hfs,hlen⟩,hall⟩:=hpl
 have hget:∀(j:Nat) (p:Nat × Operand) (q:Nat × Nat),parts.toList[j]?=some p→pl[j]?=some q→(match C.P.underlying t with | some (.struct fs)=>(fs[p.1]?).any fun f=>f.offset == q.1&&sizeT C.P f.type == some q.2 | some (.array _ e)=>sizeT C.P e == some q.2&&p.1 * q.2 == q.1 | _=>false)=true:=fun j p q hp hq=>by
  have:=List.all_eq_true.1 hall (q,p) (List.mem_of_getElem? (i:=j) (by simp [List.getElem?_zip_eq_some,hq,hp]))
  exact this
 have hvals:∀(j:Nat) (p:Nat × Value) (x:AV),((parts.map fun p=>(p.1,a.eval p.2)).toList)[j]?=some p→(rs.map (Opd.ev C.E σ))[j]?=some x→Rep D.R w x p.2:=fun j p x hp hxj=>by
  obtain ⟨y,hy1,hy2⟩:=hT.get j x hxj
  simp only [Array.toList_map,List.getElem?_map,List.map_map] at hp hy1
  cases hq:parts.toList[j]? with
  | none=>simp [hq] at hp
  | some q=>simp [hq] at hp hy1;subst hp;rw [hy1];exact hy2
 have hplace:∀place:Nat→Option (Nat × Nat),(∀(j:Nat) (p:Nat × Operand) (q:Nat × Nat),parts.toList[j]?=some p→pl[j]?=some q→place p.1=some q) →
   ∃cells',Instr.fill place zv.cells (parts.map fun p=>(p.1,a.eval p.2)).toList=some cells'∧RepL D.R w cs cells'.toList:=fun place hpp =>
  fill_rep place _ pl _ z cs zv.cells hL (by simp [hlen]) (fun j p q hp hq=>by
   simp only [Array.toList_map,List.getElem?_map] at hp
   cases hq':parts.toList[j]? with
   | none=>simp [hq'] at hp
   | some q'=>simp [hq'] at hp;subst hp;exact hpp j q' q hq' hq) hvals hf
 unfold fieldsSized at hfs
 cases hu:C.P.underlying t with
 | none=>simp [hu] at hfs
 | some dd =>
  have fin:∀place:Nat→Option (Nat × Nat),(∀(j:Nat) (p:Nat × Operand) (q:Nat × Nat),parts.toList[j]?=some p→pl[j]?=some q→place p.1=some q) →
    (∀cells',Instr.fill place zv.cells (parts.map fun p=>(p.1,a.eval p.2)).toList=some cells'→(execOp a.eval o).run C.P w = .ok (.value (.agg cells')) w)→o.wp C.P a w K Q:=fun place hpp hrr=>by
   obtain ⟨cells',hf',hR⟩:=hplace place hpp
   exact h.valNo hd hl (v := .agg cells') (hrr cells' hf') (by cases cells' with | mk l=>exact .ag hR) hK
  cases dd with
  | struct fs =>
   simp only [hu] at hfs
   have hsz:∀f∈fs.toList,(sizeOf f.type).run C.P w = .ok ((sizeT C.P f.type).getD 0) w:=fun f hf=>by
    have:=List.all_eq_true.1 hfs f hf
    obtain ⟨n,hn⟩:=Option.isSome_iff_exists.1 this
    obtain ⟨i',h1,h2⟩:=sizeT_spec hn
    rw [run_sizeOf h1,hn,h2];rfl
   refine fin (fun i=>(fs.map fun f=>(f.offset,(sizeT C.P f.type).getD 0))[i]?) (fun j p q hp hq=>?_) (fun cells' hc=>?_)
   ·have:=hget j p q hp hq
    rw [hu] at this
    simp only at this
    cases hfp:fs[p.1]? with
    | none=>simp [hfp] at this
    | some f =>
     simp [hfp] at this
     simp [hfp,this.1,this.2]
   ·have hm:=run_mapM_sizes fs.toList hsz
    have hmm:((fs.mapM fun (f:Field)=>do pure (f.offset,←sizeOf f.type)):Sem (Array (Nat × Nat))).run C.P w = .ok (fs.map fun f=>(f.offset,(sizeT C.P f.type).getD 0)) w:=by
     rw [Array.mapM_eq_mapM_toList,Sem.run_map,hm]
     simp only [Result.andThen_ok]
     congr 1
     apply Array.ext'
     simp
    simp only [execOp,ho,Instr.build,Sem.run_bind,run_zero hi hzv,run_underlying hu,Result.andThen_ok,hmm]
    rw [hc]
    simp
  | array n e =>
   simp only [hu] at hfs
   obtain ⟨s,hs⟩:=Option.isSome_iff_exists.1 hfs
   obtain ⟨i',h1,h2⟩:=sizeT_spec hs
   refine fin (fun i=>some (i * s,s)) (fun j p q hp hq=>?_) (fun cells' hc=>?_)
   ·have:=hget j p q hp hq
    rw [hu] at this
    simp [hs] at this
    obtain ⟨q1,q2⟩:=q
    simp at this
    rw [this.1,this.2]
   ·simp only [execOp,ho,Instr.build,Sem.run_bind,run_zero hi hzv,run_underlying hu,Result.andThen_ok,run_sizeOf h1,h2]
    rw [hc]
    simp
  | _=>simp [hu] at hfs
end
end Go.Eng
namespace Go.Eng
open Go.RowKit
section
variable {X:Type}
theorem updL_append:∀{σ:Nat→X} {A B:List Nat} {xs ys:List X},A.length=xs.length→updL σ (A++B) (xs++ys)=updL (updL σ B ys) A xs
 | σ,[],B,[],ys,_=>by cases B <;> cases ys <;> rfl
 | σ,a :: A,B,x :: xs,ys,h=>by simp only [List.cons_append,updL];rw [updL_append (by simpa using h)]
 | σ,[],B,_ :: _,ys,h=>by simp at h
 | σ,_ :: _,B,[],ys,h=>by simp at h
theorem updL_out:∀{σ:Nat→X} {A:List Nat} {xs:List X} {k:Nat},k ∉ A→updL σ A xs k=σ k
 | σ,[],xs,k,_=>by cases xs <;> rfl
 | σ,a :: A,[],k,_=>rfl
 | σ,a :: A,x :: xs,k,h=>by
  simp only [updL]
  rw [upd_ne _ _ (fun e=>h (by simp [e])),updL_out (fun e=>h (by simp [e]))]
theorem updL_upd:∀{σ:Nat→X} {A:List Nat} {xs:List X} {k:Nat} {x:X},k ∉ A→updL (upd σ k x) A xs=upd (updL σ A xs) k x
 | σ,[],xs,k,x,_=>by cases xs <;> rfl
 | σ,a :: A,[],k,x,_=>rfl
 | σ,a :: A,y :: xs,k,x,h=>by
  simp only [updL]
  rw [updL_upd (fun e=>h (by simp [e])),upd_comm _ _ _ (fun e=>h (by simp [e]))]
theorem updL_comm:∀{σ:Nat→X} {A B:List Nat} {xs ys:List X},(∀a∈A,a ∉ B)→updL (updL σ A xs) B ys=updL (updL σ B ys) A xs
 | σ,[],B,xs,ys,_=>by cases xs <;> rfl
 | σ,a :: A,B,[],ys,_=>rfl
 | σ,a :: A,B,x :: xs,ys,h=>by
  simp only [updL]
  rw [updL_upd (h a (by simp)),updL_comm (fun c hc=>h c (by simp [hc]))]
theorem upd_upd (σ:Nat→X) (k:Nat) (x y:X):upd (upd σ k x) k y=upd σ k y:=by
 funext j;simp only [upd];split <;> rfl
end
section
variable {C:Ctx} {D:Dyn} {σ:Sg} {γ:Ga} {a:Act} {w:World}
theorem Sim.deads:∀(ks:List Nat) {σ:Sg},Sim C D σ γ a w→(∀k∈ks,(γ k).isCl=false)→Sim C D (updL σ ks (ks.map fun _ => .dead)) γ a w
 | [],_,h,_=>h
 | k :: ks,_,h,hk=>(Sim.deads ks h (fun j hj=>hk j (by simp [hj]))).dead (hk k (by simp))
theorem Sim.kills:∀(ts:List (Nat × Nat)) {γ:Ga},Sim C D σ γ a w→(∀t∈ts,γ t.1 = .live t.2)→(ts.map (·.1)).Nodup→Sim C D σ (updL γ (ts.map (·.1)) (ts.map fun _ => .used)) a w
 | [],_,h,_,_=>h
 | t :: ts,γ,h,hk,hn=>by
  simp only [List.map_cons,List.nodup_cons] at hn
  have h1:=Sim.kills ts h (fun u hu=>hk u (by simp [hu])) hn.2
  simp only [List.map_cons,updL]
  exact h1.kill (s:=t.2) (by rw [updL_out hn.1];exact hk t (by simp))
theorem Sim.tips (ts:List (Nat × (Nat × Value))):∀{D:Dyn} {γ:Ga},Sim C D σ γ a w→(∀t∈ts,γ (lk t.1) = .no)→(ts.map (·.1)).Nodup →
  (∀t∈ts,TipOK D.R w t.2.2 t.2.1)→(∀t∈ts,∀g,t.2.2.ownBlock=some g→C.mine g∧∀key,blk D γ key≠some g)→(∀(i j:Nat) (t u:Nat × (Nat × Value)) (g:Nat),ts[i]?=some t→ts[j]?=some u→t.2.2.ownBlock=some g→u.2.2.ownBlock=some g→i=j) →
  ∃D',Sim C D' σ (updL γ (ts.map fun t=>lk t.1) (ts.map fun t => .live t.2.1)) a w∧D'.R=D.R∧D'.β=D.β∧(∀t∈ts,D'.τ (lk t.1)=t.2.2)∧(∀k,(∀t∈ts,k≠lk t.1)→D'.τ k=D.τ k) ∧
   (∀key g,blk D' (updL γ (ts.map fun t=>lk t.1) (ts.map fun t => .live t.2.1)) key=some g→blk D γ key=some g∨∃t∈ts,t.2.2.ownBlock=some g):=by
 induction ts with
 | nil=>exact fun {D γ} h _ _ _ _ _=>⟨D,h,rfl,rfl,by simp,fun _ _=>rfl,fun _ _ hk => .inl hk⟩
 | cons t ts ih =>
  intro D γ h hno hn hT hown hsep
  simp only [List.map_cons,List.nodup_cons] at hn
  obtain ⟨D1,h1,hR,hβ,hτ,hτ',hb⟩:=ih h (fun u hu=>hno u (by simp [hu])) hn.2 (fun u hu=>hT u (by simp [hu])) (fun u hu=>hown u (by simp [hu]))
   (fun i j u v g hi hj hu hv=>by have:=hsep (i+1) (j+1) u v g (by simpa using hi) (by simpa using hj) hu hv;omega)
  have hne:∀u∈ts,lk t.1≠lk u.1:=fun u hu e=>hn.1 (List.mem_map.2 ⟨u,hu,(lk_inj e).symm⟩)
  have hnot:lk t.1 ∉ ts.map fun t=>lk t.1:=fun hm=>by obtain ⟨u,hu,e⟩:=List.mem_map.1 hm;exact hne u hu e.symm
  have hno1:updL γ (ts.map fun t=>lk t.1) (ts.map fun t => .live t.2.1) (lk t.1) = .no:=by rw [updL_out hnot];exact hno t (by simp)
  have hfree:∀g,t.2.2.ownBlock=some g→C.mine g∧∀key,blk D1 (updL γ (ts.map fun t=>lk t.1) (ts.map fun t => .live t.2.1)) key≠some g:=fun g hg=>by
   obtain ⟨m1,m2⟩:=hown t (by simp) g hg
   refine ⟨m1,fun key hk=>?_⟩
   rcases hb key g hk with hk | ⟨u,hu,hug⟩
   ·exact m2 key hk
   ·obtain ⟨j,hj⟩:=List.getElem?_of_mem hu
    have:=hsep 0 (j+1) t u g rfl (by simpa using hj) hg hug
    omega
  have h2:=h1.newTip hno1 (by rw [hR];exact hT t (by simp)) hfree
  refine ⟨_,h2,hR,hβ,fun u hu=>?_,fun k hk=>?_,fun key g hk=>?_⟩
  ·rcases List.mem_cons.1 hu with rfl | hu
   ·exact upd_same _ _ _
   ·show upd D1.τ (lk t.1) _ (lk u.1)=_
    rw [upd_ne _ _ (fun e=>hne u hu e.symm)];exact hτ u hu
  ·show upd D1.τ (lk t.1) _ k=_
   rw [upd_ne _ _ (hk t (by simp))];exact hτ' k (fun u hu=>hk u (by simp [hu]))
  ·by_cases e:key=lk t.1
   ·subst e
    right
    simp only [List.map_cons,updL,blk,upd_same] at hk
    exact ⟨t,by simp,hk⟩
   ·have:blk D1 (updL γ (ts.map fun t=>lk t.1) (ts.map fun t => .live t.2.1)) key=some g:=by
     simp only [List.map_cons,updL,blk] at hk
     rw [upd_ne _ _ e] at hk
     unfold blk
     revert hk
     cases hg:updL γ (ts.map fun t=>lk t.1) (ts.map fun t => .live t.2.1) key with
     | live s'=>simp [upd_ne _ _ e]
     | pv s'=>simp [upd_ne _ _ e]
     | pc s'=>simp [upd_ne _ _ e]
     | sus d s'=>simp [upd_ne _ _ e]
     | _=>exact id
    rcases hb key g this with hk | ⟨u,hu,hug⟩
    ·exact .inl hk
    ·exact .inr ⟨u,by simp [hu],hug⟩
theorem Sim.callWorld (h:Sim C D σ γ a w) {m:Nat} {w':World} {R':Reach} {io:Nat→Prop} {x:AV} {cs:List Value} {ts:List (Nat × (Nat × Nat))} (hm:γ m = .cl ts) (he:Ext w D.R io w' R')
  (hio:∀b,io b→b=D.β m∨(C.mine b∧∀key,blk D γ key≠some b)) (hv:VarAt R' w' x (D.β m) cs) (lt:∀b o,R' b o→b<w'.heap.size) :
  Sim C { D with R:=R' } (upd σ m x) (upd γ m (.cl [])) a w':=by
 have hcl:∀j,(upd γ m (.cl []) j).isCl=(γ j).isCl:=fun j=>by
  by_cases e:j=m
  ·subst e;rw [upd_same,hm];rfl
  ·rw [upd_ne _ _ e]
 have hlk:∀j,(upd γ m (.cl []) j).isLk=(γ j).isLk:=fun j=>by
  by_cases e:j=m
  ·subst e;rw [upd_same,hm];rfl
  ·rw [upd_ne _ _ e]
 have hM:∀g,Ment γ g→Ment (upd γ m (.cl [])) g:=fun g hg=>by
  cases g <;> simp only [Ment,hcl,hlk] at hg ⊢ <;> first | exact hg | skip
  rename_i d s'
  have hd:d≠m:=fun e=>by subst e;rcases hg with e | ⟨s'',e⟩ <;> rw [hm] at e <;> cases e
  rw [upd_ne _ _ hd];exact hg
 have hB:∀key,blk { D with R:=R' } (upd γ m (.cl [])) key=blk D γ key:=fun key=>by
  unfold blk
  by_cases e:key=m
  ·subst e;rw [upd_same,hm]
  ·rw [upd_ne _ _ e]
 have hother:∀key g,key≠m→blk D γ key=some g→w'.heap[g]?=w.heap[g]?∧∀o,R' g o→D.R g o:=fun key g hne hk=>by
  have hnio:¬io g:=fun hi=>by
   rcases hio g hi with e | ⟨_,e⟩
   ·exact hne (h.sepN (key:=m) (by rw [hm];rfl) (by rw [blk_cl hm,e]) hk).symm
   ·exact e key hk
  refine ⟨he.heap g (h.lt hk) hnio,fun o hr=>?_⟩
  rcases he.rnew g o hr with r | r | r
  ·exact r
  ·have:=h.lt hk;omega
  ·exact (hnio r).elim
 refine ⟨h.size,h.defers,h.ntlt,fun j hj=>h.rng j (by rwa [hcl] at hj),fun j hj=>h.lrng j (by rwa [hlk] at hj),fun t ht=>?_,fun j vs hj=>?_,fun key s' hk'=>?_,h.ps.keep he.keep (fun key hp=>?_),fun p q g hp hq=>(by rw [par_upd (by rw [hm];rfl) rfl,par_upd (by rw [hm];rfl) rfl];exact h.sep p q g (by rwa [hB] at hp) (by rwa [hB] at hq)),fun p g hp=>h.own p g (by rwa [hB] at hp),fun key=>?_,?_,lt,fun n=>(h.gl n).mono he.keep,h.fix.upd (by rw [hm];rfl) rfl rfl⟩
 ·have e:t≠m:=by have:=(h.rng m (by rw [hm];rfl)).1;omega
  rw [upd_ne _ _ e,upd_ne _ _ e]
  exact (h.slot t ht).imp id fun ⟨r,g⟩=>⟨r.mono he.keep,by cases hg:γ t <;> rw [hg] at g <;> exact g⟩
 ·by_cases e:j=m
  ·subst e;rw [upd_same] at hj;cases hj;rw [upd_same];exact ⟨cs,hv,by simp⟩
  ·rw [upd_ne _ _ e] at hj;rw [upd_ne _ _ e]
   obtain ⟨cs',hv',ht'⟩:=h.mem j vs hj
   obtain ⟨e1,e2⟩:=hother j _ e (blk_cl hj)
   exact ⟨cs',hv'.keep he.keep e1 (fun o hr=>hv'.noR o (e2 o hr)),ht'⟩
 ·have e:key≠m:=fun e=>by subst e;rw [upd_same] at hk';cases hk'
  rw [upd_ne _ _ e] at hk'
  exact (h.tip key s' hk').keep fun g hg=>hother key g e ((blk_live hk').trans hg)
 ·have e:key≠m:=fun e=>by subst e;rw [upd_same] at hp;cases hp
  rw [upd_ne _ _ e] at hp ⊢
  rw [upd_ne _ _ e]
  exact ⟨rfl,rfl,rfl,fun g hg=>hother key g e ((blk_isP hp).trans hg)⟩
 ·by_cases e:key=m
  ·subst e;rw [upd_same];exact fun t ht=>by cases ht
  ·rw [upd_ne _ _ e];exact hM _ (h.inv key)
 ·refine h.ext.trans he fun b hb=>?_
  rcases hio b hb with e | ⟨e,_⟩
  ·subst e;exact h.own m _ (blk_cl hm)
  ·exact e
theorem Sim.callPure (h:Sim C D σ γ a w) {w':World} {R':Reach} (he:Ext w D.R (fun _=>False) w' R') (lt:∀b o,R' b o→b<w'.heap.size):Sim C { D with R:=R' } σ γ a w' :=
 h.grow he.os he.tape he.output he.size (fun b hb=>he.heap b hb id) (fun b o hr=>(he.keep b o hr).1) (fun b o hr=>by
  rcases he.rnew b o hr with r | r | r
  ·exact .inl r
  ·exact .inr r
  ·exact r.elim) lt
end
end Go.Eng
namespace Go.Eng
open Go.RowKit
theorem zipW_get {L:List (Nat × (Nat × Nat))} {vs:List Value} {p:Nat} {t:Nat × (Nat × Value)} (h:(List.zipWith (fun t v=>(t.2.1,(t.2.2,v))) L vs)[p]?=some t) :
  ∃q v,L[p]?=some q∧vs[p]?=some v∧t=(q.2.1,(q.2.2,v)):=by
 rw [List.getElem?_zipWith] at h
 cases h1:L[p]? with
 | none=>simp [h1] at h
 | some q =>
  cases h2:vs[p]? with
  | none=>simp [h1,h2] at h
  | some v=>simp [h1,h2] at h;exact ⟨q,v,rfl,rfl,h.symm⟩
theorem zipW_map {β:Type} (f:Nat × Nat→β):∀{L:List (Nat × (Nat × Nat))} {vs:List Value},L.length=vs.length →
  (List.zipWith (fun t v=>(t.2.1,(t.2.2,v))) L vs).map (fun t=>f (t.1,t.2.1))=L.map fun t=>f (t.2.1,t.2.2)
 | [],[],_=>rfl
 | q :: L,v :: vs,h=>by
  simp only [List.zipWith_cons_cons,List.map_cons]
  rw [zipW_map f (by simpa using h)]
 | [],_ :: _,h=>by simp at h
 | _ :: _,[],h=>by simp at h
theorem cut3_get {L:List (Nat × (Nat × Nat))} {p:Nat} {q:Nat × (Nat × Nat)} (h:L[p]?=some q):(cut3 L)[p]?=some (q.1,q.2.2):=by simp [cut3,h]
section
variable {C:Ctx} {D:Dyn} {σ:Sg} {γ:Ga} {a:Act} {w:World}
variable {o:Oper} {d:Nat} {K:Act→World→Prop} {Q:Exit→Act→World→Prop}
theorem call_run {f:Nat} {args:Array Operand} {ts:Array TypeId} (ho:o.op = .call { callee := .value (.func f),args,argTypes:=ts }) (hp:plainFn C.P f=true):(execOp a.eval o).run C.P w = .ok (.enter f (args.map a.eval)) w:=by
 unfold plainFn at hp
 cases hf:C.P.funcs[f]? with
 | none=>simp [hf] at hp
 | some fn =>
  simp only [hf,Option.any_some,Bool.and_eq_true,Bool.not_eq_true',beq_eq_false_iff_ne,ne_eq] at hp
  obtain ⟨h1,h2⟩:=hp
  have h1':fn.body.isNone=false:=by cases hb:fn.body <;> simp [hb] at h1 ⊢
  have he:a.eval (.func f) = .func (.func f) #[] #[]:=rfl
  simp [execOp,ho,resolve,Deferred.ofValue,he,invoke,callFunc,hf]
  rw [if_neg h2,if_neg (by intro e;rw [e] at h1;cases h1)]
theorem Sim.callOp (h:Sim C D σ γ a w) (hd:o.dst=some d) {f:Nat} {args:Array Operand} {ts:Array TypeId} (ho:o.op = .call { callee := .value (.func f),args,argTypes:=ts }) (hp:plainFn C.P f=true)
  {S:FS} (hS:SpecOK C.P C.E.gl f S) (hps:S.sg.ps=none) {ins outs:List AV} (hG:S.G ins outs) (hA:ArgsOK S.sg D.R w ins (args.toList.map a.eval))
  (hK:∀x R' w',Ext w D.R (ioOf S.sg w (args.toList.map a.eval)) w' R'→(∀b o,R' b o→b<w'.heap.size) →
   OutOK S.sg R' w' (fun b=>ioOf S.sg w (args.toList.map a.eval) b∨w.heap.size≤b) (args.toList.map a.eval) outs x→K (a.put (some d) x) w'):o.wp C.P a w K Q:=by
 unfold Oper.wp
 rw [call_run ho hp,Oper.upon_enter]
 have:=hS.1 hps w D.R ins outs (args.toList.map a.eval) hG h.rlt h.gl hA
 have e:(⟨args.toList.map a.eval⟩:Array Value)=args.map a.eval:=by apply Array.ext';simp
 rw [e] at this
 refine this.mono ?_
 rintro e w' ⟨x,R',rfl,h1,h2,h3⟩
 simp only
 rw [hd]
 exact hK x R' w' h1 h2 h3
theorem CS.dg_flat (c:CS):c.dg.isCl=false∧c.dg.isLk=false:=by
 unfold CS.dg
 repeat' split
 all_goals exact ⟨rfl,rfl⟩
theorem CS.dg_ment {c:CS} (h1:∀t∈c.own,(γ (lk t.2.1)).isLk=true) (h2:∀q,c.new=some q→(γ q.2).isCl=true):Ment γ c.dg:=by
 unfold CS.dg
 split
 ·split
  ·rename_i hn;exact h2 _ hn
  ·rename_i ho;exact h1 _ (by rw [ho];exact List.mem_singleton.2 rfl)
  ·trivial
 ·exact ⟨h1,h2⟩
theorem CS.dg_ok {c:CS} {rvs:List Value} {x:Value} (hl:rvs.length=c.nres) (hx:x=if c.nres=1 then rvs.headD undef else .tuple ⟨rvs⟩)
  (h1:∀t∈c.own,rvs[t.1]?=some (D.τ (lk t.2.1))∧(D.τ (lk t.2.1)).oneCell'=true) (h2:∀q,c.new=some q→rvs[q.1]?=some (.pointer (some ⟨D.β q.2,0,none⟩))):GhOK D c.dg x:=by
 unfold CS.dg
 split
 ·rename_i e
  rw [if_pos e] at hx
  rw [e] at hl
  match rvs,hl with
  | [y],_ =>
   simp at hx;subst hx
   cases hn:c.new with
   | some q =>
    obtain ⟨j,m⟩:=q
    have:=h2 _ hn
    have hj:j=0:=by
     have:=(List.getElem?_eq_some_iff.1 this).1
     simp at this;exact this
    subst hj
    simpa [GhOK] using this
   | none =>
    split
    ·rename_i e;cases e
    ·rename_i q k s _ ho
     have:=h1 (0,k,s) (by rw [ho];simp)
     simp at this
     exact ⟨this.1,by rw [this.1];exact this.2⟩
    ·trivial
 ·rename_i e
  rw [if_neg e] at hx
  exact ⟨rvs,hx,h1,h2⟩
theorem main_rep {c:CS} {g:FSig} {R:Reach} {w:World} {outs:List AV} {rvs:List Value} {x:Value} (hn:c.nres=g.nres) (hnew:c.new.map (·.1)=g.new) (hl:rvs.length=g.nres) (hx:x=if g.nres=1 then rvs.headD undef else .tuple ⟨rvs⟩)
  (hj:∀q∈c.new.toList,q.1<c.nres) (hT:RepT R w ((outs.take g.nres).mapIdx fun i y=>if g.new=some i then .pt else y) rvs):Rep R w (c.main outs) x:=by
 have hfun:(fun (i:Nat) (y:AV)=>if g.new=some i then AV.pt else y)=fun i y=>if c.new.any (·.1 == i) then .pt else y:=by
  funext i y
  rw [←hnew]
  cases c.new with
  | none=>simp
  | some q=>simp
 rw [hfun] at hT
 unfold CS.main
 rw [hn]
 by_cases e:g.nres=1
 ·rw [if_pos e] at hx ⊢
  rw [e] at hl hT
  match rvs,hl with
  | [y],_ =>
   simp at hx;subst hx
   cases hc:c.new with
   | some q=>simp;exact .pt _
   | none =>
    simp only [hc,Option.isSome_none,Bool.false_eq_true,if_false]
    rw [hc] at hT
    cases outs with
    | nil=>simp at hT;cases hT
    | cons o1 os =>
     simp at hT
     cases hT with
     | cons h1 _=>simpa using h1
 ·rw [if_neg e] at hx ⊢
  subst hx
  exact .tu hT
end
end Go.Eng
namespace Go.Eng
open Go.RowKit
theorem cut3_nil {L:List (Nat × (Nat × Nat))} (h:cut3 L=[]):L=[]:=by cases L with | nil=>rfl | cons=>simp [cut3] at h
section
variable {C:Ctx} {D:Dyn} {σ:Sg} {γ:Ga} {a:Act} {w:World}
variable {o:Oper} {d:Nat} {K:Act→World→Prop} {Q:Exit→Act→World→Prop}
theorem Sim.tipsBack (h:Sim C D σ γ a w) {L:List (Nat × (Nat × Nat))} {vs:List Value} (hl:L.length=vs.length) (hno:∀t∈L,γ (lk t.2.1) = .no) (hnd:(L.map (·.2.1)).Nodup)
  (hT:∀(p:Nat) (t:Nat × Nat) (v:Value),(cut3 L)[p]?=some t→vs[p]?=some v→TipOK D.R w v t.2)
  (hown:∀v∈vs,∀g,v.ownBlock=some g→C.mine g∧∀key,blk D γ key≠some g) (hsep:∀(p q g:Nat),(vs.map Value.ownBlock)[p]?=some (some g)→(vs.map Value.ownBlock)[q]?=some (some g)→p=q) :
  ∃D',Sim C D' (updL σ (L.map fun t=>lk t.2.1) (L.map fun _ => .dead)) (updL γ (L.map fun t=>lk t.2.1) (L.map fun t => .live t.2.2)) a w∧D'.R=D.R∧D'.β=D.β ∧
   (∀(p:Nat) (t:Nat × (Nat × Nat)) (v:Value),L[p]?=some t→vs[p]?=some v→D'.τ (lk t.2.1)=v)∧(∀k,(∀t∈L,k≠lk t.2.1)→D'.τ k=D.τ k) ∧
   (∀key g,blk D' (updL γ (L.map fun t=>lk t.2.1) (L.map fun t => .live t.2.2)) key=some g→blk D γ key=some g∨∃v∈vs,v.ownBlock=some g):=by
 let T:=List.zipWith (fun t v=>(t.2.1,(t.2.2,v))) L vs
 have e1:(T.map fun t=>lk t.1)=L.map fun t=>lk t.2.1:=zipW_map (fun p=>lk p.1) hl
 have e2:(T.map fun t=>Gh.live t.2.1)=L.map fun t => .live t.2.2:=zipW_map (fun p=>Gh.live p.2) hl
 have e3:T.map (·.1)=L.map (·.2.1):=zipW_map (fun p=>p.1) hl
 have hmem:∀t∈T,∃(p:Nat) (q:Nat × (Nat × Nat)) (v:Value),T[p]?=some t∧L[p]?=some q∧vs[p]?=some v∧t=(q.2.1,(q.2.2,v)):=fun t ht=>by
  obtain ⟨p,hp⟩:=List.getElem?_of_mem ht
  obtain ⟨q,v,h1,h2,h3⟩:=zipW_get hp
  exact ⟨p,q,v,hp,h1,h2,h3⟩
 obtain ⟨D',h1,hR,hβ,hτ,hτ',hb⟩:=h.tips T (fun t ht=>by obtain ⟨p,q,v,_,h1,_,rfl⟩:=hmem t ht;exact hno q (List.mem_of_getElem? h1)) (by rw [e3];exact hnd)
  (fun t ht=>by obtain ⟨p,q,v,_,h1,h2,rfl⟩:=hmem t ht;exact hT p (q.1,q.2.2) v (cut3_get h1) h2)
  (fun t ht g hg=>by obtain ⟨p,q,v,_,h1,h2,rfl⟩:=hmem t ht;exact hown v (List.mem_of_getElem? h2) g hg)
  (fun i j t u g hi hj ht hu=>by
   obtain ⟨q,v,h1,h2,rfl⟩:=zipW_get hi
   obtain ⟨q',v',h1',h2',rfl⟩:=zipW_get hj
   exact hsep i j g (by simp [h2];exact ht) (by simp [h2'];exact hu))
 rw [e1,e2] at h1 hb
 have h2:=h1.deads (L.map fun t=>lk t.2.1) (fun k hk=>by
  cases hc:(updL γ (L.map fun t=>lk t.2.1) (L.map fun t=>Gh.live t.2.2) k).isCl with
  | false=>rfl
  | true =>
   have:=(h1.rng k hc).2
   obtain ⟨t,_,e⟩:=List.mem_map.1 hk
   have:=lk_ge t.2.1
   omega)
 rw [List.map_map] at h2
 refine ⟨D',h2,hR,hβ,fun p t v ht hv=>?_,fun k hk=>?_,fun key g hk=>?_⟩
 ·have hp:T[p]?=some (t.2.1,(t.2.2,v)):=by simp only [T];rw [List.getElem?_zipWith];simp [ht,hv]
  exact hτ _ (List.mem_of_getElem? hp)
 ·exact hτ' k (fun t ht=>by obtain ⟨p,q,v,_,h1,_,rfl⟩:=hmem t ht;exact hk q (List.mem_of_getElem? h1))
 ·rcases hb key g hk with hk | ⟨t,ht,hg⟩
  ·exact .inl hk
  ·obtain ⟨p,q,v,_,h1,h2,rfl⟩:=hmem t ht
   exact .inr ⟨v,List.mem_of_getElem? h2,hg⟩
theorem fits_spec {c:CS} {g:FSig} (h:c.fits g=true):c.ref.map (·.1)=g.ref∧cut3 c.tin=g.tips∧cut3 c.tout=g.tips∧c.nres=g.nres∧cut3 c.own=g.own∧c.new.map (·.1)=g.new∧cut3 c.tnew=g.tnew ∧
  ((c.tin++c.tout++c.own++c.tnew).map (·.2.1)).Nodup∧(c.ref=none→c.tin=[])∧(c.new=none→c.tnew=[])∧(c.ref=none∨c.new=none)∧(∀q∈c.new.toList,q.1<c.nres∧q.2<999999)∧g.ps=none:=by
 unfold CS.fits at h;exact of_decide_eq_true h
variable (h:Sim C D σ γ a w) (hd:o.dst=some d) (hl:d<C.nt)
include h hd hl
theorem op_callA {f:Nat} {args:Array Operand} {ts:Array TypeId} {c:CS} {rs:List Opd} (ho:o.op = .call { callee := .value (.func f),args,argTypes:=ts }) (hp:plainFn C.P f=true)
  {S:FS} (hS:SpecOK C.P C.E.gl f S) (hc:c.fits S.sg=true) (href:c.ref=none) (hx:opdsOK args.toList rs=true) (hsm:small C.nt args.toList=true) {outs:List AV}
  (hG:S.G (rs.map (Opd.ev C.E σ)) outs) (hol:outs.length=c.nres+c.mems.length)
  (hnew:∀q,c.new=some q→γ q.2 = .no∧C.nt≤q.2∧q.2<1000000) (hno:∀t∈c.own++c.tnew,γ (lk t.2.1) = .no)
  (hK:∀D' a' w',Sim C D' (updL σ (d :: (c.mems++c.lks)) (c.main outs :: (outs.drop c.nres++c.lks.map fun _ => .dead)))
   (updL γ (d :: (c.mems++c.lks)) (c.dg :: (c.new.toList.map (fun _ => .cl c.tnew)++c.ref.toList.map (fun _ => .cl c.tout)++c.tin.map (fun _ => .used)++(c.tout++c.own++c.tnew).map fun t => .live t.2.2))) a' w'→K a' w'):o.wp C.P a w K Q:=by
 obtain ⟨f1,f2,f3,f4,f5,f6,f7,f8,f9,f10,f11,f12,f13⟩:=fits_spec hc
 have htin:=f9 href
 have hgref:S.sg.ref=none:=by rw [←f1,href];rfl
 have htips:S.sg.tips=[]:=by rw [←f2,htin];rfl
 have htout:c.tout=[]:=cut3_nil (by rw [f3,htips])
 have hlks:c.lks=(c.own++c.tnew).map fun t=>lk t.2.1:=by simp [CS.lks,htin,htout]
 have hnd:((c.own++c.tnew).map (·.2.1)).Nodup:=by simpa [htin,htout] using f8
 have hA:ArgsOK S.sg D.R w (rs.map (Opd.ev C.E σ)) (args.toList.map a.eval):=by
  unfold ArgsOK;rw [hgref];exact h.opds hx hsm
 refine h.callOp hd ho hp hS f13 hG hA ?_
 intro x R' w' hE hlt hO
 have hio:ioOf S.sg w (args.toList.map a.eval)=fun _=>False:=by funext b;simp [ioOf,hgref]
 rw [hio] at hE
 obtain ⟨rvs,tr,to_,tn,bn,br,cn,cr,o1,o2,o3,o4,o5,_,o7,o8,o9,_,o11,o12,o13,o14,o15⟩:=hO
 have htr:tr=[]:=List.eq_nil_of_length_eq_zero (by rw [o7,htips];rfl)
 subst htr
 have h1:=h.callPure hE hlt
 have hLlen:(c.own++c.tnew).length=(to_++tn).length:=by
  simp only [List.length_append,o8,o9,←f5,←f7,cut3,List.length_map]
 have hcut:cut3 (c.own++c.tnew)=S.sg.own++S.sg.tnew:=by rw [←f5,←f7];simp [cut3]
 -- whose blocks these are
 have hown0:owners S.sg bn br ([]++to_++tn)=(if S.sg.new.isSome then [some bn] else [])++(to_++tn).map Value.ownBlock:=by
  simp [owners,hgref]
 rw [hown0] at o14 o15
 have hmine:∀g,some g∈(if S.sg.new.isSome then [some bn] else [])++(to_++tn).map Value.ownBlock→w.heap.size≤g:=fun g hg=>by
  rcases o15 g hg with e | e
  ·rw [hio] at e;exact e.elim
  ·exact e
 obtain ⟨D2,h2,hR2,hβ2,hτ2,_,hb2⟩:=h1.tipsBack (L:=c.own++c.tnew) (vs:=to_++tn) hLlen hno hnd
  (fun p t v ht hv=>by rw [hcut] at ht;exact o13 p t v (by rw [htips];exact ht) hv)
  (fun v hv g hg=>by
   have hge:=hmine g (List.mem_append.2 (.inr (List.mem_map.2 ⟨v,hv,hg⟩)))
   exact ⟨.inr (Nat.le_trans h.ext.size hge),fun key hk=>by have:=h.lt (show blk D γ key=some g from hk);omega⟩)
  (fun p q g hp hq=>by
   have:=o14 ((if S.sg.new.isSome then [some bn] else []).length+p) ((if S.sg.new.isSome then [some bn] else []).length+q) g
    (by rw [List.getElem?_append_right (by omega),Nat.add_sub_cancel_left];exact hp) (by rw [List.getElem?_append_right (by omega),Nat.add_sub_cancel_left];exact hq)
   omega)
 have hlive:∀t∈c.own++c.tnew,(updL γ ((c.own++c.tnew).map fun t=>lk t.2.1) ((c.own++c.tnew).map fun t => .live t.2.2) (lk t.2.1)).isLk=true:=by
  intro t ht
  have:∀(L:List (Nat × (Nat × Nat))),t∈L→(updL γ (L.map fun t=>lk t.2.1) (L.map fun t => .live t.2.2) (lk t.2.1)).isLk=true:=by
   intro L
   induction L with
   | nil=>intro hm;cases hm
   | cons u L ih =>
    intro hm
    simp only [List.map_cons,updL]
    by_cases e:lk t.2.1=lk u.2.1
    ·rw [e,upd_same];rfl
    ·rw [upd_ne _ _ e]
     rcases List.mem_cons.1 hm with rfl | hm
     ·exact (e rfl).elim
     ·exact ih hm
  exact this _ ht
 have hone:∀(p:Nat) (t:Nat × (Nat × Nat)) (v:Value),(c.own++c.tnew)[p]?=some t→(to_++tn)[p]?=some v→v.oneCell'=true:=fun p t v ht hv=>by
  have hcp:=cut3_get ht
  rw [hcut] at hcp
  rcases o13 p _ v (by rw [htips];exact hcp) hv with rfl | ⟨_,_,_,_,_,_,rfl,_⟩ <;> rfl
 have hownv:∀t∈c.own,rvs[t.1]?=some (D2.τ (lk t.2.1))∧(D2.τ (lk t.2.1)).oneCell'=true:=fun t ht=>by
  obtain ⟨p,hp'⟩:=List.getElem?_of_mem ht
  have hlt':=(List.getElem?_eq_some_iff.1 hp').1
  have hlo:to_.length=c.own.length:=by rw [o8,←f5];simp [cut3]
  have hv:to_[p]?=some to_[p]:=List.getElem?_eq_getElem (by omega)
  have e1:(c.own++c.tnew)[p]?=some t:=by rw [List.getElem?_append_left hlt'];exact hp'
  have e2:(to_++tn)[p]?=some to_[p]:=by rw [List.getElem?_append_left (by omega)];exact hv
  have e3:=o11 p _ _ (by rw [←f5];exact cut3_get hp') hv
  rw [hτ2 p t _ e1 e2]
  exact ⟨e3,hone p t _ e1 e2⟩
 have hrep:=main_rep (R:=R') (w:=w') f4 f6 o1 o2 (fun q hq=>(f12 q hq).1) o4
 cases hn:c.new with
 | none =>
  have hmems:c.mems=[]:=by simp [CS.mems,hn,href]
  have htnew:=f10 hn
  have hdrop:outs.drop c.nres=[]:=List.drop_of_length_le (by rw [hol,hmems];simp)
  have h3:=h2.put (d:=d) (s:=c.main outs) (g:=c.dg) (v:=x) hl (.inr ⟨by rw [hR2];exact hrep,fun _=>CS.dg_ok (by rw [o1,f4]) (by rw [f4];exact o2) hownv (by simp [hn])⟩)
   (CS.dg_flat c).1 (CS.dg_flat c).2 (CS.dg_ment (fun t ht=>hlive t (by simp [ht])) (by simp [hn]))
  refine hK D2 (a.put (some d) x) w' ?_
  simp only [hmems,hlks,hdrop,hn,href,htin,htout,Option.toList,List.map_nil,List.nil_append,updL]
  simpa [Function.comp_def] using h3
 | some q =>
  obtain ⟨j,m⟩:=q
  obtain ⟨hm1,hm2,hm3⟩:=hnew _ hn
  have hgn:S.sg.new=some j:=by rw [←f6,hn];rfl
  have hmems:c.mems=[m]:=by simp [CS.mems,hn,href]
  obtain ⟨p1,p2⟩:=o5 j hgn
  have hol':outs.length=c.nres+1:=by rw [hol,hmems];rfl
  have hlt1:c.nres<outs.length:=by omega
  have hdrop:outs.drop c.nres=[outs.getD S.sg.nres .dead]:=by
   rw [List.drop_eq_getElem_cons hlt1,List.drop_of_length_le (by omega),←f4]
   simp [List.getD,hlt1]
  have hmne:m ∉ (c.own++c.tnew).map fun t=>lk t.2.1:=fun hm=>by
   obtain ⟨t,_,e⟩:=List.mem_map.1 hm
   have:=lk_ge t.2.1
   simp at e hm3
   omega
  have hm1':updL γ ((c.own++c.tnew).map fun t=>lk t.2.1) ((c.own++c.tnew).map fun t => .live t.2.2) m = .no:=by rw [updL_out hmne];exact hm1
  have hbn:w.heap.size≤bn:=hmine bn (by simp [hgn])
  have h3:=h2.newVar (m:=m) (b:=bn) (x:=outs.getD S.sg.nres .dead) (cs:=cn) (ts:=c.tnew) hm1' hm2 (f12 (j,m) (by rw [hn];exact List.mem_singleton.2 rfl)).2 (by rw [hR2];exact p2)
   (fun t ht=>⟨hlive t (by simp [ht]),by
    obtain ⟨p,hp'⟩:=List.getElem?_of_mem ht
    have hlt':=(List.getElem?_eq_some_iff.1 hp').1
    have hlo:to_.length=c.own.length:=by rw [o8,←f5];simp [cut3]
    have hln:tn.length=c.tnew.length:=by rw [o9,←f7];simp [cut3]
    have hv:tn[p]?=some tn[p]:=List.getElem?_eq_getElem (by omega)
    rw [hτ2 (c.own.length+p) t tn[p] (by rw [List.getElem?_append_right (by omega),Nat.add_sub_cancel_left];exact hp') (by rw [List.getElem?_append_right (by omega),hlo,Nat.add_sub_cancel_left];exact hv)]
    exact o12 p _ _ (by rw [←f7];exact cut3_get hp') hv⟩)
   ⟨.inr (Nat.le_trans h.ext.size hbn),fun key hk=>by
    rcases hb2 key bn hk with e | ⟨v,hv,e⟩
    ·have:=h.lt (show blk D γ key=some bn from e);omega
    ·obtain ⟨p,hp'⟩:=List.getElem?_of_mem hv
     have:=o14 0 (1+p) bn (by simp [hgn]) (by simp only [hgn,Option.isSome_some,if_true];rw [List.getElem?_append_right (by simp),show 1+p - [some bn].length=p by simp,List.getElem?_map,hp'];simp [e])
     omega⟩
  have h4:=h3.put (d:=d) (s:=c.main outs) (g:=c.dg) (v:=x) hl (.inr ⟨by show Rep D2.R w' _ _;rw [hR2];exact hrep,fun _=>CS.dg_ok (by rw [o1,f4]) (by rw [f4];exact o2) hownv (fun q hq=>by
    rw [hn] at hq;cases hq
    show rvs[j]?=some (.pointer (some ⟨upd D2.β m bn m,0,none⟩))
    rw [upd_same];exact p1)⟩)
   (CS.dg_flat c).1 (CS.dg_flat c).2 (CS.dg_ment (fun t ht=>by
    have hne:lk t.2.1≠m:=by have:=lk_ge t.2.1;simp at hm3;omega
    rw [upd_ne _ _ hne];exact hlive t (by simp [ht])) (fun q hq=>by rw [hn] at hq;cases hq;rw [upd_same];rfl))
  refine hK { D2 with β:=upd D2.β m bn } (a.put (some d) x) w' ?_
  simp only [hmems,hlks,hdrop,hn,href,htin,htout,Option.toList,List.map_nil,List.nil_append,List.map_cons,List.cons_append,updL]
  simpa [Function.comp_def] using h4
end
end Go.Eng
namespace Go.Eng
open Go.RowKit
theorem set_get {α:Type} {l:List α} {i:Nat} {x:α} (h:l[i]?=some x):l.set i x=l:=by
 apply List.ext_getElem?
 intro j
 rw [List.getElem?_set]
 split
 ·rename_i e;subst e
  rw [if_pos (List.getElem?_eq_some_iff.1 h).1,h]
 ·rfl
theorem nodup_idx {α:Type}:∀{l:List α} {i j:Nat} {x:α},l.Nodup→l[i]?=some x→l[j]?=some x→i=j
 | [],i,j,x,_,h,_=>by simp at h
 | a :: l,0,0,x,_,_,_=>rfl
 | a :: l,0,j+1,x,hn,h,k=>by
  simp at h k
  subst h
  exact ((List.nodup_cons.1 hn).1 (List.mem_of_getElem? k)).elim
 | a :: l,i+1,0,x,hn,h,k=>by
  simp at h k
  subst k
  exact ((List.nodup_cons.1 hn).1 (List.mem_of_getElem? h)).elim
 | a :: l,i+1,j+1,x,hn,h,k=>by
  have:=nodup_idx (i:=i) (j:=j) (List.nodup_cons.1 hn).2 (by simpa using h) (by simpa using k)
  omega
section
variable {C:Ctx} {D:Dyn} {σ:Sg} {γ:Ga} {a:Act} {w:World}
variable {o:Oper} {d:Nat} {K:Act→World→Prop} {Q:Exit→Act→World→Prop}
variable (h:Sim C D σ γ a w) (hd:o.dst=some d) (hl:d<C.nt)
include h hd hl
theorem op_callB {f : Nat} {args : Array Operand} {ats : Array TypeId} {c : CS} {rs : List Opd} {i m : Nat} {ts : List (Nat × (Nat × Nat))} (ho : o.op = .call { callee := .value (.func f), args, argTypes := ats }) (hp : plainFn C.P f = true)
    {S : FS} (hS : SpecOK C.P C.E.gl f S) (hc : c.fits S.sg = true) (href : c.ref = some (i, m)) (hx : opdsOK args.toList rs = true) (hsm : small C.nt args.toList = true) {outs : List AV}
    (hpt : (rs.map (Opd.ev C.E σ))[i]? = some .pt) (hgh : (rs.map (Opd.gh γ))[i]? = some (.ptr m 0)) (hm : γ m = .cl ts) (hts : ∀ t ∈ c.tin, t ∈ ts) (hlive : ∀ t ∈ c.tin, γ (lk t.2.1) = .live t.2.2)
    (hG : S.G ((rs.map (Opd.ev C.E σ)).set i (σ m)) outs) (hol : outs.length = c.nres + c.mems.length) (hno : ∀ t ∈ c.tout ++ c.own, γ (lk t.2.1) = .no)
    (hK : ∀ D' a' w', Sim C D' (updL σ (d :: (c.mems ++ c.lks)) (c.main outs :: (outs.drop c.nres ++ c.lks.map fun _ => .dead)))
      (updL γ (d :: (c.mems ++ c.lks)) (c.dg :: (c.new.toList.map (fun _ => .cl c.tnew) ++ c.ref.toList.map (fun _ => .cl c.tout) ++ c.tin.map (fun _ => .used) ++ (c.tout ++ c.own ++ c.tnew).map fun t => .live t.2.2))) a' w' → K a' w') : o.wp C.P a w K Q := by
  obtain ⟨f1, f2, f3, f4, f5, f6, f7, f8, f9, f10, f11, f12, f13⟩ := fits_spec hc
  have hnew : c.new = none := by rcases f11 with e | e; · rw [href] at e; cases e
                                 · exact e
  have htnew := f10 hnew
  have hgref : S.sg.ref = some i := by rw [← f1, href]; rfl
  have hgnew : S.sg.new = none := by rw [← f6, hnew]; rfl
  have hgtnew : S.sg.tnew = [] := by rw [← f7, htnew]; rfl
  have hmems : c.mems = [m] := by simp [CS.mems, hnew, href]
  have hlks : c.lks = (c.tin.map fun t => lk t.2.1) ++ (c.tout ++ c.own).map fun t => lk t.2.1 := by simp [CS.lks, htnew]
  simp only [htnew, List.append_nil] at f8
  have hndT : (c.tin.map (·.2.1)).Nodup := by
    rw [List.append_assoc, List.map_append] at f8; exact (List.nodup_append.1 f8).1
  have hndL : ((c.tout ++ c.own).map (·.2.1)).Nodup := by
    rw [List.append_assoc, List.map_append] at f8; exact (List.nodup_append.1 f8).2.1
  have hdis : ∀ t ∈ c.tin, ∀ u ∈ c.tout ++ c.own, t.2.1 ≠ u.2.1 := by
    rw [List.append_assoc, List.map_append] at f8
    intro t ht u hu
    exact (List.nodup_append.1 f8).2.2 _ (List.mem_map.2 ⟨t, ht, rfl⟩) _ (List.mem_map.2 ⟨u, hu, rfl⟩)
  obtain ⟨hm1, hm2⟩ := h.rng m (by rw [hm]; rfl)
  have hmlk : ∀ k, m ≠ lk k := fun k => by have := lk_ge k; omega
  -- the arguments
  obtain ⟨cs, hV, hcs⟩ := h.mem m ts hm
  have hT := h.opds hx hsm
  have hilt := (List.getElem?_eq_some_iff.1 hpt).1
  obtain ⟨y, hy1, _⟩ := hT.get i .pt hpt
  have hptr : (args.toList.map a.eval)[i]? = some (.pointer (some ⟨D.β m, 0, none⟩)) := by
    have key : ∀ {l : List Operand} {qs : List Opd} {i : Nat}, opdsOK l qs = true → small C.nt l = true → (qs.map (Opd.ev C.E σ))[i]? = some .pt → (qs.map (Opd.gh γ))[i]? = some (.ptr m 0) → (l.map a.eval)[i]? = some (.pointer (some ⟨D.β m, 0, none⟩)) := by
      intro l
      induction l with
      | nil => intro qs i hq _ hp'; cases qs with
        | nil => simp at hp'
        | cons => simp [opdsOK] at hq
      | cons x l ih =>
        intro qs i hq hs' hp' hg'
        cases qs with
        | nil => simp [opdsOK] at hq
        | cons q qs =>
          simp [opdsOK] at hq
          have s1 : small C.nt [x] = true := by simp [small] at hs' ⊢; exact hs'.1
          have s2 : small C.nt l = true := by simp only [small, List.all_cons, Bool.and_eq_true] at hs'; exact hs'.2
          cases i with
          | zero =>
            simp at hp' hg'
            have := (h.opd hq.1 s1).gh (by rw [hp']; simp) (by rw [hp']; simp)
            rw [hg'] at this
            simpa [GhOK] using this
          | succ i => simpa using ih hq.2 s2 (by simpa using hp') (by simpa using hg')
    exact key hx hsm hpt hgh
  let tv : List Value := c.tin.map fun t => D.τ (lk t.2.1)
  have htv : ∀ (p : Nat) (t : Nat × (Nat × Nat)), c.tin[p]? = some t → tv[p]? = some (D.τ (lk t.2.1)) := fun p t ht => by simp [tv, ht]
  have hblkT : ∀ t ∈ c.tin, blk D γ (lk t.2.1) = (D.τ (lk t.2.1)).ownBlock := fun t ht => blk_live (hlive t ht)
  have hA : ArgsOK S.sg D.R w ((rs.map (Opd.ev C.E σ)).set i (σ m)) (args.toList.map a.eval) := by
    unfold ArgsOK
    rw [hgref]
    refine ⟨D.β m, cs, σ m, tv, hptr, List.getElem?_set_self hilt, hV, ?_, ?_, ?_, ?_⟩
    · rw [List.set_set, set_get hpt]; exact hT
    · simp [tv, ← f2, cut3]
    · intro p t v ht hv
      rw [← f2] at ht
      simp only [cut3, List.getElem?_map] at ht
      cases hq : c.tin[p]? with
      | none => simp [hq] at ht
      | some q =>
        simp [hq] at ht
        subst ht
        have e := htv p q hq
        rw [hv] at e
        cases e
        have hmem := List.mem_of_getElem? hq
        exact ⟨hcs q (hts q hmem), h.tip _ _ (hlive q hmem)⟩
    · have hkey : ∀ (p g : Nat), (some (D.β m) :: tv.map Value.ownBlock)[p]? = some (some g) → ∃ key, blk D γ key = some g ∧ ((p = 0 ∧ key = m) ∨ ∃ p' t, p = p' + 1 ∧ c.tin[p']? = some t ∧ key = lk t.2.1) := by
        intro p g hp'
        cases p with
        | zero => simp at hp'; exact ⟨m, by rw [blk_cl hm, hp'], .inl ⟨rfl, rfl⟩⟩
        | succ p =>
          simp only [List.getElem?_cons_succ, tv, List.map_map, List.getElem?_map] at hp'
          cases hq : c.tin[p]? with
          | none => simp [hq] at hp'
          | some q =>
            simp [hq] at hp'
            exact ⟨lk q.2.1, by rw [hblkT q (List.mem_of_getElem? hq)]; exact hp', .inr ⟨p, q, rfl, hq, rfl⟩⟩
      intro p q g hp' hq'
      obtain ⟨k1, e1, c1⟩ := hkey p g hp'
      obtain ⟨k2, e2, c2⟩ := hkey q g hq'
      have hkk : k1 = k2 := h.sepN (by
        rcases c1 with ⟨_, e⟩ | ⟨p', t, _, ht, e⟩
        · rw [e, hm]; rfl
        · rw [e, hlive t (List.mem_of_getElem? ht)]; rfl) e1 e2
      rcases c1 with ⟨rfl, rfl⟩ | ⟨p', t, rfl, ht, rfl⟩ <;> rcases c2 with ⟨rfl, rfl⟩ | ⟨q', u, rfl, hu, rfl⟩
      · rfl
      · exact (hmlk _ hkk).elim
      · exact (hmlk _ hkk.symm).elim
      · have hid := lk_inj hkk
        have h1 : (c.tin.map (·.2.1))[p']? = some t.2.1 := by simp [ht]
        have h2 : (c.tin.map (·.2.1))[q']? = some t.2.1 := by simp [hu, hid]
        have := nodup_idx hndT h1 h2
        omega
  refine h.callOp hd ho hp hS f13 hG hA ?_
  intro x R' w' hE hlt hO
  obtain ⟨rvs, tr, to_, tn, bn, br, cn, cr, o1, o2, o3, o4, _, o6, o7, o8, o9, o10, o11, _, o13, o14, o15⟩ := hO
  have htn : tn = [] := List.eq_nil_of_length_eq_zero (by rw [o9, hgtnew]; rfl)
  subst htn
  obtain ⟨p1, p2⟩ := o6 i hgref
  rw [hptr] at p1
  cases p1
  simp only [hgnew, Option.isSome_none, Bool.false_eq_true, if_false, Nat.add_zero] at p2 o3
  -- what the call may have written
  have hio : ∀ b, ioOf S.sg w (args.toList.map a.eval) b → b = D.β m ∨ ∃ t ∈ c.tin, (D.τ (lk t.2.1)).ownBlock = some b := by
    intro b hb
    unfold ioOf at hb
    rw [hgref] at hb
    obtain ⟨b', cs', e', q1, q2, q3⟩ := hb
    rw [hptr] at q1
    cases q1
    rcases q3 with q3 | ⟨t, ht, v, hv, hvb⟩
    · exact .inl q3
    · right
      obtain ⟨_, hh, _⟩ := hV
      rw [hh] at q2
      cases q2
      rw [← f2] at ht
      obtain ⟨q, hq, rfl⟩ := List.mem_map.1 ht
      have := hcs q (hts q hq)
      simp only at hv
      rw [this] at hv
      cases hv
      exact ⟨q, hq, hvb⟩
  -- the old tips are used up
  have h1 := h.kills (c.tin.map fun t => (lk t.2.1, t.2.2)) (fun u hu => by obtain ⟨t, ht, rfl⟩ := List.mem_map.1 hu; exact hlive t ht) (by
    rw [List.map_map]
    have : ((fun x : Nat × Nat => x.1) ∘ fun t : Nat × (Nat × Nat) => (lk t.2.1, t.2.2)) = lk ∘ fun t => t.2.1 := rfl
    rw [this, ← List.map_map]
    exact List.Pairwise.map _ (fun _ _ hne e => hne (lk_inj e)) hndT)
  simp only [List.map_map] at h1
  have eT : (c.tin.map ((fun x : Nat × Nat => x.1) ∘ fun t : Nat × (Nat × Nat) => (lk t.2.1, t.2.2))) = c.tin.map fun t => lk t.2.1 := rfl
  have eU : (c.tin.map ((fun _ : Nat × Nat => Gh.used) ∘ fun t : Nat × (Nat × Nat) => (lk t.2.1, t.2.2))) = c.tin.map fun _ => Gh.used := rfl
  rw [eT, eU] at h1
  have hmT : m ∉ c.tin.map fun t => lk t.2.1 := fun hm' => by obtain ⟨t, _, e⟩ := List.mem_map.1 hm'; exact hmlk _ e.symm
  have hmL : m ∉ (c.tout ++ c.own).map fun t => lk t.2.1 := fun hm' => by obtain ⟨t, _, e⟩ := List.mem_map.1 hm'; exact hmlk _ e.symm
  have hblk1 : ∀ key g, blk D (updL γ (c.tin.map fun t => lk t.2.1) (c.tin.map fun _ => Gh.used)) key = some g → blk D γ key = some g ∧ ∀ t ∈ c.tin, key ≠ lk t.2.1 := by
    intro key g hk
    have hnot : key ∉ c.tin.map fun t => lk t.2.1 := fun hmem => by
      have : ∀ (L : List (Nat × (Nat × Nat))), key ∈ (L.map fun t => lk t.2.1) → updL γ (L.map fun t => lk t.2.1) (L.map fun _ => Gh.used) key = .used := by
        intro L
        induction L with
        | nil => intro hm'; cases hm'
        | cons u L ih =>
          intro hm'
          simp only [List.map_cons, updL]
          by_cases e : key = lk u.2.1
          · rw [e, upd_same]
          · rw [upd_ne _ _ e]
            rcases List.mem_cons.1 hm' with e' | hm'
            · exact (e e').elim
            · exact ih hm'
      unfold blk at hk
      rw [this _ hmem] at hk
      cases hk
    refine ⟨by unfold blk at hk ⊢; rwa [updL_out hnot] at hk, fun t ht e => hnot (List.mem_map.2 ⟨t, ht, e.symm⟩)⟩
  have hm1' : updL γ (c.tin.map fun t => lk t.2.1) (c.tin.map fun _ => Gh.used) m = .cl ts := by rw [updL_out hmT]; exact hm
  have h2 := h1.callWorld hm1' hE (fun b hb => by
      rcases hio b hb with e | ⟨t, ht, e⟩
      · exact .inl e
      · refine .inr ⟨h.own (lk t.2.1) b (by rw [hblkT t ht]; exact e), fun key hk => ?_⟩
        obtain ⟨k1, k2⟩ := hblk1 key b hk
        exact k2 t ht (h.sepN (key := lk t.2.1) (by rw [hlive t ht]; rfl) (by rw [hblkT t ht]; exact e) k1).symm) p2 hlt
  -- the new tips
  have hown0 : owners S.sg bn (D.β m) (tr ++ to_ ++ []) = some (D.β m) :: (tr ++ to_).map Value.ownBlock := by simp [owners, hgref, hgnew]
  rw [hown0] at o14 o15
  simp only [List.append_nil] at o13
  have hLlen : (c.tout ++ c.own).length = (tr ++ to_).length := by simp only [List.length_append, o7, o8, ← f3, ← f5, cut3, List.length_map]
  have hcut : cut3 (c.tout ++ c.own) = S.sg.tips ++ S.sg.own := by rw [← f3, ← f5]; simp [cut3]
  have hblk2 : ∀ key g, blk { D with R := R' } (upd (updL γ (c.tin.map fun t => lk t.2.1) (c.tin.map fun _ => Gh.used)) m (.cl [])) key = some g → blk D γ key = some g ∧ ∀ t ∈ c.tin, key ≠ lk t.2.1 := by
    intro key g hk
    apply hblk1
    unfold blk at hk ⊢
    by_cases e : key = m
    · subst e; rw [upd_same] at hk; rw [hm1']; exact hk
    · rw [upd_ne _ _ e] at hk; exact hk
  obtain ⟨D3, h3, hR3, hβ3, hτ3, _, _⟩ := h2.tipsBack (L := c.tout ++ c.own) (vs := tr ++ to_) hLlen
    (fun t ht => by
      rw [upd_ne _ _ (hmlk _).symm, updL_out (fun hmem => by obtain ⟨u, hu, e⟩ := List.mem_map.1 hmem; exact hdis u hu t ht (lk_inj e))]
      exact hno t ht) hndL
    (fun p t v ht hv => by rw [hcut] at ht; exact o13 p t v (by rw [hgtnew, List.append_nil]; exact ht) hv)
    (fun v hv g hg => by
      have ho := o15 g (List.mem_cons.2 (.inr (List.mem_map.2 ⟨v, hv, hg⟩)))
      obtain ⟨p, hp'⟩ := List.getElem?_of_mem hv
      have hne : g ≠ D.β m := fun e => by
        have := o14 0 (p + 1) g (by simp [e]) (by rw [List.getElem?_cons_succ, List.getElem?_map, hp']; simp [hg])
        omega
      refine ⟨?_, fun key hk => ?_⟩
      · rcases ho with ho | ho
        · rcases hio g ho with e | ⟨t, ht, e⟩
          · exact (hne e).elim
          · exact h.own (lk t.2.1) g (by rw [hblkT t ht]; exact e)
        · exact .inr (Nat.le_trans h.ext.size ho)
      · obtain ⟨k1, k2⟩ := hblk2 key g hk
        rcases ho with ho | ho
        · rcases hio g ho with e | ⟨t, ht, e⟩
          · exact hne e
          · exact k2 t ht (h.sepN (key := lk t.2.1) (by rw [hlive t ht]; rfl) (by rw [hblkT t ht]; exact e) k1).symm
        · have := h.lt k1; omega)
    (fun p q g hp' hq' => by
      have := o14 (p + 1) (q + 1) g (by simpa using hp') (by simpa using hq')
      omega)
  have hliveL : ∀ (γ0 : Ga) (t : Nat × (Nat × Nat)) (L : List (Nat × (Nat × Nat))), t ∈ L → (updL γ0 (L.map fun t => lk t.2.1) (L.map fun t => .live t.2.2) (lk t.2.1)).isLk = true := by
    intro γ0 t L
    induction L with
    | nil => intro hm'; cases hm'
    | cons u L ih =>
      intro hm'
      simp only [List.map_cons, updL]
      by_cases e : lk t.2.1 = lk u.2.1
      · rw [e, upd_same]; rfl
      · rw [upd_ne _ _ e]
        rcases List.mem_cons.1 hm' with rfl | hm'
        · exact (e rfl).elim
        · exact ih hm'
  have hlo : tr.length = c.tout.length := by rw [o7, ← f3]; simp [cut3]
  have hloo : to_.length = c.own.length := by rw [o8, ← f5]; simp [cut3]
  have hone : ∀ (p : Nat) (t : Nat × (Nat × Nat)) (v : Value), (c.tout ++ c.own)[p]? = some t → (tr ++ to_)[p]? = some v → v.oneCell' = true := fun p t v ht hv => by
    have hcp := cut3_get ht
    rw [hcut] at hcp
    rcases o13 p _ v (by rw [hgtnew, List.append_nil]; exact hcp) hv with rfl | ⟨_, _, _, _, _, _, rfl, _⟩ <;> rfl
  have hm3 : updL (upd (updL γ (c.tin.map fun t => lk t.2.1) (c.tin.map fun _ => Gh.used)) m (.cl [])) ((c.tout ++ c.own).map fun t => lk t.2.1) ((c.tout ++ c.own).map fun t => .live t.2.2) m = .cl [] := by rw [updL_out hmL, upd_same]
  have h4 := h3.store (us := c.tout) (x := outs.getD S.sg.nres .dead) (cs := cr) hm3 rfl rfl rfl rfl (fun _ _ => rfl) (by rw [hβ3, hR3]; exact p2) (fun t ht => ⟨hliveL _ t _ (by simp [ht]), by
      obtain ⟨p, hp'⟩ := List.getElem?_of_mem ht
      have hlt' := (List.getElem?_eq_some_iff.1 hp').1
      have hv : tr[p]? = some tr[p] := List.getElem?_eq_getElem (by omega)
      rw [hτ3 p t tr[p] (by rw [List.getElem?_append_left hlt']; exact hp') (by rw [List.getElem?_append_left (by omega)]; exact hv)]
      exact o10 p _ _ (by rw [← f3]; exact cut3_get hp') hv⟩)
  have h5 := h4.deads (c.tin.map fun t => lk t.2.1) (fun k hk => by
    cases hcl : (upd (updL (upd (updL γ (c.tin.map fun t => lk t.2.1) (c.tin.map fun _ => Gh.used)) m (.cl [])) ((c.tout ++ c.own).map fun t => lk t.2.1) ((c.tout ++ c.own).map fun t => .live t.2.2)) m (.cl c.tout) k).isCl with
    | false => rfl
    | true =>
      have := (h4.rng k hcl).2
      obtain ⟨t, _, e⟩ := List.mem_map.1 hk
      have := lk_ge t.2.1
      omega)
  have hownv : ∀ t ∈ c.own, rvs[t.1]? = some (D3.τ (lk t.2.1)) ∧ (D3.τ (lk t.2.1)).oneCell' = true := fun t ht => by
    obtain ⟨p, hp'⟩ := List.getElem?_of_mem ht
    have hlt' := (List.getElem?_eq_some_iff.1 hp').1
    have hv : to_[p]? = some to_[p] := List.getElem?_eq_getElem (by omega)
    have e1 : (c.tout ++ c.own)[c.tout.length + p]? = some t := by rw [List.getElem?_append_right (by omega), Nat.add_sub_cancel_left]; exact hp'
    have e2 : (tr ++ to_)[c.tout.length + p]? = some to_[p] := by rw [List.getElem?_append_right (by omega), hlo, Nat.add_sub_cancel_left]; exact hv
    have e3 := o11 p _ _ (by rw [← f5]; exact cut3_get hp') hv
    rw [hτ3 _ t _ e1 e2]
    exact ⟨e3, hone _ t _ e1 e2⟩
  have hrep := main_rep (R := R') (w := w') f4 f6 o1 o2 (fun q hq => (f12 q hq).1) o4
  have h6 := h5.put (d := d) (s := c.main outs) (g := c.dg) (v := x) hl (.inr ⟨by rw [hR3]; exact hrep, fun _ => CS.dg_ok (by rw [o1, f4]) (by rw [f4]; exact o2) hownv (by simp [hnew])⟩)
    (CS.dg_flat c).1 (CS.dg_flat c).2 (CS.dg_ment (fun t ht => by rw [upd_ne _ _ (hmlk _).symm]; exact hliveL _ t _ (by simp [ht])) (by simp [hnew]))
  refine hK D3 (a.put (some d) x) w' ?_
  have hol' : outs.length = c.nres + 1 := by rw [hol, hmems]; rfl
  have hdrop : outs.drop c.nres = [outs.getD S.sg.nres .dead] := by
    rw [List.drop_eq_getElem_cons (by omega), List.drop_of_length_le (by omega), ← f4]
    simp [List.getD, show c.nres < outs.length by omega]
  have hdisk : ∀ k ∈ c.tin.map (fun t => lk t.2.1), k ∉ (c.tout ++ c.own).map fun t => lk t.2.1 := fun k hk hk' => by
    obtain ⟨t, ht, rfl⟩ := List.mem_map.1 hk
    obtain ⟨u, hu, e⟩ := List.mem_map.1 hk'
    exact hdis t ht u hu (lk_inj e).symm
  have eσ : updL σ (c.mems ++ c.lks) (outs.drop c.nres ++ c.lks.map fun _ => .dead) =
      updL (upd (updL (upd σ m (outs.getD S.sg.nres .dead)) ((c.tout ++ c.own).map fun t => lk t.2.1) ((c.tout ++ c.own).map fun _ => .dead)) m (outs.getD S.sg.nres .dead)) (c.tin.map fun t => lk t.2.1) ((c.tin.map fun t => lk t.2.1).map fun _ => .dead) := by
    rw [hmems, hdrop, hlks]
    simp only [List.cons_append, List.nil_append, updL]
    have e : ∀ (A B : List Nat), ((A ++ B).map fun _ => AV.dead) = (A.map fun _ => .dead) ++ B.map fun _ => .dead := fun A B => List.map_append
    rw [updL_upd hmT, updL_upd hmL, updL_upd hmT, upd_upd, e (c.tin.map fun t => lk t.2.1), updL_append (by simp), List.map_map (l := c.tout ++ c.own)]
    rfl
  have eγ : updL γ (c.mems ++ c.lks) (c.new.toList.map (fun _ => Gh.cl c.tnew) ++ c.ref.toList.map (fun _ => .cl c.tout) ++ c.tin.map (fun _ => .used) ++ (c.tout ++ c.own ++ c.tnew).map fun t => .live t.2.2) =
      upd (updL (upd (updL γ (c.tin.map fun t => lk t.2.1) (c.tin.map fun _ => Gh.used)) m (.cl [])) ((c.tout ++ c.own).map fun t => lk t.2.1) ((c.tout ++ c.own).map fun t => .live t.2.2)) m (.cl c.tout) := by
    rw [hmems, hlks, hnew, href, htnew]
    simp only [Option.toList, List.map_nil, List.nil_append, List.map_cons, List.cons_append, List.append_nil, updL]
    rw [updL_upd hmL, upd_upd, updL_comm hdisk, updL_append (by simp)]
  simp only [updL]
  rw [eσ, eγ]
  exact h6
end
end Go.Eng
namespace Go.Eng
open Go.RowKit
section
variable {C:Ctx} {D:Dyn} {σ:Sg} {γ:Ga} {a:Act} {w:World}
theorem small_mem {nt:Nat} {l:List Operand} (h:small nt l=true) {x:Operand} (hx:x∈l):small nt [x]=true:=by
 simp only [small,List.all_cons,List.all_nil,Bool.and_true]
 exact List.all_eq_true.1 h x hx
theorem small_sub {nt:Nat} {l l':List Operand} (h:small nt l=true) (hs:∀x∈l',x∈l):small nt l'=true :=
 List.all_eq_true.2 fun x hx=>List.all_eq_true.1 h x (hs x hx)
theorem dOK0 {nt:Nat} {dst:Option Nat} {l ds:List Nat} (h:(match dst with | some d=>decide (d<nt)&&ds == d :: l | none=>false)=true):∃d,dst=some d∧d<nt∧ds=d :: l:=by
 cases dst with
 | none=>cases h
 | some d=>simp at h;exact ⟨d,rfl,h.1,h.2⟩
theorem len1 {α:Type} {l:List α} (h:l.length=1):∃x,l=[x]:=by
 match l,h with
 | [x],_=>exact ⟨x,rfl⟩
theorem len2 {α:Type} {l:List α} (h:l.length=2):∃x y,l=[x,y]:=by
 match l,h with
 | [x,y],_=>exact ⟨x,y,rfl⟩
theorem arr1 {α:Type} {l:Array α} {x:α} (h:l.toList=[x]):l=#[x]:=by apply Array.ext';simpa using h
theorem arr2 {α:Type} {l:Array α} {x y:α} (h:l.toList=[x,y]):l=#[x,y]:=by apply Array.ext';simpa using h
theorem opdsOK_len:∀{l:List Operand} {rs:List Opd},opdsOK l rs=true→l.length=rs.length
 | [],[],_=>rfl
 | _ :: _,_ :: _,h=>by simp [opdsOK] at h;simp [opdsOK_len h.2]
 | [],_ :: _,h=>by simp [opdsOK] at h
 | _ :: _,[],h=>by simp [opdsOK] at h
variable {sg:Nat→FSig} {dst:Option Nat} {op:Op} {ty:TypeId} {pos:String} {after:Array Edge} {guard:Option (Nat × Bool)} {k:K} {rs:List Opd} {ds:List Nat} {gd:Option (Nat × Bool)} {ws:List AV} {gs:List Gh}
 {K':Act→World→Prop} {Q:Exit→Act→World→Prop}
def KindOK (C:Ctx) (sg:Nat→FSig) (k:K):Prop :=
 ∀{D:Dyn} {σ:Sg} {γ:Ga} {a:Act} {w:World} {dst:Option Nat} {op:Op} {ty:TypeId} {pos:String} {after:Array Edge} {guard:Option (Nat × Bool)} {rs:List Opd} {ds:List Nat} {gd:Option (Nat × Bool)} {ws:List AV} {gs:List Gh}
  {K':Act→World→Prop} {Q:Exit→Act→World→Prop},Sim C D σ γ a w→opOK C.P sg ⟨dst,op,ty,pos,after,guard⟩ ⟨k,rs,ds,gd⟩=true→keysOK C.nt dst ⟨k,rs,ds,gd⟩=true→small C.nt op.operands.toList=true →
  sem C.E k (rs.map (Opd.ev C.E σ)) ws→gsem k (rs.map (Opd.gh γ))=some gs →
  (∀D' a' w',Sim C D' (updL σ ds ws) (updL γ ds gs) a' w'→K' a' w')→(⟨dst,op,ty,pos,after,guard⟩:Oper).wp C.P a w K' Q
theorem k_mv:KindOK C sg .mv:=by
 intro D σ γ a w dst op ty pos after guard rs ds gd ws gs K' Q h ho hk hsm hs hg hK
 obtain ⟨d,rfl,hl,rfl⟩:=dOK0 (l:=[]) hk
 simp only [opOK] at ho
 split at ho
 ·rename_i x _
  obtain ⟨r,rfl,hx⟩:=opds1 ho
  simp only [List.map_cons,List.map_nil,sem] at hs
  simp only [List.map_cons,List.map_nil,gsem,Option.some.injEq] at hg
  subst hs;subst hg
  exact op_mv h rfl hl (.inl rfl) hx (small_mem hsm (by simp [Op.operands])) hK
 ·rename_i x _
  obtain ⟨r,rfl,hx⟩:=opds1 ho
  simp only [List.map_cons,List.map_nil,sem] at hs
  simp only [List.map_cons,List.map_nil,gsem,Option.some.injEq] at hg
  subst hs;subst hg
  exact op_mv h rfl hl (.inr rfl) hx (small_mem hsm (by simp [Op.operands])) hK
 ·cases ho
theorem k_nl {k s:Nat}:KindOK C sg (.nl k s):=by
 intro D σ γ a w dst op ty pos after guard rs ds gd ws gs K' Q h ho hk hsm hs hg hK
 simp only [keysOK,Bool.and_eq_true] at hk
 obtain ⟨hk1,hk2⟩:=hk
 obtain ⟨d,rfl,hl,rfl⟩:=dOK0 hk2
 simp only [opOK] at ho
 split at ho
 ·rename_i r
  simp at hk1
  cases r <;> simp at hk1
  subst hk1
  simp only [List.map_cons,List.map_nil,sem] at hs
  subst hs
  simp only [List.map_cons,List.map_nil,Opd.gh] at hg
  simp only [gsem] at hg
  split at hg
  ·rename_i e;cases hg;simp at e;exact op_nl h rfl hl (.inl rfl) e hK
  ·cases hg
 ·rename_i r
  simp at hk1
  cases r <;> simp at hk1
  subst hk1
  simp only [List.map_cons,List.map_nil,sem] at hs
  subst hs
  simp only [List.map_cons,List.map_nil,Opd.gh] at hg
  simp only [gsem] at hg
  split at hg
  ·rename_i e;cases hg;simp at e;exact op_nl h rfl hl (.inr rfl) e hK
  ·cases hg
 ·cases ho
theorem k_pick:KindOK C sg .pick:=by
 intro D σ γ a w dst op ty pos after guard rs ds gd ws gs K' Q h ho hk hsm hs hg hK
 obtain ⟨d,rfl,hl,rfl⟩:=dOK0 (l:=[]) hk
 simp only [gsem,Option.some.injEq] at hg
 subst hg
 simp only [opOK] at ho
 split at ho
 ·obtain ⟨r,q,s,rfl,hc,hx,hy⟩:=opds3 ho
  simp only [List.map_cons,List.map_nil,sem] at hs
  split at hs
  ·rename_i b x y heq
   simp only [List.cons.injEq,and_true] at heq
   obtain ⟨e1,e2,e3⟩:=heq
   subst e2;subst e3;subst hs
   exact op_pick h rfl hl rfl hc hx hy (small_mem hsm (by simp [Op.operands])) (small_mem hsm (by simp [Op.operands])) (small_mem hsm (by simp [Op.operands])) e1 hK
  ·cases hs
 ·cases ho
theorem k_bin {b:BinOp}:KindOK C sg (.bin b):=by
 intro D σ γ a w dst op ty pos after guard rs ds gd ws gs K' Q h ho hk hsm hs hg hK
 obtain ⟨d,rfl,hl,rfl⟩:=dOK0 (l:=[]) hk
 simp only [gsem,Option.some.injEq] at hg
 subst hg
 simp only [opOK] at ho
 split at ho
 ·simp only [Bool.and_eq_true,beq_iff_eq] at ho
  obtain ⟨hb,ho⟩:=ho
  subst hb
  obtain ⟨r,q,rfl,hx,hy⟩:=opds2 ho
  simp only [List.map_cons,List.map_nil,sem] at hs
  split at hs
  ·rename_i u v heq
   simp only [List.cons.injEq,and_true] at heq
   obtain ⟨e1,e2⟩:=heq
   obtain ⟨z,hz,rfl⟩:=hs
   exact op_bin h rfl hl rfl hx hy (small_mem hsm (by simp [Op.operands])) (small_mem hsm (by simp [Op.operands])) e1 e2 hz hK
  ·cases hs
 ·cases ho
theorem k_be {neg:Bool}:KindOK C sg (.be neg):=by
 intro D σ γ a w dst op ty pos after guard rs ds gd ws gs K' Q h ho hk hsm hs hg hK
 obtain ⟨d,rfl,hl,rfl⟩:=dOK0 (l:=[]) hk
 simp only [gsem,Option.some.injEq] at hg
 subst hg
 simp only [opOK] at ho
 split at ho
 ·simp only [Bool.and_eq_true,beq_iff_eq] at ho
  obtain ⟨⟨ht,hb⟩,ho⟩:=ho
  obtain ⟨r,q,rfl,hx,hy⟩:=opds2 ho
  simp only [List.map_cons,List.map_nil,sem] at hs
  split at hs
  ·rename_i u v heq
   simp only [List.cons.injEq,and_true] at heq
   obtain ⟨e1,e2⟩:=heq
   subst hs
   exact op_be h rfl hl rfl hb (isBoolT_spec ht) hx hy (small_mem hsm (by simp [Op.operands])) (small_mem hsm (by simp [Op.operands])) e1 e2 hK
  ·cases hs
 ·cases ho
theorem k_un {b:UnOp}:KindOK C sg (.un b):=by
 intro D σ γ a w dst op ty pos after guard rs ds gd ws gs K' Q h ho hk hsm hs hg hK
 obtain ⟨d,rfl,hl,rfl⟩:=dOK0 (l:=[]) hk
 simp only [gsem,Option.some.injEq] at hg
 subst hg
 simp only [opOK] at ho
 split at ho
 ·simp only [Bool.and_eq_true,beq_iff_eq] at ho
  obtain ⟨hb,ho⟩:=ho
  subst hb
  obtain ⟨r,rfl,hx⟩:=opds1 ho
  simp only [List.map_cons,List.map_nil,sem] at hs
  split at hs
  ·rename_i u heq
   simp only [List.cons.injEq,and_true] at heq
   obtain ⟨z,hz,rfl⟩:=hs
   exact op_un h rfl hl rfl hx (small_mem hsm (by simp [Op.operands])) heq hz hK
  ·cases hs
 ·cases ho
theorem k_ci {k:IntKind}:KindOK C sg (.ci k):=by
 intro D σ γ a w dst op ty pos after guard rs ds gd ws gs K' Q h ho hk hsm hs hg hK
 obtain ⟨d,rfl,hl,rfl⟩:=dOK0 (l:=[]) hk
 simp only [gsem,Option.some.injEq] at hg
 subst hg
 simp only [opOK] at ho
 split at ho
 ·simp only [Bool.and_eq_true] at ho
  obtain ⟨⟨ht,hu⟩,ho⟩:=ho
  obtain ⟨r,rfl,hx⟩:=opds1 ho
  simp only [List.map_cons,List.map_nil,sem] at hs
  split at hs
  ·rename_i k' n heq
   simp only [List.cons.injEq,and_true] at heq
   subst hs
   exact op_ci h rfl hl rfl (isIntT_spec ht) hu hx (small_mem hsm (by simp [Op.operands])) heq hK
  ·cases hs
 ·cases ho
theorem k_cs:KindOK C sg .cs:=by
 intro D σ γ a w dst op ty pos after guard rs ds gd ws gs K' Q h ho hk hsm hs hg hK
 obtain ⟨d,rfl,hl,rfl⟩:=dOK0 (l:=[]) hk
 simp only [gsem,Option.some.injEq] at hg
 subst hg
 simp only [opOK] at ho
 split at ho
 ·simp only [Bool.and_eq_true] at ho
  obtain ⟨⟨ht,hu⟩,ho⟩:=ho
  obtain ⟨r,rfl,hx⟩:=opds1 ho
  simp only [List.map_cons,List.map_nil,sem] at hs
  split at hs
  ·rename_i b heq
   simp only [List.cons.injEq,and_true] at heq
   subst hs
   exact op_cs h rfl hl rfl (isStrT_spec hu) (isStrT_spec ht) hx (small_mem hsm (by simp [Op.operands])) heq hK
  ·cases hs
 ·cases ho
theorem k_sb:KindOK C sg .sb:=by
 intro D σ γ a w dst op ty pos after guard rs ds gd ws gs K' Q h ho hk hsm hs hg hK
 obtain ⟨d,rfl,hl,rfl⟩:=dOK0 (l:=[]) hk
 simp only [gsem,Option.some.injEq] at hg
 subst hg
 simp only [opOK] at ho
 split at ho
 ·simp only [Bool.and_eq_true] at ho
  obtain ⟨⟨ht,hu⟩,ho⟩:=ho
  obtain ⟨e,hu1,hu2⟩:=isByteSl_spec hu
  obtain ⟨r,rfl,hx⟩:=opds1 ho
  simp only [List.map_cons,List.map_nil,sem] at hs
  split at hs
  ·rename_i b heq
   simp only [List.cons.injEq,and_true] at heq
   obtain ⟨hb,rfl⟩:=hs
   exact op_sb h rfl hl rfl (isStrT_spec ht) hu1 hu2 hx (small_mem hsm (by simp [Op.operands])) heq hb hK
  ·cases hs
 ·cases ho
theorem k_sbt {k:Nat}:KindOK C sg (.sbt k):=by
 intro D σ γ a w dst op ty pos after guard rs ds gd ws gs K' Q h ho hk hsm hs hg hK
 simp only [keysOK,Bool.and_eq_true] at hk
 obtain ⟨⟨hk0,hk1⟩,hk2⟩:=hk
 obtain ⟨d,rfl,hl,rfl⟩:=dOK0 hk2
 simp only [opOK] at ho
 split at ho
 ·rename_i s u x r rest _ _
  simp only [Bool.and_eq_true] at ho
  obtain ⟨⟨ht,hu⟩,ho⟩:=ho
  obtain ⟨e,hu1,hu2⟩:=isByteSl_spec hu
  simp at hk0
  obtain ⟨q,rfl⟩:=len1 hk0
  cases q <;> simp at hk1
  subst hk1
  simp only [List.map_cons,List.map_nil,sem] at hs
  simp only [List.map_cons,List.map_nil,gsem] at hg
  split at hs
  ·rename_i b y heq
   simp only [List.cons.injEq,and_true] at heq
   obtain ⟨hb,rfl⟩:=hs
   split at hg
   ·rename_i g heq2
    simp only [List.cons.injEq,and_true,Opd.gh] at heq2
    cases hg
    exact op_sbt h rfl hl rfl (isStrT_spec ht) hu1 hu2 ho (small_mem hsm (by simp [Op.operands])) heq.1 hb heq2.2 hK
   ·cases hg
  ·cases hs
 ·cases ho
theorem k_bs:KindOK C sg .bs:=by
 intro D σ γ a w dst op ty pos after guard rs ds gd ws gs K' Q h ho hk hsm hs hg hK
 obtain ⟨d,rfl,hl,rfl⟩:=dOK0 (l:=[]) hk
 simp only [gsem,Option.some.injEq] at hg
 subst hg
 simp only [opOK] at ho
 split at ho
 ·simp only [Bool.and_eq_true] at ho
  obtain ⟨⟨ht,hu⟩,ho⟩:=ho
  obtain ⟨e,ht1,ht2⟩:=isByteSl_spec ht
  obtain ⟨r,rfl,hx⟩:=opds1 ho
  simp only [List.map_cons,List.map_nil,sem] at hs
  split at hs
  ·rename_i s es heq
   simp only [List.cons.injEq,and_true] at heq
   obtain ⟨l,rfl,rfl,rfl⟩:=hs
   exact op_bs h rfl hl rfl ht1 ht2 (isStrT_spec hu) hx (small_mem hsm (by simp [Op.operands])) heq hK
  ·cases hs
 ·cases ho
theorem k_len:KindOK C sg .len:=by
 intro D σ γ a w dst op ty pos after guard rs ds gd ws gs K' Q h ho hk hsm hs hg hK
 obtain ⟨d,rfl,hl,rfl⟩:=dOK0 (l:=[]) hk
 simp only [gsem,Option.some.injEq] at hg
 subst hg
 simp only [opOK] at ho
 split at ho
 ·rename_i ats _
  simp only [Bool.and_eq_true,beq_iff_eq] at ho
  obtain ⟨⟨⟨h1,h2⟩,h3⟩,ho⟩:=ho
  obtain ⟨t,ht⟩:=len1 h1
  obtain ⟨x,hx0⟩:=len1 h3
  rw [ht] at h2
  simp only [List.all_cons,List.all_nil,Bool.and_true] at h2
  rw [hx0] at ho
  obtain ⟨r,rfl,hx⟩:=opds1 ho
  have ea:=arr1 hx0
  have et:=arr1 ht
  subst ea;subst et
  simp only [List.map_cons,List.map_nil,sem] at hs
  split at hs
  ·rename_i s es heq
   simp only [List.cons.injEq,and_true] at heq
   subst hs
   obtain ⟨e,he⟩:=Option.isSome_iff_exists.1 h2
   exact op_len_sl h rfl hl rfl (elemT_spec he) hx (small_mem hsm (by simp [Op.operands,Call.operands])) heq hK
  ·cases hs
 ·cases ho
theorem k_lns:KindOK C sg .lns:=by
 intro D σ γ a w dst op ty pos after guard rs ds gd ws gs K' Q h ho hk hsm hs hg hK
 obtain ⟨d,rfl,hl,rfl⟩:=dOK0 (l:=[]) hk
 simp only [gsem,Option.some.injEq] at hg
 subst hg
 simp only [opOK] at ho
 split at ho
 ·rename_i ats _
  simp only [Bool.and_eq_true,beq_iff_eq] at ho
  obtain ⟨⟨⟨h1,h2⟩,h3⟩,ho⟩:=ho
  obtain ⟨t,ht⟩:=len1 h1
  obtain ⟨x,hx0⟩:=len1 h3
  rw [ht] at h2
  simp only [List.all_cons,List.all_nil,Bool.and_true] at h2
  rw [hx0] at ho
  obtain ⟨r,rfl,hx⟩:=opds1 ho
  have ea:=arr1 hx0
  have et:=arr1 ht
  subst ea;subst et
  simp only [List.map_cons,List.map_nil,sem] at hs
  split at hs
  ·rename_i b heq
   simp only [List.cons.injEq,and_true] at heq
   subst hs
   exact op_len_str h rfl hl rfl (isStrT_spec h2) hx (small_mem hsm (by simp [Op.operands,Call.operands])) heq hK
  ·cases hs
 ·cases ho
theorem k_mn:KindOK C sg .mn:=by
 intro D σ γ a w dst op ty pos after guard rs ds gd ws gs K' Q h ho hk hsm hs hg hK
 obtain ⟨d,rfl,hl,rfl⟩:=dOK0 (l:=[]) hk
 simp only [gsem,Option.some.injEq] at hg
 subst hg
 simp only [opOK] at ho
 split at ho
 ·rename_i ats _
  simp only [Bool.and_eq_true,beq_iff_eq] at ho
  obtain ⟨h3,ho⟩:=ho
  obtain ⟨x,y,hx0⟩:=len2 h3
  rw [hx0] at ho
  obtain ⟨r,q,rfl,hx,hy⟩:=opds2 ho
  have ea:=arr2 hx0
  subst ea
  simp only [List.map_cons,List.map_nil,sem] at hs
  split at hs
  ·rename_i k u k' v heq
   simp only [List.cons.injEq,and_true] at heq
   subst hs
   exact op_minmax (mx:=false) h rfl hl rfl hx hy (small_mem hsm (by simp [Op.operands,Call.operands])) (small_mem hsm (by simp [Op.operands,Call.operands])) heq.1 heq.2 hK
  ·cases hs
 ·cases ho
theorem k_mx:KindOK C sg .mx:=by
 intro D σ γ a w dst op ty pos after guard rs ds gd ws gs K' Q h ho hk hsm hs hg hK
 obtain ⟨d,rfl,hl,rfl⟩:=dOK0 (l:=[]) hk
 simp only [gsem,Option.some.injEq] at hg
 subst hg
 simp only [opOK] at ho
 split at ho
 ·rename_i ats _
  simp only [Bool.and_eq_true,beq_iff_eq] at ho
  obtain ⟨h3,ho⟩:=ho
  obtain ⟨x,y,hx0⟩:=len2 h3
  rw [hx0] at ho
  obtain ⟨r,q,rfl,hx,hy⟩:=opds2 ho
  have ea:=arr2 hx0
  subst ea
  simp only [List.map_cons,List.map_nil,sem] at hs
  split at hs
  ·rename_i k u k' v heq
   simp only [List.cons.injEq,and_true] at heq
   subst hs
   exact op_minmax (mx:=true) h rfl hl rfl hx hy (small_mem hsm (by simp [Op.operands,Call.operands])) (small_mem hsm (by simp [Op.operands,Call.operands])) heq.1 heq.2 hK
  ·cases hs
 ·cases ho
theorem k_ix {s:Nat}:KindOK C sg (.ix s):=by
 intro D σ γ a w dst op ty pos after guard rs ds gd ws gs K' Q h ho hk hsm hs hg hK
 obtain ⟨d,rfl,hl,rfl⟩:=dOK0 (l:=[]) hk
 simp only [gsem,Option.some.injEq] at hg
 subst hg
 simp only [opOK] at ho
 split at ho
 ·simp only [Bool.and_eq_true] at ho
  obtain ⟨ht,ho⟩:=ho
  obtain ⟨e,i,h1,h2,h3,h4⟩:=sliceOK'_spec ht
  obtain ⟨r,q,rfl,hx,hy⟩:=opds2 ho
  simp only [List.map_cons,List.map_nil,sem] at hs
  split at hs
  ·rename_i s' es k i heq
   simp only [List.cons.injEq,and_true] at heq
   obtain ⟨el,rfl,h0,hel,rfl⟩:=hs
   exact op_ix h rfl hl rfl h1 h2 h3 hx hy (small_mem hsm (by simp [Op.operands])) (small_mem hsm (by simp [Op.operands])) heq.1 heq.2 h0 hel hK
  ·cases hs
 ·cases ho
theorem k_si:KindOK C sg .si:=by
 intro D σ γ a w dst op ty pos after guard rs ds gd ws gs K' Q h ho hk hsm hs hg hK
 obtain ⟨d,rfl,hl,rfl⟩:=dOK0 (l:=[]) hk
 simp only [gsem,Option.some.injEq] at hg
 subst hg
 simp only [opOK] at ho
 split at ho
 ·simp only [Bool.and_eq_true] at ho
  obtain ⟨ht,ho⟩:=ho
  obtain ⟨r,q,rfl,hx,hy⟩:=opds2 ho
  simp only [List.map_cons,List.map_nil,sem] at hs
  split at hs
  ·rename_i b k i heq
   simp only [List.cons.injEq,and_true] at heq
   obtain ⟨el,h0,hel,rfl⟩:=hs
   exact op_si h rfl hl rfl (isStrT_spec ht) hx hy (small_mem hsm (by simp [Op.operands])) (small_mem hsm (by simp [Op.operands])) heq.1 heq.2 h0 hel hK
  ·cases hs
 ·cases ho
theorem k_ai {n s:Nat} {agg:Bool}:KindOK C sg (.ai n s agg):=by
 intro D σ γ a w dst op ty pos after guard rs ds gd ws gs K' Q h ho hk hsm hs hg hK
 obtain ⟨d,rfl,hl,rfl⟩:=dOK0 (l:=[]) hk
 simp only [gsem,Option.some.injEq] at hg
 subst hg
 simp only [opOK] at ho
 split at ho
 ·rename_i t x y _
  simp only [Bool.and_eq_true] at ho
  obtain ⟨ht,ho⟩:=ho
  split at ht
  ·rename_i n' e hu
   simp only [Bool.and_eq_true,beq_iff_eq] at ht
   obtain ⟨rfl,ht⟩:=ht
   obtain ⟨inf,h1,h2,h3,h4⟩:=shapeOK_spec ht
   obtain ⟨r,q,rfl,hx,hy⟩:=opds2 ho
   simp only [List.map_cons,List.map_nil,sem] at hs
   split at hs
   ·rename_i cs k i heq
    simp only [List.cons.injEq,and_true] at heq
    obtain ⟨el,h0,hn,hel,rfl⟩:=hs
    exact op_ai h rfl hl rfl hu h1 h2 h3 h4 hx hy (small_mem hsm (by simp [Op.operands])) (small_mem hsm (by simp [Op.operands])) heq.1 heq.2 h0 hn hel hK
   ·cases hs
  ·cases ht
 ·cases ho
theorem k_fe {o' n:Nat} {agg:Bool}:KindOK C sg (.fe o' n agg):=by
 intro D σ γ a w dst op ty pos after guard rs ds gd ws gs K' Q h ho hk hsm hs hg hK
 obtain ⟨d,rfl,hl,rfl⟩:=dOK0 (l:=[]) hk
 simp only [gsem,Option.some.injEq] at hg
 subst hg
 simp only [opOK] at ho
 split at ho
 ·rename_i t x f
  simp only [Bool.and_eq_true] at ho
  obtain ⟨ht,ho⟩:=ho
  cases hf:fieldT C.P t f with
  | none=>simp [hf] at ht
  | some fl =>
   simp only [hf,Option.any_some,Bool.and_eq_true,beq_iff_eq] at ht
   obtain ⟨h0,ht⟩:=ht
   obtain ⟨fs,hu,hfs⟩:=fieldT_spec hf
   obtain ⟨inf,h1,h2,h3,h4⟩:=shapeOK_spec ht
   obtain ⟨r,rfl,hx⟩:=opds1 ho
   simp only [List.map_cons,List.map_nil,sem] at hs
   split at hs
   ·rename_i cs heq
    simp only [List.cons.injEq,and_true] at heq
    obtain ⟨el,hel,rfl⟩:=hs
    exact op_fe h rfl hl rfl hu hfs h0 h1 h2 h3 h4 hx (small_mem hsm (by simp [Op.operands])) heq hel hK
   ·cases hs
 ·cases ho
theorem k_lr {n:Nat} {agg:Bool}:KindOK C sg (.lr n agg):=by
 intro D σ γ a w dst op ty pos after guard rs ds gd ws gs K' Q h ho hk hsm hs hg hK
 obtain ⟨d,rfl,hl,rfl⟩:=dOK0 (l:=[]) hk
 simp only [gsem,Option.some.injEq] at hg
 subst hg
 simp only [opOK] at ho
 split at ho
 ·simp only [Bool.and_eq_true] at ho
  obtain ⟨ht,hx⟩:=ho
  obtain ⟨inf,h1,h2,h3,h4⟩:=shapeOK_spec ht
  simp only [List.map_cons,List.map_nil,sem] at hs
  split at hs
  ·rename_i x heq
   simp only [List.cons.injEq,and_true] at heq
   obtain ⟨p1,p2,rfl⟩:=hs
   exact op_lr h rfl hl rfl h1 h2 h3 h4 hx (small_mem hsm (by simp [Op.operands])) heq p1 p2 hK
  ·cases hs
 ·cases ho
theorem k_ncr:KindOK C sg .ncr:=by
 intro D σ γ a w dst op ty pos after guard rs ds gd ws gs K' Q h ho hk hsm hs hg hK
 obtain ⟨d,rfl,hl,rfl⟩:=dOK0 (l:=[]) hk
 simp only [gsem,Option.some.injEq] at hg
 subst hg
 simp only [opOK] at ho
 split at ho
 ·simp only [List.map_cons,List.map_nil,sem] at hs
  split at hs
  ·rename_i x heq
   simp only [List.cons.injEq,and_true] at heq
   subst hs
   exact op_ncr h rfl hl rfl ho (small_mem hsm (by simp [Op.operands])) heq hK
  ·cases hs
 ·cases ho
theorem k_ex {i:Nat}:KindOK C sg (.ex i):=by
 intro D σ γ a w dst op ty pos after guard rs ds gd ws gs K' Q h ho hk hsm hs hg hK
 obtain ⟨d,rfl,hl,rfl⟩:=dOK0 (l:=[]) hk
 simp only [opOK] at ho
 split at ho
 ·simp only [Bool.and_eq_true,beq_iff_eq] at ho
  obtain ⟨rfl,hx⟩:=ho
  simp only [List.map_cons,List.map_nil,gsem,Option.some.injEq] at hg
  subst hg
  simp only [List.map_cons,List.map_nil,sem] at hs
  split at hs
  ·rename_i vs heq
   simp only [List.cons.injEq,and_true] at heq
   obtain ⟨x,hx1,rfl⟩:=hs
   exact op_ex h rfl hl rfl hx (small_mem hsm (by simp [Op.operands])) heq hx1 hK
  ·cases hs
 ·cases ho
end
end Go.Eng
