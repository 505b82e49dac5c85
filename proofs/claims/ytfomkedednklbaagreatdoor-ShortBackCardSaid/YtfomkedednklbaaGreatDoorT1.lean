/- Texts of my own, one behind the other: EngA, EngFl, EngB, EngC, EngD, EngE, EngF, EngG, EngH, EngI, EngJ, EngK, EngL, EngM, EngN, EngO. -/
import Derived.Calls
import Derived.Below
import Derived.Laws.OwnMore
import Derived.Laws.FloatArith
import Derived.WalkKit
import Derived.Lib.Bytealg
import Derived.Orders
import Derived.Laws.IdiomStrings
import Derived.Laws.Entries
import Derived.Laws.BytesString
import Derived.Lib.Strings
import Derived.Laws.BytesArg
import Derived.Laws.MakeOwn
set_option linter.unusedVariables false
set_option linter.unusedSimpArgs false
namespace Go.Eng
abbrev aa:=@Bool.and_eq_true
abbrev ae:=@decide_eq_true
abbrev af:=@decide_eq_false
abbrev ah:=@List.map_cons
abbrev aj:=@List.cons.injEq
abbrev ak:=@List.getD_eq_getElem?_getD
abbrev ao:=@List.map_nil
abbrev aq:=@List.length_append
abbrev ar:=@Nat.mul_le_mul_right
abbrev au:=@Nat.eq_of_beq_eq_true
abbrev aw:=@Int.toNat_natCast
abbrev ax:=@cond_false
abbrev ay:=@decide_eq_true_eq
abbrev az:=@List.length_singleton
abbrev aA:=@List.getElem?_eq_getElem
abbrev aB:=@Option.some.injEq
abbrev aC:=@Option.ite_none_right_eq_some
abbrev aD:=@if_neg
abbrev aE:=@List.getElem?_eq_some_iff
abbrev aF:=@cond_true
abbrev aG:=@List.length_map
abbrev aH:=@if_pos
abbrev aI:=@List.getElem?_map
abbrev aJ:=@List.getElem?_append_right
abbrev aK:=@List.length_take
abbrev aL:=@List.all_eq_true
abbrev aM:=@List.getElem?_take
abbrev aN:=@of_decide_eq_true
abbrev aO:=@List.mem_map
abbrev aP:=@List.length_cons
abbrev aQ:=@List.append_assoc
abbrev aR:=@List.eq_nil_of_length_eq_zero
abbrev aS:=@List.drop_zero
abbrev aT:=@List.mem_of_getElem?
abbrev aU:=@List.append_nil
abbrev aV:=@Option.map_eq_some_iff
abbrev aW:=@List.map_map
abbrev aX:=@Int.emod_eq_of_lt
abbrev aY:=@Bool.false_eq_true
abbrev aZ:=@List.length_nil
abbrev a8:=@Bool.not_true
abbrev bc:=@List.drop_of_length_le
abbrev bf:=@Option.bind_eq_some_iff
abbrev bg:=@List.getElem?_of_mem
abbrev bh:=@List.mem_cons
abbrev bj:=@List.nil_append
abbrev bk:=@UInt64.le_iff_toNat_le
abbrev bm:=@List.length_drop
abbrev bo:=@Bool.eq_iff_iff
abbrev bp:=@UInt64.lt_iff_toNat_lt
abbrev bq:=@Bool.not_false
abbrev bt:=@UInt64.toNat_inj
abbrev bw:=@Bool.and_self
abbrev bz:=@Bool.not_or_self
abbrev bA:=@decide_eq_decide
abbrev bB:=@Bool.or_not_self
end Go.Eng
namespace Go.Eng
open Go.RowKit
inductive AV where
 | v (x:Value)
 | ag (cs:List AV)
 | tu (vs:List AV)
 | sl (s:Nat) (es:List AV)
 | ro (x:AV)
 | pt
 | dead
 | el (i s o:Nat)
 | ab
 | gv (zs:List Value)
 deriving Inhabited
def AV.cells:AV→List AV
 | .ag cs=>cs
 | x=>[x]
def AV.pI:AV→Bool
 | .ag _=>true
 | _=>false
abbrev Reach:=Nat→Nat→Prop
mutual
inductive Rep (R:Reach) (w:World):AV→Value→Prop
 | v (x:Value):Rep R w (.v x) x
 | ag {cs:List AV} {ys:List Value}:dw R w cs ys→Rep R w (.ag cs) (.agg ⟨ys⟩)
 | tu {vs:List AV} {ys:List Value}:eY R w vs ys→Rep R w (.tu vs) (.tuple ⟨ys⟩)
 | nil (s:Nat):Rep R w (.sl s []) (.slice none 0 0)
 | sl {s:Nat} {es:List AV} {b off n cap:Nat}:n=es.length→n≤cap→cap≤maxLen→ij R w s es b off→Rep R w (.sl s es) (.slice (some ⟨b,off,none⟩) n cap)
 | em {a:Addr} {cap:Nat} (s:Nat):cap≤maxLen→Rep R w (.sl s []) (.slice (some a) 0 cap)
 | ro {x:AV} {b off s:Nat}:kS R w s x b off→Rep R w (.ro x) (.pointer (some ⟨b,off,none⟩))
 | pt (y:Value):Rep R w .pt y
 | dead (y:Value):Rep R w .dead y
 | el (i s o b:Nat):Rep R w (.el i s o) (.pointer (some ⟨b,i * s+o,none⟩))
 | ab (x:Bool):Rep R w .ab (.bool x)
 | gv {zs:List Value} {b:Nat}:(∀o,R b o)→(∀o,w.cell? ⟨b,o,none⟩=zs[o]?)→Rep R w (.gv zs) (.pointer (some ⟨b,0,none⟩))
inductive dw (R:Reach) (w:World):List AV→List Value→Prop
 | nil:dw R w [] []
 | cons {x:AV} {y:Value} {xs:List AV} {ys:List Value}:y.oneCell'=true→Rep R w x y→dw R w xs ys→dw R w (x :: xs) (y :: ys)
inductive eY (R:Reach) (w:World):List AV→List Value→Prop
 | nil:eY R w [] []
 | cons {x:AV} {y:Value} {xs:List AV} {ys:List Value}:Rep R w x y→eY R w xs ys→eY R w (x :: xs) (y :: ys)
inductive jY (R:Reach) (w:World):List AV→Nat→Nat→Prop
 | nil (b off:Nat):jY R w [] b off
 | cons {x:AV} {y:Value} {xs:List AV} {b off:Nat}:R b off→w.cell? ⟨b,off,none⟩=some y→y.oneCell'=true→Rep R w x y→jY R w xs b (off+1)→jY R w (x :: xs) b off
inductive kS (R:Reach) (w:World):Nat→AV→Nat→Nat→Prop
 | ag {cs:List AV} {b off s:Nat}:s=cs.length→jY R w cs b off→kS R w s (.ag cs) b off
 | one {x:AV} {y:Value} {b off:Nat}:x.pI=false→R b off→w.cell? ⟨b,off,none⟩=some y→y.oneCell'=true→Rep R w x y→kS R w 1 x b off
inductive ij (R:Reach) (w:World):Nat→List AV→Nat→Nat→Prop
 | nil (s b off:Nat):ij R w s [] b off
 | cons {s:Nat} {x:AV} {xs:List AV} {b off:Nat}:kS R w s x b off→ij R w s xs b (off+s)→ij R w s (x :: xs) b off
end
def fh (R:Reach) (w:World) (R':Reach) (w':World):Prop:=∀b o,R b o→R' b o∧w'.cell? ⟨b,o,none⟩=w.cell? ⟨b,o,none⟩
theorem fh.refl (R:Reach) (w:World):fh R w R w:=fun _ _ h=>⟨h,rfl⟩
theorem fh.trans {R R' U0:Reach} {w w' TJ:World} (h:fh R w R' w') (k:fh R' w' U0 TJ):fh R w U0 TJ :=
 fun b o hr=>⟨(k b o (h b o hr).1).1,(k b o (h b o hr).1).2.trans (h b o hr).2⟩
section
variable {R R':Reach} {w w':World}
mutual
theorem Rep.mono (k:fh R w R' w'):∀{x:AV} {y:Value},Rep R w x y→Rep R' w' x y
 | _,_,.v x => .v x
 | _,_,.ag h => .ag (dw.mono k h)
 | _,_,.tu h => .tu (eY.mono k h)
 | _,_,.nil s => .nil s
 | _,_,.sl a b c h => .sl a b c (ij.mono k h)
 | _,_,.em s h => .em s h
 | _,_,.ro h => .ro (kS.mono k h)
 | _,_,.pt y => .pt y
 | _,_,.dead y => .dead y
 | _,_,.el i s o b => .el i s o b
 | _,_,.ab x => .ab x
 | _,_,.gv h1 h2 => .gv (fun o=>(k _ o (h1 o)).1) (fun o=>(k _ o (h1 o)).2.trans (h2 o))
theorem dw.mono (k:fh R w R' w'):∀{x:List AV} {y:List Value},dw R w x y→dw R' w' x y
 | _,_,.nil => .nil
 | _,_,.cons a h t => .cons a (Rep.mono k h) (dw.mono k t)
theorem eY.mono (k:fh R w R' w'):∀{x:List AV} {y:List Value},eY R w x y→eY R' w' x y
 | _,_,.nil => .nil
 | _,_,.cons h t => .cons (Rep.mono k h) (eY.mono k t)
theorem jY.mono (k:fh R w R' w'):∀{x:List AV} {b o:Nat},jY R w x b o→jY R' w' x b o
 | _,_,_,.nil b o => .nil b o
 | _,_,_,.cons r c a h t => .cons (k _ _ r).1 ((k _ _ r).2.trans c) a (Rep.mono k h) (jY.mono k t)
theorem kS.mono (k:fh R w R' w'):∀{s:Nat} {x:AV} {b o:Nat},kS R w s x b o→kS R' w' s x b o
 | _,_,_,_,.ag e h => .ag e (jY.mono k h)
 | _,_,_,_,.one n r c a h => .one n (k _ _ r).1 ((k _ _ r).2.trans c) a (Rep.mono k h)
theorem ij.mono (k:fh R w R' w'):∀{s:Nat} {x:List AV} {b o:Nat},ij R w s x b o→ij R' w' s x b o
 | _,_,_,_,.nil s b o => .nil s b o
 | _,_,_,_,.cons h t => .cons (kS.mono k h) (ij.mono k t)
end
end
section
variable {R:Reach} {w:World}
theorem dw.length:∀{xs:List AV} {ys:List Value},dw R w xs ys→xs.length=ys.length
 | _,_,.nil=>rfl
 | _,_,.cons _ _ t=>by simp [dw.length t]
theorem eY.length:∀{xs:List AV} {ys:List Value},eY R w xs ys→xs.length=ys.length
 | _,_,.nil=>rfl
 | _,_,.cons _ t=>by simp [eY.length t]
theorem dw.get:∀{xs:List AV} {ys:List Value} (_:dw R w xs ys) (i:Nat) (x:AV),xs[i]?=some x→∃y,ys[i]?=some y∧y.oneCell'=true∧Rep R w x y
 | _,_,.cons a h _,0,x,e=>by simp at e;subst e;exact ⟨_,rfl,a,h⟩
 | _,_,.cons _ _ t,i+1,x,e=>by simpa using dw.get t i x (by simpa using e)
theorem eY.get:∀{xs:List AV} {ys:List Value} (_:eY R w xs ys) (i:Nat) (x:AV),xs[i]?=some x→∃y,ys[i]?=some y∧Rep R w x y
 | _,_,.cons h _,0,x,e=>by simp at e;subst e;exact ⟨_,rfl,h⟩
 | _,_,.cons _ t,i+1,x,e=>by simpa using eY.get t i x (by simpa using e)
theorem dw.one:∀{xs:List AV} {ys:List Value},dw R w xs ys→∀y∈ys,y.oneCell'=true
 | _,_,.cons a _ t,y,hy=>by
  rcases bh.1 hy with rfl | h
  ·exact a
  ·exact dw.one t y h
theorem dw.append:∀{xs:List AV} {ys:List Value} {QZ:List AV} {TG:List Value},dw R w xs ys→dw R w QZ TG→dw R w (xs++QZ) (ys++TG)
 | _,_,_,_,.nil,h=>h
 | _,_,_,_,.cons a h t,k => .cons a h (dw.append t k)
theorem dw.take:∀{xs:List AV} {ys:List Value} (n:Nat),dw R w xs ys→dw R w (xs.take n) (ys.take n)
 | _,_,0,_=>by simp;exact .nil
 | _,_,n+1,.nil=>by simp;exact .nil
 | _,_,n+1,.cons a h t=>by simp;exact .cons a h (dw.take n t)
theorem dw.drop:∀{xs:List AV} {ys:List Value} (n:Nat),dw R w xs ys→dw R w (xs.drop n) (ys.drop n)
 | _,_,0,h=>by simpa using h
 | _,_,n+1,.nil=>by simp;exact .nil
 | _,_,n+1,.cons a h t=>by simp;exact dw.drop n t
theorem jY.read:∀{xs:List AV} {b o:Nat},jY R w xs b o→∃ys,dw R w xs ys∧∀j y,ys[j]?=some y→w.cell? ⟨b,o+j,none⟩=some y
 | _,_,_,.nil _ _=>⟨[],.nil,by simp⟩
 | _,b,o,.cons (y:=y) r c a h t=>by
  obtain ⟨ys,hl,hc⟩:=jY.read t
  refine ⟨y :: ys,.cons a h hl,fun j z hz=>?_⟩
  cases j with
  | zero=>simp at hz;subst hz;exact c
  | succ j=>have:=hc j z (by simpa using hz);rw [show o+(j+1)=o+1+j by omega];exact this
theorem jY.write:∀{xs:List AV} {ys:List Value} {b o:Nat},dw R w xs ys→(∀j,j<ys.length→R b (o+j))→(∀j y,ys[j]?=some y→w.cell? ⟨b,o+j,none⟩=some y)→jY R w xs b o
 | _,_,b,o,.nil,_,_ => .nil b o
 | _,_,b,o,.cons a h t,hr,hc => .cons (hr 0 (by simp)) (hc 0 _ rfl) a h
   (jY.write t (fun j hj=>by have:=hr (j+1) (by simp;omega);rwa [show o+(j+1)=o+1+j by omega] at this)
    (fun j y hy=>by have:=hc (j+1) y (by simpa using hy);rwa [show o+(j+1)=o+1+j by omega] at this))
theorem jY.drop:∀{xs:List AV} {b o:Nat} (n:Nat),jY R w xs b o→jY R w (xs.drop n) b (o+n)
 | _,b,o,0,h=>by simpa using h
 | _,b,o,n+1,.nil _ _=>by simp;exact .nil _ _
 | _,b,o,n+1,.cons r c a h t=>by simp;have:=jY.drop n t;rwa [show o+1+n=o+(n+1) by omega] at this
theorem jY.take:∀{xs:List AV} {b o:Nat} (n:Nat),jY R w xs b o→jY R w (xs.take n) b o
 | _,b,o,0,h=>by simp;exact .nil _ _
 | _,b,o,n+1,.nil _ _=>by simp;exact .nil _ _
 | _,b,o,n+1,.cons r c a h t=>by simp;exact .cons r c a h (jY.take n t)
theorem jY.lt:∀{xs:List AV} {b o:Nat},jY R w xs b o→∀j,j<xs.length→R b (o+j)
 | _,b,o,.cons r _ _ _ t,0,_=>r
 | _,b,o,.cons _ _ _ _ t,j+1,hj=>by have:=jY.lt t j (by simpa using hj);rwa [show o+1+j=o+(j+1) by omega] at this
theorem ij.get:∀{s:Nat} {es:List AV} {b o:Nat} (_:ij R w s es b o) (i:Nat) (x:AV),es[i]?=some x→kS R w s x b (o+i * s)
 | s,_,b,o,.cons h _,0,x,e=>by simp at e;subst e;simpa using h
 | s,_,b,o,.cons _ t,i+1,x,e=>by
  have:=ij.get t i x (by simpa using e)
  rwa [show o+s+i * s=o+(i+1) * s by rw [Nat.succ_mul];omega] at this
theorem ij.drop:∀{s:Nat} {es:List AV} {b o:Nat} (n:Nat),ij R w s es b o→ij R w s (es.drop n) b (o+n * s)
 | s,_,b,o,0,h=>by simpa using h
 | s,_,b,o,n+1,.nil _ _ _=>by simp;exact .nil _ _ _
 | s,_,b,o,n+1,.cons h t=>by simp;have:=ij.drop n t;rwa [show o+s+n * s=o+(n+1) * s by rw [Nat.succ_mul];omega] at this
theorem ij.take:∀{s:Nat} {es:List AV} {b o:Nat} (n:Nat),ij R w s es b o→ij R w s (es.take n) b o
 | s,_,b,o,0,h=>by simp;exact .nil _ _ _
 | s,_,b,o,n+1,.nil _ _ _=>by simp;exact .nil _ _ _
 | s,_,b,o,n+1,.cons h t=>by simp;exact .cons h (ij.take n t)
theorem ij.append:∀{s:Nat} {es fs:List AV} {b o:Nat},ij R w s es b o→ij R w s fs b (o+es.length * s)→ij R w s (es++fs) b o
 | s,[],fs,b,o,_,h=>by simpa using h
 | s,e :: es,fs,b,o,.cons h t,k => .cons h (ij.append t (by rwa [show o+s+es.length * s=o+(e :: es).length * s by rw [aP,Nat.succ_mul];omega]))
theorem kS.read {s:Nat} {x:AV} {b o:Nat} (h:kS R w s x b o):∃ys:List Value,ys.length=s∧(∀j y,ys[j]?=some y→w.cell? ⟨b,o+j,none⟩=some y)∧dw R w x.cells ys:=by
 cases h with
 | ag e h=>obtain ⟨ys,hl,hc⟩:=h.read;exact ⟨ys,by rw [e,hl.length],hc,hl⟩
 | one n r c a h =>
  rename_i y
  refine ⟨[y],rfl,?_,?_⟩
  ·intro j z hz
   cases j with
   | zero=>simp at hz;subst hz;exact c
   | succ j=>simp at hz
  ·cases x <;> simp [AV.cells,AV.pI] at n ⊢ <;> exact .cons a h .nil
theorem kS.write {s:Nat} {x:AV} {ys:List Value} {b o:Nat} (hs:x.cells.length=s) (h:dw R w x.cells ys) (hr:∀j,j<s→R b (o+j)) (hc:∀j y,ys[j]?=some y→w.cell? ⟨b,o+j,none⟩=some y):kS R w s x b o:=by
 have hl:=h.length
 cases x with
 | ag cs=>exact .ag hs.symm (jY.write h (fun j hj=>hr j (by omega)) hc)
 | _ =>
  simp only [AV.cells,az] at hs h hl
  subst hs
  cases h with
  | cons a h t=>exact .one rfl (hr 0 (by omega)) (hc 0 _ rfl) a h
theorem ij.cells:∀{s:Nat} {es:List AV} {b o:Nat},ij R w s es b o→∃ys:List Value,ys.length=es.length * s∧(∀j y,ys[j]?=some y→w.cell? ⟨b,o+j,none⟩=some y)∧dw R w (es.flatMap AV.cells) ys∧∀e∈es,e.cells.length=s
 | s,_,b,o,.nil _ _ _=>⟨[],by simp,by simp,.nil,by simp⟩
 | s,_,b,o,.cons (x:=x) (xs:=xs) h t=>by
  obtain ⟨ys,hl,hc,hr⟩:=h.read
  obtain ⟨zs,kl,kc,kr,ke⟩:=ij.cells t
  have hx:x.cells.length=s:=by rw [hr.length,hl]
  refine ⟨ys++zs,by simp [hl,kl,Nat.succ_mul];omega,?_,?_,?_⟩
  ·intro j y hy
   by_cases hj:j<ys.length
   ·exact hc j y (by rwa [List.getElem?_append_left hj] at hy)
   ·rw [aJ (by omega)] at hy
    have:=kc _ y hy
    rwa [show o+s+(j - ys.length)=o+j by omega] at this
  ·simpa using hr.append kr
  ·intro e he
   rcases bh.1 he with rfl | h'
   ·exact hx
   ·exact ke e h'
theorem ij.write:∀{s:Nat} {es:List AV} {ys:List Value} {b o:Nat},(∀e∈es,e.cells.length=s)→dw R w (es.flatMap AV.cells) ys→(∀j,j<es.length * s→R b (o+j)) →
  (∀j y,ys[j]?=some y→w.cell? ⟨b,o+j,none⟩=some y)→ij R w s es b o
 | s,[],ys,b,o,_,_,_,_ => .nil _ _ _
 | s,e :: es,ys,b,o,he,h,hr,hc=>by
  have hs:=he e (by simp)
  have hl:=h.length
  simp only [List.flatMap_cons,aq] at hl
  have h1:dw R w e.cells (ys.take s):=by simpa [hs] using h.take s
  have h2:dw R w (es.flatMap AV.cells) (ys.drop s):=by have:=h.drop s;simpa [List.drop_append,hs,bc] using this
  refine .cons (.write hs h1 (fun j hj=>hr j (by simp [Nat.succ_mul];omega)) (fun j y hy=>hc j y ?_))
   (ij.write (fun e' h'=>he e' (by simp [h'])) h2 (fun j hj=>?_) (fun j y hy=>?_))
  ·rw [aM] at hy;split at hy
   ·exact hy
   ·cases hy
  ·have:=hr (s+j) (by simp [Nat.succ_mul];omega);rwa [←Nat.add_assoc] at this
  ·have:=hc (s+j) y (by simpa using hy);rwa [←Nat.add_assoc] at this
end
end Go.Eng
namespace Go.Eng
namespace Fl
def add (a b:Nat):Nat:=(Ieee.double.add a b).getD 0
def kR (a b:Nat):Bool:=(Ieee.double.add a b).isSome
def sub (a b:Nat):Nat:=(Ieee.double.sub a b).getD 0
def sG (a b:Nat):Bool:=(Ieee.double.sub a b).isSome
def mul (a b:Nat):Nat:=(Ieee.double.mul a b).getD 0
def oq (a b:Nat):Bool:=(Ieee.double.mul a b).isSome
def eq (a b:Nat):Bool:=Ieee.double.order a b == some .eq
def lt (a b:Nat):Bool:=Ieee.double.order a b == some .lt
def gt (a b:Nat):Bool:=Ieee.double.order a b == some .gt
def neg (a:Nat):Nat:=a ^^^ 9223372036854775808
def sx (a b c d:Nat):Nat:=sub (mul a c) (mul b d)
def sy (a b c d:Nat):Nat:=add (mul a d) (mul b c)
def oZ (a b c d:Nat):Bool:=oq a c&&oq b d&&sG (mul a c) (mul b d)&&(oq a d&&oq b c&&kR (mul a d) (mul b c))
def ofInt (n:Int):Nat:=FloatKind.f64.nearest n
def iH (a:Nat):Nat:=FloatKind.f64.encode ((FloatKind.f64.decode a).integral .zero)
def num (a:Nat):Bool:=!(FloatKind.f64.decode a).isNaN
def toInt (a:Nat):Int:=(floatToIntVal .f64 a .i64).getD 0
def lR (a:Nat):Bool:=(floatToIntVal .f64 a .i64).isSome
theorem yq {a b:Nat} (h:kR a b=true):Ieee.double.add a b=some (add a b):=by
 unfold kR at h;obtain ⟨x,hx⟩:=Option.isSome_iff_exists.1 h;unfold add;rw [hx];rfl
theorem yo {a b:Nat} (h:sG a b=true):Ieee.double.sub a b=some (sub a b):=by
 unfold sG at h;obtain ⟨x,hx⟩:=Option.isSome_iff_exists.1 h;unfold sub;rw [hx];rfl
theorem yp {a b:Nat} (h:oq a b=true):Ieee.double.mul a b=some (mul a b):=by
 unfold oq at h;obtain ⟨x,hx⟩:=Option.isSome_iff_exists.1 h;unfold mul;rw [hx];rfl
end Fl
def zw:BinOp→Value→Value→Option Value
 | .add,.float .f64 a,.float .f64 b=>if Fl.kR a b then some (.float .f64 (Fl.add a b)) else none
 | .sub,.float .f64 a,.float .f64 b=>if Fl.sG a b then some (.float .f64 (Fl.sub a b)) else none
 | .mul,.float .f64 a,.float .f64 b=>if Fl.oq a b then some (.float .f64 (Fl.mul a b)) else none
 | .eql,.float .f64 a,.float .f64 b=>some (.bool (Fl.eq a b))
 | .neq,.float .f64 a,.float .f64 b=>some (.bool (!Fl.eq a b))
 | .lss,.float .f64 a,.float .f64 b=>some (.bool (Fl.lt a b))
 | .leq,.float .f64 a,.float .f64 b=>some (.bool (Fl.lt a b || Fl.eq a b))
 | .gtr,.float .f64 a,.float .f64 b=>some (.bool (Fl.gt a b))
 | .geq,.float .f64 a,.float .f64 b=>some (.bool (Fl.gt a b || Fl.eq a b))
 | .add,.complex .f64 a b,.complex .f64 c d=>if Fl.kR a c&&Fl.kR b d then some (.complex .f64 (Fl.add a c) (Fl.add b d)) else none
 | .mul,.complex .f64 a b,.complex .f64 c d=>if Fl.oZ a b c d then some (.complex .f64 (Fl.sx a b c d) (Fl.sy a b c d)) else none
 | .lss,.string a,.string b=>some (.bool (Op.bytesLess a.toList b.toList))
 | .leq,.string a,.string b=>some (.bool (Op.bytesLess a.toList b.toList || a.toList == b.toList))
 | .gtr,.string a,.string b=>some (.bool (!(Op.bytesLess a.toList b.toList || a.toList == b.toList)))
 | .geq,.string a,.string b=>some (.bool (!Op.bytesLess a.toList b.toList))
 | _,_,_=>none
section
variable {P:Program} {w:World}
theorem mh {a b:Nat} (h:Fl.kR a b=true):(Op.Complex.arith .add .f64 a b).run P w = .ok (Fl.add a b) w:=by
 have e:FloatKind.f64.format.add a b=some (Fl.add a b):=Fl.yq h
 simp [Op.Complex.arith,Op.floatArith,e]
theorem vm {a b:Nat} (h:Fl.sG a b=true):(Op.Complex.arith .sub .f64 a b).run P w = .ok (Fl.sub a b) w:=by
 have e:FloatKind.f64.format.sub a b=some (Fl.sub a b):=Fl.yo h
 simp [Op.Complex.arith,Op.floatArith,e]
theorem kq {a b:Nat} (h:Fl.oq a b=true):(Op.Complex.arith .mul .f64 a b).run P w = .ok (Fl.mul a b) w:=by
 have e:FloatKind.f64.format.mul a b=some (Fl.mul a b):=Fl.yp h
 simp [Op.Complex.arith,Op.floatArith,e]
theorem Ge {op:BinOp} {t:TypeId} {x y z:Value} (h:zw op x y=some z):(binOp op t x y).run P w = .ok z w:=by
 unfold zw at h
 split at h
 ·rw [aC] at h
  obtain ⟨h1,h⟩:=h
  cases h
  have e:FloatKind.f64.format.add _ _=some (Fl.add _ _):=Fl.yq h1
  simp [binOp,Op.floatArith,e]
 ·rw [aC] at h
  obtain ⟨h1,h⟩:=h
  cases h
  have e:FloatKind.f64.format.sub _ _=some (Fl.sub _ _):=Fl.yo h1
  simp [binOp,Op.floatArith,e]
 ·rw [aC] at h
  obtain ⟨h1,h⟩:=h
  cases h
  have e:FloatKind.f64.format.mul _ _=some (Fl.mul _ _):=Fl.yp h1
  simp [binOp,Op.floatArith,e]
 ·cases h;rfl
 ·cases h;rfl
 ·cases h;rfl
 ·cases h;rfl
 ·cases h;rfl
 ·cases h;rfl
 ·rw [aC,aa] at h
  obtain ⟨⟨h1,h2⟩,h⟩:=h
  cases h
  simp [binOp,Op.complexOp,mh h1,mh h2]
 ·rw [aC] at h
  obtain ⟨h1,h⟩:=h
  cases h
  unfold Fl.oZ at h1
  simp only [aa] at h1
  obtain ⟨⟨⟨a1,a2⟩,a3⟩,⟨a4,a5⟩,a6⟩:=h1
  simp [binOp,Op.complexOp,Op.Complex.conv,Op.Complex.product,Op.Complex.mul,Op.Complex.sub,Op.Complex.add,kq a1,kq a2,vm a3,kq a4,kq a5,mh a6,Fl.sx,Fl.sy]
 ·cases h;rfl
 ·cases h;rfl
 ·cases h;rfl
 ·cases h;rfl
 ·cases h
theorem Bd {op:BinOp} {t:TypeId} {x y:Operand} {u v z:Value} (h:zw op u v=some z):eqGuard op t x y u v=pure ():=by
 unfold zw at h
 split at h <;> first | rfl | cases h
theorem vl {a:Nat}:(Op.unary .neg (.float .f64 a)).run P w = .ok (.float .f64 (Fl.neg a)) w:=rfl
end
end Go.Eng
namespace Go.Eng
inductive Gh where
 | no
 | ptr (m o:Nat)
 | cB (k s:Nat)
 | cl (ts:List (Nat × (Nat × Nat)))
 | xR (ts:List (Nat × (Nat × Nat))) (p:Option (Nat × Nat))
 | live (s:Nat)
 | used
 | pv (s:Nat)
 | mX (d s:Nat)
 | pe (k:Nat)
 | pm (m:Nat)
 | pc (s:Nat)
 deriving DecidableEq,Inhabited
def lk (k:Nat):Nat:=1000000+k
theorem fH (k:Nat):1000000≤lk k:=by unfold lk;omega
theorem fO {j k:Nat} (h:lk j=lk k):j=k:=by unfold lk at h;omega
attribute [irreducible] lk
inductive cO where
 | s (t:Nat)
 | c (x:AV)
 | g (n:Nat)
 deriving Inhabited
structure CS where
 n:Nat
 ref:Option (Nat × Nat)
 kn:List (Nat × (Nat × Nat))
 gC:List (Nat × (Nat × Nat))
 bO:Nat
 own:List (Nat × (Nat × Nat))
 new:Option (Nat × Nat)
 fD:List (Nat × (Nat × Nat))
def CS.plain (n bO:Nat):CS:=⟨n,none,[],[],bO,[],none,[]⟩
structure c7 where
 ref:Option Nat:=none
 fR:List (Nat × Nat):=[]
 bO:Nat:=1
 own:List (Nat × Nat):=[]
 new:Option Nat:=none
 fD:List (Nat × Nat):=[]
 ps:Option (Nat × Nat):=none
 deriving DecidableEq,Inhabited
def c7.plain (g:c7):Bool:=g.ref.isNone&&g.fR.isEmpty&&g.own.isEmpty&&g.new.isNone&&g.fD.isEmpty&&g.ps.isNone
def iN (l:List (Nat × (Nat × Nat))):List (Nat × Nat):=l.map fun t=>(t.1,t.2.2)
def CS.fits (c:CS) (g:c7):Bool :=
 decide (c.ref.map (·.1)=g.ref∧iN c.kn=g.fR∧iN c.gC=g.fR∧c.bO=g.bO∧iN c.own=g.own∧c.new.map (·.1)=g.new∧iN c.fD=g.fD ∧
  ((c.kn++c.gC++c.own++c.fD).map (·.2.1)).Nodup∧(c.ref=none→c.kn=[])∧(c.new=none→c.fD=[])∧(c.ref=none∨c.new=none)∧(∀q∈c.new.toList,q.1<c.bO∧q.2<999999)∧g.ps=none)
def CS.mj (c:CS):List Nat:=(c.kn++c.gC++c.own++c.fD).map fun t=>lk t.2.1
def CS.jl (c:CS):List Nat:=(c.new.map (·.2)).toList++(c.ref.map (·.2)).toList
inductive K where
 | mv
 | pick
 | bin (o:BinOp)
 | be (neg:Bool)
 | un (o:UnOp)
 | ci (k:IntKind)
 | cs
 | sb
 | Jn (k:Nat)
 | bs
 | len
 | vT
 | mn
 | mx
 | ix (s:Nat)
 | si
 | ai (n s:Nat) (agg:Bool)
 | fe (o n:Nat) (agg:Bool)
 | sc (s:Nat) (lo hi:Bool)
 | ss (lo hi:Bool)
 | bl (s n:Nat)
 | blt (s n k:Nat)
 | bd (z:List AV) (pl:List (Nat × Nat))
 | al (m:Nat) (z:List AV) (ts:List (Nat × (Nat × Nat)))
 | bx (m:Nat)
 | ld (m o n:Nat) (agg:Bool)
 | st (m o n:Nat)
 | lr (n:Nat) (agg:Bool)
 | fa (m o d:Nat)
 | fr (o n:Nat) (agg:Bool)
 | nc (m o:Nat)
 | N8
 | ex (i:Nat)
 | ap (k d s ki:Nat)
 | Kj (k d ki:Nat)
 | an (d s ki:Nat)
 | Kl (d ki:Nat)
 | mk (d s ki:Nat) (z:AV)
 | nl (d s:Nat)
 | CT (d s:Nat)
 | call (f:Nat) (c:CS)
 | HZ (k:Nat)
 | yE (k:Nat)
 | lP (k s:Nat)
 | KU (k o:Nat)
 | rQ (k s n:Nat) (agg:Bool)
 | sL (k s n:Nat)
 | sM (k s:Nat)
 | pQ (f n bO i k s:Nat)
 | qC (f n bO i s:Nat)
 | Jr (k d s ki:Nat)
 | KT (k:Nat)
 | Kk (k d q s ki:Nat)
 | la (m n s:Nat)
 | ll (m s:Nat)
 | N7
 | Nb
 | MT (b:Bool)
 | pO (f n bO i m:Nat)
 | DN (m:Nat) (ts:List (Nat × (Nat × Nat)))
 | DJ (m o n:Nat) (ts:List (Nat × (Nat × Nat)))
 | Ki (k d s ki:Nat)
 | Jz (k s:Nat)
 | Jl (m o:Nat)
 | JA (m o n c k s:Nat)
 | rl
 | im
 | cx
 | cf
 | fc
 | MP
 | yO (k s ki:Nat) (z:AV)
 | DB (s n k:Nat)
 | H0 (k d s:Nat)
 | ls (m s:Nat)
 | nK (f n k:Nat)
 | oO (f n bO i k s:Nat)
  | nI (f n i k s:Nat)
 | lZ (f n i k d:Nat)
 | re (f n bO:Nat)
 | BP (k d s ki:Nat)
structure pK where
 k:K
 rs:List cO
 ds:List Nat
 gd:Option (Nat × Bool):=none
inductive M where
 | skip
 | eZ (ops:List pK)
 | seq (a b:M)
 | cond (x:cO) (G:List (Nat × Gh)) (a b:M)
 | block (id:Nat) (G:List (Nat × Gh)) (b:M)
 | loop (bL:List Nat) (G:List (Nat × Gh)) (b:M)
 | exit (id:Nat)
 | ret
 | sw (k k':Nat) (b:M)
 | Hq (b:M)
 | Hp (b:M)
 | Hr (l:Nat) (bL:List Nat) (G:List (Nat × Gh)) (r b:M)
def gid (l:Nat):Nat:=1000000+l
structure FS where
 G:List AV→List AV→Prop
 sg:c7
abbrev Sg:=Nat→AV
abbrev Ga:=Nat→Gh
def cF {X:Type} (σ:Nat→X) (t:Nat) (x:X):Nat→X:=fun k=>if k=t then x else σ k
def bN {X:Type} (σ:Nat→X):List Nat→List X→Nat→X
 | t :: ts,x :: xs=>cF (bN σ ts xs) t x
 | _,_=>σ
structure Env where
 fs:Nat→FS
 gl:Nat→AV
def cO.ev (E:Env) (σ:Sg):cO→AV
 | .s t=>σ t
 | .c x=>x
 | .g n=>E.gl n
def cO.gh (γ:Ga):cO→Gh
 | .s t=>γ t
 | _ => .no
def dN (o:BinOp) (k:IntKind) (x y:Int):Int :=
 let a:=BitVec.ofInt k.bits x
 let b:=BitVec.ofInt k.bits y
 match o with
 | .and=>k.wrap (a &&& b).toNat
 | .or=>k.wrap (a ||| b).toNat
 | .xor=>k.wrap (a ^^^ b).toNat
 | _=>k.wrap (a &&& ~~~b).toNat
def jX:BinOp→Value→Value→Option Value
 | .shl,.int k a,.int _ b=>if b<0 then none else some (.int k (k.wrap (a * 2 ^ (min b.toNat k.bits))))
 | .shr,.int k a,.int _ b=>if b<0 then none else some (.int k (a.fdiv (2 ^ (min b.toNat k.bits))))
 | .add,.int k a,.int k' b=>if k=k' then some (.int k (k.wrap (a+b))) else none
 | .sub,.int k a,.int k' b=>if k=k' then some (.int k (k.wrap (a - b))) else none
 | .mul,.int k a,.int k' b=>if k=k' then some (.int k (k.wrap (a * b))) else none
 | .quo,.int k a,.int k' b=>if k=k' then (if b=0 then none else some (.int k (k.wrap (a.tdiv b)))) else none
 | .rem,.int k a,.int k' b=>if k=k' then (if b=0 then none else some (.int k (a.tmod b))) else none
 | .and,.int k a,.int k' b=>if k=k' then some (.int k (dN .and k a b)) else none
 | .or,.int k a,.int k' b=>if k=k' then some (.int k (dN .or k a b)) else none
 | .xor,.int k a,.int k' b=>if k=k' then some (.int k (dN .xor k a b)) else none
 | .andNot,.int k a,.int k' b=>if k=k' then some (.int k (dN .andNot k a b)) else none
 | .eql,.int k a,.int k' b=>if k=k' then some (.bool (a == b)) else none
 | .neq,.int k a,.int k' b=>if k=k' then some (.bool (a != b)) else none
 | .lss,.int k a,.int k' b=>if k=k' then some (.bool (decide (a<b))) else none
 | .leq,.int k a,.int k' b=>if k=k' then some (.bool (decide (a≤b))) else none
 | .gtr,.int k a,.int k' b=>if k=k' then some (.bool (decide (a > b))) else none
 | .geq,.int k a,.int k' b=>if k=k' then some (.bool (decide (a ≥ b))) else none
 | .add,.string a,.string b=>if ((a.size+b.size:Nat):Int) > IntKind.i64.max then none else some (.string (a++b))
 | .eql,.string a,.string b=>some (.bool (a.toList == b.toList))
 | .neq,.string a,.string b=>some (.bool (!(a.toList == b.toList)))
 | o,x,y=>zw o x y
def Nf:UnOp→Value→Option Value
 | .neg,.int k n=>some (.int k (k.wrap (0 - n)))
 | .xor,.int k n=>some (.int k (dN .xor k (if k.signed then -1 else k.max) n))
 | .not,.bool b=>some (.bool !b)
 | .neg,.float .f64 a=>some (.float .f64 (Fl.neg a))
 | _,_=>none
def eS (b:UInt8):AV := .v (.int .u8 b.toNat)
def AV.plain:AV→Bool
 | .v x=>x.oneCell'
 | .ag _ | .sl _ _ | .ro _=>true
 | _=>false
def fJ (cs:List AV) (o n:Nat) (agg:Bool):Option AV :=
 if agg then (if o+n≤cs.length then some (.ag ((cs.drop o).take n)) else none) else cs[o]?
def pZ (e:AV) (o n:Nat) (agg:Bool):Option AV :=
 match e with
 | .ag cs=>fJ cs o n agg
 | x=>if o=0∧n=1∧agg=false then some x else none
def eH (cs:List AV) (o:Nat) (xs:List AV):List AV:=cs.take o++xs++cs.drop (o+xs.length)
def uu (e:AV) (o:Nat) (x:AV):Option AV :=
 match e with
 | .ag cs=>if o+x.cells.length≤cs.length then some (.ag (eH cs o x.cells)) else none
 | _=>if o=0∧x.pI=false then some x else none
def mq (z:List AV):List (Nat × Nat)→List AV→Option (List AV)
 | [],[]=>some z
 | (o,n) :: pl,x :: xs=>if x.plain=true∧x.cells.length=n∧o+n≤z.length then mq (eH z o x.cells) pl xs else none
 | _,_=>none
def vn (a b:Int):Int:=if b<a then b else a
def nu (a b:Int):Int:=if a<b then b else a
def CS.ins (c:CS) (vs:List AV):List AV :=
 match c.ref with
 | some (i,_)=>(vs.take c.n).set i (vs.getD (c.n+(c.new.map (·.2)).toList.length) .dead)
 | none=>vs.take c.n
def CS.main (c:CS) (outs:List AV):AV :=
 if c.bO=1 then (if c.new.isSome then .pt else outs.headD .dead)
 else .tu ((outs.take c.bO).mapIdx fun i x=>if c.new.any (·.1 == i) then .pt else x)
def kN (cs:List AV):List (Nat × (Nat × Nat))→List AV
 | []=>cs
 | t :: ts=>(kN cs ts).set t.1 (.sl t.2.2 [])
abbrev AV.nil:AV := .v (.slice none 0 0)
def CS.dg (c:CS):Gh:=if c.bO=1 then (match c.new,c.own with | some (_,m),_=>Gh.ptr m 0 | none,[(0,k,s)] => .cB k s | none,_ => .no) else .xR c.own c.new
section
variable (E:Env)
def eh (k:K) (vs ws:List AV):Prop :=
 match k with
 | .mv=>match vs with
  | [x]=>ws=[x]
  | _=>False
 | .pick=>match vs with
  | [.v (.bool b),x,y]=>ws=[if b then x else y]
  | _=>False
 | .bin o=>match vs with
  | [.v a,.v b]=>∃x,jX o a b=some x∧ws=[.v x]
  | _=>False
 | .be neg=>match vs with
  | [.v (.bool a),.v (.bool b)]=>ws=[.v (.bool (if neg then !(a == b) else a == b))]
  | _=>False
 | .un o=>match vs with
  | [.v a]=>∃x,Nf o a=some x∧ws=[.v x]
  | _=>False
 | .ci k=>match vs with
  | [.v (.int _ n)]=>ws=[.v (.int k (k.wrap n))]
  | _=>False
 | .cs=>match vs with
  | [.v (.string b)]=>ws=[.v (.string b)]
  | _=>False
 | .sb=>match vs with
  | [.v (.string b)]=>b.data.toList.length≤maxLen∧ws=[.sl 1 (b.data.toList.map eS)]
  | _=>False
 | .Jn _=>match vs with
  | [.v (.string b),_]=>b.data.toList.length≤maxLen∧ws=[.sl 1 (b.data.toList.map eS),.dead]
  | _=>False
 | .bs=>match vs with
  | [.sl s es]=>∃l:List UInt8,s=1∧es=l.map eS∧ws=[.v (.string ⟨⟨l⟩⟩)]
  | _=>False
 | .len=>match vs with
  | [.sl _ es]=>ws=[.v (.int .i64 es.length)]
  | _=>False
 | .vT=>match vs with
  | [.v (.string b)]=>ws=[.v (.int .i64 b.data.toList.length)]
  | _=>False
 | .mn=>match vs with
  | [.v (.int k a),.v (.int _ b)]=>ws=[.v (.int k (vn a b))]
  | _=>False
 | .mx=>match vs with
  | [.v (.int k a),.v (.int _ b)]=>ws=[.v (.int k (nu a b))]
  | _=>False
 | .ix s=>match vs with
  | [.sl s' es,.v (.int _ i)]=>∃x,s=s'∧0≤i∧es[i.toNat]?=some x∧ws=[.ro x]
  | _=>False
 | .si=>match vs with
  | [.v (.string b),.v (.int _ i)]=>∃x,0≤i∧b.data.toList[i.toNat]?=some x∧ws=[eS x]
  | _=>False
 | .ai n s agg=>match vs with
  | [.ag cs,.v (.int _ i)]=>∃x,0≤i∧i<n∧fJ cs (i.toNat * s) s agg=some x∧ws=[x]
  | _=>False
 | .fe o n agg=>match vs with
  | [.ag cs]=>∃x,fJ cs o n agg=some x∧ws=[x]
  | _=>False
 | .sc s true true=>match vs with
  | [.sl s' es,.v (.int _ l),.v (.int _ h)]=>s=s'∧0≤l∧l≤h∧h≤es.length∧ws=[.sl s ((es.take h.toNat).drop l.toNat)]
  | _=>False
 | .sc s true false=>match vs with
  | [.sl s' es,.v (.int _ l)]=>s=s'∧0≤l∧l≤es.length∧ws=[.sl s (es.drop l.toNat)]
  | _=>False
 | .sc s false true=>match vs with
  | [.sl s' es,.v (.int _ h)]=>s=s'∧0≤h∧h≤es.length∧ws=[.sl s (es.take h.toNat)]
  | _=>False
 | .sc s false false=>match vs with
  | [.sl s' es]=>s=s'∧ws=[.sl s es]
  | _=>False
 | .ss true true=>match vs with
  | [.v (.string b),.v (.int _ l),.v (.int _ h)]=>0≤l∧l≤h∧h≤b.data.toList.length∧ws=[.v (.string ⟨⟨(b.data.toList.take h.toNat).drop l.toNat⟩⟩)]
  | _=>False
 | .ss true false=>match vs with
  | [.v (.string b),.v (.int _ l)]=>0≤l∧l≤b.data.toList.length∧ws=[.v (.string ⟨⟨b.data.toList.drop l.toNat⟩⟩)]
  | _=>False
 | .ss false true=>match vs with
  | [.v (.string b),.v (.int _ h)]=>0≤h∧h≤b.data.toList.length∧ws=[.v (.string ⟨⟨b.data.toList.take h.toNat⟩⟩)]
  | _=>False
 | .ss false false=>match vs with
  | [.v (.string b)]=>ws=[.v (.string b)]
  | _=>False
 | .bl s n=>vs.length=n∧(∀x∈vs,x.plain=true∧x.cells.length=s)∧ws=[.sl s vs]
 | .blt s n _=>vs.length=n+1∧(∀x∈vs.take n,x.plain=true∧x.cells.length=s)∧ws=[.sl s (vs.take n),.dead]
 | .bd z pl=>∃cs,mq z pl vs=some cs∧ws=[.ag cs]
 | .al _ z ts=>ws = .pt :: .ag z :: ts.map fun _ => .dead
 | .bx _=>match vs with
  | [x,_]=>x.plain=true∧ws=[.pt,.ag x.cells]
  | _=>False
 | .ld _ o n agg=>match vs with
  | [.pt,.ag cs]=>∃x,fJ cs o n agg=some x∧ws=[x]
  | _=>False
 | .st _ o n=>match vs with
  | [.pt,.ag cs,x]=>x.plain=true∧x.cells.length=n∧o+n≤cs.length∧ws=[.ag (eH cs o x.cells)]
  | _=>False
 | .lr n agg=>match vs with
  | [.ro x]=>x.pI=agg∧x.cells.length=n∧ws=[x]
  | _=>False
 | .fa _ _ _=>match vs with
  | [.pt]=>ws=[.pt]
  | _=>False
 | .fr o n agg=>match vs with
  | [.ro (.ag cs)]=>∃x,fJ cs o n agg=some x∧ws=[.ro x]
  | _=>False
 | .nc _ _=>match vs with
  | [.pt]=>ws=[.pt]
  | _=>False
 | .N8=>match vs with
  | [.ro x]=>ws=[.ro x]
  | _=>False
 | .ex i=>match vs with
  | [.tu vs]=>∃x,vs[i]?=some x∧ws=[x]
  | _=>False
 | .ap _ _ s ki=>match vs with
  | [.sl s' es,.sl lY fs,_,_]=>s'=s∧lY=s∧(∀x∈fs,x.cells.length=s)∧es.length+fs.length≤maxLen∧(es.length+fs.length) * ki≤140737488355328∧ws=[.sl s (es++fs),.dead,.dead]
  | _=>False
 | .Kj _ _ ki=>match vs with
  | [.sl s' es,.v (.string b),_,_]=>s'=1∧es.length+b.data.toList.length≤maxLen∧(es.length+b.data.toList.length) * ki≤140737488355328∧ws=[.sl 1 (es++b.data.toList.map eS),.dead,.dead]
  | _=>False
 | .an _ s ki=>match vs with
  | [.sl lY fs,_]=>lY=s∧(∀x∈fs,x.cells.length=s)∧fs.length≤maxLen∧fs.length * ki≤140737488355328∧ws=[.sl s fs,.dead]
  | _=>False
 | .Kl _ ki=>match vs with
  | [.v (.string b),_]=>b.data.toList.length≤maxLen∧b.data.toList.length * ki≤140737488355328∧ws=[.sl 1 (b.data.toList.map eS),.dead]
  | _=>False
 | .mk _ s ki z=>match vs with
  | [.v (.int .i64 l),.v (.int .i64 c),_]=>z.plain=true∧z.cells.length=s∧0≤l∧l≤c∧c * ki≤140737488355328∧c≤maxLen∧ws=[.sl s (List.replicate l.toNat z),.dead]
  | _=>False
 | .nl _ s=>match vs with
  | [_]=>ws=[.sl s [],.dead]
  | _=>False
 | .CT _ s=>match vs with
  | [_]=>ws=[.pt,.sl s []]
  | _=>False
 | .HZ _=>match vs with
  | [.v (.string b),_]=>b.data.toList.length≤maxLen∧ws=[.pt,.sl 1 (b.data.toList.map eS)]
  | _=>False
 | .yE _=>match vs with
  | [.pt,.sl _ es]=>ws=[.v (.int .i64 es.length)]
  | _=>False
 | .lP _ s=>match vs with
  | [.pt,.v (.int _ i),.sl s' es]=>s'=s∧0≤i∧i.toNat<es.length∧ws=[.el i.toNat s 0]
  | _=>False
 | .KU _ o=>match vs with
  | [.el i s o']=>ws=[.el i s (o'+o)]
  | _=>False
 | .rQ _ s n agg=>match vs with
  | [.el i s' o,.sl lY es]=>∃e x,s'=s∧lY=s∧es[i]?=some e∧pZ e o n agg=some x∧ws=[x]
  | _=>False
 | .sL _ s n=>match vs with
  | [.el i s' o,.sl lY es,x]=>∃e e',s'=s∧lY=s∧es[i]?=some e∧x.plain=true∧x.cells.length=n∧uu e o x=some e'∧ws=[.sl s (es.set i e')]
  | _=>False
 | .sM _ s=>match vs with
  | [.pt,.sl s' es]=>s'=s∧ws=[.sl s es,.sl s es,.dead]
  | _=>False
 | .pQ f n bO i _ s=>∃es outs,vs[n]?=some (.sl s es)∧vs[i]?=some .pt∧(E.fs f).G ((vs.take n).set i (.sl s es)) outs∧outs.length=bO∧ws=[if bO=1 then outs.headD .dead else .tu outs]
 | .qC f _ bO i s=>∃outs,vs[i]?=some (.sl s [])∧(E.fs f).G vs outs∧outs.length=bO∧ws=[if bO=1 then outs.headD .dead else .tu outs]
 | .Jr _ _ s ki=>match vs with
  | [.pt,.sl lY fs,.sl s' es,_]=>s'=s∧lY=s∧es.length+fs.length≤maxLen∧(es.length+fs.length) * ki≤140737488355328∧ws=[.pt,.sl s es,.sl s (es++fs)]
  | _=>False
 | .KT _=>match vs with
  | [.pt,.sl _ []]=>ws=[.ab]
  | [.pt,.sl _ (_ :: _)]=>ws=[.v (.bool false)]
  | _=>False
 | .Kk _ _ _ s ki=>match vs with
  | [.sl s' es,.pt,_,_,.sl lY fs]=>s'=s∧lY=s∧es.length+fs.length≤maxLen∧(es.length+fs.length) * ki≤140737488355328∧ws=[.sl s (es++fs),.dead,.dead]
  | _=>False
 | .Ki _ _ s ki=>match vs with
  | [.sl s' [],.sl lY fs,_,_]=>s'=s∧lY=s∧(∀x∈fs,x.cells.length=s)∧fs.length≤maxLen∧fs.length * ki≤140737488355328∧ws=[.pt,.dead,.sl s fs]
  | _=>False
 | .Jz _ s=>match vs with
  | [x,.pt,.sl s' es]=>s'=s∧ws=[x,.sl s es,.dead]
  | _=>False
 | .Jl _ o=>match vs with
  | [.pt,.ag cs,.pt]=>o+1≤cs.length∧ws=[.ag (eH cs o [.pt])]
  | _=>False
 | .JA _ o n c _ s=>match vs with
  | [.pt,.ag cs,.sl s' es]=>∃x,s'=s∧c<cs.length∧fJ (cs.set c (.sl s es)) o n true=some x∧ws=[x,.ag (cs.set c (.sl s es)),.dead]
  | _=>False
 | .rl=>match vs with
  | [.v (.complex k a _)]=>ws=[.v (.float k a)]
  | _=>False
 | .im=>match vs with
  | [.v (.complex k _ b)]=>ws=[.v (.float k b)]
  | _=>False
 | .cx=>match vs with
  | [.v (.float .f64 a),.v (.float .f64 b)]=>ws=[.v (.complex .f64 a b)]
  | _=>False
 | .cf=>match vs with
  | [.v (.int _ n)]=>ws=[.v (.float .f64 (Fl.ofInt n))]
  | _=>False
 | .fc=>match vs with
  | [.v (.float .f64 b)]=>Fl.lR b=true∧ws=[.v (.int .i64 (Fl.toInt b))]
  | _=>False
 | .MP=>match vs with
  | [.v (.float .f64 b)]=>Fl.num b=true∧ws=[.v (.float .f64 (Fl.iH b))]
  | _=>False
 | .yO _ s ki z=>match vs with
  | [.v (.int .i64 l),.v (.int .i64 c),_]=>z.plain=true∧z.cells.length=s∧0≤l∧l≤c∧c * ki≤140737488355328∧c≤maxLen∧ws=[.pt,.sl s (List.replicate l.toNat z)]
  | _=>False
 | .DB s n _=>vs.length=n+1∧(∀x∈vs.take n,x.plain=true∧x.cells.length=s)∧ws=[.pt,.sl s (vs.take n)]
 | .H0 _ _ s=>match vs with
  | [.pt,.v (.int _ i),.sl s' es,_]=>s'=s∧0≤i∧i.toNat≤es.length∧ws=[.pt,.dead,.sl s (es.take i.toNat)]
  | _=>False
 | .ls _ s=>match vs with
  | [.el i s' o,.ag cs,x]=>s'=s∧x.plain=true∧x.cells.length=1∧i * s+o+1≤cs.length∧ws=[.ag (eH cs (i * s+o) x.cells)]
  | _=>False
 | .nK f n _=>∃es,(E.fs f).G (vs.take n) [.sl 1 es]∧(∀e∈es,∃x,e = .v x)∧ws=[.pt,.sl 1 es]
 | .oO f n bO i _ s=>∃es outs,vs[n]?=some (.sl s es)∧vs[i]?=some .pt∧(E.fs f).G ((vs.take n).set i (.sl s es)) outs∧outs.length=bO∧ws=[if bO=1 then outs.headD .dead else .tu outs,.dead]
 | .nI f n i _ s=>∃es fs,vs[n]?=some (.sl s es)∧es≠[]∧vs[i]?=some .pt∧(E.fs f).G ((vs.take n).set i (.sl s es)) [.sl s fs]∧ws=[.tu [],.sl s fs]
 | .lZ f n i _ _=>∃es fs,vs[n]?=some (.sl 1 es)∧vs[i]?=some .pt∧(E.fs f).G ((vs.take n).set i (.sl 1 es)) [.sl 1 fs]∧(∀e∈fs,∃x,e = .v x)∧ws=[.pt,.dead,.sl 1 fs]
 | .BP _ _ s ki=>match vs with
  | [.pt,.sl lY fs,.sl s' es,_]=>s'=s∧lY=s∧(∀x∈fs,x.cells.length=s)∧es.length+fs.length≤maxLen∧(es.length+fs.length) * ki≤140737488355328∧ws=[.pt,.dead,.sl s (es++fs)]
  | _=>False
 | .re f _ bO=>∃Jg outs,vs = .v (.func (.func f) #[] #[]) :: Jg∧(E.fs f).G Jg outs∧outs.length=bO∧ws=[if bO=1 then outs.headD .dead else .tu outs]
 | .la _ n s=>match vs with
  | [.pt,.v (.int _ i),.ag _]=>0≤i∧i<n∧ws=[.el i.toNat s 0]
  | _=>False
 | .ll _ s=>match vs with
  | [.el i s' o,.ag cs]=>∃x,s'=s∧fJ cs (i * s+o) 1 false=some x∧ws=[x]
  | _=>False
 | .N7=>match vs with
  | [.sl _ []]=>ws=[.ab]
  | [.sl _ (_ :: _)]=>ws=[.v (.bool false)]
  | _=>False
 | .Nb=>match vs with
  | [.v (.string b),.v (.int .u8 c)]=>ws=[.v (.int .i64 (Lib.indexByte b.data.toList c.toNat.toUInt8))]
  | _=>False
 | .MT _=>False
 | .pO f n bO i _=>∃cs outs,vs[n]?=some (.ag cs)∧vs[i]?=some .pt∧(E.fs f).G ((vs.take n).set i (.ro (.ag cs))) outs∧outs.length=bO∧(∀x∈outs,∃y,x = .v y)∧ws=[if bO=1 then outs.headD .dead else .tu outs]
 | .DN _ ts=>match vs with
  | x :: _=>x.plain=true∧(∀t∈ts,x.cells[t.1]?=some .nil)∧ws = .pt :: .ag (kN x.cells ts) :: ts.map fun _ => .dead
  | _=>False
 | .DJ _ o n ts=>match vs with
  | .pt :: .ag cs :: x :: _=>x.plain=true∧x.cells.length=n∧o+n≤cs.length∧(∀t∈ts,(eH cs o x.cells)[t.1]?=some .nil)∧ws = .ag (kN (eH cs o x.cells) ts) :: ts.map fun _ => .dead
  | _=>False
 | .call f c=>(match c.ref with | some (i,_)=>vs[i]?=some .pt | none=>True)∧∃outs,(E.fs f).G (c.ins vs) outs∧outs.length=c.bO+c.jl.length∧ws=c.main outs :: (outs.drop c.bO++c.mj.map fun _ => .dead)
end
def Gh.strip:Gh→Gh
 | .cl _ | .live _ | .used | .pv _ | .mX _ _ | .pc _ => .no
 | g=>g
def Gh.comp (i:Nat):Gh→Gh
 | .xR ts p=>match ts.find? (fun t=>t.1 == i) with
  | some (_,k,s) => .cB k s
  | none=>match p with
   | some (j,m)=>if j=i then .ptr m 0 else .no
   | none => .no
 | _ => .no
def dt (k : K) (gs : List Gh) : Option (List Gh) :=
  match k with
  | .mv => match gs with
    | [g] => some [g.strip]
    | _ => none
  | .ex i => match gs with
    | [g] => some [g.comp i]
    | _ => none
  | .Jn k => match gs with
    | [_, .no] => some [.cB k 1, .live 1]
    | _ => none
  | .blt s n k => if gs.drop n = [.no] then some [.cB k s, .live s] else none
  | .al m _ ts => if gs.length = 1 + ts.length ∧ gs.all (· = .no) ∧ (ts.map (·.2.1)).Nodup then some (.ptr m 0 :: .cl ts :: ts.map fun t => .live t.2.2) else none
  | .bx m => match gs with
    | [_, .no] => some [.ptr m 0, .cl []]
    | _ => none
  | .pO _ n _ i m => match gs[n]? with
    | some (.cl _) => if gs[i]? = some (.ptr m 0) then some [.no] else none
    | _ => none
  | .MT b => some (if b then [.no] else [])
  | .DN m ts => match gs with
    | _ :: rest => if rest.length = 1 + ts.length ∧ rest.all (· = .no) ∧ (ts.map (·.2.1)).Nodup then some (.ptr m 0 :: .cl ts :: ts.map fun t => .live t.2.2) else none
    | _ => none
  | .DJ m o n ts => match gs with
    | .ptr m' o' :: .cl us :: _ :: rest => if m = m' ∧ o = o' ∧ rest.length = ts.length ∧ rest.all (· = .no) ∧ (ts.map (·.2.1)).Nodup then some (.cl (us.filter (fun t => t.1 < o || o + n ≤ t.1) ++ ts) :: ts.map fun t => .live t.2.2) else none
    | _ => none
  | .ld m o _ agg => match gs with
    | [.ptr m' o', .cl ts] => if m = m' ∧ o = o' then some [if agg then .no else match ts.find? (fun t => t.1 == o) with | some (_, k, s) => .cB k s | none => .no] else none
    | _ => none
  | .st m o n => match gs with
    | [.ptr m' o', .cl ts, g] => if m = m' ∧ o = o' then some [.cl (ts.filter (fun t => t.1 < o || o + n ≤ t.1) ++ match g with | .cB k s => if n = 1 then [(o, k, s)] else [] | _ => [])] else none
    | _ => none
  | .fa m o d => match gs with
    | [.ptr m' o'] => if m = m' ∧ o = o' then some [.ptr m (o + d)] else none
    | _ => none
  | .nc m o => match gs with
    | [.ptr m' o'] => if m = m' ∧ o = o' then some [.ptr m o] else none
    | _ => none
  | .ap k d s _ => match gs with
    | [.cB k' s', _, .live lY, .no] => if k = k' ∧ s = s' ∧ s = lY ∧ k ≠ d then some [.cB d s, .used, .live s] else none
    | _ => none
  | .Kj k d _ => match gs with
    | [.cB k' s', _, .live lY, .no] => if k = k' ∧ 1 = s' ∧ 1 = lY ∧ k ≠ d then some [.cB d 1, .used, .live 1] else none
    | _ => none
  | .an d s _ => match gs with
    | [_, .no] => some [.cB d s, .live s]
    | _ => none
  | .Kl d _ => match gs with
    | [_, .no] => some [.cB d 1, .live 1]
    | _ => none
  | .mk d s _ _ => match gs with
    | [_, _, .no] => some [.cB d s, .live s]
    | _ => none
  | .nl d s => match gs with
    | [.no] => some [.cB d s, .live s]
    | _ => none
  | .CT d s => match gs with
    | [.no] => some [.cB d s, .pv s]
    | _ => none
  | .HZ k => match gs with
    | [_, .no] => some [.cB k 1, .pv 1]
    | _ => none
  | .yE k => match gs with
    | [.cB k' _, .pv _] => if k' = k then some [.no] else none
    | _ => none
  | .lP k s => match gs with
    | [.cB k' _, _, .pv s'] => if k' = k ∧ s' = s then some [.pe k] else none
    | _ => none
  | .KU k _ => match gs with
    | [.pe k'] => if k' = k then some [.pe k] else none
    | _ => none
  | .rQ k s _ _ => match gs with
    | [.pe k', .pv s'] => if k' = k ∧ s' = s then some [.no] else none
    | _ => none
  | .sL k s _ => match gs with
    | [.pe k', .pv s', _] => if k' = k ∧ s' = s then some [.pv s] else none
    | _ => none
  | .sM k s => match gs with
    | [.cB k' _, .pv s'] => if k' = k ∧ s' = s then some [.cB k s, .cB k s, .live s] else none
    | _ => none
  | .pQ _ n _ i k s => if gs[i]? = some (.cB k s) ∧ (gs[n]? = some (.pv s) ∨ gs[n]? = some (.pc s)) then some [.no] else none
  | .yO k s _ _ => match gs with
    | [_, _, .no] => some [.cB k s, .pv s]
    | _ => none
  | .DB s n k => if gs.drop n = [.no] then some [.cB k s, .pv s] else none
  | .H0 k d s => match gs with
    | [.cB k' s', _, .pv lY, .no] => if k' = k ∧ s' = s ∧ lY = s ∧ k ≠ d then some [.cB d s, .used, .pv s] else none
    | _ => none
  | .BP k d s _ => match gs with
    | [.cB k' s', _, .pv lY, .no] => if k' = k ∧ s' = s ∧ lY = s ∧ k ≠ d then some [.cB d s, .used, .pv s] else none
    | _ => none
  | .ls m _ => match gs with
    | [.pm m', .cl ts, _] => if m' = m ∧ ts = [] then some [.cl []] else none
    | _ => none
  | .nK _ n k => if gs.drop n = [.no] then some [.cB k 1, .pv 1] else none
  | .oO _ n _ i k s => if gs[i]? = some (.cB k s) ∧ gs.drop n = [.pv s] then some [.no, .used] else none
  | .nI _ n i k s => if gs[i]? = some (.cB k s) ∧ gs.drop n = [.pv s] then some [.no, .pv s] else none
  | .lZ _ n i k d => if gs[i]? = some (.cB k 1) ∧ gs.drop n = [.pv 1, .no] ∧ k ≠ d then some [.cB d 1, .used, .pv 1] else none
  | .Jr k d s _ => match gs with
    | [.cB k' s', _, .pv lY, .no] => if k' = k ∧ s' = s ∧ lY = s ∧ k ≠ d then some [.cB d s, .mX (lk d) s, .pc s] else none
    | _ => none
  | .KT k => match gs with
    | [.cB k' _, .pv _] => if k' = k then some [.no] else none
    | _ => none
  | .Kk k d q s _ => match gs with
    | [.cB k' s', .cB q' s1, .live lY, .no, .pv s2] => if k = k' ∧ s = s' ∧ s = lY ∧ k ≠ d ∧ q' = q ∧ s1 = s ∧ s2 = s then some [.cB d s, .used, .live s] else none
    | _ => none
  | .Ki k d s _ => match gs with
    | [.cB k' s', _, .live lY, .no] => if k = k' ∧ s = s' ∧ s = lY ∧ k ≠ d then some [.cB d s, .used, .pv s] else none
    | _ => none
  | .Jz k s => match gs with
    | [g, .cB k' _, .pv s'] => if k' = k ∧ s' = s then some [g.strip, .cB k s, .live s] else none
    | _ => none
  | .Jl m o => match gs with
    | [.ptr m' o', .cl ts, .cB k s] => if m = m' ∧ o = o' then some [.cl (ts.filter (fun t => t.1 < o || o + 1 ≤ t.1) ++ [(o, k, s)])] else none
    | _ => none
  | .JA m o _ c k s => match gs with
    | [.ptr m' o', .cl ts, .pv s'] => if m = m' ∧ o = o' ∧ s = s' ∧ (c, k, s) ∈ ts then some [.no, .cl ts, .live s] else none
    | _ => none
  | .la m _ s => match gs with
    | [.ptr m' o, _, .cl _] => if m' = m ∧ o = 0 ∧ 0 < s then some [.pm m] else none
    | _ => none
  | .ll m _ => match gs with
    | [.pm m', .cl ts] => if m' = m ∧ ts = [] then some [.no] else none
    | _ => none
  | .call _ c =>
    let rest := gs.drop c.n
    let nm := rest.take (c.new.map (·.2)).toList.length
    let rm := (rest.drop nm.length).take (c.ref.map (·.2)).toList.length
    let ls := rest.drop (nm.length + rm.length)
    if nm.all (· = .no) ∧
       (match c.ref, rm with
        | some (i, m), [.cl ts] => decide (gs[i]? = some (.ptr m 0) ∧ i < c.n ∧ ∀ t ∈ c.kn, t ∈ ts)
        | none, [] => true
        | _, _ => false) = true ∧
       ls = c.kn.map (fun t => Gh.live t.2.2) ++ (c.gC ++ c.own ++ c.fD).map fun _ => Gh.no
    then some (c.dg :: (c.new.toList.map (fun _ => .cl c.fD) ++ c.ref.toList.map (fun _ => .cl c.gC) ++ c.kn.map (fun _ => .used) ++ (c.gC ++ c.own ++ c.fD).map fun t => .live t.2.2)) else none
  | _ => some [.no]
end Go.Eng
namespace Go.Eng
open Go.RowKit
structure j0 where
 R:Reach
 β:Nat→Nat
 τ:Nat→Value
def iw (D:j0):Gh→Value→Prop
 | .ptr m o,x=>x = .pointer (some ⟨D.β m,o,none⟩)
 | .cB k _,x=>x=D.τ (lk k)∧x.oneCell'=true
 | .pe k,x=>∃g n cap o,D.τ (lk k) = .slice (some ⟨g,0,none⟩) n cap∧x = .pointer (some ⟨g,o,none⟩)
 | .pm m,x=>∃o,x = .pointer (some ⟨D.β m,o,none⟩)
 | .xR ts p,x=>∃ys:List Value,x = .tuple ⟨ys⟩∧(∀t∈ts,ys[t.1]?=some (D.τ (lk t.2.1))∧(D.τ (lk t.2.1)).oneCell'=true)∧(∀q,p=some q→ys[q.1]?=some (.pointer (some ⟨D.β q.2,0,none⟩)))
 | _,_=>True
abbrev AV.sk:AV := .tu []
def lM (D:j0) (w:World) (s:AV) (g:Gh) (x:Value):Prop:=s = .dead∨(Rep D.R w s x∧(s ≠ .sk→iw D g x))
def fg (R:Reach) (w:World) (x:Value) (s:Nat):Prop :=
 x = .slice none 0 0∨∃g n cap cur e fz,x = .slice (some ⟨g,0,none⟩) n cap∧w.heap[g]?=some (.cells cur e fz)∧(∀o,o<cur.size→¬(fz.1≤o∧o<fz.2))∧cur.size=cap * s∧n≤cap∧cap≤maxLen∧∀o,n * s≤o→¬R g o
def fL (R:Reach) (w:World) (v:Value) (s:Nat) (x:AV):Prop :=
 (∀g,v.ownBlock=some g→∀o,¬R g o)∧(x = .dead∨∃es,x = .sl s es∧(∀e∈es,e.cells.length=s) ∧
  ((es=[]∧v = .slice none 0 0)∨∃g cap cur e fz,v = .slice (some ⟨g,0,none⟩) es.length cap∧w.heap[g]?=some (.cells cur e fz)∧dw R w (es.flatMap AV.cells) (cur.toList.take (es.length * s))))
def iP (R:Reach) (w:World) (x:AV) (b:Nat) (cs:List Value):Prop :=
 ∃elem,w.heap[b]?=some (.cells ⟨cs⟩ elem (0,0))∧(x = .dead∨∃DE,x = .ag DE∧dw R w DE (cs.take DE.length))∧∀o,¬R b o
structure Ext (w0:World) (R0:Reach) (io:Nat→Prop) (w:World) (R:Reach):Prop where
 os:w.os=w0.os
 tape:w.tape=w0.tape
 output:w.output=w0.output
 size:w0.heap.size≤w.heap.size
 heap:∀b,b<w0.heap.size→¬io b→w.heap[b]?=w0.heap[b]?
 bL:fh R0 w0 R w
 qx:∀b o,R b o→R0 b o∨w0.heap.size≤b∨io b
def eI (D:j0) (γ:Ga) (key:Nat):Option Nat :=
 match γ key with
 | .cl _=>some (D.β key)
 | .live _=>(D.τ key).ownBlock
 | .pv _=>(D.τ key).ownBlock
 | .mX _ _=>(D.τ key).ownBlock
 | .pc _=>(D.τ key).ownBlock
 | _=>none
structure Ctx where
 P:Program
 E:Env
 nt:Nat
 w0:World
 R0:Reach
 io:Nat→Prop
 fix:Option Nat
 Th:Option Value
def Ctx.kY (C:Ctx) (b:Nat):Prop:=C.io b∨C.w0.heap.size≤b
def Gh.eQ:Gh→Bool | .cl _=>true | _=>false
def Gh.ej:Gh→Bool | .live _=>true | .used=>true | .pv _=>true | .mX _ _=>true | .pc _=>true | _=>false
def eK (γ:Ga):Gh→Prop
 | .ptr m _=>(γ m).eQ=true
 | .cB k _=>(γ (lk k)).ej=true
 | .cl ts=>∀t∈ts,(γ (lk t.2.1)).ej=true
 | .pe k=>(γ (lk k)).ej=true
 | .pm m=>(γ m).eQ=true
 | .mX d _=>γ d = .used∨∃s,γ d = .pc s
 | .xR ts p=>(∀t∈ts,(γ (lk t.2.1)).ej=true)∧∀q,p=some q→(γ q.2).eQ=true
 | _=>True
def Gh.td:Gh→Bool | .pv _=>true | .mX _ _=>true | .pc _=>true | _=>false
def Gh.par:Gh→Option Nat | .mX d _=>some d | _=>none
def Gh.CL:Gh→Option Nat | .pv s=>some s | .mX _ s=>some s | .pc s=>some s | _=>none
def va (σ:Sg) (γ:Ga) (key:Nat):Prop:=∀d s s',γ key = .mX d s→γ d = .pc s'→σ key = .dead∨σ d = .dead∨∃es more,σ key = .sl s es∧σ d = .sl s (es++more)
def By (D:j0) (σ:Sg) (γ:Ga) (w:World):Prop :=
 ∀key s,(γ key).CL=some s→fg D.R w (D.τ key) s∧fL D.R w (D.τ key) s (σ key)∧va σ γ key
def vb (C:Ctx) (D:j0) (γ:Ga):Prop:=(∀b,C.fix=some b→D.β 999999=b)∧∀v,C.Th=some v→(γ (lk 999999)).td=true∧D.τ (lk 999999)=v
theorem vb.of {C:Ctx} {D D':j0} {γ nT:Ga} (h:vb C D γ) (C3:D'.β 999999=D.β 999999) (hp:(γ (lk 999999)).td=true→(nT (lk 999999)).td=true∧D'.τ (lk 999999)=D.τ (lk 999999)):vb C D' nT :=
 ⟨fun b hb=>C3.trans (h.1 b hb),fun v hv=>by
  obtain ⟨h1,h2⟩:=h.2 v hv
  obtain ⟨h3,h4⟩:=hp h1
  exact ⟨h3,h4.trans h2⟩⟩
theorem vb.cF {C:Ctx} {D D':j0} {γ:Ga} {k:Nat} {g:Gh} (h:vb C D γ) (hk:(γ k).td=false) (C3:D'.β 999999=D.β 999999) (pJ:D'.τ (lk 999999)=D.τ (lk 999999)):vb C D' (Eng.cF γ k g) :=
 h.of C3 fun hp=>by
  have:lk 999999≠k:=fun e=>by rw [e,hk] at hp;cases hp
  unfold Eng.cF
  rw [aD this]
  exact ⟨hp,pJ⟩
structure cL (C:Ctx) (D:j0) (σ:Sg) (γ:Ga) (a:Act) (w:World):Prop where
 size:a.tmps.size=C.nt
 defers:a.defers=[]
 iB:C.nt≤1000000
 oe:∀m,(γ m).eQ=true→C.nt≤m∧m<1000000
 kL:∀m,(γ m).ej=true→1000000≤m
 slot:∀t,t<C.nt→lM D w (σ t) (γ t) (a.tmps.getD t undef)
 mem:∀m ts,γ m = .cl ts→∃cs,iP D.R w (σ m) (D.β m) cs∧∀t∈ts,cs[t.1]?=some (D.τ (lk t.2.1))
 cB:∀key s,γ key = .live s→fg D.R w (D.τ key) s
 ps:By D σ γ w
 sep:∀key gE g,eI D γ key=some g→eI D γ gE=some g→key=gE∨(γ key).par=some gE∨(γ gE).par=some key
 own:∀key g,eI D γ key=some g→C.kY g
 inv:∀key,eK γ (γ key)
 ext:Ext C.w0 C.R0 C.io w D.R
 jT:∀b o,D.R b o→b<w.heap.size
 gl:∀n,Rep D.R w (C.E.gl n) (.pointer (some ⟨n,0,none⟩))
 fix:vb C D γ
def km (g:c7) (R:Reach) (w:World) (ins:List AV) (xs:List Value):Prop :=
 match g.ref with
 | none=>eY R w ins xs
 | some i=>∃(b:Nat) (cs:List Value) (x:AV) (tv:List Value),xs[i]?=some (.pointer (some ⟨b,0,none⟩))∧ins[i]?=some x∧iP R w x b cs∧eY R w (ins.set i .pt) xs ∧
   tv.length=g.fR.length∧(∀(p:Nat) (t:Nat × Nat) (v:Value),g.fR[p]?=some t→tv[p]?=some v→cs[t.1]?=some v∧fg R w v t.2) ∧
   (∀(p q h:Nat),(some b :: tv.map Value.ownBlock)[p]?=some (some h)→(some b :: tv.map Value.ownBlock)[q]?=some (some h)→p=q)
def ny (g:c7) (w:World) (xs:List Value) (c:Nat):Prop :=
 match g.ref with
 | none=>False
 | some i=>∃(b:Nat) (cs:List Value) (elem:TypeId),xs[i]?=some (.pointer (some ⟨b,0,none⟩))∧w.heap[b]?=some (.cells ⟨cs⟩ elem (0,0))∧(c=b∨∃t∈g.fR,∃v,cs[t.1]?=some v∧v.ownBlock=some c)
def j9 (g:c7) (bn br:Nat) (tv:List Value):List (Option Nat) :=
 (if g.new.isSome then [some bn] else [])++(if g.ref.isSome then [some br] else [])++tv.map Value.ownBlock
def wx (g:c7) (R:Reach) (w:World) (kY:Nat→Prop) (xs:List Value) (outs:List AV) (x:Value):Prop :=
 ∃(rvs tr fZ tn:List Value) (bn br:Nat) (cn cr:List Value),
  rvs.length=g.bO∧x=(if g.bO=1 then rvs.headD undef else .tuple ⟨rvs⟩) ∧
  outs.length=g.bO+(if g.new.isSome then 1 else 0)+(if g.ref.isSome then 1 else 0) ∧
  eY R w ((outs.take g.bO).mapIdx fun i y=>if g.new=some i then .pt else y) rvs ∧
  (∀j,g.new=some j→rvs[j]?=some (.pointer (some ⟨bn,0,none⟩))∧iP R w (outs.getD g.bO .dead) bn cn) ∧
  (∀i,g.ref=some i→xs[i]?=some (.pointer (some ⟨br,0,none⟩))∧iP R w (outs.getD (g.bO+(if g.new.isSome then 1 else 0)) .dead) br cr) ∧
  tr.length=g.fR.length∧fZ.length=g.own.length∧tn.length=g.fD.length ∧
  (∀(p:Nat) (t:Nat × Nat) (v:Value),g.fR[p]?=some t→tr[p]?=some v→cr[t.1]?=some v) ∧
  (∀(p:Nat) (t:Nat × Nat) (v:Value),g.own[p]?=some t→fZ[p]?=some v→rvs[t.1]?=some v) ∧
  (∀(p:Nat) (t:Nat × Nat) (v:Value),g.fD[p]?=some t→tn[p]?=some v→cn[t.1]?=some v) ∧
  (∀(p:Nat) (t:Nat × Nat) (v:Value),(g.fR++g.own++g.fD)[p]?=some t→(tr++fZ++tn)[p]?=some v→fg R w v t.2) ∧
  (∀(p q h:Nat),(j9 g bn br (tr++fZ++tn))[p]?=some (some h)→(j9 g bn br (tr++fZ++tn))[q]?=some (some h)→p=q) ∧
  (∀h,some h∈j9 g bn br (tr++fZ++tn)→kY h)
def Ql (P:Program) (gl:Nat→AV) (f:Nat) (S:FS):Prop :=
 ∀(w:World) (R:Reach) (ins outs:List AV) (xs:List Value),S.G ins outs→(∀b o,R b o→b<w.heap.size) →
  (∀n,Rep R w (gl n) (.pointer (some ⟨n,0,none⟩)))→km S.sg R w ins xs →
  Calls P f ⟨xs⟩ w fun e w'=>∃x R',e = .returned x∧Ext w R (ny S.sg w xs) w' R'∧(∀b o,R' b o→b<w'.heap.size) ∧
   wx S.sg R' w' (fun b=>ny S.sg w xs b∨w.heap.size≤b) xs outs x
def Qk (P:Program) (gl:Nat→AV) (f:Nat) (S:FS) (i s:Nat):Prop :=
 ∀(w:World) (R:Reach) (ins outs:List AV) (xs:List Value) (v:Value) (es:List AV),S.G ins outs→(∀b o,R b o→b<w.heap.size) →
  (∀n,Rep R w (gl n) (.pointer (some ⟨n,0,none⟩)))→xs[i]?=some v→ins[i]?=some (.sl s es)→fg R w v s→fL R w v s (.sl s es)→eY R w (ins.set i .pt) xs →
  Calls P f ⟨xs⟩ w fun e w'=>∃x R' rvs,e = .returned x∧Ext w R (fun c=>v.ownBlock=some c) w' R'∧(∀b o,R' b o→b<w'.heap.size) ∧
   rvs.length=S.sg.bO∧x=(if S.sg.bO=1 then rvs.headD undef else .tuple ⟨rvs⟩)∧eY R' w' outs rvs∧fg R' w' v s∧fL R' w' v s (.sl s es)
def Qo (P:Program) (gl:Nat→AV) (f:Nat) (S:FS) (i s:Nat):Prop :=
 ∀(w:World) (R:Reach) (ins outs:List AV) (xs:List Value) (v:Value) (es:List AV),S.G ins outs→(∀b o,R b o→b<w.heap.size) →
  (∀n,Rep R w (gl n) (.pointer (some ⟨n,0,none⟩)))→xs[i]?=some v→ins[i]?=some (.sl s es)→fg R w v s→fL R w v s (.sl s es)→eY R w (ins.set i .pt) xs →
  Calls P f ⟨xs⟩ w fun e w'=>∃x R',e = .returned x∧Ext w R (fun c=>v.ownBlock=some c) w' R'∧(∀b o,R' b o→b<w'.heap.size) ∧
   wx S.sg R' w' (fun b=>v.ownBlock=some b∨w.heap.size≤b) xs outs x
def Qn (P:Program) (gl:Nat→AV) (f:Nat) (S:FS) (i s:Nat):Prop :=
 ∀(w:World) (R:Reach) (ins:List AV) (fs:List AV) (xs:List Value) (v:Value) (es:List AV),S.G ins [.sl s fs]→(∀b o,R b o→b<w.heap.size) →
  (∀n,Rep R w (gl n) (.pointer (some ⟨n,0,none⟩)))→xs[i]?=some v→ins[i]?=some (.sl s es)→es≠[]→fg R w v s→fL R w v s (.sl s es)→eY R w (ins.set i .pt) xs →
  Calls P f ⟨xs⟩ w fun e w'=>e = .returned (.tuple ⟨[]⟩)∧w'.os=w.os∧w'.tape=w.tape∧w'.output=w.output∧w'.heap.size=w.heap.size∧(∀b,v.ownBlock≠some b→w'.heap[b]?=w.heap[b]?)∧fg R w' v s∧fL R w' v s (.sl s fs)
def dH (P:Program) (gl:Nat→AV) (f:Nat) (S:FS):Prop :=
 (S.sg.ps=none→Ql P gl f S)∧∀i s,S.sg.ps=some (i,s)→(i<1000→Qk P gl f S i s)∧(1000≤i→(i<2000→Qo P gl f S (i - 1000) s)∧(2000≤i→Qn P gl f S (i - 2000) s))
inductive MX where
 | normal
 | exit (id:Nat)
 | ret
def mo (σ:Sg):Option (Nat × Bool)→Option Bool
 | none=>some true
 | some (t,b)=>match σ t with
  | .v (.bool x)=>some (x == b)
  | .tu []=>some false
  | _=>none
def Jm (E:Env) (m:pK) (σ dz:Sg):Prop :=
 ∃ws,(match mo σ m.gd with
  | some true=>eh E m.k (m.rs.map (cO.ev E σ)) ws
  | some false=>ws=m.ds.map fun _ => .sk
  | none=>False)∧ws.length=m.ds.length∧dz=bN σ m.ds ws
def Eu (E:Env):List pK→Sg→Sg→Prop
 | [],σ,dz=>dz=σ
 | m :: ms,σ,dz=>∃Af,Jm E m σ Af∧Eu E ms Af dz
def head (bL:List Nat) (jD:List AV):Sg:=bN (fun _ => .dead) bL jD
def Jc (σ:Sg):List Nat→List AV→Prop
 | [],[]=>True
 | k :: ks,v :: vs=>σ k=v∧Jc σ ks vs
 | _,_=>False
def Le (dz σ:Sg):Prop:=∀k,dz k=σ k∨dz k = .dead
def n9 (k k' j:Nat):Nat:=if j=lk k then lk k' else if j=lk k' then lk k else j
def DI (k k' j:Nat):Nat:=if j=k then k' else if j=k' then k else j
def jF (k k':Nat):Gh→Gh
 | .cB j s => .cB (DI k k' j) s
 | .cl ts => .cl (ts.map fun t=>(t.1,(DI k k' t.2.1,t.2.2)))
 | .pe j => .pe (DI k k' j)
 | .mX d s => .mX (n9 k k' d) s
 | .xR ts p => .xR (ts.map fun t=>(t.1,(DI k k' t.2.1,t.2.2))) p
 | g=>g
def Au {X:Type} (k k':Nat) (σ:Nat→X):Nat→X:=fun j=>σ (n9 k k' j)
def pH (E:Env):M→(MX→Sg→Prop)→Sg→Prop
 | .skip,Q,σ=>Q .normal σ
 | .eZ ms,Q,σ=>∃dz,Eu E ms σ dz∧Q .normal dz
 | .seq a b,Q,σ=>pH E a (fun e dz=>match e with | .normal=>∃Hl,Le Hl dz∧pH E b Q Hl | e=>Q e dz) σ
 | .cond x _ a b,Q,σ=>(∃t,x.ev E σ = .v (.bool t)∧(t=true→pH E a Q σ)∧(t=false→pH E b Q σ))∨(x.ev E σ = .ab∧pH E a Q σ∧pH E b Q σ)
 | .block id _ b,Q,σ=>pH E b (fun e dz=>match e with | .exit j=>if j=id then Q .normal dz else Q (.exit j) dz | e=>Q e dz) σ
 | .loop bL _ b,Q,σ=>∃(ι:Type) (jD:ι→List AV) (μ:ι→Nat) (i0:ι),Jc σ bL (jD i0) ∧
   ∀i,pH E b (fun e dz=>match e with | .normal=>∃j,μ j<μ i∧Jc dz bL (jD j) | e=>Q e dz) (head bL (jD i))
 | .exit id,Q,σ=>Q (.exit id) σ
 | .ret,Q,σ=>Q .ret σ
 | .sw k k' b,Q,σ=>pH E b (fun e dz=>match e with | .normal=>Q .normal (Au k k' dz) | e=>Q e dz) σ
 | .Hq b,Q,σ=>pH E b Q σ
 | .Hp b,Q,σ=>pH E b Q σ
 | .Hr l bL _ r b,Q,σ=>∃(ι:Type) (jD:ι→List AV) (μ:ι→Nat),
   pH E b (fun e dz=>match e with | .exit j=>if j=gid l then ∃i,Jc dz bL (jD i) else Q (.exit j) dz | e=>Q e dz) σ ∧
   ∀i,pH E r (fun e dz=>match e with | .exit j=>if j=gid l then ∃k,μ k<μ i∧Jc dz bL (jD k) else Q (.exit j) dz | e=>Q e dz) (head bL (jD i))
abbrev GL:=List (Nat × Gh)
def GL.get (G:GL) (k:Nat):Gh:=match G with
 | [] => .no
 | (j,g) :: r=>if k=j then g else GL.get r k
def GL.bN:GL→List Nat→List Gh→GL
 | G,t :: ts,x :: xs=>(t,x) :: GL.bN G ts xs
 | G,_,_=>G
def HK (k k':Nat) (G:GL):GL:=G.map fun p=>(n9 k k' p.1,jF k k' p.2)
def BI:Value→Value→Bool
 | .bool a,.bool b=>a == b
 | .int j a,.int k b=>j == k&&a == b
 | .float j a,.float k b=>j == k&&a == b
 | .complex j a b,.complex k c d=>j == k&&a == c&&b == d
 | .string a,.string b=>a.data.toList == b.data.toList
 | .func (.func f) a b,.func (.func g) c d=>f == g&&a.isEmpty&&b.isEmpty&&c.isEmpty&&d.isEmpty
 | .nilFunc,.nilFunc=>true
 | .nilIface,.nilIface=>true
 | .pointer none,.pointer none=>true
 | _,_=>false
def iV (x:Value) (y:AV):Bool :=
 match x,y with
 | .slice none 0 0,.sl _ []=>true
 | .slice none 0 0,.v (.slice none 0 0)=>true
 | .slice none 0 0,_=>false
 | x,.v z=>BI x z
 | _,_=>false
def fk:List Value→List AV→Bool
 | [],[]=>true
 | x :: xs,y :: ys=>iV x y&&fk xs ys
 | _,_=>false
def xH:Value→AV→Bool
 | .agg cs,.ag ys=>fk cs.toList ys
 | .agg _,_=>false
 | x,y=>iV x y
def bS:Operand→cO→Bool
 | .tmp t,.s u=>t == u
 | .const v,.c x=>xH v x
 | .func f,.c (.v (.func (.func g) a b))=>f == g&&a.isEmpty&&b.isEmpty
 | .global g,.g n=>g == n
 | _,_=>false
def bV:List Operand→List cO→Bool
 | [],[]=>true
 | x :: xs,y :: ys=>bS x y&&bV xs ys
 | _,_=>false
section
variable (P:Program)
def jN (t:TypeId):Option Bool:=(P.underlying t).map fun d=>match d with | .struct _=>true | .array _ _=>true | _=>false
def gU (t:TypeId):Option Nat:=(P.info? t).map (·.size)
def jy (t:TypeId):Option TypeId:=(P.underlying t).bind fun d=>match d with | .slice e=>some e | _=>none
def mz (t:TypeId) (f:Nat):Option Field:=(P.underlying t).bind fun d=>match d with | .struct fs=>fs[f]? | _=>none
def jg (t:TypeId) (n:Nat) (agg:Bool):Bool:=gU P t == some n&&jN P t == some agg&&(agg || n == 1)
def nU (t:TypeId) (z:List AV):Bool:=((P.info? t).bind (·.zero)).any fun v=>fk v.cells.toList z
def xf (t:TypeId) (k:IntKind):Bool:=match P.underlying t with | some (.int j)=>j == k | _=>false
def xh (t:TypeId):Bool:=match P.underlying t with | some .bool=>true | _=>false
def jL (t:TypeId):Bool:=match P.underlying t with | some .string=>true | _=>false
def iy (t:TypeId) (s b:Nat):Bool:=(jy P t).any fun e=>(P.info? e).any (fun i=>i.size == s&&i.bytes == b&&i.zero.any fun z=>z.cells.size == s)&&decide (0<s)
def mK (t:TypeId) (s:Nat):Bool:=(jy P t).any fun e=>gU P e == some s&&decide (0<s)
def kB (t:TypeId) (s:Nat):Bool:=(jy P t).any fun e=>(P.info? e).any (fun i=>i.size == s&&i.zero.isSome)&&decide (0<s)
def jM (t:TypeId):Bool:=(jy P t).any fun e=>xf P e .u8
def sZ (t:TypeId):Bool:=match P.underlying t with
 | some (.struct fs)=>fs.toList.all fun f=>(gU P f.type).isSome
 | some (.array _ e)=>(gU P e).isSome
 | _=>false
def ux (t:TypeId) (pl:List (Nat × Nat)) (parts:List (Nat × Operand)):Bool :=
 sZ P t&&pl.length == parts.length&&(pl.zip parts).all fun (q,p) =>
  match P.underlying t with
  | some (.struct fs)=>(fs[p.1]?).any fun f=>f.offset == q.1&&gU P f.type == some q.2
  | some (.array _ e)=>gU P e == some q.2&&p.1 * q.2 == q.1
  | _=>false
def fA (f:Nat):Bool:=(P.funcs[f]?).any fun fn=>fn.body.isSome&&!(fn.name == "runtime.NumGoroutine")
def nC:String:=((Extern.BytealgIndexByte.rows[1]?).map Prod.fst).getD ""
def mT (f:Nat) (nm:String):Bool:=(P.funcs[f]?).any fun fn=>fn.name == nm&&fn.body.isNone&&(fn.origin == "" || fn.origin == nm)
def dX (sg:Nat→c7) (o:Oper) (m:pK):Bool :=
 match m.k with
 | .mv=>match o.op,m.rs with
  | .move x,rs=>bV [x] rs
  | .assign x,rs=>bV [x] rs
  | _,_=>false
 | .nl _ _=>match o.op,m.rs with
  | .move (.const (.slice none 0 0)),[_]=>true
  | .assign (.const (.slice none 0 0)),[_]=>true
  | _,_=>false
 | .CT _ _=>match o.op,m.rs with
  | .move (.const (.slice none 0 0)),[_]=>true
  | .assign (.const (.slice none 0 0)),[_]=>true
  | _,_=>false
 | .pick=>match o.op,m.rs with
  | .pick c a b,rs=>bV [c,a,b] rs
  | _,_=>false
 | .bin b=>match o.op,m.rs with
  | .binOp b' _ x y _,rs=>b == b'&&bV [x,y] rs
  | _,_=>false
 | .be neg=>match o.op,m.rs with
  | .binOp o' t x y _,rs=>xh P t&&o' == (if neg then .neq else .eql)&&bV [x,y] rs
  | _,_=>false
 | .un b=>match o.op,m.rs with
  | .unOp b' _ x,rs=>b == b'&&bV [x] rs
  | _,_=>false
 | .ci k=>match o.op,m.rs with
  | .convert s d x,rs=>xf P d k&&(P.underlying s).isSome&&bV [x] rs
  | _,_=>false
 | .cs=>match o.op,m.rs with
  | .convert s d x,rs=>jL P s&&jL P d&&bV [x] rs
  | _,_=>false
 | .sb=>match o.op,m.rs with
  | .convert s d x,rs=>jL P s&&jM P d&&bV [x] rs
  | _,_=>false
 | .Jn _=>match o.op,m.rs with
  | .convert s d x,r :: _=>jL P s&&jM P d&&bS x r
  | _,_=>false
 | .bs=>match o.op,m.rs with
  | .convert s d x,rs=>jM P s&&jL P d&&bV [x] rs
  | _,_=>false
 | .len=>match o.op,m.rs with
  | .call { callee := .builtin .len,args,argTypes },rs=>argTypes.toList.length == 1&&argTypes.toList.all (fun t=>(jy P t).isSome)&&args.toList.length == 1&&bV args.toList rs
  | _,_=>false
 | .vT=>match o.op,m.rs with
  | .call { callee := .builtin .len,args,argTypes },rs=>argTypes.toList.length == 1&&argTypes.toList.all (fun t=>jL P t)&&args.toList.length == 1&&bV args.toList rs
  | _,_=>false
 | .mn=>match o.op,m.rs with
  | .call { callee := .builtin .min,args,.. },rs=>args.toList.length == 2&&bV args.toList rs
  | _,_=>false
 | .mx=>match o.op,m.rs with
  | .call { callee := .builtin .max,args,.. },rs=>args.toList.length == 2&&bV args.toList rs
  | _,_=>false
 | .ix s=>match o.op,m.rs with
  | .indexAddr t x i,rs=>mK P t s&&bV [x,i] rs
  | _,_=>false
 | .si=>match o.op,m.rs with
  | .index t x i,rs=>jL P t&&bV [x,i] rs
  | _,_=>false
 | .ai n s agg=>match o.op,m.rs with
  | .index t x i,rs=>(match P.underlying t with | some (.array n' e)=>n == n'&&jg P e s agg | _=>false)&&bV [x,i] rs
  | _,_=>false
 | .fe o' n agg=>match o.op,m.rs with
  | .field t x f,rs=>(mz P t f).any (fun fl=>fl.offset == o'&&jg P fl.type n agg)&&bV [x] rs
  | _,_=>false
 | .sc s lo hi=>match o.op,m.rs with
  | .slice t x l h none,rs=>mK P t s&&l.isSome == lo&&h.isSome == hi&&bV (x :: (l.toList++h.toList)) rs
  | _,_=>false
 | .ss lo hi=>match o.op,m.rs with
  | .slice t x l h none,rs=>jL P t&&l.isSome == lo&&h.isSome == hi&&bV (x :: (l.toList++h.toList)) rs
  | _,_=>false
 | .bl s n=>match o.op,m.rs with
  | .buildSlice t len parts,rs=>kB P t s&&len == n&&decide (n * s≤2 ^ 24)&&parts.toList.map (·.1) == List.range n&&bV (parts.toList.map (·.2)) rs
  | _,_=>false
 | .blt s n _=>match o.op,m.rs with
  | .buildSlice t len parts,rs=>kB P t s&&len == n&&decide (n * s≤2 ^ 24)&&parts.toList.map (·.1) == List.range n&&bV (parts.toList.map (·.2)) (rs.take n)&&rs.length == n+1
  | _,_=>false
 | .bd z pl=>match o.op,m.rs with
  | .build t parts,rs=>nU P t z&&ux P t pl parts.toList&&bV (parts.toList.map (·.2)) rs
  | _,_=>false
 | .al _ z ts=>match o.op,m.rs with
  | .alloc t,_=>nU P t z&&ts.all fun q=>match z[q.1]? with | some (.sl _ [])=>true | _=>false
  | _,_=>false
 | .bx _=>match o.op,m.rs with
  | .box _ x,r :: _=>bS x r
  | _,_=>false
 | .ld _ _ n agg=>match o.op,m.rs with
  | .load t x,r :: _=>jg P t n agg&&bS x r
  | _,_=>false
 | .st _ _ n=>match o.op,m.rs with
  | .store t x v,[p,_,r]=>gU P t == some n&&bS x p&&bS v r
  | _,_=>false
 | .lr n agg=>match o.op,m.rs with
  | .load t x,[r]=>jg P t n agg&&bS x r
  | _,_=>false
 | .fa _ _ d=>match o.op,m.rs with
  | .fieldAddr t x f,[r]=>(mz P t f).any (fun fl=>fl.offset == d&&(gU P fl.type).any (fun n=>decide (0<n)))&&bS x r
  | _,_=>false
 | .fr d n agg=>match o.op,m.rs with
  | .fieldAddr t x f,[r]=>(mz P t f).any (fun fl=>fl.offset == d&&jg P fl.type n agg&&decide (0<n))&&bS x r
  | _,_=>false
 | .nc _ _=>match o.op,m.rs with
  | .nilCheck x,[r]=>bS x r
  | _,_=>false
 | .N8=>match o.op,m.rs with
  | .nilCheck x,[r]=>bS x r
  | _,_=>false
 | .ex i=>match o.op,m.rs with
  | .extract x j,[r]=>i == j&&bS x r
  | _,_=>false
 | .ap _ _ s b=>match o.op,m.rs with
  | .call { callee := .builtin .append,args,argTypes },[r,q,_,_]=>bV args.toList [r,q]&&argTypes.toList.length == 2&&argTypes.toList.all (fun t=>iy P t s b)
  | _,_=>false
 | .Kj _ _ b=>match o.op,m.rs with
  | .call { callee := .builtin .append,args,argTypes },[r,q,_,_]=>bV args.toList [r,q]&&(match argTypes.toList with | [t,u]=>iy P t 1 b&&jM P t&&jL P u | _=>false)
  | _,_=>false
 | .an _ s b=>match o.op,m.rs with
  | .call { callee := .builtin .append,args,argTypes },[q,_]=>(match args.toList with | [.const (.slice none 0 0),x]=>bS x q | _=>false)&&argTypes.toList.length == 2&&argTypes.toList.all (fun t=>iy P t s b)
  | _,_=>false
 | .Kl _ b=>match o.op,m.rs with
  | .call { callee := .builtin .append,args,argTypes },[q,_]=>(match args.toList with | [.const (.slice none 0 0),x]=>bS x q | _=>false)&&(match argTypes.toList with | [t,u]=>iy P t 1 b&&jM P t&&jL P u | _=>false)
  | _,_=>false
 | .mk _ s b z=>match o.op,m.rs with
  | .makeSlice t l c,[r,q,_]=>iy P t s b&&bV [l,c] [r,q]&&(jy P t).any (fun e=>nU P e z.cells&&jN P e == some z.pI)
  | _,_=>false
 | .HZ _=>match o.op,m.rs with
  | .convert s d x,r :: _=>jL P s&&jM P d&&bS x r
  | _,_=>false
 | .yE _=>match o.op,m.rs with
  | .call { callee := .builtin .len,args,argTypes },r :: _=>argTypes.toList.length == 1&&argTypes.toList.all (fun t=>(jy P t).isSome)&&bV args.toList [r]
  | _,_=>false
 | .lP _ s=>match o.op,m.rs with
  | .indexAddr t x i,[r,q,_]=>mK P t s&&bV [x,i] [r,q]
  | _,_=>false
 | .KU _ d=>match o.op,m.rs with
  | .fieldAddr t x f,[r]=>(mz P t f).any (fun fl=>fl.offset == d&&(gU P fl.type).any (fun n=>decide (0<n)))&&bS x r
  | _,_=>false
 | .rQ _ _ n agg=>match o.op,m.rs with
  | .load t x,r :: _=>jg P t n agg&&bS x r
  | _,_=>false
 | .sL _ _ n=>match o.op,m.rs with
  | .store t x v,[p,_,r]=>gU P t == some n&&bS x p&&bS v r
  | _,_=>false
 | .sM _ _=>match o.op,m.rs with
  | .move x,[r,_]=>bS x r
  | .assign x,[r,_]=>bS x r
  | _,_=>false
 | .pQ f n bO i _ s=>match o.op,m.rs with
  | .call { callee := .value (.func g),args,.. },rs=>f == g&&fA P f&&decide ((sg f).ps=some (i,s)∧(sg f).bO=bO)&&bV args.toList (rs.take n)&&args.size == n&&decide (i<n∧i<1000)
  | _,_=>false
 | .qC f n bO i s=>match o.op,m.rs with
  | .call { callee := .value (.func g),args,.. },rs=>f == g&&fA P f&&decide ((sg f).ps=some (i,s)∧(sg f).bO=bO)&&bV args.toList rs&&args.size == n&&decide (i<1000) &&
    (match args.toList[i]? with | some (.const (.slice none 0 0))=>true | _=>false)
  | _,_=>false
 | .Jr _ _ s b=>match o.op,m.rs with
  | .call { callee := .builtin .append,args,argTypes },[r,q,_,_]=>bV args.toList [r,q]&&argTypes.toList.length == 2&&argTypes.toList.all (fun t=>iy P t s b)
  | _,_=>false
 | .KT _=>match o.op,m.rs with
  | .binOp .eql t x (.const (.slice none 0 0)) _,[r,_]=>bS x r&&(jy P t).isSome
  | _,_=>false
 | .Kk _ _ _ s b=>match o.op,m.rs with
  | .call { callee := .builtin .append,args,argTypes },[r,q,_,_,_]=>bV args.toList [r,q]&&argTypes.toList.length == 2&&argTypes.toList.all (fun t=>iy P t s b)
  | _,_=>false
 | .Ki _ _ s b=>match o.op,m.rs with
  | .call { callee := .builtin .append,args,argTypes },[r,q,_,_]=>bV args.toList [r,q]&&argTypes.toList.length == 2&&argTypes.toList.all (fun t=>iy P t s b)
  | _,_=>false
 | .Jz _ _=>match o.op,m.rs with
  | .move x,[r,_,_]=>bS x r
  | .assign x,[r,_,_]=>bS x r
  | _,_=>false
 | .Jl _ _=>match o.op,m.rs with
  | .store t x v,[p,_,r]=>gU P t == some 1&&bS x p&&bS v r
  | _,_=>false
 | .JA _ _ n _ _ _=>match o.op,m.rs with
  | .load t x,r :: _=>jg P t n true&&bS x r
  | _,_=>false
 | .rl=>match o.op,m.rs with
  | .call { callee := .builtin .real,args,.. },rs=>bV args.toList rs&&args.size == 1
  | _,_=>false
 | .im=>match o.op,m.rs with
  | .call { callee := .builtin .imag,args,.. },rs=>bV args.toList rs&&args.size == 1
  | _,_=>false
 | .cx=>match o.op,m.rs with
  | .call { callee := .builtin .complex,args,.. },rs=>bV args.toList rs&&args.size == 2
  | _,_=>false
 | .cf=>match o.op,m.rs with
  | .convert s d x,rs=>(P.underlying s).isSome&&(match P.underlying d with | some (.float .f64)=>true | _=>false)&&bV [x] rs
  | _,_=>false
 | .fc=>match o.op,m.rs with
  | .convert s d x,rs=>(P.underlying s).isSome&&(match P.underlying d with | some (.int .i64)=>true | _=>false)&&bV [x] rs
  | _,_=>false
 | .MP=>match o.op,m.rs with
  | .call { callee := .value (.func g),args,.. },rs=>mT P g "math.archTrunc" && bV args.toList rs&&args.size == 1
  | _,_=>false
 | .yO _ s b z=>match o.op,m.rs with
  | .makeSlice t l c,[r,q,_]=>iy P t s b&&bV [l,c] [r,q]&&(jy P t).any (fun e=>nU P e z.cells&&jN P e == some z.pI)
  | _,_=>false
 | .DB s n _=>match o.op,m.rs with
  | .buildSlice t len parts,rs=>kB P t s&&len == n&&decide (n * s≤2 ^ 24)&&parts.toList.map (·.1) == List.range n&&bV (parts.toList.map (·.2)) (rs.take n)&&rs.length == n+1
  | _,_=>false
 | .H0 _ _ s=>match o.op,m.rs with
  | .slice t x none (some u) none,[r,q,_,_]=>mK P t s&&bV [x,u] [r,q]
  | _,_=>false
 | .ls _ _=>match o.op,m.rs with
  | .store t x v,[p,_,r]=>gU P t == some 1&&bS x p&&bS v r
  | _,_=>false
 | .nK f n _=>match o.op,m.rs with
  | .call { callee := .value (.func g),args,.. },rs=>f == g&&fA P f&&decide (sg f={ own:=[(0,1)] })&&bV args.toList (rs.take n)&&args.size == n
  | _,_=>false
 | .nI f n i _ s=>match o.op,m.rs with
  | .call { callee := .value (.func g),args,.. },rs=>f == g&&fA P f&&decide ((sg f).ps=some (2000+i,s))&&bV args.toList (rs.take n)&&args.size == n&&decide (i<n)
  | _,_=>false
 | .oO f n bO i _ s=>match o.op,m.rs with
  | .call { callee := .value (.func g),args,.. },rs=>f == g&&fA P f&&decide ((sg f).ps=some (1000+i,s)∧(sg f).bO=bO∧(sg f).new=none∧(sg f).ref=none)&&bV args.toList (rs.take n)&&args.size == n&&decide (i<n∧i<1000)
  | _,_=>false
 | .lZ f n i _ _=>match o.op,m.rs with
  | .call { callee := .value (.func g),args,.. },rs=>f == g&&fA P f&&decide (sg f={ ps:=some (1000+i,1),own:=[(0,1)] })&&bV args.toList (rs.take n)&&args.size == n&&decide (i<n∧i<1000)
  | _,_=>false
 | .BP _ _ s b=>match o.op,m.rs with
  | .call { callee := .builtin .append,args,argTypes },[r,q,_,_]=>bV args.toList [r,q]&&argTypes.toList.length == 2&&argTypes.toList.all (fun t=>iy P t s b)
  | _,_=>false
 | .re f n bO=>match o.op,m.rs with
  | .call { callee := .value c,args,.. },r :: rs=>fA P f&&decide ((sg f).plain=true∧(sg f).bO=bO)&&bS c r&&bV args.toList rs&&args.size == n
  | _,_=>false
 | .la _ n s=>match o.op,m.rs with
  | .indexAddr t x i,[r,q,_]=>(match P.underlying t with | some (.array n' e)=>n' == n&&gU P e == some s | _=>false)&&bV [x,i] [r,q]
  | _,_=>false
 | .ll _ _=>match o.op,m.rs with
  | .load t x,r :: _=>jg P t 1 false&&bS x r
  | _,_=>false
 | .MT _=>true
 | .pO f n bO i _=>match o.op,m.rs with
  | .call { callee := .value (.func g),args,.. },rs=>f == g&&fA P f&&decide ((sg f).plain=true∧(sg f).bO=bO)&&bV args.toList (rs.take n)&&args.size == n&&decide (i<n)
  | _,_=>false
 | .DN _ _=>match o.op,m.rs with
  | .box _ x,r :: _=>bS x r
  | _,_=>false
 | .DJ _ o' n ts=>match o.op,m.rs with
  | .store t x v,r :: _ :: q :: _=>gU P t == some n&&bS x r&&bS v q&&ts.all fun t=>decide (o'≤t.1∧t.1<o'+n)
  | _,_=>false
 | .N7=>match o.op,m.rs with
  | .binOp .eql t x (.const (.slice none 0 0)) _,[r]=>bS x r&&(jy P t).isSome
  | _,_=>false
 | .Nb=>match o.op,m.rs with
  | .call { callee := .value (.func g),args,.. },rs=>mT P g nC&&bV args.toList rs&&args.size == 2
  | _,_=>false
 | .call f c=>match o.op,m.rs with
  | .call { callee := .value (.func g),args,.. },rs=>f == g&&fA P f&&c.fits (sg f)&&bV args.toList (rs.take c.n)&&args.size == c.n
  | _,_=>false
def small (nt:Nat) (l:List Operand):Bool:=l.all fun x=>match x with | .tmp t=>decide (t<nt) | _=>true
def cj (nt:Nat) (dst:Option Nat) (m:pK):Bool :=
 let slot:=fun x=>match x with | cO.s t=>some t | _=>none
 let tail:=fun (n:Nat) (ks:List Nat)=>m.rs.length == n+ks.length&&(m.rs.drop n).map slot == ks.map some
 let mr:=fun x=>decide (nt≤x)&&decide (x<1000000)
 let mn:=fun x=>decide (nt≤x)&&decide (x<999999)
 let mZ:=fun (l:List Nat)=>match dst with | some d=>decide (d<nt)&&m.ds == d :: l | none=>false
 match m.k with
 | .al m0 _ ts=>mn m0&&tail 0 (m0 :: ts.map fun t=>lk t.2.1)&&mZ (m0 :: ts.map fun t=>lk t.2.1)
 | .bx m0=>mn m0&&tail 1 [m0]&&mZ [m0]
 | .pO _ n _ _ m0=>mr m0&&tail n [m0]&&mZ []
 | .MT b=>match b with | true=>mZ [] | false=>dst.isNone&&m.ds == []
 | .DN m0 ts=>mn m0&&tail 1 (m0 :: ts.map fun t=>lk t.2.1)&&mZ (m0 :: ts.map fun t=>lk t.2.1)
 | .DJ m0 _ _ ts=>mr m0&&dst.isNone&&m.ds == m0 :: (ts.map fun t=>lk t.2.1)&&tail 3 (ts.map fun t=>lk t.2.1)&&(match m.rs with | _ :: .s t :: _=>t == m0 | _=>false)
 | .ld m0 _ _ _=>mr m0&&tail 1 [m0]&&mZ []
 | .st m0 _ _=>mr m0&&dst.isNone&&m.ds == [m0]&&(match m.rs with | [_,.s t,_]=>t == m0 | _=>false)
 | .Jn k=>tail 1 [lk k]&&mZ [lk k]
 | .blt _ n k=>tail n [lk k]&&mZ [lk k]
 | .ap k d _ _=>tail 2 [lk k,lk d]&&mZ [lk k,lk d]
 | .Kj k d _=>tail 2 [lk k,lk d]&&mZ [lk k,lk d]
 | .an d _ _=>tail 1 [lk d]&&mZ [lk d]
 | .Kl d _=>tail 1 [lk d]&&mZ [lk d]
 | .mk d _ _ _=>tail 2 [lk d]&&mZ [lk d]
 | .nl d _=>tail 0 [lk d]&&mZ [lk d]
 | .CT d _=>tail 0 [lk d]&&mZ [lk d]
 | .HZ k=>tail 1 [lk k]&&mZ [lk k]
 | .yE k=>tail 1 [lk k]&&mZ []
 | .lP k _=>tail 2 [lk k]&&mZ []
 | .rQ k _ _ _=>tail 1 [lk k]&&mZ []
 | .sL k _ _=>dst.isNone&&m.ds == [lk k]&&(match m.rs with | [_,.s t,_]=>t == lk k | _=>false)
 | .sM k _=>decide (k≠999999)&&tail 1 [lk k]&&(match m.rs with | .s j :: _=>decide (j<nt)&&mZ [j,lk k] | _=>false)
 | .pQ _ n _ _ k _=>tail n [lk k]&&mZ []
 | .qC _ n _ _ _=>m.rs.length == n&&mZ []
 | .Jr k d _ _=>tail 2 [lk k,lk d]&&mZ [lk k,lk d]
 | .KT k=>tail 1 [lk k]&&mZ []
 | .Kk k d q _ _=>tail 2 [lk k,lk d,lk q]&&mZ [lk k,lk d]
 | .Ki k d _ _=>tail 2 [lk k,lk d]&&mZ [lk k,lk d]
 | .Jz k _=>decide (k≠999999)&&tail 2 [lk k]&&(match m.rs with | r :: .s j :: _=>decide (j<nt)&&(match r with | .s t=>t != j | _=>true)&&mZ [j,lk k] | _=>false)
 | .Jl m0 _=>mr m0&&dst.isNone&&m.ds == [m0]&&(match m.rs with | [_,.s t,_]=>t == m0 | _=>false)
 | .JA m0 _ _ _ k _=>decide (k≠999999)&&mr m0&&tail 1 [m0,lk k]&&mZ [m0,lk k]
 | .la m0 _ _=>mr m0&&tail 2 [m0]&&mZ []
 | .yO k _ _ _=>tail 2 [lk k]&&mZ [lk k]
 | .DB _ n k=>tail n [lk k]&&mZ [lk k]
 | .BP k d _ _=>decide (k≠999999)&&tail 2 [lk k,lk d]&&mZ [lk k,lk d]
 | .H0 k d _=>decide (k≠999999)&&tail 2 [lk k,lk d]&&mZ [lk k,lk d]
 | .ls m0 _=>mr m0&&dst.isNone&&m.ds == [m0]&&(match m.rs with | [_,.s t,_]=>t == m0 | _=>false)
 | .nK _ n k=>tail n [lk k]&&mZ [lk k]
 | .oO _ n _ _ k _=>decide (k≠999999)&&tail n [lk k]&&mZ [lk k]
 | .nI _ n _ k _=>decide (k≠999999)&&tail n [lk k]&&mZ [lk k]
 | .lZ _ n _ k d=>decide (k≠999999)&&tail n [lk k,lk d]&&mZ [lk k,lk d]
 | .ll m0 _=>mr m0&&tail 1 [m0]&&mZ []
 | .call _ c=>c.jl.all mr&&tail c.n (c.jl++c.mj)&&mZ (c.jl++c.mj)&&decide ((c.jl++c.mj).Nodup)
 | _=>mZ []
def tK (nt:Nat) (ops:Array Oper) (o:Oper) (m:pK):Bool :=
 match o.guard,m.gd with
 | none,none=>true
 | some (j,b),some (t,b')=>b == b'&&decide (t<nt)&&(match (ops[j]?).bind (·.dst) with | some d=>d == t | none=>false)&&m.ds.length == 1&&o.dst.isSome
 | _,_=>false
def pK.reads (m:pK):List Nat:=m.rs.filterMap (fun x=>match x with | .s t=>some t | _=>none)++m.gd.toList.map (·.1)
def Cq (m n:pK):Bool:=m.ds.any (fun d=>n.reads.contains d || n.ds.contains d) || n.ds.any (fun d=>m.reads.contains d)
def tl (o:Oper):List Nat:=(o.after.toList.filter (Region.binds .any)).map (·.on)
def Cs (ops:List Oper):List (List Nat) :=
 ops.foldl (fun acc o=>acc++[(tl o).flatMap fun e=>e :: (acc.getD e [])]) []
def IY (ops:List Oper):Bool:=ops.zipIdx.all fun (o,i)=>(tl o).all fun e=>decide (e<i)
def wX (ops:List Oper) (ms:List pK):Bool :=
 IY ops&&(let b:=Cs ops;ms.zipIdx.all fun (m,i)=>(ms.take i).zipIdx.all fun (n,j)=>!Cq n m || (b.getD i []).contains j)
def kj {A B:Type} (f:A→B→Bool):List A→List B→Bool
 | [],[]=>true
 | a :: as,b :: bs=>f a b&&kj f as bs
 | _,_=>false
def EA (sg:Nat→c7) (nt:Nat) (ops:Array Oper) (draw:Bool) (ms:List pK):Bool :=
 kj (fun o m=>dX P sg o m&&cj nt o.dst m&&tK nt ops o m&&small nt o.op.operands.toList) ops.toList ms&&(!draw || (P.follows .mixedOrders&&wX ops.toList ms))
def Kb (m:pK) (G:GL):Option GL:=(dt m.k (m.rs.map (cO.gh G.get))).bind fun gs=>if gs.length=m.ds.length then some (GL.bN G m.ds gs) else none
def Dm:List pK→GL→Option GL
 | [],G=>some G
 | m :: ms,G=>(Kb m G).bind (Dm ms)
def BT (G H:GL):List (Nat × Nat) :=
 H.flatMap fun (k,h)=>match h,G.get k with
  | .cB i _,.cB j _=>[(i,j)]
  | .cl ts,.cl us=>ts.flatMap fun t=>match us.find? (fun u=>u.1 == t.1) with | some u=>[(t.2.1,u.2.1)] | none=>[]
  | .pv _,_=>[(k - 1000000,k - 1000000)]
  | _,_=>[]
def kV (G H:GL):Bool :=
 let ρ:=BT G H
 let nm:=fun i=>(ρ.find? (fun p=>p.1 == i)).map (·.2)
 (!(G.get (lk 999999)).td || (H.get (lk 999999)).td)&&ρ.all (fun p=>ρ.all fun q=>(p.1 == q.1) == (p.2 == q.2)) &&
 H.all fun (k,h)=>match h,G.get k with
  | .no,_=>true
  | .ptr m o,.ptr m' o'=>m == m'&&o == o'&&(match H.get m with | .cl _=>true | _=>false)
  | .cB i s,.cB j s'=>s == s'&&nm i == some j&&(H.get (lk i)).ej
  | .cl ts,.cl us=>ts.all fun t=>(match us.find? (fun u=>u.1 == t.1) with | some u=>nm t.2.1 == some u.2.1&&t.2.2 == u.2.2 | none=>false)&&(H.get (lk t.2.1)).ej
  | .live s,_=>ρ.any fun p=>lk p.1 == k&&G.get (lk p.2) == .live s
  | .pv s,.pv s'=>s == s'&&ρ.any fun p=>lk p.1 == k&&p.1 == p.2
  | .pv s,.mX d s'=>s == s'&&!(H.get d).ej&&ρ.any fun p=>lk p.1 == k&&p.1 == p.2
  | .used,_=>decide (1000000≤k)
  | _,_=>false
mutual
def eJ (sg:Nat→c7) (nt:Nat) (rt:GL→Bool):Code→M→GL→Option (Option GL × List (Nat × GL))
 | c,.sw k k' x,G=>if k≠999999∧k'≠999999 then (eJ sg nt rt c x G).map fun r=>(r.1.map (HK k k'),r.2) else none
 | .skip,.skip,G=>some (some G,[])
 | .label _,.skip,G=>some (some G,[])
 | .region _ ops d,.eZ ms,G=>if EA P sg nt ops d ms then (Dm ms G).map fun G'=>(some G',[]) else none
 | .seq a b,.seq x y,G=>(eJ sg nt rt a x G).bind fun r=>match r.1 with
  | none=>some (none,r.2)
  | some G1=>(eJ sg nt rt b y G1).map fun q=>(q.1,r.2++q.2)
 | .cond c a b,.cond x H y z,G=>if bS c x&&small nt [c] then (eJ sg nt rt a y G).bind fun r=>(eJ sg nt rt b z G).bind fun q =>
   match r.1,q.1 with
   | none,n=>some (n,r.2++q.2)
   | n,none=>some (n,r.2++q.2)
   | some A,some B=>if kV A H&&kV B H then some (some H,r.2++q.2) else none
  else none
 | .block i b,.block j H y,G=>if i=j∧i<1000000 then (eJ sg nt rt b y G).bind fun r =>
   if (r.1.toList++(r.2.filter (·.1 == i)).map (·.2)).all (kV · H) then
    some (if r.1.isNone&&(r.2.filter (·.1 == i)).isEmpty then none else some H,r.2.filter (·.1 != i)) else none
  else none
 | .loop b,.loop bL H y,G=>if kV G H&&H.all (fun p=>bL.contains p.1 || decide (1000000≤p.1))&&decide bL.Nodup then
   (eJ sg nt rt b y H).bind fun r=>if r.1.all (kV · H) then some (none,r.2) else none
  else none
 | .exit i,.exit j,G=>if i=j∧i<1000000 then some (none,[(i,G)]) else none
 | .goto l,.exit j,G=>if j=gid l then some (none,[(j,G)]) else none
 | .ret,.ret,G=>if rt G then some (none,[]) else none
 | .scope c,.Hq x,G=>(qf sg nt rt c x G).bind fun r=>if r.2.all (fun p=>decide (p.1<1000000)) then some r else none
 | _,_,_=>none
def qf (sg:Nat→c7) (nt:Nat) (rt:GL→Bool):Code→M→GL→Option (Option GL × List (Nat × GL))
 | c,.Hp b,G=>eJ sg nt rt c b G
 | c,.Hr l _ H r b,G=>match findLabel c l with
  | some rest=>(eJ sg nt rt rest r H).bind fun q=>(qf sg nt rt c b G).bind fun p =>
   if ((q.2++p.2).filter (·.1 == gid l)).all (fun x=>kV x.2 H)&&(q.1.isNone || p.1.isNone) then
    some (if q.1.isNone then p.1 else q.1,(q.2++p.2).filter (·.1 != gid l)) else none
  | none=>none
 | _,_,_=>none
end
end
end Go.Eng
namespace Go.Eng
open Go.RowKit
theorem bE {X:Type} (σ:Nat→X) (t:Nat) (x:X):cF σ t x t=x:=by simp [cF]
theorem bF {X:Type} (σ:Nat→X) {t k:Nat} (x:X) (h:k≠t):cF σ t x k=σ k:=by simp [cF,h]
theorem iP.lt {R:Reach} {w:World} {x:AV} {b:Nat} {cs:List Value} (h:iP R w x b cs):b<w.heap.size:=by
 obtain ⟨_,h,_⟩:=h
 exact (Array.getElem?_eq_some_iff.1 h).1
theorem iP.CR {R:Reach} {w:World} {x:AV} {b:Nat} {cs:List Value} (h:iP R w x b cs):∀o,¬R b o:=h.elim fun _ h=>h.2.2
theorem iP.ag {R:Reach} {w:World} {DE:List AV} {b:Nat} {cs:List Value} (h:iP R w (.ag DE) b cs):∃elem,w.heap[b]?=some (.cells ⟨cs⟩ elem (0,0))∧dw R w DE (cs.take DE.length):=by
 obtain ⟨elem,h1,h2 | ⟨XG,h2,h3⟩,_⟩:=h
 ·cases h2
 ·cases h2;exact ⟨elem,h1,h3⟩
theorem fg.lt {R:Reach} {w:World} {x:Value} {s g:Nat} (h:fg R w x s) (hg:x.ownBlock=some g):g<w.heap.size:=by
 rcases h with rfl | ⟨g',n,cap,cur,e,fz,rfl,h,_⟩
 ·simp [Value.ownBlock] at hg
 ·simp [Value.ownBlock] at hg;subst hg;exact (Array.getElem?_eq_some_iff.1 h).1
theorem iP.bL {R R':Reach} {w w':World} {x:AV} {b:Nat} {cs:List Value} (h:iP R w x b cs) (k:fh R w R' w') (hh:w'.heap[b]?=w.heap[b]?) (hr:∀o,¬R' b o):iP R' w' x b cs:=by
 obtain ⟨e,h1,h2,_⟩:=h
 exact ⟨e,hh.trans h1,h2.imp id (fun ⟨DE,h2,h3⟩=>⟨DE,h2,h3.mono k⟩),hr⟩
theorem fg.bL {R R':Reach} {w w':World} {x:Value} {s:Nat} (h:fg R w x s) (hh:∀g,x.ownBlock=some g→w'.heap[g]?=w.heap[g]?∧∀o,R' g o→R g o):fg R' w' x s:=by
 rcases h with rfl | ⟨g,n,cap,cur,e,fz,rfl,h1,h2,h3,h4,h5,h6⟩
 ·exact .inl rfl
 ·obtain ⟨e1,e2⟩:=hh g rfl
  exact .inr ⟨g,n,cap,cur,e,fz,rfl,e1.trans h1,h2,h3,h4,h5,fun o ho hr=>h6 o ho (e2 o hr)⟩
theorem iw.congr {D D':j0} {γ:Ga} {g:Gh} {x:Value} (hm:eK γ g) (C3:∀m,(γ m).eQ=true→D'.β m=D.β m) (pJ:∀k,(γ (lk k)).ej=true→D'.τ (lk k)=D.τ (lk k)) (h:iw D g x):iw D' g x:=by
 cases g with
 | ptr m o=>simp only [iw,eK] at *;rw [C3 m hm];exact h
 | cB k s=>simp only [iw,eK] at *;rw [pJ k hm];exact h
 | pe k=>simp only [iw,eK] at *;rw [pJ k hm];exact h
 | pm m=>simp only [iw,eK] at *;rw [C3 m hm];exact h
 | xR ts p =>
  simp only [iw,eK] at *
  obtain ⟨ys,h1,h2,h3⟩:=h
  exact ⟨ys,h1,fun t ht=>by rw [pJ _ (hm.1 t ht)];exact h2 t ht,fun q hq=>by rw [C3 _ (hm.2 q hq)];exact h3 q hq⟩
 | _=>trivial
theorem fL.bL {R R':Reach} {w w':World} {v:Value} {s:Nat} {x:AV} (h:fL R w v s x) (k:fh R w R' w') (hh:∀g,v.ownBlock=some g→w'.heap[g]?=w.heap[g]?∧∀o,R' g o→R g o):fL R' w' v s x:=by
 refine ⟨fun g hg o hr=>h.1 g hg o ((hh g hg).2 o hr),h.2.imp id ?_⟩
 rintro ⟨es,e1,e2,e3⟩
 refine ⟨es,e1,e2,e3.imp id ?_⟩
 rintro ⟨g,cap,cur,e,fz,rfl,f1,f2⟩
 exact ⟨g,cap,cur,e,fz,rfl,(hh g rfl).1.trans f1,f2.mono k⟩
theorem By.bL {D D':j0} {σ dz:Sg} {γ nT:Ga} {w w':World} (h:By D σ γ w) (k:fh D.R w D'.R w')
  (hp:∀key,(nT key).td=true→γ key=nT key∧dz key=σ key∧D'.τ key=D.τ key∧∀g,(D.τ key).ownBlock=some g→w'.heap[g]?=w.heap[g]?∧∀o,D'.R g o→D.R g o):By D' dz nT w':=by
 intro key s hk
 obtain ⟨e1,e2,e3,e4⟩:=hp key (by cases e:nT key <;> rw [e] at hk <;> simp [Gh.CL] at hk <;> rfl)
 have:=h key s ((congrArg Gh.CL e1).trans hk)
 rw [e2,e3]
 refine ⟨this.1.bL e4,this.2.1.bL k e4,fun d s1 s' h1 h2=>?_⟩
 obtain ⟨f1,f2,_,_⟩:=hp d (by rw [h2];rfl)
 rw [e2,f2]
 exact this.2.2 d s1 s' (e1.trans h1) (f1.trans h2)
theorem By.same {D D':j0} {σ dz:Sg} {γ nT:Ga} {w:World} (h:By D σ γ w) (hR:D'.R=D.R) (hp:∀key,(nT key).td=true→γ key=nT key∧dz key=σ key∧D'.τ key=D.τ key):By D' dz nT w :=
 h.bL (hR ▸ fh.refl _ _) fun key hk=>⟨(hp key hk).1,(hp key hk).2.1,(hp key hk).2.2,fun _ _=>⟨rfl,fun o hr=>hR ▸ hr⟩⟩
theorem Gh.qB {g:Gh} {s:Nat} (h:g.CL=some s):g.td=true:=by cases g <;> simp [Gh.CL] at h <;> rfl
theorem Gh.LH {g:Gh} (h:g.td=true):g.ej=true∧g.eQ=false:=by cases g <;> simp [Gh.td] at h <;> exact ⟨rfl,rfl⟩
theorem Ext.refl (w:World) (R:Reach) (io:Nat→Prop):Ext w R io w R:=⟨rfl,rfl,rfl,Nat.le_refl _,fun _ _ _=>rfl,fh.refl _ _,fun _ _ h => .inl h⟩
theorem Ext.trans {w0 w1 w2:World} {R0 R1 R2:Reach} {io TW:Nat→Prop} (h:Ext w0 R0 io w1 R1) (k:Ext w1 R1 TW w2 R2) (hi:∀b,TW b→io b∨w0.heap.size≤b):Ext w0 R0 io w2 R2 where
 os:=k.os.trans h.os
 tape:=k.tape.trans h.tape
 output:=k.output.trans h.output
 size:=Nat.le_trans h.size k.size
 heap b hb hn:=(k.heap b (Nat.lt_of_lt_of_le hb h.size) (fun c=>by rcases hi b c with c | c <;> first | exact hn c | omega)).trans (h.heap b hb hn)
 bL:=h.bL.trans k.bL
 qx b o hr:=by
  rcases k.qx b o hr with r | r | r
  ·exact h.qx b o r
  ·exact .inr (.inl (Nat.le_trans h.size r))
  ·rcases hi b r with r | r
   ·exact .inr (.inr r)
   ·exact .inr (.inl r)
section
variable {C:Ctx} {D:j0} {σ:Sg} {γ:Ga} {a:Act} {w:World}
theorem fN {key:Nat} (h:(γ key).td=true):eI D γ key=(D.τ key).ownBlock:=by
 unfold eI;cases hg:γ key <;> rw [hg] at h <;> first | cases h | rfl
theorem cL.Ra (h:cL C D σ γ a w) {key:Nat} (hp:(γ key).td=true):∃s,(γ key).CL=some s∧fg D.R w (D.τ key) s∧fL D.R w (D.τ key) s (σ key)∧va σ γ key:=by
 cases hg:γ key <;> rw [hg] at hp <;> first | cases hp | skip
 all_goals exact ⟨_,rfl,h.ps key _ (by rw [hg];rfl)⟩
theorem cL.lt (h:cL C D σ γ a w) {key g:Nat} (hb:eI D γ key=some g):g<w.heap.size:=by
 cases hp:(γ key).td with
 | true =>
  rw [fN hp] at hb
  obtain ⟨s,_,ht,_⟩:=h.Ra hp
  exact ht.lt hb
 | false =>
  unfold eI at hb
  split at hb
  ·rename_i ts hg
   cases hb
   obtain ⟨cs,hv,_⟩:=h.mem _ _ hg
   exact hv.lt
  ·rename_i s hg
   exact (h.cB _ _ hg).lt hb
  ·rename_i s hg;rw [hg] at hp;cases hp
  ·rename_i d s hg;rw [hg] at hp;cases hp
  ·rename_i s hg;rw [hg] at hp;cases hp
  ·cases hb
theorem cL.rI (h:cL C D σ γ a w) {key gE g:Nat} (hn:(γ key).td=false) (h1:eI D γ key=some g) (h2:eI D γ gE=some g):key=gE:=by
 rcases h.sep key gE g h1 h2 with e | e | e
 ·exact e
 ·cases hg:γ key <;> rw [hg] at e hn <;> first | (cases hn;done) | (cases e;done)
 ·cases hg:γ gE <;> rw [hg] at e <;> first | (cases e;done) | skip
  cases e
  have:=h.inv gE
  rw [hg] at this
  rcases this with e | ⟨s,e⟩
  ·unfold eI at h1;rw [e] at h1;cases h1
  ·rw [e] at hn;cases hn
theorem gP {key:Nat} {ts:List (Nat × (Nat × Nat))} (h:γ key = .cl ts):eI D γ key=some (D.β key):=by simp [eI,h]
theorem gA {key s:Nat} (h:γ key = .live s):eI D γ key=(D.τ key).ownBlock:=by simp [eI,h]
theorem cL.world (h:cL C D σ γ a w) {w':World} {R':Reach} (os:w'.os=w.os) (tape:w'.tape=w.tape) (out:w'.output=w.output) (size:w.heap.size≤w'.heap.size)
  (hh:∀b,b<w.heap.size→((∃key,eI D γ key=some b)∨¬C.kY b)→w'.heap[b]?=w.heap[b]?) (bL:fh D.R w R' w')
  (new:∀b o,R' b o→D.R b o∨(C.kY b∧∀key,eI D γ key≠some b)) (lt:∀b o,R' b o→b<w'.heap.size):cL C { D with R:=R' } σ γ a w' where
 size:=h.size
 defers:=h.defers
 iB:=h.iB
 oe:=h.oe
 kL:=h.kL
 slot t ht:=(h.slot t ht).imp id fun ⟨r,g⟩=>⟨r.mono bL,by cases hg:γ t <;> rw [hg] at g <;> exact g⟩
 mem m ts hm:=by
  obtain ⟨cs,hv,ht⟩:=h.mem m ts hm
  refine ⟨cs,hv.bL bL (hh _ hv.lt (.inl ⟨m,gP hm⟩)) (fun o hr=>?_),ht⟩
  rcases new _ _ hr with r | ⟨_,r⟩
  ·exact hv.CR o r
  ·exact r m (gP hm)
 cB key s hk:=(h.cB key s hk).bL fun g hg=>by
  have hb:eI D γ key=some g:=(gA hk).trans hg
  refine ⟨hh g (h.lt hb) (.inl ⟨key,hb⟩),fun o hr=>?_⟩
  rcases new _ _ hr with r | ⟨_,r⟩
  ·exact r
  ·exact (r key hb).elim
 ps:=h.ps.bL bL fun key hp=>⟨rfl,rfl,rfl,fun g hg=>by
  have hb:eI D γ key=some g:=(fN hp).trans hg
  refine ⟨hh g (h.lt hb) (.inl ⟨key,hb⟩),fun o hr=>?_⟩
  rcases new _ _ hr with r | ⟨_,r⟩
  ·exact r
  ·exact (r key hb).elim⟩
 sep:=h.sep
 own:=h.own
 inv:=h.inv
 ext:=by
  refine ⟨os.trans h.ext.os,tape.trans h.ext.tape,out.trans h.ext.output,Nat.le_trans h.ext.size size,fun b hb hn=>?_,h.ext.bL.trans bL,fun b o hr=>?_⟩
  ·exact (hh b (Nat.lt_of_lt_of_le hb h.ext.size) (.inr fun hm=>by rcases hm with hm | hm <;> first | exact hn hm | omega)).trans (h.ext.heap b hb hn)
  ·rcases new b o hr with r | ⟨r,_⟩
   ·exact h.ext.qx b o r
   ·rcases r with r | r
    ·exact .inr (.inr r)
    ·exact .inr (.inl r)
 jT:=lt
 gl n:=(h.gl n).mono bL
 fix:=h.fix
theorem cL.grow (h:cL C D σ γ a w) {w':World} {R':Reach} (os:w'.os=w.os) (tape:w'.tape=w.tape) (out:w'.output=w.output) (size:w.heap.size≤w'.heap.size)
  (hh:∀b,b<w.heap.size→w'.heap[b]?=w.heap[b]?) (sub:∀b o,D.R b o→R' b o) (new:∀b o,R' b o→D.R b o∨w.heap.size≤b) (lt:∀b o,R' b o→b<w'.heap.size):cL C { D with R:=R' } σ γ a w' :=
 h.world os tape out size (fun b hb _=>hh b hb) (fun b o hr=>⟨sub b o hr,World.cell?_of_block (w:=w) (hh b (h.jT b o hr))⟩)
  (fun b o hr=>(new b o hr).imp id fun hb=>⟨.inr (Nat.le_trans h.ext.size hb),fun key hk=>by have:=h.lt hk;omega⟩) lt
theorem cL.drew (h:cL C D σ γ a w):cL C D σ γ a { w with drawn:=w.drawn+1 } :=
 h.grow (w':={ w with drawn:=w.drawn+1 }) (R':=D.R) rfl rfl rfl (Nat.le_refl _) (fun _ _=>rfl) (fun _ _ h=>h) (fun _ _ h => .inl h) h.jT
theorem Act.Gc (a:Act) (d t:Nat) (v:Value) (hd:d<a.tmps.size):(a.put (some d) v).tmps.getD t undef=if t=d then v else a.tmps.getD t undef:=by
 simp only [Act.put,Array.getD_eq_getD_getElem?,Array.getElem?_setIfInBounds]
 by_cases h:d=t
 ·subst h;simp [hd]
 ·simp [h,Ne.symm h]
theorem Act.size_put (a:Act) (d:Option Nat) (v:Value):(a.put d v).tmps.size=a.tmps.size:=by cases d <;> simp [Act.put]
theorem Act.Bh (a:Act) (d:Option Nat) (v:Value):(a.put d v).defers=a.defers:=by cases d <;> simp [Act.put]
theorem cL.N6 (h:cL C D σ γ a w) {d:Nat} (hd:d<C.nt):(γ d).eQ=false∧(γ d).ej=false:=by
 constructor
 ·cases hc:(γ d).eQ with
  | false=>rfl
  | true=>have:=(h.oe d hc).1;omega
 ·cases hc:(γ d).ej with
  | false=>rfl
  | true=>have:=h.kL d hc;have:=h.iB;omega
theorem eK.ya {γ:Ga} {d:Nat} {g:Gh} (h1:(γ d).eQ=false) (h2:(γ d).ej=false):∀{x:Gh},eK γ x→eK (cF γ d g) x:=by
 have hc:∀m,(γ m).eQ=true→(cF γ d g m).eQ=true:=fun m hm=>by
  by_cases e:m=d
  ·subst e;rw [h1] at hm;cases hm
  ·rw [bF _ _ e];exact hm
 have hl:∀m,(γ m).ej=true→(cF γ d g m).ej=true:=fun m hm=>by
  by_cases e:m=d
  ·subst e;rw [h2] at hm;cases hm
  ·rw [bF _ _ e];exact hm
 intro x hx
 cases x with
 | ptr m o=>exact hc m hx
 | cB k s=>exact hl _ hx
 | cl ts=>exact fun t ht=>hl _ (hx t ht)
 | xR ts p=>exact ⟨fun t ht=>hl _ (hx.1 t ht),fun q hq=>hc _ (hx.2 q hq)⟩
 | pe k=>exact hl _ hx
 | pm m=>exact hc m hx
 | mX k s =>
  have hk:k≠d:=fun e=>by subst e;rcases hx with e | ⟨s',e⟩ <;> rw [e] at h2 <;> cases h2
  simp only [eK,bF _ _ hk];exact hx
 | _=>trivial
theorem jh {γ:Ga} {d:Nat} {g:Gh} (h2:(γ d).td=false) (g2:g.td=false) (key:Nat):(cF γ d g key).par=(γ key).par:=by
 by_cases e:key=d
 ·subst e;rw [bE]
  have f:∀g:Gh,g.td=false→g.par=none:=fun g h=>by cases g <;> first | rfl | cases h
  rw [f _ g2,f _ h2]
 ·rw [bF _ _ e]
theorem Gh.E5 {g:Gh} (h:g.ej=false):g.td=false:=by cases g <;> first | rfl | cases h
theorem rf {D:j0} {γ:Ga} {d:Nat} {g:Gh} (h1:(γ d).eQ=false) (h2:(γ d).ej=false) (g1:g.eQ=false) (g2:g.ej=false) (key:Nat):eI D (cF γ d g) key=eI D γ key:=by
 unfold eI
 by_cases e:key=d
 ·subst e
  rw [bE]
  cases g <;> simp [Gh.eQ,Gh.ej] at g1 g2 <;> cases hg:γ key <;> simp [hg,Gh.eQ,Gh.ej] at h1 h2 <;> rfl
 ·rw [bF _ _ e]
theorem cL.put (h:cL C D σ γ a w) {d:Nat} (hd:d<C.nt) {s:AV} {g:Gh} {v:Value} (hs:lM D w s g v) (g1:g.eQ=false) (g2:g.ej=false) (gm:eK γ g) :
  cL C D (cF σ d s) (cF γ d g) (a.put (some d) v) w:=by
 obtain ⟨h1,h2⟩:=h.N6 hd
 have eO:d<a.tmps.size:=by rw [h.size];exact hd
 have fI:∀m,C.nt≤m→m≠d:=fun m hm=>by omega
 have ja:∀m,(cF γ d g m).eQ=true→m≠d:=fun m hm e=>by subst e;rw [bE,g1] at hm;cases hm
 have Pp:∀m,(cF γ d g m).ej=true→m≠d:=fun m hm e=>by subst e;rw [bE,g2] at hm;cases hm
 refine ⟨by rw [Act.size_put,h.size],by rw [Act.Bh,h.defers],h.iB,fun m hm=>?_,fun m hm=>?_,fun t ht=>?_,fun m ts hm=>?_,fun key s' hk=>?_,h.ps.same rfl (fun key hp=>?_),fun k k' g' hk jx=>?_,fun k g' hk=>?_,fun key=>?_,h.ext,h.jT,h.gl,h.fix.cF (Gh.E5 h2) rfl rfl⟩
 ·have e:=ja m hm;rw [bF _ _ e] at hm;exact h.oe m hm
 ·have e:=Pp m hm;rw [bF _ _ e] at hm;exact h.kL m hm
 ·rw [Act.Gc _ _ _ _ eO]
  by_cases e:t=d
  ·subst e;rw [bE,bE,aH rfl];exact hs
  ·rw [bF _ _ e,bF _ _ e,aD e];exact h.slot t ht
 ·have e:=ja m (by rw [hm];rfl);rw [bF _ _ e] at hm ⊢;exact h.mem m ts hm
 ·have e:=Pp key (by rw [hk];rfl);rw [bF _ _ e] at hk;exact h.cB key s' hk
 ·have e:=Pp key (Gh.LH hp).1;rw [bF _ _ e,bF _ _ e];exact ⟨rfl,rfl,rfl⟩
 ·rw [rf h1 h2 g1 g2] at hk jx;rw [jh (Gh.E5 h2) (Gh.E5 g2),jh (Gh.E5 h2) (Gh.E5 g2)];exact h.sep k k' g' hk jx
 ·rw [rf h1 h2 g1 g2] at hk;exact h.own k g' hk
 ·by_cases e:key=d
  ·subst e;rw [bE];exact eK.ya h1 h2 gm
  ·rw [bF _ _ e];exact eK.ya h1 h2 (h.inv key)
theorem cL.dead (h:cL C D σ γ a w) {k:Nat} (hk:(γ k).eQ=false):cL C D (cF σ k .dead) γ a w:=by
 refine ⟨h.size,h.defers,h.iB,h.oe,h.kL,fun t ht=>?_,fun m ts hm=>?_,h.cB,fun key s hs=>?_,h.sep,h.own,h.inv,h.ext,h.jT,h.gl,h.fix⟩
 ·by_cases e:t=k
  ·subst e;rw [bE];exact .inl rfl
  ·rw [bF _ _ e];exact h.slot t ht
 ·have e:m≠k:=fun e=>by subst e;rw [hm] at hk;cases hk
  rw [bF _ _ e];exact h.mem m ts hm
 ·obtain ⟨h1,h2⟩:=h.ps key s hs
  have qM:va (cF σ k .dead) γ key:=fun d s1 s' e1 e2=>by
   by_cases e:key=k
   ·subst e;rw [bE];exact .inl rfl
   ·by_cases e':d=k
    ·subst e';rw [bE];exact .inr (.inl rfl)
    ·rw [bF _ _ e,bF _ _ e'];exact h2.2 d s1 s' e1 e2
  by_cases e:key=k
  ·subst e;rw [bE];exact ⟨h1,⟨h2.1.1,.inl rfl⟩,qM⟩
  ·rw [bF _ _ e];exact ⟨h1,h2.1,qM⟩
theorem cL.kill (h:cL C D σ γ a w) {k s:Nat} (hk:γ k = .live s):cL C D σ (cF γ k .used) a w:=by
 have Wv:=h.kL k (by rw [hk];rfl)
 have kG:∀m,(cF γ k .used m).ej=(γ m).ej:=fun m=>by
  by_cases e:m=k
  ·subst e;rw [bE,hk];rfl
  ·rw [bF _ _ e]
 have ja:∀m,(cF γ k .used m).eQ=(γ m).eQ:=fun m=>by
  by_cases e:m=k
  ·subst e;rw [bE,hk];rfl
  ·rw [bF _ _ e]
 have hm:∀g,eK γ g→eK (cF γ k .used) g:=fun g hg=>by
  cases g <;> simp only [eK,kG,ja] at hg ⊢ <;> first | exact hg | skip
  rename_i d s'
  have hd:d≠k:=fun e=>by subst e;rcases hg with e | ⟨lY,e⟩ <;> rw [hk] at e <;> cases e
  rw [bF _ _ hd];exact hg
 have hb:∀key g,eI D (cF γ k .used) key=some g→eI D γ key=some g:=fun key g hg=>by
  unfold eI at hg ⊢
  by_cases e:key=k
  ·subst e;rw [bE] at hg;cases hg
  ·rw [bF _ _ e] at hg;exact hg
 refine ⟨h.size,h.defers,h.iB,fun m hm=>h.oe m (by rwa [ja] at hm),fun m hm=>h.kL m (by rwa [kG] at hm),fun t ht=>?_,fun m ts jC=>?_,fun key s' jx=>?_,h.ps.same rfl (fun key hp=>?_),fun p q g hp hq=>(by rw [jh (by rw [hk];rfl) rfl,jh (by rw [hk];rfl) rfl];exact h.sep p q g (hb p g hp) (hb q g hq)),fun p g hp=>h.own p g (hb p g hp),fun key=>?_,h.ext,h.jT,h.gl,h.fix.cF (by rw [hk];rfl) rfl rfl⟩
 ·have e:t≠k:=by have:=h.iB;omega
  rw [bF _ _ e];exact h.slot t ht
 ·have e:m≠k:=fun e=>by subst e;rw [bE] at jC;cases jC
  rw [bF _ _ e] at jC;exact h.mem m ts jC
 ·have e:key≠k:=fun e=>by subst e;rw [bE] at jx;cases jx
  rw [bF _ _ e] at jx;exact h.cB key s' jx
 ·have e:key≠k:=fun e=>by subst e;rw [bE] at hp;cases hp
  rw [bF _ _ e];exact ⟨rfl,rfl,rfl⟩
 ·by_cases e:key=k
  ·subst e;rw [bE];trivial
  ·rw [bF _ _ e];exact hm _ (h.inv key)
theorem cL.wY (h:cL C D σ γ a w) {k s:Nat} {v:Value} (hk:γ (lk k) = .no) (ht:fg D.R w v s) (hg:∀g,v.ownBlock=some g→C.kY g∧∀key,eI D γ key≠some g) :
  cL C { D with τ:=cF D.τ (lk k) v } σ (cF γ (lk k) (.live s)) a w:=by
 have pJ:∀j,(γ (lk j)).ej=true→cF D.τ (lk k) v (lk j)=D.τ (lk j):=fun j hj=>by
  have e:lk j≠lk k:=fun e=>by rw [e,hk] at hj;cases hj
  exact bF _ _ e
 have kG:∀m,(γ m).ej=true→(cF γ (lk k) (.live s) m).ej=true:=fun m hm=>by
  by_cases e:m=lk k
  ·subst e;rw [bE];rfl
  ·rw [bF _ _ e];exact hm
 have ja:∀m,(cF γ (lk k) (.live s) m).eQ=(γ m).eQ:=fun m=>by
  by_cases e:m=lk k
  ·subst e;rw [bE,hk];rfl
  ·rw [bF _ _ e]
 have hm:∀g,eK γ g→eK (cF γ (lk k) (.live s)) g:=fun g hg=>by
  cases g with
  | ptr m o=>simp only [eK,ja] at hg ⊢;exact hg
  | cB j s'=>exact kG _ hg
  | cl ts=>exact fun t ht=>kG _ (hg t ht)
  | xR ts p=>exact ⟨fun t ht=>kG _ (hg.1 t ht),fun q hq=>by rw [ja];exact hg.2 q hq⟩
  | pe j=>exact kG _ hg
  | pm m=>simp only [eK,ja] at hg ⊢;exact hg
  | mX d s' =>
   have hd:d≠lk k:=fun e=>by subst e;rcases hg with e | ⟨lY,e⟩ <;> rw [hk] at e <;> cases e
   simp only [eK,bF _ _ hd];exact hg
  | _=>trivial
 have hb:∀key,eI { D with τ:=cF D.τ (lk k) v } (cF γ (lk k) (.live s)) key=if key=lk k then v.ownBlock else eI D γ key:=fun key=>by
  unfold eI
  by_cases e:key=lk k
  ·subst e;rw [bE];simp [bE]
  ·rw [bF _ _ e,aD e]
   cases hg:γ key with
   | live s'=>simp [bF _ _ e]
   | pv s'=>simp [bF _ _ e]
   | pc s'=>simp [bF _ _ e]
   | mX d s'=>simp [bF _ _ e]
   | _=>rfl
 refine ⟨h.size,h.defers,h.iB,fun m hm=>h.oe m (by rwa [ja] at hm),fun m hm=>?_,fun t ht=>?_,fun m ts jC=>?_,fun key s' jx=>?_,h.ps.same rfl (fun key hp=>?_),fun p q g hp hq=>?_,fun p g hp=>?_,fun key=>?_,h.ext,h.jT,h.gl,h.fix.of rfl (fun hp=>by
  have e:lk 999999≠lk k:=fun e=>by rw [e,hk] at hp;cases hp
  rw [bF _ _ e];exact ⟨hp,bF _ _ e⟩)⟩
 ·by_cases e:m=lk k
  ·subst e;exact fH k
  ·rw [bF _ _ e] at hm;exact h.kL m hm
 ·have e:t≠lk k:=by have:=h.iB;have:=fH k;omega
  rw [bF _ _ e]
  rcases h.slot t ht with e | ⟨r,g⟩
  ·exact .inl e
  ·exact .inr ⟨r,fun hs=>iw.congr (D:=D) (h.inv t) (fun _ _=>rfl) pJ (g hs)⟩
 ·have e:m≠lk k:=fun e=>by subst e;rw [bE] at jC;cases jC
  rw [bF _ _ e] at jC
  obtain ⟨cs,hv,nM⟩:=h.mem m ts jC
  refine ⟨cs,hv,fun t ht=>?_⟩
  have hi:=h.inv m
  rw [jC] at hi
  show cs[t.1]?=some (cF D.τ (lk k) v (lk t.2.1))
  rw [pJ _ (hi t ht)];exact nM t ht
 ·by_cases e:key=lk k
  ·subst e;rw [bE] at jx;cases jx;simpa [bE] using ht
  ·rw [bF _ _ e] at jx
   have:=h.cB key s' jx
   rw [←bF D.τ v e] at this
   exact this
 ·have e:key≠lk k:=fun e=>by subst e;rw [bE] at hp;cases hp
  rw [bF _ _ e];exact ⟨rfl,rfl,bF _ _ e⟩
 ·rw [jh (by rw [hk];rfl) rfl,jh (by rw [hk];rfl) rfl]
  rw [hb] at hp hq
  split at hp <;> split at hq
  ·rename_i e1 e2;left;rw [e1,e2]
  ·exact ((hg g hp).2 q hq).elim
  ·exact ((hg g hq).2 p hp).elim
  ·exact h.sep p q g hp hq
 ·rw [hb] at hp
  split at hp
  ·exact (hg g hp).1
  ·exact h.own p g hp
 ·by_cases e:key=lk k
  ·subst e;rw [bE];trivial
  ·rw [bF _ _ e];exact hm _ (h.inv key)
theorem cL.newVar (h:cL C D σ γ a w) {m b:Nat} {x:AV} {cs:List Value} {ts:List (Nat × (Nat × Nat))} (hm:γ m = .no) (h1:C.nt≤m) (h2:m<999999) (hv:iP D.R w x b cs)
  (nM:∀t∈ts,(γ (lk t.2.1)).ej=true∧cs[t.1]?=some (D.τ (lk t.2.1))) (hb:C.kY b∧∀key,eI D γ key≠some b) :
  cL C { D with β:=cF D.β m b } (cF σ m x) (cF γ m (.cl ts)) a w:=by
 have C3:∀j,(γ j).eQ=true→cF D.β m b j=D.β j:=fun j hj=>by
  have e:j≠m:=fun e=>by subst e;rw [hm] at hj;cases hj
  exact bF _ _ e
 have ja:∀j,(γ j).eQ=true→(cF γ m (.cl ts) j).eQ=true:=fun j hj=>by
  by_cases e:j=m
  ·subst e;rw [bE];rfl
  ·rw [bF _ _ e];exact hj
 have kG:∀j,(cF γ m (.cl ts) j).ej=(γ j).ej:=fun j=>by
  by_cases e:j=m
  ·subst e;rw [bE,hm];rfl
  ·rw [bF _ _ e]
 have hM:∀g,eK γ g→eK (cF γ m (.cl ts)) g:=fun g hg=>by
  cases g with
  | ptr j o=>exact ja _ hg
  | cB j s'=>simp only [eK,kG] at hg ⊢;exact hg
  | cl us=>exact fun t ht=>by rw [kG];exact hg t ht
  | xR us p=>exact ⟨fun t ht=>by rw [kG];exact hg.1 t ht,fun q hq=>ja _ (hg.2 q hq)⟩
  | pe j=>simp only [eK,kG] at hg ⊢;exact hg
  | pm m=>exact ja _ hg
  | mX d s' =>
   have hd:d≠m:=fun e=>by subst e;rcases hg with e | ⟨lY,e⟩ <;> rw [hm] at e <;> cases e
   simp only [eK,bF _ _ hd];exact hg
  | _=>trivial
 have hB:∀key,eI { D with β:=cF D.β m b } (cF γ m (.cl ts)) key=if key=m then some b else eI D γ key:=fun key=>by
  unfold eI
  by_cases e:key=m
  ·subst e;rw [bE];simp [bE]
  ·rw [bF _ _ e,aD e]
   cases hg:γ key with
   | cl us=>simp [bF _ _ e]
   | _=>rfl
 refine ⟨h.size,h.defers,h.iB,fun j hj=>?_,fun j hj=>h.kL j (by rwa [kG] at hj),fun t ht=>?_,fun j us hj=>?_,fun key s' jx=>?_,h.ps.same rfl (fun key hp=>?_),fun p q g hp hq=>?_,fun p g hp=>?_,fun key=>?_,h.ext,h.jT,h.gl,h.fix.cF (by rw [hm];rfl) (by
  have e:999999≠m:=by omega
  exact bF _ _ e) rfl⟩
 ·by_cases e:j=m
  ·subst e;exact ⟨h1,by omega⟩
  ·rw [bF _ _ e] at hj;exact h.oe j hj
 ·have e:t≠m:=by omega
  rw [bF _ _ e,bF _ _ e]
  rcases h.slot t ht with e | ⟨r,g⟩
  ·exact .inl e
  ·exact .inr ⟨r,fun hs=>iw.congr (D:=D) (h.inv t) C3 (fun _ _=>rfl) (g hs)⟩
 ·by_cases e:j=m
  ·subst e;rw [bE] at hj;cases hj;rw [bE]
   exact ⟨cs,by simpa [bE] using hv,fun t ht=>(nM t ht).2⟩
  ·rw [bF _ _ e] at hj;rw [bF _ _ e]
   simpa [bF _ _ e] using h.mem j us hj
 ·have e:key≠m:=fun e=>by subst e;rw [bE] at jx;cases jx
  rw [bF _ _ e] at jx;exact h.cB key s' jx
 ·have e:key≠m:=fun e=>by subst e;rw [bE] at hp;cases hp
  rw [bF _ _ e,bF _ _ e];exact ⟨rfl,rfl,rfl⟩
 ·rw [jh (by rw [hm];rfl) rfl,jh (by rw [hm];rfl) rfl]
  rw [hB] at hp hq
  split at hp <;> split at hq
  ·rename_i e1 e2;left;rw [e1,e2]
  ·cases hp;exact (hb.2 q hq).elim
  ·cases hq;exact (hb.2 p hp).elim
  ·exact h.sep p q g hp hq
 ·rw [hB] at hp
  split at hp
  ·cases hp;exact hb.1
  ·exact h.own p g hp
 ·by_cases e:key=m
  ·subst e;rw [bE];exact fun t ht=>by rw [kG];exact (nM t ht).1
  ·rw [bF _ _ e];exact hM _ (h.inv key)
theorem cL.store (h:cL C D σ γ a w) {m:Nat} {w':World} {x:AV} {cs:List Value} {ts us:List (Nat × (Nat × Nat))} (hm:γ m = .cl ts)
  (os:w'.os=w.os) (tape:w'.tape=w.tape) (out:w'.output=w.output) (size:w'.heap.size=w.heap.size) (hh:∀b,b≠D.β m→w'.heap[b]?=w.heap[b]?)
  (hv:iP D.R w' x (D.β m) cs) (FI:∀t∈us,(γ (lk t.2.1)).ej=true∧cs[t.1]?=some (D.τ (lk t.2.1))):cL C D (cF σ m x) (cF γ m (.cl us)) a w':=by
 obtain ⟨cs0,hv0,_⟩:=h.mem m ts hm
 have nP:∀o,¬D.R (D.β m) o:=hv0.CR
 have bL:fh D.R w D.R w':=fun b o hr=>⟨hr,World.cell?_of_block (w:=w) (hh b (fun e=>nP o (e ▸ hr)))⟩
 have ja:∀j,(cF γ m (.cl us) j).eQ=(γ j).eQ:=fun j=>by
  by_cases e:j=m
  ·subst e;rw [bE,hm];rfl
  ·rw [bF _ _ e]
 have kG:∀j,(cF γ m (.cl us) j).ej=(γ j).ej:=fun j=>by
  by_cases e:j=m
  ·subst e;rw [bE,hm];rfl
  ·rw [bF _ _ e]
 have hM:∀g,eK γ g→eK (cF γ m (.cl us)) g:=fun g hg=>by
  cases g <;> simp only [eK,ja,kG] at hg ⊢ <;> first | exact hg | skip
  rename_i d s'
  have hd:d≠m:=fun e=>by subst e;rcases hg with e | ⟨lY,e⟩ <;> rw [hm] at e <;> cases e
  rw [bF _ _ hd];exact hg
 have hB:∀key,eI D (cF γ m (.cl us)) key=eI D γ key:=fun key=>by
  unfold eI
  by_cases e:key=m
  ·subst e;rw [bE,hm]
  ·rw [bF _ _ e]
 refine ⟨h.size,h.defers,h.iB,fun j hj=>h.oe j (by rwa [ja] at hj),fun j hj=>h.kL j (by rwa [kG] at hj),fun t ht=>?_,fun j vs hj=>?_,fun key s' jx=>?_,h.ps.bL bL (fun key hp=>?_),fun p q g hp hq=>(by rw [jh (by rw [hm];rfl) rfl,jh (by rw [hm];rfl) rfl];exact h.sep p q g (by rwa [hB] at hp) (by rwa [hB] at hq)),fun p g hp=>h.own p g (by rwa [hB] at hp),fun key=>?_,?_,fun b o hr=>by rw [size];exact h.jT b o hr,fun n=>(h.gl n).mono bL,h.fix.cF (by rw [hm];rfl) rfl rfl⟩
 ·have e:t≠m:=by have:=(h.oe m (by rw [hm];rfl)).1;omega
  rw [bF _ _ e,bF _ _ e]
  exact (h.slot t ht).imp id fun ⟨r,g⟩=>⟨r.mono bL,g⟩
 ·by_cases e:j=m
  ·subst e;rw [bE] at hj;cases hj;rw [bE];exact ⟨cs,hv,fun t ht=>(FI t ht).2⟩
  ·rw [bF _ _ e] at hj;rw [bF _ _ e]
   obtain ⟨QS,te,tg⟩:=h.mem j vs hj
   have fI:D.β j≠D.β m:=fun he=>e (h.rI (by rw [hj];rfl) (by rw [gP hj,he]) (gP hm))
   exact ⟨QS,te.bL bL (hh _ fI) te.CR,tg⟩
 ·have e:key≠m:=fun e=>by subst e;rw [bE] at jx;cases jx
  rw [bF _ _ e] at jx
  refine (h.cB key s' jx).bL fun g hg=>⟨hh g fun he=>e (h.rI (by rw [jx];rfl) (by rw [gA jx,hg,he]) (gP hm)),fun _ hr=>hr⟩
 ·have e:key≠m:=fun e=>by subst e;rw [bE] at hp;cases hp
  rw [bF _ _ e] at hp ⊢
  rw [bF _ _ e]
  exact ⟨rfl,rfl,rfl,fun g hg=>⟨hh g fun he=>e (h.rI (by rw [hm];rfl) (by rw [gP hm,←he]) ((fN hp).trans hg)).symm,fun _ hr=>hr⟩⟩
 ·by_cases e:key=m
  ·subst e;rw [bE];exact fun t ht=>by rw [kG];exact (FI t ht).1
  ·rw [bF _ _ e];exact hM _ (h.inv key)
 ·have pT:=h.own m _ (gP hm)
  refine ⟨os.trans h.ext.os,tape.trans h.ext.tape,out.trans h.ext.output,by rw [size];exact h.ext.size,fun b hb hn=>?_,h.ext.bL.trans bL,h.ext.qx⟩
  refine (hh b fun e=>?_).trans (h.ext.heap b hb hn)
  subst e
  rcases pT with jC | jC
  ·exact hn jC
  ·omega
end
end Go.Eng
namespace Go.Eng
open Go.RowKit
theorem jZ {x:Operand} {rs:List cO} (h:bV [x] rs=true):∃r,rs=[r]∧bS x r=true:=by
 match rs,h with
 | [r],h=>simp [bV] at h;exact ⟨r,rfl,h⟩
 | [],h=>simp [bV] at h
 | _ :: _ :: _,h=>simp [bV] at h
theorem iz {x y:Operand} {rs:List cO} (h:bV [x,y] rs=true):∃r q,rs=[r,q]∧bS x r=true∧bS y q=true:=by
 match rs,h with
 | [r,q],h=>simp [bV] at h;exact ⟨r,q,rfl,h⟩
 | [],h=>simp [bV] at h
 | [_],h=>simp [bV] at h
 | _ :: _ :: _ :: _,h=>simp [bV] at h
theorem EK {x y z:Operand} {rs:List cO} (h:bV [x,y,z] rs=true):∃r q s,rs=[r,q,s]∧bS x r=true∧bS y q=true∧bS z s=true:=by
 match rs,h with
 | [r,q,s],h=>simp [bV] at h;exact ⟨r,q,s,rfl,h⟩
 | [],h=>simp [bV] at h
 | [_],h=>simp [bV] at h
 | [_,_],h=>simp [bV] at h
 | _ :: _ :: _ :: _ :: _,h=>simp [bV] at h
theorem yv {x y:Value} (h:BI x y=true):x=y:=by
 unfold BI at h
 split at h <;> first | (simp at h;done) | (simp_all;done) | skip
 ·rename_i a b
  cases a;cases b;rename_i a b;cases a;cases b;simp_all
section
variable {R:Reach} {w:World}
theorem pV {x:Value} {y:AV} (h:iV x y=true):Rep R w y x:=by
 unfold iV at h
 split at h
 ·exact .nil _
 ·exact .v _
 ·cases h
 ·rw [yv h];exact .v _
 ·cases h
theorem vy {x:Value} {y:AV} (h:iV x y=true):x.oneCell'=true:=by
 unfold iV at h
 split at h
 ·rfl
 ·rfl
 ·cases h
 ·have:=yv h;subst this;unfold BI at h;split at h <;> first | rfl | (simp at h)
 ·cases h
theorem gO:∀{xs:List Value} {ys:List AV},fk xs ys=true→dw R w ys xs
 | [],[],_ => .nil
 | x :: xs,y :: ys,h=>by
  simp [fk] at h
  exact .cons (vy h.1) (pV h.1) (gO h.2)
 | [],_ :: _,h=>by simp [fk] at h
 | _ :: _,[],h=>by simp [fk] at h
theorem zQ {x:Value} {y:AV} (h:xH x y=true):Rep R w y x:=by
 unfold xH at h
 split at h
 ·rename_i cs ys;cases cs;exact .ag (gO h)
 ·cases h
 ·exact pV h
end
section
variable {C:Ctx} {D:j0} {σ:Sg} {γ:Ga} {a:Act} {w:World}
theorem cL.gy (h:cL C D σ γ a w) {x:Operand} {r:cO} (hx:bS x r=true) (hs:small C.nt [x]=true):lM D w (r.ev C.E σ) (r.gh γ) (a.eval x):=by
 unfold bS at hx
 split at hx
 ·simp at hx;subst hx;simp [small] at hs;exact h.slot _ hs
 ·exact .inr ⟨zQ hx,fun _=>trivial⟩
 ·simp at hx;obtain ⟨⟨h1,h2⟩,h3⟩:=hx;subst h1;subst h2;subst h3;exact .inr ⟨.v _,fun _=>trivial⟩
 ·simp at hx;subst hx;exact .inr ⟨h.gl _,fun _=>trivial⟩
 ·cases hx
theorem lM.rep {s:AV} {g:Gh} {x:Value} (h:lM D w s g x) (hs:s ≠ .dead):Rep D.R w s x:=(h.resolve_left hs).1
theorem lM.gh {s:AV} {g:Gh} {x:Value} (h:lM D w s g x) (hs:s ≠ .dead) (hk:s ≠ .sk):iw D g x:=(h.resolve_left hs).2 hk
theorem lM.plain {s:AV} {x:Value} (h:Rep D.R w s x):lM D w s .no x := .inr ⟨h,fun _=>trivial⟩
theorem cL.val (h:cL C D σ γ a w) {o:Oper} {d:Nat} (hd:o.dst=some d) (hl:d<C.nt) {v:Value} {s:AV} {g:Gh} (hr:(execOp a.eval o).run C.P w = .ok (.value v) w)
  (hs:lM D w s g v) (g1:g.eQ=false) (g2:g.ej=false) (gm:eK γ g) {K:Act→World→Prop} {Q:Exit→Act→World→Prop}
  (hK:∀D' a' w',cL C D' (cF σ d s) (cF γ d g) a' w'→K a' w'):o.wp C.P a w K Q:=by
 unfold Oper.wp
 rw [hr,Oper.upon_value,hd]
 exact hK _ _ _ (h.put hl hs g1 g2 gm)
theorem cL.fM (h:cL C D σ γ a w) {o:Oper} {d:Nat} (hd:o.dst=some d) (hl:d<C.nt) {v:Value} {s:AV} (hr:(execOp a.eval o).run C.P w = .ok (.value v) w)
  (hs:Rep D.R w s v) {K:Act→World→Prop} {Q:Exit→Act→World→Prop}
  (hK:∀D' a' w',cL C D' (cF σ d s) (cF γ d .no) a' w'→K a' w'):o.wp C.P a w K Q :=
 h.val hd hl hr (.plain hs) rfl rfl trivial hK
theorem cL.lE (h:cL C D σ γ a w) (r:cO):eK γ (r.gh γ):=by
 cases r with
 | s t=>exact h.inv t
 | _=>trivial
theorem eK.strip {g:Gh} (h:eK γ g):eK γ g.strip:=by cases g <;> first | exact h | trivial
variable {o:Oper} {d:Nat} {K:Act→World→Prop} {Q:Exit→Act→World→Prop} (h:cL C D σ γ a w) (hd:o.dst=some d) (hl:d<C.nt)
include h hd hl
theorem Jv {x:Operand} {r:cO} (ho:o.op = .move x∨o.op = .assign x) (hx:bS x r=true) (hs:small C.nt [x]=true)
  (hK:∀D' a' w',cL C D' (cF σ d (r.ev C.E σ)) (cF γ d (r.gh γ).strip) a' w'→K a' w'):o.wp C.P a w K Q:=by
 have hr:(execOp a.eval o).run C.P w = .ok (.value (a.eval x)) w:=by rcases ho with e | e <;> simp [execOp,e]
 refine h.val hd hl hr (g:=(r.gh γ).strip) ?_ ?_ ?_ (h.lE r).strip hK
 ·rcases h.gy hx hs with e | ⟨e1,e2⟩
  ·exact .inl e
  ·exact .inr ⟨e1,by cases hg:r.gh γ <;> rw [hg] at e2 <;> first | exact e2 | trivial⟩
 ·cases r.gh γ <;> rfl
 ·cases r.gh γ <;> rfl
theorem H4 {c x y:Operand} {r q s:cO} {b:Bool} (ho:o.op = .pick c x y) (hc:bS c r=true) (hx:bS x q=true) (hy:bS y s=true) (hs:small C.nt [c]=true) (fq:small C.nt [x]=true) (lj:small C.nt [y]=true)
  (hb:r.ev C.E σ = .v (.bool b)) (hK:∀D' a' w',cL C D' (cF σ d (if b then q.ev C.E σ else s.ev C.E σ)) (cF γ d .no) a' w'→K a' w'):o.wp C.P a w K Q:=by
 have hv:=(h.gy hc hs).rep (by rw [hb];simp)
 rw [hb] at hv
 have te:a.eval c = .bool b:=by generalize a.eval c=z at hv;cases hv;rfl
 have hr:(execOp a.eval o).run C.P w = .ok (.value (if b then a.eval x else a.eval y)) w:=by cases b <;> simp [execOp,ho,te,asBool]
 refine h.val hd hl hr (g := .no) ?_ rfl rfl trivial hK
 cases b with
 | true=>exact (h.gy hx fq).imp id fun e=>⟨e.1,fun _=>trivial⟩
 | false=>exact (h.gy hy lj).imp id fun e=>⟨e.1,fun _=>trivial⟩
omit h hd hl in
theorem Rep.fw {R:Reach} {x y:Value} (h:Rep R w (.v x) y):y=x:=by cases h;rfl
omit h hd hl in
theorem GU {P:Program} {w:World} {op:BinOp} {t:TypeId} {x y z:Value} (h:jX op x y=some z):(binOp op t x y).run P w = .ok z w:=by
 unfold jX at h
 split at h
 all_goals repeat' split at h
 all_goals first
  | (cases h;done)
  | (cases h;simp only [binOp,Op.shift,Sem.run_ite];rw [aD (by assumption)];rfl)
  | (cases h;simp_all [binOp,Op.shift,Op.intArith,Op.intDiv,Op.intBits,Op.intCmp,Op.stringOp,dN];done)
  | exact Ge h
  | skip
omit h hd hl in
theorem HC {P:Program} {w:World} {op:UnOp} {x z:Value} (h:Nf op x=some z):(Op.unary op x).run P w = .ok z w:=by
 unfold Nf at h
 split at h <;> cases h <;> first | exact vl | simp [Op.unary,Op.intArith,Op.intBits,dN]
theorem Lj {b:BinOp} {t t':TypeId} {x y:Operand} {r q:cO} {u v z:Value} (ho:o.op = .binOp b t x y t') (hx:bS x r=true) (hy:bS y q=true) (fq:small C.nt [x]=true) (lj:small C.nt [y]=true)
  (hr:r.ev C.E σ = .v u) (hq:q.ev C.E σ = .v v) (hz:jX b u v=some z) (hK:∀D' a' w',cL C D' (cF σ d (.v z)) (cF γ d .no) a' w'→K a' w'):o.wp C.P a w K Q:=by
 have e1:=(h.gy hx fq).rep (by rw [hr];simp)
 have e2:=(h.gy hy lj).rep (by rw [hq];simp)
 rw [hr] at e1;rw [hq] at e2
 have hg:eqGuard b t x y u v=pure ():=by
  unfold jX at hz
  split at hz <;> first | (cases hz;done) | exact Bd hz | (unfold eqGuard;split <;> simp_all)
 have cK:(execOp a.eval o).run C.P w = .ok (.value z) w:=by
  simp only [execOp,ho,e1.fw,e2.fw,hg,Sem.run_bind,Sem.run_pure,Result.andThen_ok,GU hz]
 exact h.fM hd hl cK (.v z) hK
theorem NV {neg:Bool} {b:BinOp} {t t':TypeId} {x y:Operand} {r q:cO} {u v:Bool} (ho:o.op = .binOp b t x y t') (hb:b=if neg then .neq else .eql) (ht:C.P.underlying t=some .bool) (hx:bS x r=true) (hy:bS y q=true) (fq:small C.nt [x]=true) (lj:small C.nt [y]=true)
  (hr:r.ev C.E σ = .v (.bool u)) (hq:q.ev C.E σ = .v (.bool v)) (hK:∀D' a' w',cL C D' (cF σ d (.v (.bool (if neg then !(u == v) else u == v)))) (cF γ d .no) a' w'→K a' w'):o.wp C.P a w K Q:=by
 have e1:=(h.gy hx fq).rep (by rw [hr];simp)
 have e2:=(h.gy hy lj).rep (by rw [hq];simp)
 rw [hr] at e1;rw [hq] at e2
 have hg:eqGuard b t x y (.bool u) (.bool v)=pure ():=by unfold eqGuard;cases neg <;> simp [hb]
 have he:(Op.equal t (.bool u) (.bool v)).run C.P w = .ok (u == v) w:=by
  unfold Op.equal Op.maxDepth
  rw [show (10000:Nat)=9999+1 from rfl,Op.equalIn]
  simp [run_underlying ht]
 have cK:(execOp a.eval o).run C.P w = .ok (.value (.bool (if neg then !(u == v) else u == v))) w:=by
  simp only [execOp,ho,e1.fw,e2.fw,hg,Sem.run_bind,Sem.run_pure,Result.andThen_ok]
  cases neg <;> simp [hb,binOp,he]
 exact h.fM hd hl cK (.v _) hK
theorem Nw {b:UnOp} {t:TypeId} {x:Operand} {r:cO} {u z:Value} (ho:o.op = .unOp b t x) (hx:bS x r=true) (fq:small C.nt [x]=true)
  (hr:r.ev C.E σ = .v u) (hz:Nf b u=some z) (hK:∀D' a' w',cL C D' (cF σ d (.v z)) (cF γ d .no) a' w'→K a' w'):o.wp C.P a w K Q:=by
 have e1:=(h.gy hx fq).rep (by rw [hr];simp)
 rw [hr] at e1
 have cK:(execOp a.eval o).run C.P w = .ok (.value z) w:=by
  simp only [execOp,ho,e1.fw,Sem.run_bind,Sem.run_pure,Result.andThen_ok,HC hz]
 exact h.fM hd hl cK (.v z) hK
theorem NR {k k':IntKind} {n:Int} {s t:TypeId} {x:Operand} {r:cO} (ho:o.op = .convert s t x) (ht:C.P.underlying t=some (.int k)) (hs:(C.P.underlying s).isSome=true) (hx:bS x r=true) (fq:small C.nt [x]=true)
  (hr:r.ev C.E σ = .v (.int k' n)) (hK:∀D' a' w',cL C D' (cF σ d (.v (.int k (k.wrap n)))) (cF γ d .no) a' w'→K a' w'):o.wp C.P a w K Q:=by
 have e1:=(h.gy hx fq).rep (by rw [hr];simp)
 rw [hr] at e1
 obtain ⟨u,hu⟩:=Option.isSome_iff_exists.1 hs
 have cK:(execOp a.eval o).run C.P w = .ok (.value (.int k (k.wrap n))) w:=by
  simp only [execOp,ho,e1.fw,convert,Sem.run_bind,run_underlying hu,run_underlying ht,Result.andThen_ok,Conv.intToInt,Sem.run_pure]
 exact h.fM hd hl cK (.v _) hK
theorem NQ {s t:TypeId} {x:Operand} {r:cO} {b:ByteArray} (ho:o.op = .convert s t x) (ht:C.P.underlying t=some .string) (hs:C.P.underlying s=some .string) (hx:bS x r=true) (fq:small C.nt [x]=true)
  (hr:r.ev C.E σ = .v (.string b)) (hK:∀D' a' w',cL C D' (cF σ d (.v (.string b))) (cF γ d .no) a' w'→K a' w'):o.wp C.P a w K Q:=by
 have e1:=(h.gy hx fq).rep (by rw [hr];simp)
 rw [hr] at e1
 have cK:(execOp a.eval o).run C.P w = .ok (.value (.string b)) w:=by
  simp [execOp,ho,e1.fw,convert,run_underlying hs,run_underlying ht]
 exact h.fM hd hl cK (.v _) hK
theorem vO {x y:Operand} {r q:cO} {k k':IntKind} {u v:Int} {mx:Bool} {ts:Array TypeId} (ho:o.op = .call { callee := .builtin (if mx then .max else .min),args:=#[x,y],argTypes:=ts }) (hx:bS x r=true) (hy:bS y q=true) (fq:small C.nt [x]=true) (lj:small C.nt [y]=true)
  (hr:r.ev C.E σ = .v (.int k u)) (hq:q.ev C.E σ = .v (.int k' v)) (hK:∀D' a' w',cL C D' (cF σ d (.v (.int k (if mx then nu u v else vn u v)))) (cF γ d .no) a' w'→K a' w'):o.wp C.P a w K Q:=by
 have e1:=(h.gy hx fq).rep (by rw [hr];simp)
 have e2:=(h.gy hy lj).rep (by rw [hq];simp)
 rw [hr] at e1;rw [hq] at e2
 have cK:(execOp a.eval o).run C.P w = .ok (.value (.int k (if mx then nu u v else vn u v))) w:=by
  cases mx <;> simp [execOp,ho,e1.fw,e2.fw,resolve,invoke,builtin,Builtin.min_,Builtin.max_,Builtin.min2,Builtin.max2,vn,nu]
 exact h.fM hd hl cK (.v _) hK
omit h hd hl in
theorem iw.comp {i:Nat} {ys:List Value} {y:Value} {g:Gh} (hg:iw D g (.tuple ⟨ys⟩)) (hy:ys[i]?=some y):iw D (g.comp i) y:=by
 cases g with
 | xR ts p =>
  obtain ⟨zs,e,h1,h2⟩:=hg
  cases e
  simp only [Gh.comp]
  split
  ·rename_i t hf
   have hm:=List.mem_of_find?_eq_some hf
   have hp:=List.find?_some hf
   simp at hp
   have:=h1 _ hm
   simp only [hp,hy] at this
   have e:=Option.some.inj this.1
   exact ⟨e,by rw [e];exact this.2⟩
  ·split
   ·rename_i j m
    split
    ·rename_i e;subst e
     have:=h2 _ rfl
     rw [hy] at this
     exact Option.some.inj this
    ·trivial
   ·trivial
 | _=>trivial
omit h hd hl in
theorem eK.comp {i:Nat} {g:Gh} (hg:eK γ g):eK γ (g.comp i):=by
 cases g with
 | xR ts p =>
  simp only [Gh.comp]
  split
  ·rename_i t hf;exact hg.1 _ (List.mem_of_find?_eq_some hf)
  ·split
   ·rename_i j m
    split
    ·exact hg.2 _ rfl
    ·trivial
   ·trivial
 | _=>trivial
omit h hd hl in
theorem Gh.wm (i:Nat) (g:Gh):(g.comp i).eQ=false∧(g.comp i).ej=false:=by
 unfold Gh.comp
 repeat' split
 all_goals exact ⟨rfl,rfl⟩
theorem NN {i:Nat} {x:Operand} {r:cO} {vs:List AV} {s:AV} (ho:o.op = .extract x i) (hx:bS x r=true) (fq:small C.nt [x]=true)
  (hr:r.ev C.E σ = .tu vs) (hi:vs[i]?=some s) (hK:∀D' a' w',cL C D' (cF σ d s) (cF γ d ((r.gh γ).comp i)) a' w'→K a' w'):o.wp C.P a w K Q:=by
 have e0:=h.gy hx fq
 have e1:=e0.rep (by rw [hr];simp)
 have e2:=e0.gh (by rw [hr];simp) (by rw [hr];rintro e;cases e;simp at hi)
 rw [hr] at e1
 obtain ⟨ys,hy,hT⟩:∃ys,a.eval x = .tuple ⟨ys⟩∧eY D.R w vs ys:=by generalize a.eval x=z at e1;cases e1;exact ⟨_,rfl,‹_›⟩
 obtain ⟨y,vX,Hu⟩:=hT.get i s hi
 have cK:(execOp a.eval o).run C.P w = .ok (.value y) w:=by
  simp [execOp,ho,hy,Instr.extract,vX]
 rw [hy] at e2
 exact h.val hd hl cK (.inr ⟨Hu,fun _=>e2.comp vX⟩) (Gh.wm _ _).1 (Gh.wm _ _).2 (h.lE r).comp hK
end
end Go.Eng
namespace Go.Eng
open Go.RowKit
section
variable {P:Program}
theorem ga {t:TypeId} (h:jL P t=true):P.underlying t=some .string:=by
 unfold jL at h;split at h <;> simp_all
theorem xg {t:TypeId} (h:xh P t=true):P.underlying t=some .bool:=by
 unfold xh at h;split at h <;> simp_all
theorem sS {t:TypeId} {k:IntKind} (h:xf P t k=true):P.underlying t=some (.int k):=by
 unfold xf at h;split at h <;> simp_all
theorem gF {t e:TypeId} (h:jy P t=some e):P.underlying t=some (.slice e):=by
 unfold jy at h
 cases hu:P.underlying t with
 | none=>simp [hu] at h
 | some d=>simp only [hu,Option.bind_some] at h;split at h <;> simp_all
theorem fV {t:TypeId} {n:Nat} (h:gU P t=some n):∃i,P.info? t=some i∧i.size=n:=by
 unfold gU at h
 cases hu:P.info? t with
 | none=>simp [hu] at h
 | some i=>simp [hu] at h;exact ⟨i,rfl,h⟩
theorem kp {t:TypeId} {s:Nat} (h:mK P t s=true):∃e i,P.underlying t=some (.slice e)∧P.info? e=some i∧i.size=s∧0<s:=by
 unfold mK at h
 cases he:jy P t with
 | none=>simp [he] at h
 | some e =>
  simp [he] at h
  obtain ⟨i,h1,h2⟩:=fV h.1
  exact ⟨e,i,gF he,h1,h2,h.2⟩
theorem ku {t:TypeId} (h:jM P t=true):∃e,P.underlying t=some (.slice e)∧P.underlying e=some (.int .u8):=by
 unfold jM at h
 cases he:jy P t with
 | none=>simp [he] at h
 | some e=>simp [he] at h;exact ⟨e,gF he,sS h⟩
theorem gw {t:TypeId} {n:Nat} {agg:Bool} (h:jg P t n agg=true):∃i,P.info? t=some i∧i.size=n∧jN P t=some agg∧(agg=true∨n=1):=by
 unfold jg at h
 simp at h
 obtain ⟨⟨h1,h2⟩,h3⟩:=h
 obtain ⟨i,e1,e2⟩:=fV h1
 exact ⟨i,e1,e2,h2,h3⟩
theorem l0 {t:TypeId} {f:Nat} {fl:Field} (h:mz P t f=some fl):∃fs,P.underlying t=some (.struct fs)∧fs[f]?=some fl:=by
 unfold mz at h
 cases hu:P.underlying t with
 | none=>simp [hu] at h
 | some d=>simp only [hu,Option.bind_some] at h;split at h <;> simp_all
theorem run_sizeOf {t:TypeId} {i:TypeInfo} (h:P.info? t=some i) (w:World):(sizeOf t).run P w = .ok i.size w:=by simp [sizeOf,typeInfo,h]
theorem rJ {t:TypeId} {b:Bool} (h:jN P t=some b) (w:World):(isAgg t).run P w = .ok b w:=by
 unfold jN at h
 cases hu:P.underlying t with
 | none=>simp [hu] at h
 | some d =>
  simp only [hu,Option.map_some,aB] at h
  unfold isAgg
  simp only [Sem.run_bind,run_underlying hu,Result.andThen_ok]
  cases d <;> simp_all
theorem kD {t:TypeId} {i:TypeInfo} {agg:Bool} (hi:P.info? t=some i) (ha:jN P t=some agg) (h1:agg=true∨i.size=1) {w:World} {b off:Nat} {ys:List Value} (hl:ys.length=i.size)
  (hc:∀j y,ys[j]?=some y→w.cell? ⟨b,off+j,none⟩=some y):(loadVar t ⟨b,off,none⟩).run P w = .ok (if agg then .agg ⟨ys⟩ else ys.headD undef) w:=by
 unfold loadVar
 simp only [Sem.run_bind,rJ ha,Result.andThen_ok]
 cases agg with
 | true =>
  have:=run_loadCells_list (P:=P) w ⟨b,off,none⟩ ys (fun j v hj=>by
   have h:=hc j v hj
   unfold Addr.add
   split
   ·rename_i e;subst e;exact h
   ·exact h)
  simp [run_sizeOf hi,←hl,this]
 | false =>
  have hs:i.size=1:=by simpa using h1
  match ys,hl with
  | [y],_ =>
   have:=hc 0 y rfl
   simp at this
   simp [this]
  | [],hl=>simp [hs] at hl
  | _ :: _ :: _,hl=>simp [hs] at hl
end
theorem BE {α:Type} {l:List α} {i:Nat} (h:i<l.length):(l.drop i).take 1=[l[i]]:=by
 rw [List.drop_eq_getElem_cons h,List.take_succ_cons,List.take_zero]
theorem bsize (b:ByteArray):b.data.toList.length=b.size:=by rw [Array.length_toList];rfl
theorem Tu {b:ByteArray} {i:Nat} {x:UInt8} (h:b.data.toList[i]?=some x):b[i]?=some x:=by
 have eO:=(aE.1 h).1
 rw [bsize] at eO
 rw [getElem?_pos b i eO,←(aE.1 h).2]
 rfl
section
variable {C:Ctx} {D:j0} {σ:Sg} {γ:Ga} {a:Act} {w:World}
theorem Rep.mg {R:Reach} {w:World} {s:Nat} {es:List AV} {y:Value} (h:Rep R w (.sl s es) y) :
  (es=[]∧y = .slice none 0 0)∨(∃b off cap,y = .slice (some ⟨b,off,none⟩) es.length cap∧es.length≤cap∧cap≤maxLen∧ij R w s es b off)∨(es=[]∧∃ad cap,y = .slice (some ad) 0 cap∧cap≤maxLen):=by
 cases h with
 | nil=>exact .inl ⟨rfl,rfl⟩
 | sl h1 h2 h3 h4=>subst h1;exact .inr (.inl ⟨_,_,_,rfl,h2,h3,h4⟩)
 | em _ h=>exact .inr (.inr ⟨rfl,_,_,rfl,h⟩)
theorem Rep.KF {R:Reach} {w:World} {s s':Nat} {es:List AV} {y:Value} (h:Rep R w (.sl s es) y) (ht:fg R w y s') :
  (es=[]∧y = .slice none 0 0)∨∃b off cap,y = .slice (some ⟨b,off,none⟩) es.length cap∧es.length≤cap∧cap≤maxLen∧ij R w s es b off:=by
 rcases h.mg with e | e | ⟨rfl,ad,cap,rfl,hc⟩
 ·exact .inl e
 ·exact .inr e
 ·rcases ht with e | ⟨g,n,sz,cur,el,fz,e,_⟩
  ·cases e
  ·cases e;exact .inr ⟨_,_,_,rfl,Nat.zero_le _,hc,.nil _ _ _⟩
theorem Rep.AB {R:Reach} {w:World} {x:AV} {y:Value} (h:Rep R w (.ro x) y):∃b off s,y = .pointer (some ⟨b,off,none⟩)∧kS R w s x b off:=by
 cases h with
 | ro h=>exact ⟨_,_,_,rfl,h⟩
theorem Rep.Hd {R:Reach} {w:World} {cs:List AV} {y:Value} (h:Rep R w (.ag cs) y):∃ys,y = .agg ⟨ys⟩∧dw R w cs ys:=by
 cases h with
 | ag h=>exact ⟨_,rfl,h⟩
theorem Rep.Ed {R:Reach} {w:World} {s:Nat} {es:List AV} {y:Value} (h:Rep R w (.sl s es) y):∃q cap,y = .slice q es.length cap:=by
 rcases h.mg with ⟨rfl,rfl⟩ | ⟨b,off,cap,rfl,_⟩ | ⟨rfl,ad,cap,rfl,_⟩
 ·exact ⟨_,_,rfl⟩
 ·exact ⟨_,_,rfl⟩
 ·exact ⟨_,_,rfl⟩
theorem No {R:Reach} {x:AV} {ys:List Value} (h:dw R w x.cells ys):Rep R w x (if x.pI then .agg ⟨ys⟩ else ys.headD undef):=by
 cases x with
 | ag cs=>exact .ag h
 | _ =>
  simp only [AV.cells,AV.pI] at h ⊢
  cases h with
  | cons _ h1 h2=>cases h2;simpa using h1
theorem mN {R:Reach} {cs:List AV} {ys:List Value} {o n:Nat} {agg:Bool} {x:AV} (h:dw R w cs ys) (hp:fJ cs o n agg=some x) (h1:agg=true∨n=1) :
  ((ys.drop o).take n).length=n∧Rep R w x (if agg then .agg ⟨(ys.drop o).take n⟩ else ((ys.drop o).take n).headD undef):=by
 have hlen:=h.length
 unfold fJ at hp
 cases agg with
 | true =>
  simp only [if_true] at hp
  split at hp
  ·rename_i hle
   cases hp
   exact ⟨by simp;omega,.ag ((h.drop o).take n)⟩
  ·cases hp
 | false =>
  simp at h1
  subst h1
  simp at hp
  obtain ⟨y,vX,_,Hu⟩:=h.get o x hp
  have eO:=(aE.1 vX).1
  refine ⟨by simp;omega,?_⟩
  have:(ys.drop o).take 1=[y]:=by
   rw [BE eO,(aE.1 vX).2]
  simpa [this] using Hu
variable {o:Oper} {d:Nat} {K:Act→World→Prop} {Q:Exit→Act→World→Prop} (h:cL C D σ γ a w) (hd:o.dst=some d) (hl:d<C.nt)
include h hd hl
theorem CP {x:Operand} {r:cO} {t e:TypeId} {s:Nat} {es:List AV} (ho:o.op = .call { callee := .builtin .len,args:=#[x],argTypes:=#[t] }) (ht:C.P.underlying t=some (.slice e)) (hx:bS x r=true) (fq:small C.nt [x]=true)
  (hr:r.ev C.E σ = .sl s es) (hK:∀D' a' w',cL C D' (cF σ d (.v (.int .i64 es.length))) (cF γ d .no) a' w'→K a' w'):o.wp C.P a w K Q:=by
 have e1:=(h.gy hx fq).rep (by rw [hr];simp)
 rw [hr] at e1
 obtain ⟨q,cap,hq⟩:=e1.Ed
 have cK:(execOp a.eval o).run C.P w = .ok (.value (.int .i64 es.length)) w:=by
  simp [execOp,ho,hq,resolve,invoke,builtin,Builtin.len_,run_underlying ht,goInt]
 exact h.fM hd hl cK (.v _) hK
theorem AM {x:Operand} {r:cO} {t:TypeId} {b:ByteArray} (ho:o.op = .call { callee := .builtin .len,args:=#[x],argTypes:=#[t] }) (ht:C.P.underlying t=some .string) (hx:bS x r=true) (fq:small C.nt [x]=true)
  (hr:r.ev C.E σ = .v (.string b)) (hK:∀D' a' w',cL C D' (cF σ d (.v (.int .i64 b.data.toList.length))) (cF γ d .no) a' w'→K a' w'):o.wp C.P a w K Q:=by
 have e1:=(h.gy hx fq).rep (by rw [hr];simp)
 rw [hr] at e1
 have cK:(execOp a.eval o).run C.P w = .ok (.value (.int .i64 b.data.toList.length)) w:=by
  rw [bsize]
  simp [execOp,ho,e1.fw,resolve,invoke,builtin,Builtin.len_,run_underlying ht,goInt]
 exact h.fM hd hl cK (.v _) hK
omit h hd hl in
theorem fB (b off n:Nat):(⟨b,off,none⟩:Addr).add n=⟨b,off+n,none⟩:=by
 unfold Addr.add;split
 ·rename_i e;subst e;rfl
 ·rfl
theorem NH {x y:Operand} {r q:cO} {t e:TypeId} {inf:TypeInfo} {s:Nat} {es:List AV} {k:IntKind} {i:Int} {el:AV} (ho:o.op = .indexAddr t x y) (ht:C.P.underlying t=some (.slice e)) (hi:C.P.info? e=some inf) (hz:inf.size=s)
  (hx:bS x r=true) (hy:bS y q=true) (fq:small C.nt [x]=true) (lj:small C.nt [y]=true)
  (hr:r.ev C.E σ = .sl s es) (hq:q.ev C.E σ = .v (.int k i)) (h0:0≤i) (Dg:es[i.toNat]?=some el) (hK:∀D' a' w',cL C D' (cF σ d (.ro el)) (cF γ d .no) a' w'→K a' w'):o.wp C.P a w K Q:=by
 have e1:=(h.gy hx fq).rep (by rw [hr];simp)
 have e2:=(h.gy hy lj).rep (by rw [hq];simp)
 rw [hr] at e1;rw [hq] at e2
 have eO:=(aE.1 Dg).1
 rcases e1.mg with ⟨rfl,_⟩ | ⟨b,off,cap,hv,_,_,hE⟩ | ⟨rfl,_⟩
 rotate_left 2
 ·simp at eO
 ·simp at eO
 ·have cK:(execOp a.eval o).run C.P w = .ok (.value (.pointer (some ⟨b,off+i.toNat * s,none⟩))) w:=by
   simp [execOp,ho,hv,e2.fw,Instr.indexAt,asIntOf,run_underlying ht,run_sizeOf hi,hz,h0,fB]
   omega
  exact h.fM hd hl cK (.ro (hE.get _ _ Dg)) hK
theorem Nx {x y:Operand} {r q:cO} {t:TypeId} {b:ByteArray} {k:IntKind} {i:Int} {el:UInt8} (ho:o.op = .index t x y) (ht:C.P.underlying t=some .string)
  (hx:bS x r=true) (hy:bS y q=true) (fq:small C.nt [x]=true) (lj:small C.nt [y]=true)
  (hr:r.ev C.E σ = .v (.string b)) (hq:q.ev C.E σ = .v (.int k i)) (h0:0≤i) (Dg:b.data.toList[i.toNat]?=some el) (hK:∀D' a' w',cL C D' (cF σ d (eS el)) (cF γ d .no) a' w'→K a' w'):o.wp C.P a w K Q:=by
 have e1:=(h.gy hx fq).rep (by rw [hr];simp)
 have e2:=(h.gy hy lj).rep (by rw [hq];simp)
 rw [hr] at e1;rw [hq] at e2
 have hb:=Tu Dg
 have cK:(execOp a.eval o).run C.P w = .ok (.value (.int .u8 el.toNat)) w:=by
  simp [execOp,ho,e1.fw,e2.fw,Instr.index,asIntOf,run_underlying ht,h0,hb]
 exact h.fM hd hl cK (.v _) hK
theorem NK {x:Operand} {r:cO} {t:TypeId} {f o' n:Nat} {agg:Bool} {fs:Array Field} {fl:Field} {inf:TypeInfo} {cs:List AV} {s:AV} (ho:o.op = .field t x f) (ht:C.P.underlying t=some (.struct fs)) (hf:fs[f]?=some fl) (zd:fl.offset=o') (hi:C.P.info? fl.type=some inf) (hz:inf.size=n) (ha:jN C.P fl.type=some agg) (h1:agg=true∨n=1)
  (hx:bS x r=true) (fq:small C.nt [x]=true) (hr:r.ev C.E σ = .ag cs) (hp:fJ cs o' n agg=some s) (hK:∀D' a' w',cL C D' (cF σ d s) (cF γ d .no) a' w'→K a' w'):o.wp C.P a w K Q:=by
 have e1:=(h.gy hx fq).rep (by rw [hr];simp)
 rw [hr] at e1
 obtain ⟨ys,hy,hL⟩:=e1.Hd
 obtain ⟨hlen,ic⟩:=mN hL hp h1
 have cK:(execOp a.eval o).run C.P w = .ok (.value (if agg then .agg ⟨(ys.drop o').take n⟩ else ((ys.drop o').take n).headD undef)) w:=by
  simp only [execOp,ho,hy,Instr.field,Sem.run_bind,run_underlying ht,Result.andThen_ok,hf,asAgg,Sem.run_pure,part,rJ ha]
  cases agg with
  | true=>simp [run_sizeOf hi,hz,zd,List.extract_eq_take_drop]
  | false =>
   have hn:n=1:=by simpa using h1
   subst hn
   have eO:o'<ys.length:=by simp at hlen;omega
   rw [BE eO]
   simp [zd,aA eO]
 exact h.fM hd hl cK ic hK
theorem NZ {x y:Operand} {r q:cO} {t e:TypeId} {nn s:Nat} {agg:Bool} {inf:TypeInfo} {cs:List AV} {k:IntKind} {i:Int} {el:AV} (ho:o.op = .index t x y) (ht:C.P.underlying t=some (.array nn e)) (hi:C.P.info? e=some inf) (hz:inf.size=s) (ha:jN C.P e=some agg) (h1:agg=true∨s=1)
  (hx:bS x r=true) (hy:bS y q=true) (fq:small C.nt [x]=true) (lj:small C.nt [y]=true)
  (hr:r.ev C.E σ = .ag cs) (hq:q.ev C.E σ = .v (.int k i)) (h0:0≤i) (hn:i<nn) (hp:fJ cs (i.toNat * s) s agg=some el) (hK:∀D' a' w',cL C D' (cF σ d el) (cF γ d .no) a' w'→K a' w'):o.wp C.P a w K Q:=by
 have e1:=(h.gy hx fq).rep (by rw [hr];simp)
 have e2:=(h.gy hy lj).rep (by rw [hq];simp)
 rw [hr] at e1;rw [hq] at e2
 obtain ⟨ys,Qv,hL⟩:=e1.Hd
 obtain ⟨hlen,ic⟩:=mN hL hp h1
 have cK:(execOp a.eval o).run C.P w = .ok (.value (if agg then .agg ⟨(ys.drop (i.toNat * s)).take s⟩ else ((ys.drop (i.toNat * s)).take s).headD undef)) w:=by
  simp only [execOp,ho,Qv,e2.fw,Instr.index,asIntOf,Sem.run_bind,run_underlying ht,Result.andThen_ok,Sem.run_pure,h0,hn,and_self,if_true,run_sizeOf hi,hz,part,rJ ha]
  cases agg with
  | true=>simp [run_sizeOf hi,hz,List.extract_eq_take_drop]
  | false =>
   have hn:s=1:=by simpa using h1
   subst hn
   rw [Nat.mul_one] at hlen ⊢
   have eO:i.toNat<ys.length:=by simp at hlen;omega
   rw [BE eO]
   simp [aA eO]
 exact h.fM hd hl cK ic hK
theorem ND {x:Operand} {r:cO} {t:TypeId} {inf:TypeInfo} {n:Nat} {agg:Bool} {s:AV} (ho:o.op = .load t x) (hi:C.P.info? t=some inf) (hz:inf.size=n) (ha:jN C.P t=some agg) (h1:agg=true∨n=1)
  (hx:bS x r=true) (fq:small C.nt [x]=true) (hr:r.ev C.E σ = .ro s) (lj:s.pI=agg) (Wd:s.cells.length=n) (hK:∀D' a' w',cL C D' (cF σ d s) (cF γ d .no) a' w'→K a' w'):o.wp C.P a w K Q:=by
 have e1:=(h.gy hx fq).rep (by rw [hr];simp)
 rw [hr] at e1
 obtain ⟨b,off,s',hv,hA⟩:=e1.AB
 obtain ⟨ys,T6,hc,hL⟩:=hA.read
 have VZ:ys.length=n:=by rw [←hL.length,Wd]
 have cK:(execOp a.eval o).run C.P w = .ok (.value (if agg then .agg ⟨ys⟩ else ys.headD undef)) w:=by
  simp only [execOp,ho,hv,Instr.loadAt,Instr.sureAddr,Sem.run_bind,Sem.run_pure,Result.andThen_ok,kD hi ha (hz ▸ h1) (VZ.trans hz.symm) hc]
 exact h.fM hd hl cK (by rw [←lj];exact No hL) hK
theorem NJ {x:Operand} {r:cO} {t:TypeId} {f o' n:Nat} {agg:Bool} {fs:Array Field} {fl:Field} {inf:TypeInfo} {cs:List AV} {s:AV} (ho:o.op = .fieldAddr t x f) (ht:C.P.underlying t=some (.struct fs)) (hf:fs[f]?=some fl) (zd:fl.offset=o') (hi:C.P.info? fl.type=some inf) (hz:inf.size=n) (hn:0<n) (h1:agg=true∨n=1)
  (hx:bS x r=true) (fq:small C.nt [x]=true) (hr:r.ev C.E σ = .ro (.ag cs)) (hp:fJ cs o' n agg=some s) (hK:∀D' a' w',cL C D' (cF σ d (.ro s)) (cF γ d .no) a' w'→K a' w'):o.wp C.P a w K Q:=by
 have e1:=(h.gy hx fq).rep (by rw [hr];simp)
 rw [hr] at e1
 obtain ⟨b,off,s',hv,hA⟩:=e1.AB
 have fI:inf.size≠0:=by omega
 have cK:(execOp a.eval o).run C.P w = .ok (.value (.pointer (some ⟨b,off+o',none⟩))) w:=by
  simp [execOp,ho,hv,Instr.fieldAt,Instr.sureAddr,run_underlying ht,hf,fieldPlace,run_sizeOf hi,fI,fB,zd]
 refine h.fM hd hl cK ?_ hK
 cases hA with
 | one n _ _ _ _=>simp [AV.pI] at n
 | ag _ hC =>
  unfold fJ at hp
  cases agg with
  | true =>
   simp only [if_true] at hp
   split at hp
   ·cases hp
    exact .ro (.ag rfl ((hC.drop o').take n))
   ·cases hp
  | false =>
   simp at hp
   have eO:=(aE.1 hp).1
   have hD:=hC.drop o'
   rw [List.drop_eq_getElem_cons eO] at hD
   have hs:cs[o']=s:=(aE.1 hp).2
   rw [hs] at hD
   cases hD with
   | cons r c a vp _ =>
    refine .ro (.one ?_ r c a vp)
    cases s with
    | ag _=>cases vp;simp [Value.oneCell'] at a
    | _=>rfl
theorem Lb {x:Operand} {r:cO} {s:AV} (ho:o.op = .nilCheck x) (hx:bS x r=true) (fq:small C.nt [x]=true) (hr:r.ev C.E σ = .ro s) (hK:∀D' a' w',cL C D' (cF σ d (.ro s)) (cF γ d .no) a' w'→K a' w'):o.wp C.P a w K Q:=by
 have e1:=(h.gy hx fq).rep (by rw [hr];simp)
 rw [hr] at e1
 obtain ⟨b,off,s',hv,hA⟩:=e1.AB
 have cK:(execOp a.eval o).run C.P w = .ok (.value (.pointer (some ⟨b,off,none⟩))) w:=by simp [execOp,ho,hv]
 exact h.fM hd hl cK (.ro hA) hK
theorem NM {x:Operand} {r:cO} {t:TypeId} {f m o' dd:Nat} {fs:Array Field} {fl:Field} {inf:TypeInfo} (ho:o.op = .fieldAddr t x f) (ht:C.P.underlying t=some (.struct fs)) (hf:fs[f]?=some fl) (zd:fl.offset=dd) (hi:C.P.info? fl.type=some inf) (hn:0<inf.size)
  (hx:bS x r=true) (fq:small C.nt [x]=true) (hr:r.ev C.E σ = .pt) (hg:r.gh γ = .ptr m o') (hK:∀D' a' w',cL C D' (cF σ d .pt) (cF γ d (.ptr m (o'+dd))) a' w'→K a' w'):o.wp C.P a w K Q:=by
 have e0:=h.gy hx fq
 have hv:=e0.gh (by rw [hr];simp) (by rw [hr];simp)
 rw [hg] at hv
 simp only [iw] at hv
 have fI:inf.size≠0:=by omega
 have cK:(execOp a.eval o).run C.P w = .ok (.value (.pointer (some ⟨D.β m,o'+dd,none⟩))) w:=by
  simp [execOp,ho,hv,Instr.fieldAt,Instr.sureAddr,run_underlying ht,hf,fieldPlace,run_sizeOf hi,fI,fB,zd]
 have hm:=h.lE r
 rw [hg] at hm
 exact h.val (g := .ptr m (o'+dd)) hd hl cK (.inr ⟨.pt _,fun _=>rfl⟩) rfl rfl hm hK
theorem NA {x:Operand} {r:cO} {m o':Nat} (ho:o.op = .nilCheck x) (hx:bS x r=true) (fq:small C.nt [x]=true) (hr:r.ev C.E σ = .pt) (hg:r.gh γ = .ptr m o') (hK:∀D' a' w',cL C D' (cF σ d .pt) (cF γ d (.ptr m o')) a' w'→K a' w'):o.wp C.P a w K Q:=by
 have e0:=h.gy hx fq
 have hv:=e0.gh (by rw [hr];simp) (by rw [hr];simp)
 rw [hg] at hv
 simp only [iw] at hv
 have cK:(execOp a.eval o).run C.P w = .ok (.value (.pointer (some ⟨D.β m,o',none⟩))) w:=by simp [execOp,ho,hv]
 have hm:=h.lE r
 rw [hg] at hm
 exact h.val (g := .ptr m o') hd hl cK (.inr ⟨.pt _,fun _=>rfl⟩) rfl rfl hm hK
theorem Jw {x:Operand} {r:cO} {t:TypeId} {m o' n:Nat} {agg:Bool} {inf:TypeInfo} {cs:List AV} {ts:List (Nat × (Nat × Nat))} {s:AV} (ho:o.op = .load t x) (hi:C.P.info? t=some inf) (hz:inf.size=n) (ha:jN C.P t=some agg) (h1:agg=true∨n=1)
  (hx:bS x r=true) (fq:small C.nt [x]=true) (hr:r.ev C.E σ = .pt) (hg:r.gh γ = .ptr m o') (hm:γ m = .cl ts) (jO:σ m = .ag cs) (hp:fJ cs o' n agg=some s)
  (hK:∀D' a' w',cL C D' (cF σ d s) (cF γ d (if agg then .no else match ts.find? (fun t=>t.1 == o') with | some (_,k,s) => .cB k s | none => .no)) a' w'→K a' w'):o.wp C.P a w K Q:=by
 have e0:=h.gy hx fq
 have hv:=e0.gh (by rw [hr];simp) (by rw [hr];simp)
 rw [hg] at hv
 simp only [iw] at hv
 obtain ⟨ws,tj,LP⟩:=h.mem m ts hm
 rw [jO] at tj
 obtain ⟨elem,hh,hL⟩:=tj.ag
 have O0:∀(j:Nat) (y:Value),(ws.take cs.length)[j]?=some y→ws[j]?=some y:=fun j y hj=>by
  rw [aM] at hj;split at hj
  ·exact hj
  ·cases hj
 have nM:agg=false→∀t∈ts,t.1=o'→(ws.take cs.length)[t.1]?=some (D.τ (lk t.2.1)):=fun ha t ht he=>by
  have eO:o'<cs.length:=by
   subst ha
   simp only [fJ,aY,if_false] at hp
   exact (aE.1 hp).1
  rw [aM,aH (by omega)]
  exact LP t ht
 generalize V4:ws.take cs.length=vs at hL nM O0
 obtain ⟨hlen,ic⟩:=mN hL hp h1
 have hc:∀j y,((vs.drop o').take n)[j]?=some y→w.cell? ⟨D.β m,o'+j,none⟩=some y:=by
  intro j y hj
  rw [aM] at hj
  split at hj
  ·rw [List.getElem?_drop] at hj
   have:=O0 _ _ hj
   simp only [World.cell?,hh]
   simpa using this
  ·cases hj
 have cK:(execOp a.eval o).run C.P w = .ok (.value (if agg then .agg ⟨(vs.drop o').take n⟩ else ((vs.drop o').take n).headD undef)) w:=by
  simp only [execOp,ho,hv,Instr.loadAt,Instr.sureAddr,Sem.run_bind,Sem.run_pure,Result.andThen_ok,kD hi ha (hz ▸ h1) (hlen.trans hz.symm) hc]
 have L1:=h.inv m
 rw [hm] at L1
 refine h.val hd hl cK (.inr ⟨ic,fun _=>?_⟩) ?_ ?_ ?_ hK
 ·cases agg with
  | true=>trivial
  | false =>
   simp only [if_false,aY]
   split
   ·rename_i q k s' hf
    have Wo:=List.mem_of_find?_eq_some hf
    have QA:=List.find?_some hf
    simp at QA
    subst QA
    have:=nM rfl _ Wo rfl
    have hn:n=1:=by simpa using h1
    subst hn
    have eO:=(aE.1 this).1
    simp only [iw]
    rw [BE eO]
    have e:=(aE.1 this).2
    exact ⟨e,hL.one _ (List.getElem_mem eO)⟩
   ·trivial
 ·split
  ·rfl
  ·split <;> rfl
 ·split
  ·rfl
  ·split <;> rfl
 ·split
  ·trivial
  ·split
   ·rename_i hf;exact L1 _ (List.mem_of_find?_eq_some hf)
   ·trivial
end
end Go.Eng
namespace Go.Eng
open Go.RowKit
theorem jG {P:Program} {t:TypeId} {s b:Nat} (h:iy P t s b=true):∃e i z,P.underlying t=some (.slice e)∧P.info? e=some i∧i.size=s∧i.bytes=b∧i.zero=some z∧z.cells.size=s∧0<s:=by
 unfold iy at h
 cases he:jy P t with
 | none=>simp [he] at h
 | some e =>
  simp [he] at h
  obtain ⟨h1,h0⟩:=h
  cases hi:P.info? e with
  | none=>simp [hi] at h1
  | some i =>
   simp [hi] at h1
   obtain ⟨⟨h1,h2⟩,h3⟩:=h1
   cases hz:i.zero with
   | none=>simp [hz] at h3
   | some z=>simp [hz] at h3;exact ⟨e,i,z,gF he,hi,h1,h2,hz,h3,h0⟩
theorem iW {P:Program} (g o:Nat) (t:TypeId) (fz:Nat × Nat):∀(vs:List Value) (i:Nat) (cur:Array Value) (w:World),w.heap[g]?=some (.cells cur t fz)→o+i+vs.length≤cur.size →
  (∀j,j<cur.size→¬(fz.1≤j∧j<fz.2))→(∀v∈vs,v.oneCell'=true) →
  (storeCells ⟨g,o,none⟩ vs i).run P w = .ok () (w.setRow g (cur.toList.take (o+i)++vs++cur.toList.drop (o+i+vs.length)).toArray)
 | [],i,cur,w,hg,_,_,_=>by
  simp only [storeCells,aU,aZ,Nat.add_zero,List.take_append_drop,Array.toArray_toList]
  rw [setRow_self w g cur t fz hg]
  rfl
 | v :: rest,i,cur,w,hg,hl,hf,h1=>by
  have hi:o+i<cur.size:=by simp at hl;omega
  have S0:(⟨g,o,none⟩:Addr).add i=⟨g,o+i,none⟩:=fB g o i
  have Cj:w.cell? ⟨g,o+i,none⟩=some cur[o+i]:=by simp [World.cell?,hg,hi]
  have SN:w.frozen? ⟨g,o+i,none⟩=false:=by
   obtain ⟨f1,f2⟩:=fz
   have:=hf (o+i) hi
   simp only [World.frozen?,hg]
   simp only [Bool.and_eq_false_iff,decide_eq_false_iff_not]
   simp only at this
   omega
  have vo:(store ((⟨g,o,none⟩:Addr).add i) v).run P w = .ok () (w.setRow g (cur.setIfInBounds (o+i) v)):=by
   rw [S0,run_store P w _ v _ (h1 v (by simp)),Cj]
   simp [SN,setCell_eq_setRow w g (o+i) cur t fz v hg]
  have ih:=iW (P:=P) g o t fz rest (i+1) (cur.setIfInBounds (o+i) v) (w.setRow g (cur.setIfInBounds (o+i) v)) (setRow_heap w g cur _ t _ hg) (by simp at hl ⊢;omega) (by simpa using hf) (fun x hx=>h1 x (by simp [hx]))
  simp only [storeCells,Sem.run_bind,vo,Result.andThen_ok,ih,setRow_setRow]
  congr 3
  have e:=list_seg_step cur.toList (o+i) v rest (by simp at hl ⊢;omega)
  simpa [Array.toList_setIfInBounds,Nat.add_assoc] using e
theorem lg {R:Reach} {w:World} {x:AV} {v:Value} (h:Rep R w x v) (hp:x.plain=true):dw R w x.cells v.cells.toList:=by
 cases h with
 | v =>
  simp only [AV.plain] at hp
  simp only [AV.cells]
  cases v <;> simp [Value.oneCell'] at hp <;> exact .cons rfl (.v _) .nil
 | ag h=>exact h
 | nil s=>exact .cons rfl (.nil s) .nil
 | sl a b c d=>exact .cons rfl (.sl a b c d) .nil
 | em s h=>exact .cons rfl (.em s h) .nil
 | ro h=>exact .cons rfl (.ro h) .nil
 | tu=>simp [AV.plain] at hp
 | pt=>simp [AV.plain] at hp
 | el=>simp [AV.plain] at hp
 | ab=>simp [AV.plain] at hp
 | gv _=>simp [AV.plain] at hp
 | dead=>simp [AV.plain] at hp
section
variable {P:Program} {w:World}
def Source (P:Program) (w:World) (s:Nat) (x:Value) (m:Nat) (news:List Value):Prop :=
 (∀w',(Builtin.lenOf x).run P w' = .ok m w')∧(∀w':World,w'.heap=w.heap→(Builtin.firstCells s m x).run P w' = .ok ⟨news⟩ w')∧news.length=m * s∧∀v∈news,v.oneCell'=true
theorem mL {t u ty e:TypeId} {i:TypeInfo} {du:TypeDesc} (ht:P.underlying t=some (.slice e)) (hi:P.info? e=some i) (hu:P.underlying u=some du) (vt:∀k,du ≠ .int k)
  {g n cap m:Nat} {cur:Array Value} {ce:TypeId} {fz:Nat × Nat} {x:Value} {news:List Value} (hg:w.heap[g]?=some (.cells cur ce fz)) (hf:∀j,j<cur.size→¬(fz.1≤j∧j<fz.2))
  (hx:Source P w i.size x m news) (oy:n+m≤cap) (nQ:cur.size=cap * i.size) :
  (Builtin.append_ #[t,u] ty #[.slice (some ⟨g,0,none⟩) n cap,x]).run P w =
   .ok (.slice (some ⟨g,0,none⟩) (n+m) cap) (w.setRow g (cur.toList.take (n * i.size)++news++cur.toList.drop (n * i.size+news.length)).toArray):=by
 obtain ⟨h1,h2,h3,h4⟩:=hx
 have hle:n * i.size+news.length≤cur.size:=by rw [h3,nQ,←Nat.add_mul];exact ar _ oy
 have vo:=iW (P:=P) g (n * i.size) ce fz news 0 cur w hg (by simpa using hle) hf h4
 simp only [Nat.add_zero] at vo
 have hz:(match du with | .int _=>true | _=>false)=false:=by cases du <;> first | rfl | exact (vt _ rfl).elim
 simp only [Builtin.append_,List.getElem?_toArray,List.getElem?_cons_zero,List.getElem?_cons_succ,Sem.run_bind,run_underlying ht,run_underlying hu,Result.andThen_ok,run_sizeOf hi,Sem.run_pure,hz,aY,if_false,h1,oy,if_true,bq,h2 w rfl]
 simp [fB,vo]
theorem mM {t u ty e:TypeId} {i:TypeInfo} {z:Value} {du:TypeDesc} (ht:P.underlying t=some (.slice e)) (hi:P.info? e=some i) (hz:i.zero=some z) (hu:P.underlying u=some du) (vt:∀k,du ≠ .int k)
  {q:Option Addr} {n cap m:Nat} {x:Value} {mi news:List Value} (ho:∀w':World,w'.heap=w.heap→(Builtin.firstCells i.size n (.slice q n cap)).run P w' = .ok ⟨mi⟩ w')
  (hx:Source P w i.size x m news) (hg:cap<n+m) (zl:n+m≤maxLen) (hb:(n+m) * i.bytes≤140737488355328) :
  (Builtin.append_ #[t,u] ty #[.slice q n cap,x]).run P w =
   .ok (.slice (some ⟨w.heap.size,0,none⟩) (n+m) (grownCap w (n+m) cap e))
    (w.drew.alloc (.cells ((⟨mi⟩:Array Value)++⟨news⟩++Builtin.zeroCells z.cells (grownCap w (n+m) cap e - (n+m))) e)):=by
 obtain ⟨h1,h2,h3,h4⟩:=hx
 have hn:¬(n+m≤cap):=by omega
 have Tb:¬(9223372036854775807<((n:Int)+(m:Int))):=by simp only [maxLen] at zl;omega
 have Tc:¬(281474976710656<Builtin.nextslicecap (n+m) cap * i.bytes):=by
  have:=growslice_fits hg hb;omega
 have PH:(match du with | .int _=>true | _=>false)=false:=by cases du <;> first | rfl | exact (vt _ rfl).elim
 simp [Builtin.append_,run_underlying ht,run_underlying hu,PH,sizeOf,typeInfo,zeroValue,hi,hz,h1,hn,Tb,Tc,Question.forced,ho w.drew rfl,h2 w.drew rfl,newRow,grownCap]
 congr 2
 apply Array.ext'
 simp [aQ]
end
section
variable {C:Ctx} {D:j0} {σ:Sg} {γ:Ga} {a:Act} {w:World}
theorem cL.newRow (h:cL C D σ γ a w) {w':World} {cur:Array Value} {e:TypeId} {fz:Nat × Nat} {s cap:Nat} {es:List AV} {ys:List Value}
  (os:w'.os=w.os) (tape:w'.tape=w.tape) (out:w'.output=w.output) (hh:w'.heap=w.heap.push (.cells cur e fz))
  (qk:∀x∈es,x.cells.length=s) (hL:dw D.R w (es.flatMap AV.cells) ys) (A8:∀(j:Nat) (y:Value),ys[j]?=some y→cur[j]?=some y) (xp:es.length≤cap) (IK:cap≤maxLen) :
  ∃R',cL C { D with R:=R' } σ γ a w'∧Rep R' w' (.sl s es) (.slice (some ⟨w.heap.size,0,none⟩) es.length cap)∧(∀o,es.length * s≤o→¬R' w.heap.size o) ∧
   (∀b o,D.R b o→R' b o)∧fh D.R w R' w'∧w'.heap[w.heap.size]?=some (.cells cur e fz):=by
 have kZ:w'.heap.size=w.heap.size+1:=by rw [hh];simp
 have hold:∀b,b<w.heap.size→w'.heap[b]?=w.heap[b]?:=fun b hb=>by rw [hh,Array.getElem?_push,aD (by omega)]
 have gR:w'.heap[w.heap.size]?=some (.cells cur e fz):=by rw [hh];simp
 let R':Reach:=fun b o=>D.R b o∨(b=w.heap.size∧o<es.length * s)
 have hS:=h.grow (w':=w') (R':=R') os tape out (by omega) hold (fun b o hr => .inl hr) (fun b o hr=>hr.imp id fun e=>by omega)
  (fun b o hr=>by
   rcases hr with hr | ⟨e,_⟩
   ·exact Nat.lt_trans (h.jT b o hr) (by omega)
   ·omega)
 have hk:fh D.R w R' w':=fun b o hr=>⟨.inl hr,World.cell?_of_block (w:=w) (hold b (h.jT b o hr))⟩
 refine ⟨R',hS,?_,fun o ho hr=>?_,fun b o hr => .inl hr,hk,gR⟩
 ·refine .sl rfl xp IK (ij.write qk (hL.mono hk) (fun j hj => .inr ⟨rfl,by omega⟩) (fun j y hy=>?_))
  simp only [World.cell?,gR,Nat.zero_add]
  exact A8 j y hy
 ·rcases hr with hr | ⟨_,hr⟩
  ·have:=h.jT _ _ hr;omega
  ·omega
theorem Source.yI {P:Program} {R:Reach} {s:Nat} {fs:List AV} {x:Value} (h:Rep R w (.sl s fs) x):∃news,Source P w s x fs.length news∧dw R w (fs.flatMap AV.cells) news∧∀e∈fs,e.cells.length=s:=by
 rcases h.mg with ⟨rfl,rfl⟩ | ⟨b,off,cap,rfl,_,_,hE⟩ | ⟨rfl,ad,cap,rfl,_⟩
 rotate_left 2
 ·exact ⟨[],⟨fun _=>rfl,fun w' _=>run_firstCells_some (P:=P) w' s 0 ad 0 cap [] (by simp) (fun j v hj=>by simp at hj),by simp,by simp⟩,.nil,by simp⟩
 ·exact ⟨[],⟨fun _=>rfl,fun _ _=>rfl,by simp,by simp⟩,.nil,by simp⟩
 ·obtain ⟨ys,h1,h2,h3,h4⟩:=hE.cells
  refine ⟨ys,⟨fun _=>rfl,fun w' hw=>?_,h1,h3.one⟩,h3,h4⟩
  exact run_firstCells_some (P:=P) w' s fs.length ⟨b,off,none⟩ fs.length cap ys h1 (fun j v hj=>by rw [fB];rw [World.cell?_of_block (w:=w) (by rw [hw])];exact h2 j v hj)
theorem kI (l:List UInt8):(l.map eS).flatMap AV.cells=l.map eS:=by
 induction l with
 | nil=>rfl
 | cons b l ih=>simp [ih];rfl
theorem nH {R:Reach} (l:List UInt8):dw R w (l.map eS) (l.map fun b => .int .u8 b.toNat):=by
 induction l with
 | nil=>exact .nil
 | cons b l ih=>exact .cons rfl (.v _) ih
theorem Source.of_string {P:Program} (b:ByteArray):Source P w 1 (.string b) b.data.toList.length (b.data.toList.map fun b => .int .u8 b.toNat):=by
 refine ⟨fun _=>?_,fun w' _=>?_,by simp,by simp;exact fun _ _=>rfl⟩
 ·rw [bsize];rfl
 ·have:b.extract 0 b.size=b:=by simp
  simp only [Builtin.firstCells,bsize,this,Sem.run_pure]
  congr 1
  apply Array.ext'
  simp
theorem cL.append (h : cL C D σ γ a w) {P : Program} {t u ty e : TypeId} {i : TypeInfo} {z : Value} {du : TypeDesc} (ht : P.underlying t = some (.slice e)) (hi : P.info? e = some i) (hz : i.zero = some z) (y7 : z.cells.size = i.size) (hu : P.underlying u = some du) (vt : ∀ k, du ≠ .int k)
    {x0 x : Value} {es fs : List AV} {news : List Value} (hr : Rep D.R w (.sl i.size es) x0) (C4 : fg D.R w x0 i.size) (oz : ∀ g, x0.ownBlock = some g → C.kY g ∧ ∀ key, eI D γ key ≠ some g)
    (hx : Source P w i.size x fs.length news) (hL : dw D.R w (fs.flatMap AV.cells) news) (qj : ∀ e ∈ fs, e.cells.length = i.size) (zl : es.length + fs.length ≤ maxLen) (hb : (es.length + fs.length) * i.bytes ≤ 140737488355328) :
    ∃ v w' R', (Builtin.append_ #[t, u] ty #[x0, x]).run P w = .ok v w' ∧ cL C { D with R := R' } σ γ a w' ∧ Rep R' w' (.sl i.size (es ++ fs)) v ∧ fg R' w' v i.size ∧ fh D.R w R' w' ∧
      ∀ g, v.ownBlock = some g → C.kY g ∧ ∀ key, eI D γ key ≠ some g := by
  have ze := hx.2.2.1
  -- the row PY
  have grow : ∀ (q : Option Addr) (cap : Nat) (mi : List Value), cap < es.length + fs.length → (∀ w' : World, w'.heap = w.heap → (Builtin.firstCells i.size es.length (.slice q es.length cap)).run P w' = .ok ⟨mi⟩ w') →
      dw D.R w (es.flatMap AV.cells) mi → (∀ e ∈ es, e.cells.length = i.size) → mi.length = es.length * i.size →
      ∃ v w' R', (Builtin.append_ #[t, u] ty #[.slice q es.length cap, x]).run P w = .ok v w' ∧ cL C { D with R := R' } σ γ a w' ∧ Rep R' w' (.sl i.size (es ++ fs)) v ∧ fg R' w' v i.size ∧ fh D.R w R' w' ∧
        ∀ g, v.ownBlock = some g → C.kY g ∧ ∀ key, eI D γ key ≠ some g := by
    intro q cap mi eO ho IM qk qi
    have cK := mM (ty := ty) ht hi hz hu vt ho hx eO zl hb
    have xV := grownCap_ge w (es.length + fs.length) cap e
    have hle := grownCap_le_maxLen w (es.length + fs.length) cap e zl
    obtain ⟨R', hS, hR, hn, _, hk, hh⟩ := h.newRow (w' := w.drew.alloc (.cells ((⟨mi⟩ : Array Value) ++ ⟨news⟩ ++ Builtin.zeroCells z.cells (grownCap w (es.length + fs.length) cap e - (es.length + fs.length))) e))
      (es := es ++ fs) (s := i.size) (ys := mi ++ news) (cap := grownCap w (es.length + fs.length) cap e) rfl rfl rfl rfl
      (fun y hy => by rcases List.mem_append.1 hy with hy | hy; · exact qk y hy
                      · exact qj y hy)
      (by rw [List.flatMap_append]; exact IM.append hL)
      (fun j y hj => by
        rw [Array.getElem?_append_left (by simp; have := (aE.1 hj).1; simpa using this)]
        simpa using hj) (by simpa using xV) hle
    rw [aq] at hR hn
    refine ⟨_, _, R', cK, hS, hR, .inr ⟨_, _, _, _, _, _, rfl, hh, by simp, ?_, xV, hle, hn⟩, hk, fun g hg => ?_⟩
    · simp only [Array.size_append, List.size_toArray, size_zeroCells, y7, qi, ze, ← Nat.add_mul]
      congr 1; omega
    · simp [Value.ownBlock] at hg
      subst hg
      exact ⟨.inr h.ext.size, fun key hk => by have := h.lt hk; omega⟩
  rcases hr.KF C4 with ⟨rfl, rfl⟩ | ⟨b, off, cap, rfl, qQ, vu, hE⟩
  · by_cases hm : fs.length = 0
    · have L4 : fs = [] := aR hm
      subst L4
      refine ⟨.slice none 0 0, w, D.R, ?_, by cases D; exact h, .nil _, .inl rfl, fh.refl _ _, by simp [Value.ownBlock]⟩
      obtain ⟨h1, h2, h3, h4⟩ := hx
      have PH : (match du with | .int _ => true | _ => false) = false := by cases du <;> first | rfl | exact (vt _ rfl).elim
      have Ck := h2 w rfl
      simp only [aZ] at h1 Ck
      simp [Builtin.append_, run_underlying ht, run_underlying hu, PH, sizeOf, typeInfo, hi, h1, Ck]
    · exact grow none 0 [] (by simp; omega) (fun _ _ => rfl) .nil (by simp) (by simp)
  · rcases C4 with e0 | ⟨g, n, sz, cur, ce, fz, e0, hg, hfz, xn, Pm, WN, nP⟩
    · cases e0
    · cases e0
      obtain ⟨mi, qi, Ud, IM, qk⟩ := hE.cells
      simp only [Nat.zero_add] at Ud
      by_cases oy : es.length + fs.length ≤ cap
      · obtain ⟨ve, xk⟩ := oz b rfl
        have cK := mL (ty := ty) ht hi hu vt hg hfz hx oy xn
        have hle : (es.length + fs.length) * i.size ≤ cap * i.size := ar _ oy
        rw [Nat.add_mul] at hle
        let mA : Array Value := (cur.toList.take (es.length * i.size) ++ news ++ cur.toList.drop (es.length * i.size + news.length)).toArray
        have PL : ∀ j, j < es.length * i.size → mA[j]? = cur[j]? := fun j hj => by
          have h1 : j < (cur.toList.take (es.length * i.size)).length := by simp; omega
          simp only [mA, List.getElem?_toArray, aQ]
          rw [List.getElem?_append_left h1, aM, aH hj]; simp
        have Pk : ∀ j y, news[j]? = some y → mA[es.length * i.size + j]? = some y := fun j y hj => by
          have h1 : (cur.toList.take (es.length * i.size)).length = es.length * i.size := by simp; omega
          have h2 := (aE.1 hj).1
          simp only [mA, List.getElem?_toArray, aQ]
          rw [aJ (by omega), h1, Nat.add_sub_cancel_left, List.getElem?_append_left h2]; exact hj
        have Cj : ∀ j, (w.setRow b mA).cell? ⟨b, j, none⟩ = mA[j]? := fun j => cell_setRow_same w b j cur mA ce fz hg
        let R' : Reach := fun c o => D.R c o ∨ (c = b ∧ o < (es.length + fs.length) * i.size)
        have hk : fh D.R w R' (w.setRow b mA) := fun c o vp => ⟨.inl vp, by
          by_cases Ue : c = b
          · subst Ue
            have ho : o < es.length * i.size := by
              rcases Nat.lt_or_ge o (es.length * i.size) with ho | ho
              · exact ho
              · exact (nP o ho vp).elim
            rw [Cj, PL o ho]
            simp [World.cell?, hg]
          · exact cell_setRow_other w b mA ⟨c, o, none⟩ Ue⟩
        have Ma : b < w.heap.size := (Array.getElem?_eq_some_iff.1 hg).1
        have hS := h.world (w' := w.setRow b mA) (R' := R') rfl rfl rfl (by simp) (fun c hc C6 => setRow_other w b c mA (fun e => by
            subst e
            rcases C6 with ⟨key, jb⟩ | C6
            · exact xk key jb
            · exact C6 ve)) hk
          (fun c o vp => vp.imp id fun ⟨e, _⟩ => by subst e; exact ⟨ve, xk⟩)
          (fun c o vp => by
            rw [setRow_size]
            rcases vp with vp | ⟨e, _⟩
            · exact h.jT c o vp
            · omega)
        refine ⟨_, _, R', cK, hS, ?_, .inr ⟨_, _, _, _, _, _, rfl, setRow_heap w b cur mA ce fz hg, ?_, ?_, oy, vu, fun o ho vp => ?_⟩, hk, fun g' kb => ?_⟩
        · rw [← aq]
          refine .sl rfl (by simpa using oy) vu ?_
          refine (hE.mono hk).append (ij.write qj (hL.mono hk) (fun j hj => .inr ⟨rfl, ?_⟩) (fun j y hj => ?_))
          · rw [Nat.add_mul]; omega
          · rw [Cj, Nat.zero_add]; exact Pk j y hj
        · intro o ho
          refine hfz o ?_
          simp [mA] at ho
          omega
        · simp [mA]; omega
        · rcases vp with vp | ⟨_, vp⟩
          · exact nP o (by rw [Nat.add_mul] at ho; omega) vp
          · omega
        · simp [Value.ownBlock] at kb
          subst kb
          exact ⟨ve, xk⟩
      · refine grow (some ⟨b, 0, none⟩) cap mi (by omega) (fun w' hw => ?_) IM qk qi
        exact run_firstCells_some (P := P) w' i.size es.length ⟨b, 0, none⟩ es.length cap mi qi (fun j v hj => by
          rw [fB, Nat.zero_add, World.cell?_of_block (w := w) (by rw [hw])]; exact Ud j v hj)
end
end Go.Eng
namespace Go.Eng
open Go.RowKit
theorem gq {X:Type} (σ:Nat→X) {a b:Nat} (x y:X) (h:a≠b):cF (cF σ a x) b y=cF (cF σ b y) a x:=by
 funext k
 simp only [cF]
 by_cases h1:k=a
 ·subst h1;simp [h]
 ·by_cases h2:k=b
  ·subst h2;simp [Ne.symm h]
  ·simp [h1,h2]
theorem MD {s:ByteArray} {l:List UInt8} (h:s.data.toList=l):s=⟨⟨l⟩⟩:=by
 cases s with
 | mk d=>cases d with
  | mk t=>simp at h;rw [h]
section
variable {C:Ctx} {D:j0} {σ:Sg} {γ:Ga} {a:Act} {w:World}
theorem cL.rO (h:cL C D σ γ a w) {d k s:Nat} {v:Value} {x:AV} (hd:d<C.nt) (hk:γ (lk k) = .no) (hr:Rep D.R w x v) (ht:fg D.R w v s) (hg:∀g,v.ownBlock=some g→C.kY g∧∀key,eI D γ key≠some g) :
  cL C { D with τ:=cF D.τ (lk k) v } (bN σ [d,lk k] [x,.dead]) (bN γ [d,lk k] [.cB k s,.live s]) (a.put (some d) v) w:=by
 have h1:=h.wY hk ht hg
 have h2:=h1.dead (k:=lk k) (by rw [bE];rfl)
 refine h2.put (g := .cB k s) hd (.inr ⟨hr,?_⟩) rfl rfl ?_
 ·intro _;show v=cF D.τ (lk k) v (lk k)∧v.oneCell'=true
  rw [bE]
  exact ⟨rfl,by rcases ht with rfl | ⟨_,_,_,_,_,_,rfl,_⟩ <;> rfl⟩
 ·show (cF γ (lk k) (.live s) (lk k)).ej=true
  rw [bE];rfl
variable {o:Oper} {d:Nat} {K:Act→World→Prop} {Q:Exit→Act→World→Prop} (h:cL C D σ γ a w) (hd:o.dst=some d) (hl:d<C.nt)
include h hd hl
theorem Ju {k s:Nat} (ho:o.op = .move (.const (.slice none 0 0))∨o.op = .assign (.const (.slice none 0 0))) (hk:γ (lk k) = .no)
  (hK:∀D' a' w',cL C D' (bN σ [d,lk k] [.sl s [],.dead]) (bN γ [d,lk k] [.cB k s,.live s]) a' w'→K a' w'):o.wp C.P a w K Q:=by
 have hr:(execOp a.eval o).run C.P w = .ok (.value (.slice none 0 0)) w:=by rcases ho with e | e <;> simp [execOp,e,Act.eval]
 unfold Oper.wp
 rw [hr,Oper.upon_value,hd]
 exact hK _ _ _ (h.rO hl hk (.nil s) (.inl rfl) (by simp [Value.ownBlock]))
omit h in
theorem cL.DR {D':j0} {w':World} {v:Value} {s:AV} (hr:(execOp a.eval o).run C.P w = .ok (.value v) w') (hS:cL C D' σ γ a w') (hs:Rep D'.R w' s v)
  (hK:∀D' a' w',cL C D' (cF σ d s) (cF γ d .no) a' w'→K a' w'):o.wp C.P a w K Q:=by
 unfold Oper.wp
 rw [hr,Oper.upon_value,hd]
 exact hK _ _ _ (hS.put hl (.plain hs) rfl rfl trivial)
theorem BX {x:Operand} {lo hi:Option Operand} {r:cO} {t e:TypeId} {inf:TypeInfo} {s:Nat} {es:List AV} {l u:Nat} (ho:o.op = .slice t x lo hi none) (ht:C.P.underlying t=some (.slice e)) (A6:C.P.info? e=some inf) (hz:inf.size=s)
  (hx:bS x r=true) (fq:small C.nt [x]=true) (hr:r.ev C.E σ = .sl s es)
  (qi:(lo=none∧l=0)∨∃y k,lo=some y∧a.eval y = .int k (l:Int)) (QH:(hi=none∧u=es.length)∨∃y k,hi=some y∧a.eval y = .int k (u:Int)) (h1:l≤u) (h2:u≤es.length)
  (hK:∀D' a' w',cL C D' (cF σ d (.sl s ((es.take u).drop l))) (cF γ d .no) a' w'→K a' w'):o.wp C.P a w K Q:=by
 have e1:=(h.gy hx fq).rep (by rw [hr];simp)
 rw [hr] at e1
 have hb:∀cap,es.length≤cap→(Instr.sliceBounds true es.length cap (lo.map a.eval) (hi.map a.eval) none).run C.P w = .ok (l,u,cap) w:=by
  intro cap qQ
  have hu:u≤cap:=by omega
  unfold Instr.sliceBounds
  rcases qi with ⟨rfl,rfl⟩ | ⟨y,k,rfl,hy⟩ <;> rcases QH with ⟨rfl,rfl⟩ | ⟨y',k',rfl,Qv⟩ <;>
   simp [Instr.sliceBound,asIntOf, *]
 rcases e1.mg with ⟨rfl,hv⟩ | ⟨b,off,cap,hv,qQ,vu,hE⟩ | ⟨rfl,ad,cap,hv,vu⟩
 rotate_left 2
 ·have JZ:l=0:=by simp at h2;omega
  have O7:u=0:=by simpa using h2
  have vv:=hb cap (by simp)
  have cK:(execOp a.eval o).run C.P w = .ok (.value (.slice (some ad) 0 cap)) w:=by
   simp only [aZ] at vv
   simp only [execOp,ho,hv,Instr.sliceAt,Instr.slice,Sem.run_bind,run_underlying ht,Result.andThen_ok,Option.map_none,vv,run_sizeOf A6,Sem.run_pure,JZ,O7]
   simp [Addr.add]
  refine h.fM hd hl cK ?_ hK
  simp only [List.take_nil,List.drop_nil]
  exact .em s vu
 ·have JZ:l=0:=by simp at h2;omega
  have O7:u=0:=by simpa using h2
  have vv:=hb 0 (by simp)
  have cK:(execOp a.eval o).run C.P w = .ok (.value (.slice none 0 0)) w:=by
   simp only [aZ] at vv
   simp only [execOp,ho,hv,Instr.sliceAt,Instr.slice,Sem.run_bind,run_underlying ht,Result.andThen_ok,Option.map_none,vv,run_sizeOf A6,Sem.run_pure,JZ,O7]
   simp
  refine h.fM hd hl cK ?_ hK
  simp only [List.take_nil,List.drop_nil]
  exact .nil s
 ·have cK:(execOp a.eval o).run C.P w = .ok (.value (.slice (some ⟨b,if cap=l then off else off+l * s,none⟩) (u - l) (cap - l))) w:=by
   simp only [execOp,ho,hv,Instr.sliceAt,Instr.slice,Sem.run_bind,run_underlying ht,Result.andThen_ok,Option.map_none,hb cap qQ,run_sizeOf A6,Sem.run_pure,hz]
   split <;> simp [*,fB]
  have hlen:((es.take u).drop l).length=u - l:=by simp;omega
  refine h.fM hd hl cK ?_ hK
  rw [←hlen]
  refine .sl rfl (by rw [hlen];omega) (by omega) ?_
  by_cases hc:cap=l
  ·have:(es.take u).drop l=[]:=aR (by rw [hlen];omega)
   rw [this];exact .nil _ _ _
  ·rw [aD hc]
   exact (hE.take u).drop l
theorem BW {x:Operand} {lo hi:Option Operand} {r:cO} {t:TypeId} {b:ByteArray} {l u:Nat} (ho:o.op = .slice t x lo hi none) (ht:C.P.underlying t=some .string)
  (hx:bS x r=true) (fq:small C.nt [x]=true) (hr:r.ev C.E σ = .v (.string b))
  (qi:(lo=none∧l=0)∨∃y k,lo=some y∧a.eval y = .int k (l:Int)) (QH:(hi=none∧u=b.data.toList.length)∨∃y k,hi=some y∧a.eval y = .int k (u:Int)) (h1:l≤u) (h2:u≤b.data.toList.length)
  (hK:∀D' a' w',cL C D' (cF σ d (.v (.string ⟨⟨(b.data.toList.take u).drop l⟩⟩))) (cF γ d .no) a' w'→K a' w'):o.wp C.P a w K Q:=by
 have e1:=(h.gy hx fq).rep (by rw [hr];simp)
 rw [hr] at e1
 rw [bsize] at QH h2
 have hb:(Instr.sliceBounds false b.size b.size (lo.map a.eval) (hi.map a.eval) none).run C.P w = .ok (l,u,b.size) w:=by
  unfold Instr.sliceBounds
  rcases qi with ⟨rfl,rfl⟩ | ⟨y,k,rfl,hy⟩ <;> rcases QH with ⟨rfl,rfl⟩ | ⟨y',k',rfl,Qv⟩ <;>
   simp [Instr.sliceBound,asIntOf, *]
 have cK:(execOp a.eval o).run C.P w = .ok (.value (.string (b.extract l u))) w:=by
  simp only [execOp,ho,e1.fw,Instr.sliceAt,Instr.slice,Sem.run_bind,run_underlying ht,Result.andThen_ok,Option.map_none,hb,Sem.run_pure]
  simp [hb]
 have he:b.extract l u=⟨⟨(b.data.toList.take u).drop l⟩⟩:=MD (by rw [Lib.extract_data,List.drop_take])
 rw [he] at cK
 exact h.fM hd hl cK (.v _) hK
theorem NT {x:Operand} {r:cO} {t u e:TypeId} {l:List UInt8} (ho:o.op = .convert t u x) (ht:C.P.underlying t=some (.slice e)) (he:C.P.underlying e=some (.int .u8)) (hu:C.P.underlying u=some .string)
  (hx:bS x r=true) (fq:small C.nt [x]=true) (hr:r.ev C.E σ = .sl 1 (l.map eS)) (hK:∀D' a' w',cL C D' (cF σ d (.v (.string ⟨⟨l⟩⟩))) (cF γ d .no) a' w'→K a' w'):o.wp C.P a w K Q:=by
 have e1:=(h.gy hx fq).rep (by rw [hr];simp)
 rw [hr] at e1
 have cK:(execOp a.eval o).run C.P w = .ok (.value (.string ⟨⟨l⟩⟩)) w:=by
  rcases e1.mg with ⟨hn,hv⟩ | ⟨b,off,cap,hv,qQ,vu,hE⟩ | ⟨hn,ad,cap,hv,vu⟩
  rotate_left 2
  ·have:l=[]:=by simpa using hn
   subst this
   have hc:=run_convert_bytes_back (P:=C.P) w t u e ad cap [] ht he hu (fun j hj=>by simp at hj)
   simp only [aZ] at hc
   simp only [execOp,ho,hv,Sem.run_bind,hc,Result.andThen_ok,Sem.run_pure]
  ·have:l=[]:=by simpa using hn
   subst this
   simp only [execOp,ho,hv,Sem.run_bind,run_convert_bytes_nil w t e ht he 0 0 u hu,Result.andThen_ok,Sem.run_pure]
   rfl
  ·obtain ⟨ys,h1,h2,h3,h4⟩:=hE.cells
   rw [kI] at h3
   rw [aG] at hv
   have hc:=run_convert_bytes_back (P:=C.P) w t u e ⟨b,off,none⟩ cap l ht he hu (fun j hj=>by
    rw [fB]
    obtain ⟨y,vX,_,Hu⟩:=h3.get j (eS l[j]) (by simp [hj])
    rw [h2 j y vX,Hu.fw])
   simp only [execOp,ho,hv,Sem.run_bind,hc,Result.andThen_ok,Sem.run_pure]
 exact h.fM hd hl cK (.v _) hK
omit hd hl in
theorem cL.vI {b:ByteArray} {u e:TypeId} {t:TypeId} (ht:C.P.underlying t=some .string) (hu:C.P.underlying u=some (.slice e)) (he:C.P.underlying e=some (.int .u8)) (hb:b.data.toList.length≤maxLen) :
  ∃v w' R',(convert t u (.string b)).run C.P w = .ok v w'∧cL C { D with R:=R' } σ γ a w'∧Rep R' w' (.sl 1 (b.data.toList.map eS)) v∧fg R' w' v 1∧fh D.R w R' w' ∧
   ∀g,v.ownBlock=some g→C.kY g∧∀key,eI D γ key≠some g:=by
 have cK:=run_bytes_of_string (P:=C.P) w t u e b ht hu he
 have xV:=grownCap_ge w b.size 0 e
 have hle:=grownCap_le_maxLen w b.size 0 e (by rwa [bsize] at hb)
 obtain ⟨R',hS,hR,hn,_,hk,hh⟩:=h.newRow (w':=w.drew.alloc (.cells (bytesRow b (grownCap w b.size 0 e)) e ((bytesRow b (grownCap w b.size 0 e)).size,(bytesRow b (grownCap w b.size 0 e)).size+1)))
  (es:=b.data.toList.map eS) (s:=1) (ys:=b.data.toList.map fun x => .int .u8 x.toNat) (cap:=grownCap w b.size 0 e) rfl rfl rfl rfl
  (fun y hy=>by obtain ⟨x,_,rfl⟩:=aO.1 hy;rfl) (by rw [kI];exact nH _)
  (fun j y hj=>by
   have eO:=(aE.1 hj).1
   unfold bytesRow
   rw [Array.getElem?_append_left (by simp at eO ⊢;exact eO)]
   simpa using hj) (by simp only [aG,bsize];exact xV) hle
 simp only [aG,bsize] at hR hn
 have kZ:(bytesRow b (grownCap w b.size 0 e)).size=grownCap w b.size 0 e * 1:=by
  have:b.data.size=b.size:=rfl
  simp only [bytesRow,Array.size_append,Array.size_map,Array.size_replicate,this];omega
 refine ⟨_,_,R',cK,hS,hR,.inr ⟨_,_,_,_,_,_,rfl,hh,by simp only;intro o ho;omega,kZ,xV,hle,hn⟩,hk,fun g hg=>?_⟩
 simp [Value.ownBlock] at hg
 subst hg
 exact ⟨.inr h.ext.size,fun key hk=>by have:=h.lt hk;omega⟩
theorem Ny {x:Operand} {r:cO} {t u e:TypeId} {b:ByteArray} (ho:o.op = .convert t u x) (ht:C.P.underlying t=some .string) (hu:C.P.underlying u=some (.slice e)) (he:C.P.underlying e=some (.int .u8))
  (hx:bS x r=true) (fq:small C.nt [x]=true) (hr:r.ev C.E σ = .v (.string b)) (hb:b.data.toList.length≤maxLen) (hK:∀D' a' w',cL C D' (cF σ d (.sl 1 (b.data.toList.map eS))) (cF γ d .no) a' w'→K a' w'):o.wp C.P a w K Q:=by
 have e1:=(h.gy hx fq).rep (by rw [hr];simp)
 rw [hr] at e1
 obtain ⟨v,w',R',cK,hS,hR,_⟩:=h.vI ht hu he hb
 exact cL.DR hd hl (v:=v) (w':=w') (by simp only [execOp,ho,e1.fw,Sem.run_bind,cK,Result.andThen_ok,Sem.run_pure]) hS hR hK
theorem K0 {x:Operand} {r:cO} {t u e:TypeId} {b:ByteArray} {k:Nat} (ho:o.op = .convert t u x) (ht:C.P.underlying t=some .string) (hu:C.P.underlying u=some (.slice e)) (he:C.P.underlying e=some (.int .u8))
  (hx:bS x r=true) (fq:small C.nt [x]=true) (hr:r.ev C.E σ = .v (.string b)) (hb:b.data.toList.length≤maxLen) (hk:γ (lk k) = .no)
  (hK:∀D' a' w',cL C D' (bN σ [d,lk k] [.sl 1 (b.data.toList.map eS),.dead]) (bN γ [d,lk k] [.cB k 1,.live 1]) a' w'→K a' w'):o.wp C.P a w K Q:=by
 have e1:=(h.gy hx fq).rep (by rw [hr];simp)
 rw [hr] at e1
 obtain ⟨v,w',R',cK,hS,hR,hT,_,hG⟩:=h.vI ht hu he hb
 unfold Oper.wp
 rw [show (execOp a.eval o).run C.P w = .ok (.value v) w' by simp only [execOp,ho,e1.fw,Sem.run_bind,cK,Result.andThen_ok,Sem.run_pure],Oper.upon_value,hd]
 exact hK _ _ _ (hS.rO hl hk hR hT hG)
theorem E1 {x y:Operand} {r q:cO} {t u e:TypeId} {i:TypeInfo} {z:Value} {du:TypeDesc} {k k' s:Nat} {es fs:List AV} (ho:o.op = .call { callee := .builtin .append,args:=#[x,y],argTypes:=#[t,u] })
  (ht:C.P.underlying t=some (.slice e)) (hi:C.P.info? e=some i) (hz:i.zero=some z) (y7:z.cells.size=i.size) (hu:C.P.underlying u=some du) (vt:∀k,du ≠ .int k) (hs:i.size=s)
  (hx:bS x r=true) (fq:small C.nt [x]=true) (hr:r.ev C.E σ = .sl s es) (hg:r.gh γ = .cB k s) (kG:γ (lk k) = .live s) (jP:γ (lk k') = .no) (fI:k≠k')
  {news:List Value} (r8:Source C.P w s (a.eval y) fs.length news) (hL:dw D.R w (fs.flatMap AV.cells) news) (qj:∀e∈fs,e.cells.length=s) (zl:es.length+fs.length≤maxLen) (hb:(es.length+fs.length) * i.bytes≤140737488355328)
  (hK:∀D' a' w',cL C D' (bN σ [d,lk k,lk k'] [.sl s (es++fs),.dead,.dead]) (bN γ [d,lk k,lk k'] [.cB k' s,.used,.live s]) a' w'→K a' w'):o.wp C.P a w K Q:=by
 subst hs
 have e0:=h.gy hx fq
 have e1:=e0.rep (by rw [hr];simp)
 have e2:=e0.gh (by rw [hr];simp) (by rw [hr];simp)
 rw [hr] at e1
 rw [hg] at e2
 simp only [iw] at e2
 replace e2:=e2.1
 have hT:=h.cB _ _ kG
 rw [←e2] at hT
 have h1:=h.kill kG
 have oJ:eI D γ (lk k)=(a.eval x).ownBlock:=by rw [gA kG,←e2]
 have oz:∀g,(a.eval x).ownBlock=some g→C.kY g∧∀key,eI D (cF γ (lk k) .used) key≠some g:=fun g kb=>by
  refine ⟨h.own (lk k) g (oJ.trans kb),fun key jb=>?_⟩
  by_cases e:key=lk k
  ·subst e;simp [eI,bE] at jb
  ·have:eI D γ key=some g:=by unfold eI at jb ⊢;rwa [bF _ _ e] at jb
   exact e (h.rI (key:=lk k) (by rw [kG];rfl) (oJ.trans kb) this).symm
 obtain ⟨v,w',R',cK,hS,hR,PU,_,hG⟩:=h1.append (ty:=o.type) ht hi hz y7 hu vt e1 hT oz r8 hL qj zl hb
 unfold Oper.wp
 rw [show (execOp a.eval o).run C.P w = .ok (.value v) w' by simp [execOp,ho,resolve,invoke,builtin,cK],Oper.upon_value,hd]
 have vr:cF γ (lk k) .used (lk k') = .no:=by rw [bF _ _ (fun e=>fI (fO e).symm)];exact jP
 have hF:=(hS.dead (k:=lk k) (by rw [bE];rfl)).rO hl vr hR PU hG
 have hc:lk k'≠lk k:=fun e=>fI (fO e).symm
 have Dr:bN σ [d,lk k,lk k'] [.sl i.size (es++fs),.dead,.dead]=bN (cF σ (lk k) .dead) [d,lk k'] [.sl i.size (es++fs),.dead]:=by
  simp only [bN];rw [gq σ _ _ hc]
 have zG:bN γ [d,lk k,lk k'] [.cB k' i.size,.used,.live i.size]=bN (cF γ (lk k) .used) [d,lk k'] [.cB k' i.size,.live i.size]:=by
  simp only [bN];rw [gq γ _ _ hc]
 rw [Dr,zG] at hK
 exact hK _ _ _ hF
theorem Jy {y:Operand} {t u e:TypeId} {i:TypeInfo} {z:Value} {du:TypeDesc} {k' s:Nat} {fs:List AV} (ho:o.op = .call { callee := .builtin .append,args:=#[.const (.slice none 0 0),y],argTypes:=#[t,u] })
  (ht:C.P.underlying t=some (.slice e)) (hi:C.P.info? e=some i) (hz:i.zero=some z) (y7:z.cells.size=i.size) (hu:C.P.underlying u=some du) (vt:∀k,du ≠ .int k) (hs:i.size=s)
  (jP:γ (lk k') = .no) {news:List Value} (r8:Source C.P w s (a.eval y) fs.length news) (hL:dw D.R w (fs.flatMap AV.cells) news) (qj:∀e∈fs,e.cells.length=s) (zl:fs.length≤maxLen) (hb:fs.length * i.bytes≤140737488355328)
  (hK:∀D' a' w',cL C D' (bN σ [d,lk k'] [.sl s fs,.dead]) (bN γ [d,lk k'] [.cB k' s,.live s]) a' w'→K a' w'):o.wp C.P a w K Q:=by
 subst hs
 obtain ⟨v,w',R',cK,hS,hR,PU,_,hG⟩:=h.append (ty:=o.type) (x0 := .slice none 0 0) (es:=[]) ht hi hz y7 hu vt (.nil _) (.inl rfl) (by simp [Value.ownBlock]) r8 hL qj (by simpa using zl) (by simpa using hb)
 unfold Oper.wp
 rw [show (execOp a.eval o).run C.P w = .ok (.value v) w' by
  have hc:a.eval (.const (.slice none 0 0)) = .slice none 0 0:=rfl
  simp [execOp,ho,resolve,invoke,builtin,hc,cK],Oper.upon_value,hd]
 rw [bj] at hR
 exact hK _ _ _ (hS.rO hl jP hR PU hG)
end
end Go.Eng
namespace Go.Eng
open Go.RowKit
section
variable {R:Reach} {w:World}
theorem vZ (l:List Value):∀(off k:Nat) (cells:Array Value),off+k+l.length≤cells.size →
  ((l.zipIdx k).foldl (fun cs p=>cs.setIfInBounds (off+p.2) p.1) cells).toList=cells.toList.take (off+k)++l++cells.toList.drop (off+k+l.length):=by
 induction l with
 | nil=>intro off k cells _;simp
 | cons v l ih =>
  intro off k cells hl
  simp only [List.zipIdx_cons,List.foldl_cons]
  rw [ih off (k+1) (cells.setIfInBounds (off+k) v) (by simp at hl ⊢;omega)]
  have e:=list_seg_step cells.toList (off+k) v l (by simp at hl ⊢;omega)
  simpa [Array.toList_setIfInBounds,Nat.add_assoc] using e
theorem zE (place:Nat→Option (Nat × Nat)):∀(parts:List (Nat × Value)) (pl:List (Nat × Nat)) (xs:List AV) (z cs:List AV) (cells:Array Value),dw R w z cells.toList→parts.length=pl.length →
  (∀(j:Nat) (p:Nat × Value) (q:Nat × Nat),parts[j]?=some p→pl[j]?=some q→place p.1=some q)→(∀(j:Nat) (p:Nat × Value) (x:AV),parts[j]?=some p→xs[j]?=some x→Rep R w x p.2)→mq z pl xs=some cs →
  ∃fv,Instr.fill place cells parts=some fv∧dw R w cs fv.toList
 | [],pl,xs,z,cs,cells,hz,hl,_,_,hf=>by
  have:pl=[]:=aR hl.symm
  subst this
  cases xs with
  | nil=>simp [mq] at hf;subst hf;exact ⟨cells,rfl,hz⟩
  | cons=>simp [mq] at hf
 | (i,v) :: parts,pl,xs,z,cs,cells,hz,hl,hp,hr,hf=>by
  cases pl with
  | nil=>simp at hl
  | cons q pl =>
   obtain ⟨off,n⟩:=q
   cases xs with
   | nil=>simp [mq] at hf
   | cons x xs =>
    simp only [mq] at hf
    split at hf
    ·rename_i hc
     obtain ⟨xp,IK,Y3⟩:=hc
     have hx:=lg (hr 0 _ _ rfl rfl) xp
     have Qw:=hx.length
     have Ht:=hz.length
     simp only [Array.length_toList] at Qw Ht
     have IF:=hp 0 _ _ rfl rfl
     simp only at IF
     have hs:v.cells.size=n:=by omega
     have nQ:¬(v.cells.size≠n∨off+v.cells.size > cells.size):=by omega
     have qe:=vZ v.cells.toList off 0 cells (by simp;omega)
     have VX:dw R w (eH z off x.cells) (v.cells.zipIdx.foldl (fun cs p=>cs.setIfInBounds (off+p.2) p.1) cells).toList:=by
      have e:(v.cells.zipIdx.foldl (fun cs p=>cs.setIfInBounds (off+p.2) p.1) cells)=(v.cells.toList.zipIdx 0).foldl (fun cs p=>cs.setIfInBounds (off+p.2) p.1) cells:=by
       rw [←Array.foldl_toList];simp
      rw [e,qe]
      have hle:v.cells.toList.length=x.cells.length:=by simp;omega
      simp only [eH,Nat.add_zero,hle]
      exact ((hz.take off).append hx).append (hz.drop _)
     obtain ⟨fv,h1,h2⟩:=zE place parts pl xs _ cs _ VX (by simpa using hl) (fun j p q h1 h2=>hp (j+1) p q (by simpa using h1) (by simpa using h2)) (fun j p y h1 h2=>hr (j+1) p y (by simpa using h1) (by simpa using h2)) hf
     refine ⟨fv,?_,h2⟩
     simp only [Instr.fill,IF]
     rw [aD (by simpa using nQ)]
     exact h1
    ·cases hf
end
section
variable {C:Ctx} {D:j0} {σ:Sg} {γ:Ga} {a:Act} {w:World}
theorem cL.yN (h:cL C D σ γ a w) {w':World} {cs:List Value} {DE:List AV} {e:TypeId} (hw:w'={ w with heap:=w.heap.push (.cells ⟨cs⟩ e) }) (hL:dw D.R w DE cs) :
  cL C D σ γ a w'∧iP D.R w' (.ag DE) w.heap.size cs∧C.kY w.heap.size∧(∀key,eI D γ key≠some w.heap.size):=by
 subst hw
 have hold:∀b,b<w.heap.size→(w.heap.push (.cells ⟨cs⟩ e))[b]?=w.heap[b]?:=fun b hb=>by rw [Array.getElem?_push,aD (by omega)]
 have hS:=h.grow (w':={ w with heap:=w.heap.push (.cells ⟨cs⟩ e) }) (R':=D.R) rfl rfl rfl (by simp) hold (fun _ _ h=>h) (fun _ _ h => .inl h) (fun b o hr=>by simp;have:=h.jT b o hr;omega)
 have hk:fh D.R w D.R { w with heap:=w.heap.push (.cells ⟨cs⟩ e) }:=fun b o hr=>⟨hr,World.cell?_of_block (w:=w) (hold b (h.jT b o hr))⟩
 exact ⟨hS,⟨e,by simp,.inr ⟨DE,rfl,by rw [List.take_of_length_le (by rw [hL.length];exact Nat.le_refl _)];exact hL.mono hk⟩,fun o hr=>by have:=h.jT _ _ hr;omega⟩,.inr h.ext.size,fun key hk=>by have:=h.lt hk;omega⟩
theorem lQ {P:Program} {t:TypeId} {z:List AV} (h:nU P t z=true):∃i v,P.info? t=some i∧i.zero=some v∧fk v.cells.toList z=true:=by
 unfold nU at h
 cases hi:P.info? t with
 | none=>simp [hi] at h
 | some i =>
  cases hz:i.zero with
  | none=>simp [hi,hz] at h
  | some v=>simp [hi,hz] at h;exact ⟨i,v,rfl,hz,h⟩
theorem oc {P:Program} {t:TypeId} {i:TypeInfo} {v:Value} (hi:P.info? t=some i) (hz:i.zero=some v) (w:World):(zeroValue t).run P w = .ok v w:=by simp [zeroValue,typeInfo,hi,hz]
theorem oY:∀{xs:List Value} {ys:List AV},fk xs ys=true→∀(i:Nat) (y:AV),ys[i]?=some y→∃x,xs[i]?=some x∧iV x y=true
 | [],[],_,i,y,h=>by simp at h
 | x :: xs,z :: ys,hc,0,y,h=>by simp [fk] at hc;simp at h;subst h;exact ⟨x,rfl,hc.1⟩
 | x :: xs,z :: ys,hc,i+1,y,h=>by simp [fk] at hc;simpa using oY hc.2 i y (by simpa using h)
 | [],_ :: _,h,_,_,_=>by simp [fk] at h
 | _ :: _,[],h,_,_,_=>by simp [fk] at h
theorem vz {x:Value} {s:Nat} (h:iV x (.sl s [])=true):x = .slice none 0 0:=by
 unfold iV at h;split at h <;> simp_all
theorem cL.B0 (ts:List (Nat × (Nat × Nat))):∀{D:j0} {σ:Sg} {γ:Ga} {a:Act} {w:World},cL C D σ γ a w→(∀t∈ts,γ (lk t.2.1) = .no)→(ts.map (·.2.1)).Nodup →
  ∃D',cL C D' (bN σ (ts.map fun t=>lk t.2.1) (ts.map fun _ => .dead)) (bN γ (ts.map fun t=>lk t.2.1) (ts.map fun t => .live t.2.2)) a w∧D'.R=D.R∧(∀key,eI D γ key=none∨eI D' (bN γ (ts.map fun t=>lk t.2.1) (ts.map fun t => .live t.2.2)) key=eI D γ key) ∧
   (∀key g,eI D' (bN γ (ts.map fun t=>lk t.2.1) (ts.map fun t => .live t.2.2)) key=some g→eI D γ key=some g) ∧
   (∀t∈ts,D'.τ (lk t.2.1) = .slice none 0 0∧(bN γ (ts.map fun t=>lk t.2.1) (ts.map fun t => .live t.2.2) (lk t.2.1)).ej=true) ∧
   (∀key,(∀t∈ts,key≠lk t.2.1)→bN γ (ts.map fun t=>lk t.2.1) (ts.map fun t => .live t.2.2) key=γ key)∧(∀k,(∀t∈ts,k≠lk t.2.1)→D'.τ k=D.τ k)∧D'.β=D.β:=by
 induction ts with
 | nil=>exact fun {D σ γ a w} h _ _=>⟨D,h,rfl,fun _ => .inr rfl,fun _ _ h=>h,by simp,fun _ _=>rfl,fun _ _=>rfl,rfl⟩
 | cons t ts ih =>
  intro D σ γ a w h jP hnd
  simp only [ah,List.nodup_cons] at hnd
  obtain ⟨D1,h1,hR,Hz,xW,ht1,eE,IB,IC⟩   := ih h (fun u hu=>jP u (by simp [hu])) hnd.2
  have fI:∀u∈ts,lk t.2.1≠lk u.2.1:=fun u hu e=>hnd.1 (aO.2 ⟨u,hu,(fO e).symm⟩)
  have LZ:bN γ (ts.map fun t=>lk t.2.1) (ts.map fun t => .live t.2.2) (lk t.2.1) = .no:=by rw [eE _ fI];exact jP t (by simp)
  have h2:=(h1.wY (k:=t.2.1) (s:=t.2.2) (v := .slice none 0 0) LZ (.inl rfl) (by simp [Value.ownBlock])).dead (k:=lk t.2.1) (by rw [bE];rfl)
  have oJ:∀key,eI { D1 with τ:=cF D1.τ (lk t.2.1) (.slice none 0 0) } (cF (bN γ (ts.map fun t=>lk t.2.1) (ts.map fun t => .live t.2.2)) (lk t.2.1) (.live t.2.2)) key=if key=lk t.2.1 then none else eI D1 (bN γ (ts.map fun t=>lk t.2.1) (ts.map fun t => .live t.2.2)) key:=fun key=>by
   unfold eI
   by_cases e:key=lk t.2.1
   ·subst e;rw [bE];simp [bE,Value.ownBlock]
   ·rw [bF _ _ e,aD e]
    cases hg:bN γ (ts.map fun t=>lk t.2.1) (ts.map fun t => .live t.2.2) key with
    | live s'=>simp [bF _ _ e]
    | pv s'=>simp [bF _ _ e]
    | pc s'=>simp [bF _ _ e]
    | mX d s'=>simp [bF _ _ e]
    | _=>rfl
  refine ⟨_,h2,hR,fun key=>?_,fun key g hk=>?_,fun u hu=>?_,fun key hk=>?_,fun k hk=>?_,IC⟩
  ·simp only [ah,bN]
   rw [oJ]
   by_cases e:key=lk t.2.1
   ·subst e;left;unfold eI;rw [jP t (by simp)]
   ·rw [aD e];exact Hz key
  ·simp only [ah,bN] at hk
   rw [oJ] at hk
   by_cases e:key=lk t.2.1
   ·simp [e] at hk
   ·rw [aD e] at hk;exact xW key g hk
  ·simp only [ah,bN]
   rcases bh.1 hu with rfl | hu
   ·exact ⟨bE _ _ _,by rw [bE];rfl⟩
   ·have hn:lk u.2.1≠lk t.2.1:=fun e=>fI u hu e.symm
    refine ⟨by show cF D1.τ (lk t.2.1) _ (lk u.2.1)=_;rw [bF _ _ hn];exact (ht1 u hu).1,?_⟩
    rw [bF _ _ (fun e=>fI u hu e.symm)];exact (ht1 u hu).2
  ·simp only [ah,bN]
   rw [bF _ _ (hk t (by simp))];exact eE key (fun u hu=>hk u (by simp [hu]))
  ·show cF D1.τ (lk t.2.1) _ k=_
   rw [bF _ _ (hk t (by simp))];exact IB k (fun u hu=>hk u (by simp [hu]))
variable {o:Oper} {d:Nat} {K:Act→World→Prop} {Q:Exit→Act→World→Prop} (h:cL C D σ γ a w) (hd:o.dst=some d) (hl:d<C.nt)
include h hd hl
theorem NY {t:TypeId} {m:Nat} {z:List AV} {ts:List (Nat × (Nat × Nat))} (ho:o.op = .alloc t) (hz:nU C.P t z=true) (nM:∀q∈ts,∃s,z[q.1]?=some (.sl s [])) (hm:γ m = .no) (h1:C.nt≤m) (h2:m<999999)
  (jP:∀t∈ts,γ (lk t.2.1) = .no) (hnd:(ts.map (·.2.1)).Nodup)
  (hK:∀D' a' w',cL C D' (bN σ (d :: m :: ts.map fun t=>lk t.2.1) (.pt :: .ag z :: ts.map fun _ => .dead)) (bN γ (d :: m :: ts.map fun t=>lk t.2.1) (.ptr m 0 :: .cl ts :: ts.map fun t => .live t.2.2)) a' w'→K a' w'):o.wp C.P a w K Q:=by
 obtain ⟨i,v,hi,DK,lH⟩:=lQ hz
 have hL:dw D.R w z v.cells.toList:=gO lH
 have cK:(execOp a.eval o).run C.P w = .ok (.value (.pointer (some ⟨w.heap.size,0,none⟩))) { w with heap:=w.heap.push (.cells ⟨v.cells.toList⟩ t) }:=by
  simp [execOp,ho,Instr.alloc,oc hi DK,newVar,newRow]
 obtain ⟨hS,hV,pT,oF⟩:=h.yN rfl hL
 obtain ⟨D1,S4,hR,Hz,xW,ht1,eE,IB,IC⟩:=hS.B0 ts jP hnd
 have FU:∀t∈ts,m≠lk t.2.1:=fun t _=>by have:=fH t.2.1;omega
 have ve:bN γ (ts.map fun t=>lk t.2.1) (ts.map fun t => .live t.2.2) m = .no:=by rw [eE m FU];exact hm
 have WX:iP D1.R { w with heap:=w.heap.push (.cells ⟨v.cells.toList⟩ t) } (.ag z) w.heap.size v.cells.toList:=by rw [hR];exact hV
 have F6:=S4.newVar (ts:=ts) ve h1 h2 WX (fun q hq=>⟨(ht1 q hq).2,by
  obtain ⟨s,hs⟩:=nM q hq
  obtain ⟨y,vX,_,Hu⟩:=hL.get q.1 _ hs
  rw [vX,(ht1 q hq).1]
  obtain ⟨x,xT,Hv⟩:=oY lH q.1 _ hs
  rw [vX] at xT;cases xT
  rw [vz Hv]⟩) ⟨pT,fun key hk=>oF key (xW key _ hk)⟩
 have S3:=F6.put (d:=d) (s := .pt) (g := .ptr m 0) (v := .pointer (some ⟨w.heap.size,0,none⟩)) hl (.inr ⟨.pt _,by intro _;show _=_;simp [bE]⟩) rfl rfl (by show Gh.eQ (cF _ m _ m)=true;rw [bE];rfl)
 unfold Oper.wp
 rw [cK,Oper.upon_value,hd]
 exact hK _ _ _ S3
end
end Go.Eng
namespace Go.Eng
open Go.RowKit
section
variable {C:Ctx} {D:j0} {σ:Sg} {γ:Ga} {a:Act} {w:World}
variable {o:Oper} {d:Nat} {K:Act→World→Prop} {Q:Exit→Act→World→Prop} (h:cL C D σ γ a w)
include h
theorem Jx {x:Operand} {r:cO} {t:TypeId} {m:Nat} (hd:o.dst=some d) (hl:d<C.nt) (ho:o.op = .box t x) (hx:bS x r=true) (fq:small C.nt [x]=true) (hp:(r.ev C.E σ).plain=true) (hm:γ m = .no) (h1:C.nt≤m) (h2:m<999999)
  (hK:∀D' a' w',cL C D' (bN σ [d,m] [.pt,.ag (r.ev C.E σ).cells]) (bN γ [d,m] [.ptr m 0,.cl []]) a' w'→K a' w'):o.wp C.P a w K Q:=by
 have e1:=(h.gy hx fq).rep (by intro e;rw [e] at hp;cases hp)
 have hL:=lg e1 hp
 have cK:(execOp a.eval o).run C.P w = .ok (.value (.pointer (some ⟨w.heap.size,0,none⟩))) { w with heap:=w.heap.push (.cells ⟨(a.eval x).cells.toList⟩ t) }:=by
  simp [execOp,ho,Instr.box,newVar,newRow]
 obtain ⟨hS,hV,pT,oF⟩:=h.yN rfl hL
 have F6:=hS.newVar (ts:=[]) hm h1 h2 hV (by simp) ⟨pT,oF⟩
 have S3:=F6.put (d:=d) (s := .pt) (g := .ptr m 0) (v := .pointer (some ⟨w.heap.size,0,none⟩)) hl (.inr ⟨.pt _,by intro _;show _=_;simp [bE]⟩) rfl rfl (by show Gh.eQ (cF _ m _ m)=true;rw [bE];rfl)
 unfold Oper.wp
 rw [cK,Oper.upon_value,hd]
 exact hK _ _ _ S3
theorem EL {x v:Operand} {r q:cO} {t:TypeId} {inf:TypeInfo} {m o' n:Nat} {cs:List AV} {ts:List (Nat × (Nat × Nat))} (hd:o.dst=none) (ho:o.op = .store t x v) (hi:C.P.info? t=some inf) (hz:inf.size=n)
  (hx:bS x r=true) (fq:small C.nt [x]=true) (hv:bS v q=true) (lj:small C.nt [v]=true) (hr:r.ev C.E σ = .pt) (hg:r.gh γ = .ptr m o') (hm:γ m = .cl ts) (jO:σ m = .ag cs)
  (JV:q.ev C.E σ ≠ .dead) (Sk:q.ev C.E σ ≠ .sk) {qs:List AV} (hL:dw D.R w qs (a.eval v).cells.toList) (hn:qs.length=n) (nQ:o'+n≤cs.length)
  (hK:∀D' a' w',cL C D' (cF σ m (.ag (eH cs o' qs))) (cF γ m (.cl (ts.filter (fun t=>t.1<o' || o'+n≤t.1)++match q.gh γ with | .cB k s=>if n=1 then [(o',k,s)] else [] | _=>[]))) a' w'→K a' w'):o.wp C.P a w K Q:=by
 have e0:=h.gy hx fq
 have Hx:=e0.gh (by rw [hr];simp) (by rw [hr];simp)
 rw [hg] at Hx
 simp only [iw] at Hx
 have q0:=h.gy hv lj
 obtain ⟨vs,tj,nM⟩:=h.mem m ts hm
 rw [jO] at tj
 have nP:=tj.CR
 obtain ⟨elem,hh,IP⟩:=tj.ag
 have ja:cs.length≤vs.length:=by have:=IP.length;simp at this;omega
 have hlen:=hL.length
 have Wr:=IP.length
 have SV:(a.eval v).cells.size=n:=by simp at hlen;omega
 have vo:=run_storeCells_at (P:=C.P) (D.β m) o' elem (a.eval v).cells.toList 0 ⟨vs⟩ w hh (by simp;omega) hL.one
 simp only [Nat.add_zero] at vo
 let new:List Value:=vs.take o'++(a.eval v).cells.toList++vs.drop (o'+(a.eval v).cells.toList.length)
 have cK:(execOp a.eval o).run C.P w = .ok .skip (w.setRow (D.β m) ⟨new⟩):=by
  have:¬((a.eval v).cells.size≠n):=by omega
  simp only [execOp,ho,Hx,Instr.storeAt,Instr.sureAddr,Sem.run_bind,Sem.run_pure,Result.andThen_ok,storeVar,run_sizeOf hi,hz,Sem.run_ite,this,if_false,vo]
  rfl
 have Ch:=setRow_heap w (D.β m) ⟨vs⟩ ⟨new⟩ elem (0,0) hh
 have bL:fh D.R w D.R (w.setRow (D.β m) ⟨new⟩):=fun b o hr=>⟨hr,cell_setRow_other w (D.β m) _ ⟨b,o,none⟩ (fun e=>nP o (by have:b=D.β m:=e;rw [←this];exact hr))⟩
 have S9:dw D.R (w.setRow (D.β m) ⟨new⟩) (eH cs o' qs) (new.take (eH cs o' qs).length):=by
  have hle:(a.eval v).cells.toList.length=qs.length:=hlen.symm
  have Pd:(eH cs o' qs).length=cs.length:=by simp [eH];omega
  have FP:new.take cs.length=(vs.take cs.length).take o'++(a.eval v).cells.toList++(vs.take cs.length).drop (o'+(a.eval v).cells.toList.length):=by
   apply List.ext_getElem?
   intro j
   simp only [new,aM,List.getElem?_append,aq,aK,List.getElem?_drop,hle,hn]
   have e1:min o' vs.length=o':=by omega
   have e2:min o' (min cs.length vs.length)=o':=by omega
   simp only [e1,e2]
   by_cases c1:j<cs.length
   ·by_cases c2:j<o'
    ·simp [c1,c2,show j<o'+n by omega]
    ·by_cases c3:j<o'+n
     ·simp [c1,c2,c3]
     ·simp [c1,c2,c3,show o'+n+(j - (o'+n))<cs.length by omega]
   ·have c2:¬j<o':=by omega
    have c3:¬j<o'+n:=by omega
    simp [c1,c3,show ¬o'+n+(j - (o'+n))<cs.length by omega]
  rw [Pd,FP]
  simp only [eH,hle]
  have hX:=(((IP.take o').append hL).append (IP.drop (o'+qs.length))).mono bL
  exact hX
 have L1:=h.inv m
 rw [hm] at L1
 have hS:=h.store (us:=ts.filter (fun t=>t.1<o' || o'+n≤t.1)++match q.gh γ with | .cB k s=>if n=1 then [(o',k,s)] else [] | _=>[]) hm (w':=w.setRow (D.β m) ⟨new⟩) rfl rfl rfl (by simp) (fun b hb=>setRow_other w (D.β m) b _ hb)
  ⟨elem,Ch,.inr ⟨_,rfl,S9⟩,nP⟩ (fun t ht=>by
   rcases List.mem_append.1 ht with ht | ht
   ·have jC:=List.mem_filter.1 ht
    refine ⟨L1 t jC.1,?_⟩
    have hc:=nM t jC.1
    have eO:=(aE.1 hc).1
    have zh:=jC.2
    simp only [Bool.or_eq_true,ay] at zh
    have V5:(a.eval v).cells.toList.length=n:=by simp;exact SV
    simp only [new]
    rcases zh with xp | xp
    ·rw [aQ,List.getElem?_append_left (by simp;omega),aM,aH xp];exact hc
    ·rw [aJ (by simp;omega)]
     simp only [aq,aK,V5,List.getElem?_drop]
     rw [←hc];congr 1;omega
   ·revert ht
    split
    ·rename_i k s PF
     split
     ·rename_i Sw
      intro ht
      simp at ht
      subst ht
      have zf:=h.lE q
      rw [PF] at zf
      refine ⟨zf,?_⟩
      have J3:=q0.gh JV Sk
      rw [PF] at J3
      simp only [iw] at J3
      have xp:(a.eval v).cells.toList=[D.τ (lk k)]:=by
       obtain ⟨e1,e2⟩:=J3
       rw [←e1]
       generalize a.eval v=y at e2
       cases y <;> first | rfl | (simp [Value.oneCell'] at e2)
      simp only [new,xp]
      rw [aQ,aJ (by simp;omega)]
      simp
      have:o' - min o' vs.length=0:=by omega
      simp [this]
     ·intro ht;cases ht
    ·intro ht;cases ht)
 unfold Oper.wp
 rw [cK,Oper.upon_skip,hd]
 exact hK _ _ _ (by simpa [Act.put] using hS)
theorem Jt {x v:Operand} {r q:cO} {t:TypeId} {inf:TypeInfo} {m o' n:Nat} {cs:List AV} {ts:List (Nat × (Nat × Nat))} (hd:o.dst=none) (ho:o.op = .store t x v) (hi:C.P.info? t=some inf) (hz:inf.size=n)
  (hx:bS x r=true) (fq:small C.nt [x]=true) (hv:bS v q=true) (lj:small C.nt [v]=true) (hr:r.ev C.E σ = .pt) (hg:r.gh γ = .ptr m o') (hm:γ m = .cl ts) (jO:σ m = .ag cs)
  (hp:(q.ev C.E σ).plain=true) (hn:(q.ev C.E σ).cells.length=n) (nQ:o'+n≤cs.length)
  (hK:∀D' a' w',cL C D' (cF σ m (.ag (eH cs o' (q.ev C.E σ).cells))) (cF γ m (.cl (ts.filter (fun t=>t.1<o' || o'+n≤t.1)++match q.gh γ with | .cB k s=>if n=1 then [(o',k,s)] else [] | _=>[]))) a' w'→K a' w'):o.wp C.P a w K Q:=by
 have JV:q.ev C.E σ ≠ .dead:=by intro e;rw [e] at hp;cases hp
 have Sk:q.ev C.E σ ≠ .sk:=by intro e;rw [e] at hp;cases hp
 exact EL h hd ho hi hz hx fq hv lj hr hg hm jO JV Sk (lg ((h.gy hv lj).rep JV) hp) hn nQ hK
theorem cL.qE:∀{l:List Operand} {rs:List cO},bV l rs=true→small C.nt l=true→eY D.R w (rs.map (cO.ev C.E σ)) (l.map a.eval)
 | [],[],_,_ => .nil
 | x :: xs,r :: rs,hx,hs=>by
  simp [bV] at hx
  have h1:small C.nt [x]=true:=by simp [small] at hs ⊢;exact hs.1
  have h2:small C.nt xs=true:=by simp only [small,List.all_cons,aa] at hs;exact hs.2
  refine .cons ?_ (cL.qE hx.2 h2)
  rcases h.gy hx.1 h1 with e | e
  ·rw [e];exact .dead _
  ·exact e.1
 | [],_ :: _,hx,_=>by simp [bV] at hx
 | _ :: _,[],hx,_=>by simp [bV] at hx
omit h
theorem se (s:Nat):∀(vs:List Value) (k:Nat) (cells:Array Value),(∀v∈vs,v.cells.size=s)→(k+vs.length) * s=cells.size →
  ∃fv,Instr.fill (fun i=>some (i * s,s)) cells ((vs.zipIdx k).map fun p=>(p.2,p.1))=some fv∧fv.toList=cells.toList.take (k * s)++vs.flatMap fun v=>v.cells.toList
 | [],k,cells,_,hl=>by
  refine ⟨cells,rfl,?_⟩
  simp at hl
  simp [List.take_of_length_le,hl]
 | v :: vs,k,cells,hv,hl=>by
  have h0:=hv v (by simp)
  simp only [aP] at hl
  have hm:(k+(vs.length+1)) * s=k * s+s+vs.length * s:=by rw [Nat.add_mul,Nat.succ_mul];omega
  have nQ:¬(v.cells.size≠s∨k * s+v.cells.size > cells.size):=by omega
  have qe:=vZ v.cells.toList (k * s) 0 cells (by simp;omega)
  have e:(v.cells.zipIdx.foldl (fun cs p=>cs.setIfInBounds (k * s+p.2) p.1) cells)=(v.cells.toList.zipIdx 0).foldl (fun cs p=>cs.setIfInBounds (k * s+p.2) p.1) cells:=by
   rw [←Array.foldl_toList];simp
  have kZ:(v.cells.zipIdx.foldl (fun cs p=>cs.setIfInBounds (k * s+p.2) p.1) cells).size=cells.size:=by
   rw [e,←Array.length_toList,qe];simp;omega
  obtain ⟨fv,h1,h2⟩:=se s vs (k+1) (v.cells.zipIdx.foldl (fun cs p=>cs.setIfInBounds (k * s+p.2) p.1) cells) (fun u hu=>hv u (by simp [hu])) (by rw [kZ,←hl];congr 1;omega)
  refine ⟨fv,?_,?_⟩
  ·simp only [List.zipIdx_cons,ah,Instr.fill]
   rw [aD (by simpa using nQ)]
   exact h1
  ·rw [h2,e,qe]
   have eE:(k+1) * s=k * s+s:=Nat.succ_mul k s
   have hL:(cells.toList.take (k * s+0)++v.cells.toList).length=(k+1) * s:=by simp;omega
   rw [aQ,←aQ (cells.toList.take (k * s+0)),List.take_left' hL]
   simp
theorem rN {α:Type}:∀(l:List (Nat × α)) (k:Nat),l.map (·.1)=List.range' k l.length→l=((l.map (·.2)).zipIdx k).map fun p=>(p.2,p.1)
 | [],_,_=>rfl
 | (i,x) :: l,k,h=>by
  simp only [ah,aP,List.range'_succ,aj] at h
  simp only [ah,List.zipIdx_cons]
  rw [←rN l (k+1) h.2,h.1]
theorem rM {R:Reach} {w:World} {s:Nat}:∀{xs:List AV} {vs:List Value},eY R w xs vs→(∀x∈xs,x.plain=true∧x.cells.length=s)→dw R w (xs.flatMap AV.cells) (vs.flatMap fun v=>v.cells.toList)∧∀v∈vs,v.cells.size=s
 | _,_,.nil,_=>⟨.nil,by simp⟩
 | _,_,.cons (x:=x) h t,hx=>by
  obtain ⟨h1,h2⟩:=rM t (fun x R5=>hx x (by simp [R5]))
  obtain ⟨p1,p2⟩:=hx x (by simp)
  have hL:=lg h p1
  refine ⟨by simpa using hL.append h1,fun v hv=>?_⟩
  rcases bh.1 hv with rfl | hv
  ·have:=hL.length;simp at this;omega
  ·exact h2 v hv
theorem qV {s:Nat}:∀{l:List AV},(∀x∈l,x.plain=true∧x.cells.length=s)→(l.flatMap AV.cells).length=l.length * s
 | [],_=>by simp
 | x :: l,hl=>by
  simp only [List.flatMap_cons,aq,aP,Nat.succ_mul]
  rw [qV (fun y hy=>hl y (by simp [hy])),(hl x (by simp)).2];omega
theorem mf {P:Program} {t:TypeId} {s:Nat} (h:kB P t s=true):∃e i z,P.underlying t=some (.slice e)∧P.info? e=some i∧i.size=s∧i.zero=some z∧0<s:=by
 unfold kB at h
 cases he:jy P t with
 | none=>simp [he] at h
 | some e =>
  simp [he] at h
  obtain ⟨h1,h0⟩:=h
  cases hi:P.info? e with
  | none=>simp [hi] at h1
  | some i =>
   simp [hi] at h1
   obtain ⟨h1,h2⟩:=h1
   obtain ⟨z,hz⟩:=Option.isSome_iff_exists.1 h2
   exact ⟨e,i,z,gF he,hi,h1,hz,h0⟩
theorem cL.Fo (h:cL C D σ γ a w) {t e:TypeId} {inf:TypeInfo} {zv:Value} {s n:Nat} {parts:Array (Nat × Operand)} {rs:List cO} (ht:C.P.underlying t=some (.slice e)) (hi:C.P.info? e=some inf) (hz:inf.size=s) (DK:inf.zero=some zv)
  (FR:n * s≤2 ^ 24) (FQ:n≤maxLen) (vq:parts.toList.map (·.1)=List.range n) (hx:bV (parts.toList.map (·.2)) rs=true) (c8:small C.nt (parts.toList.map (·.2))=true)
  (vd:∀x∈rs.map (cO.ev C.E σ),x.plain=true∧x.cells.length=s) :
  ∃v w' R',(Instr.buildSlice t n (parts.map fun p=>(p.1,a.eval p.2))).run C.P w = .ok v w'∧cL C { D with R:=R' } σ γ a w'∧Rep R' w' (.sl s (rs.map (cO.ev C.E σ))) v∧fg R' w' v s∧fh D.R w R' w' ∧
   ∀g,v.ownBlock=some g→C.kY g∧∀key,eI D γ key≠some g:=by
 have hT:=h.qE hx c8
 obtain ⟨hL,kZ⟩:=rM hT vd
 have hlen:parts.toList.length=n:=by have:=congrArg List.length vq;simpa using this
 have Ps:parts.size=n:=by simpa using hlen
 have pD:(rs.map (cO.ev C.E σ)).length=n:=by have:=hT.length;simp at this ⊢;omega
 have hp:(parts.map fun p=>(p.1,a.eval p.2)).toList=((((parts.toList.map (·.2)).map a.eval).zipIdx 0).map fun p=>(p.2,p.1)):=by
  have e:=rN ((parts.map fun p=>(p.1,a.eval p.2)).toList) 0 (by simp only [Array.toList_map,aW,aG,hlen];rw [←List.range_eq_range',←vq];rfl)
  rw [e]
  simp [Function.comp_def]
 let zc:Array Value:=if n * s=0 then #[] else zv.cells
 let c0:Array Value:=(Array.range (n * s)).map (zc[· % zc.size]!)
 obtain ⟨fv,hf,L9⟩:=se s ((parts.toList.map (·.2)).map a.eval) 0 c0 kZ (by simp [c0,hlen])
 simp only [Nat.zero_mul,List.take_zero,bj] at L9
 have cK:(Instr.buildSlice t n (parts.map fun p=>(p.1,a.eval p.2))).run C.P w = .ok (.slice (some ⟨w.heap.size,0,none⟩) n n) { w with heap:=w.heap.push (.cells fv e) }:=by
  have Td:¬(n * s > 2 ^ 24):=by omega
  rw [←hp] at hf
  simp only [c0,zc] at hf
  simp only [Instr.buildSlice,Sem.run_bind,run_underlying ht,Result.andThen_ok,run_sizeOf hi,hz,Td,if_false,Sem.run_pure]
  by_cases h0:n * s=0
  ·rw [aH h0] at hf ⊢
   simp only [Sem.run_bind,Sem.run_pure,Result.andThen_ok]
   rw [hf]
   simp [Go.newRow]
  ·rw [aD h0] at hf ⊢
   simp only [Sem.run_bind,Sem.run_pure,Result.andThen_ok,oc hi DK]
   rw [hf]
   simp [Go.newRow]
 have xn:fv.size=n * s:=by
  rw [←Array.length_toList,L9,←hL.length,qV vd,pD]
 obtain ⟨R',hS,hR,nP,_,hk,hh⟩:=h.newRow (w':={ w with heap:=w.heap.push (.cells fv e) }) (es:=rs.map (cO.ev C.E σ)) (s:=s) (cap:=n) rfl rfl rfl rfl (fun x hx=>(vd x hx).2) hL
  (fun j y hj=>by rw [←L9] at hj;simpa using hj) (by omega) FQ
 rw [pD] at hR nP
 refine ⟨_,_,R',cK,hS,hR,.inr ⟨_,_,_,_,_,_,rfl,hh,by simp,xn,Nat.le_refl _,FQ,nP⟩,hk,fun g hg=>?_⟩
 simp [Value.ownBlock] at hg
 subst hg
 exact ⟨.inr h.ext.size,fun key hk=>by have:=h.lt hk;omega⟩
variable (h:cL C D σ γ a w) (hd:o.dst=some d) (hl:d<C.nt)
include h hd hl
theorem NU {t:TypeId} {s n:Nat} {parts:Array (Nat × Operand)} {rs:List cO} (ho:o.op = .buildSlice t n parts) (ht:kB C.P t s=true) (FR:n * s≤2 ^ 24)
  (vq:parts.toList.map (·.1)=List.range n) (hx:bV (parts.toList.map (·.2)) rs=true) (c8:small C.nt (parts.toList.map (·.2))=true) (vd:∀x∈rs.map (cO.ev C.E σ),x.plain=true∧x.cells.length=s)
  (hK:∀D' a' w',cL C D' (cF σ d (.sl s (rs.map (cO.ev C.E σ)))) (cF γ d .no) a' w'→K a' w'):o.wp C.P a w K Q:=by
 obtain ⟨e,i,z,h1,h2,h3,h4,h5⟩:=mf ht
 have FQ:n≤maxLen:=by
  have:n≤n * s:=Nat.le_mul_of_pos_right n h5
  simp only [maxLen];omega
 obtain ⟨v,w',R',cK,hS,hR,_⟩:=h.Fo h1 h2 h3 h4 FR FQ vq hx c8 vd
 exact cL.DR hd hl (v:=v) (w':=w') (by simp only [execOp,ho,Sem.run_bind,cK,Result.andThen_ok,Sem.run_pure]) hS hR hK
theorem Li {t:TypeId} {s n k:Nat} {parts:Array (Nat × Operand)} {rs:List cO} (ho:o.op = .buildSlice t n parts) (ht:kB C.P t s=true) (FR:n * s≤2 ^ 24)
  (vq:parts.toList.map (·.1)=List.range n) (hx:bV (parts.toList.map (·.2)) rs=true) (c8:small C.nt (parts.toList.map (·.2))=true) (vd:∀x∈rs.map (cO.ev C.E σ),x.plain=true∧x.cells.length=s) (hk:γ (lk k) = .no)
  (hK:∀D' a' w',cL C D' (bN σ [d,lk k] [.sl s (rs.map (cO.ev C.E σ)),.dead]) (bN γ [d,lk k] [.cB k s,.live s]) a' w'→K a' w'):o.wp C.P a w K Q:=by
 obtain ⟨e,i,z,h1,h2,h3,h4,h5⟩:=mf ht
 have FQ:n≤maxLen:=by
  have:n≤n * s:=Nat.le_mul_of_pos_right n h5
  simp only [maxLen];omega
 obtain ⟨v,w',R',cK,hS,hR,hT,_,hG⟩:=h.Fo h1 h2 h3 h4 FR FQ vq hx c8 vd
 unfold Oper.wp
 rw [show (execOp a.eval o).run C.P w = .ok (.value v) w' by simp only [execOp,ho,Sem.run_bind,cK,Result.andThen_ok,Sem.run_pure],Oper.upon_value,hd]
 exact hK _ _ _ (hS.rO hl hk hR hT hG)
omit h hd hl in
theorem oQ {α:Type} {zs:List α} (hz:0<zs.length):∀(l j:Nat) (y:α),(List.replicate l zs).flatten[j]?=some y→zs[j % zs.length]?=some y
 | 0,j,y,h=>by simp at h
 | l+1,j,y,h=>by
  simp only [List.replicate_succ,List.flatten_cons] at h
  by_cases hj:j<zs.length
  ·rw [List.getElem?_append_left hj] at h;rwa [Nat.mod_eq_of_lt hj]
  ·rw [aJ (by omega)] at h
   have:=oQ hz l _ y h
   rwa [Nat.mod_eq_sub_mod (by omega)]
omit h hd hl in
theorem lA {R:Reach} {w:World} {xs:List AV} {ys:List Value} (h:dw R w xs ys):∀n,dw R w (List.replicate n xs).flatten (List.replicate n ys).flatten
 | 0 => .nil
 | n+1=>by simp only [List.replicate_succ,List.flatten_cons];exact h.append (lA h n)
theorem NB {t e:TypeId} {x y:Operand} {r q:cO} {i:TypeInfo} {zv:Value} {k s:Nat} {z:AV} {l c:Int} (ho:o.op = .makeSlice t x y) (ht:C.P.underlying t=some (.slice e)) (hi:C.P.info? e=some i) (hz:i.size=s) (DK:i.zero=some zv) (y7:zv.cells.size=s) (Xd:0<s)
  (OZ:fk zv.cells.toList z.cells=true) (hx:bS x r=true) (hy:bS y q=true) (fq:small C.nt [x]=true) (lj:small C.nt [y]=true) (hr:r.ev C.E σ = .v (.int .i64 l)) (hq:q.ev C.E σ = .v (.int .i64 c))
  (hp:z.cells.length=s) (h0:0≤l) (SE:l≤c) (hb:c * i.bytes≤140737488355328) (vu:c≤maxLen) (hk:γ (lk k) = .no)
  (hK:∀D' a' w',cL C D' (bN σ [d,lk k] [.sl s (List.replicate l.toNat z),.dead]) (bN γ [d,lk k] [.cB k s,.live s]) a' w'→K a' w'):o.wp C.P a w K Q:=by
 have e1:=(h.gy hx fq).rep (by rw [hr];simp)
 have e2:=(h.gy hy lj).rep (by rw [hq];simp)
 rw [hr] at e1;rw [hq] at e2
 have Sy:=run_make (P:=C.P) w t e i zv ht hi DK .i64 .i64 l c h0 SE (by rw [Int.mul_comm];omega) (by simp only [maxLen] at vu;omega)
 have cK:(execOp a.eval o).run C.P w = .ok (.value (.slice (some ⟨w.heap.size,0,none⟩) l.toNat c.toNat)) (w.alloc (.cells (madeCells zv.cells (c.toNat * i.size)) e)):=by
  simp only [execOp,ho,e1.fw,e2.fw,Sem.run_bind,Sy,Result.andThen_ok,Sem.run_pure]
 have hL:dw D.R w z.cells zv.cells.toList:=gO OZ
 have SO:(List.replicate l.toNat z).flatMap AV.cells=(List.replicate l.toNat z.cells).flatten:=by rw [List.flatMap_def,List.map_replicate]
 have Db:l.toNat≤c.toNat:=by omega
 obtain ⟨R',hS,hR,nP,_,_,hh⟩:=h.newRow (w':=w.alloc (.cells (madeCells zv.cells (c.toNat * i.size)) e)) (es:=List.replicate l.toNat z) (s:=s) (cap:=c.toNat) (ys:=(List.replicate l.toNat zv.cells.toList).flatten) rfl rfl rfl rfl
  (fun x hx=>by rw [List.eq_of_mem_replicate hx];exact hp) (by rw [SO];exact lA hL _)
  (fun j y hj=>by
   have h1:=oQ (by simp;omega) _ _ _ hj
   have eO:=(aE.1 hj).1
   have Ci:(List.replicate l.toNat zv.cells.toList).flatten.length=l.toNat * s:=by simp [y7]
   rw [Ci] at eO
   have hle:l.toNat * s≤c.toNat * s:=ar _ Db
   have hm:j<c.toNat * i.size:=by rw [hz];omega
   simp only [madeCells,Array.getElem?_map,Array.getElem?_range,hm,if_true,Option.map_some]
   simp only [Array.length_toList,Array.getElem?_toList] at h1
   rw [getElem!_def,h1]) (by simpa using Db) (by omega)
 simp only [List.length_replicate] at hR nP
 unfold Oper.wp
 rw [cK,Oper.upon_value,hd]
 refine hK _ _ _ (hS.rO hl hk hR (.inr ⟨_,_,_,_,_,_,rfl,hh,by simp,by rw [size_madeCells,hz],Db,by omega,nP⟩) fun g hg=>?_)
 simp [Value.ownBlock] at hg
 subst hg
 exact ⟨.inr h.ext.size,fun key hk=>by have:=h.lt hk;omega⟩
omit h hd hl in
theorem od {P:Program} {w:World}:∀(fs:List Field),(∀f∈fs,(sizeOf f.type).run P w = .ok ((gU P f.type).getD 0) w) →
  ((fs.mapM fun (f:Field)=>do pure (f.offset,←sizeOf f.type)):Sem (List (Nat × Nat))).run P w = .ok (fs.map fun f=>(f.offset,(gU P f.type).getD 0)) w
 | [],_=>rfl
 | f :: fs,hs=>by
  simp only [List.mapM_cons,Sem.run_bind,hs f (by simp),Result.andThen_ok,Sem.run_pure,od fs (fun g hg=>hs g (by simp [hg])),ah]
theorem NW {t:TypeId} {z:List AV} {pl:List (Nat × Nat)} {parts:Array (Nat × Operand)} {rs:List cO} {cs:List AV} (ho:o.op = .build t parts) (hz:nU C.P t z=true) (IF:ux C.P t pl parts.toList=true) (hx:bV (parts.toList.map (·.2)) rs=true) (c8:small C.nt (parts.toList.map (·.2))=true)
  (hf:mq z pl (rs.map (cO.ev C.E σ))=some cs) (hK:∀D' a' w',cL C D' (cF σ d (.ag cs)) (cF γ d .no) a' w'→K a' w'):o.wp C.P a w K Q:=by
 have hT:=h.qE hx c8
 obtain ⟨i,zv,hi,DK,OZ⟩:=lQ hz
 have hL:dw D.R w z zv.cells.toList:=gO OZ
 simp only [ux,aa,beq_iff_eq] at IF
 obtain ⟨⟨qj,hlen⟩,nD⟩:=IF
 have jA:∀(j:Nat) (p:Nat × Operand) (q:Nat × Nat),parts.toList[j]?=some p→pl[j]?=some q→(match C.P.underlying t with | some (.struct fs)=>(fs[p.1]?).any fun f=>f.offset == q.1&&gU C.P f.type == some q.2 | some (.array _ e)=>gU C.P e == some q.2&&p.1 * q.2 == q.1 | _=>false)=true:=fun j p q hp hq=>by
  have:=aL.1 nD (q,p) (aT (i:=j) (by simp [List.getElem?_zip_eq_some,hq,hp]))
  exact this
 have O3:∀(j:Nat) (p:Nat × Value) (x:AV),((parts.map fun p=>(p.1,a.eval p.2)).toList)[j]?=some p→(rs.map (cO.ev C.E σ))[j]?=some x→Rep D.R w x p.2:=fun j p x hp V1=>by
  obtain ⟨y,vX,Hu⟩:=hT.get j x V1
  simp only [Array.toList_map,aI,aW] at hp vX
  cases hq:parts.toList[j]? with
  | none=>simp [hq] at hp
  | some q=>simp [hq] at hp vX;subst hp;rw [vX];exact Hu
 have LW:∀place:Nat→Option (Nat × Nat),(∀(j:Nat) (p:Nat × Operand) (q:Nat × Nat),parts.toList[j]?=some p→pl[j]?=some q→place p.1=some q) →
   ∃fv,Instr.fill place zv.cells (parts.map fun p=>(p.1,a.eval p.2)).toList=some fv∧dw D.R w cs fv.toList:=fun place Sm =>
  zE place _ pl _ z cs zv.cells hL (by simp [hlen]) (fun j p q hp hq=>by
   simp only [Array.toList_map,aI] at hp
   cases Ai:parts.toList[j]? with
   | none=>simp [Ai] at hp
   | some q'=>simp [Ai] at hp;subst hp;exact Sm j q' q Ai hq) O3 hf
 unfold sZ at qj
 cases hu:C.P.underlying t with
 | none=>simp [hu] at qj
 | some dd =>
  have fin:∀place:Nat→Option (Nat × Nat),(∀(j:Nat) (p:Nat × Operand) (q:Nat × Nat),parts.toList[j]?=some p→pl[j]?=some q→place p.1=some q) →
    (∀fv,Instr.fill place zv.cells (parts.map fun p=>(p.1,a.eval p.2)).toList=some fv→(execOp a.eval o).run C.P w = .ok (.value (.agg fv)) w)→o.wp C.P a w K Q:=fun place Sm Wf=>by
   obtain ⟨fv,MY,hR⟩:=LW place Sm
   exact h.fM hd hl (v := .agg fv) (Wf fv MY) (by cases fv with | mk l=>exact .ag hR) hK
  cases dd with
  | struct fs =>
   simp only [hu] at qj
   have kZ:∀f∈fs.toList,(sizeOf f.type).run C.P w = .ok ((gU C.P f.type).getD 0) w:=fun f hf=>by
    have:=aL.1 qj f hf
    obtain ⟨n,hn⟩:=Option.isSome_iff_exists.1 this
    obtain ⟨i',h1,h2⟩:=fV hn
    rw [run_sizeOf h1,hn,h2];rfl
   refine fin (fun i=>(fs.map fun f=>(f.offset,(gU C.P f.type).getD 0))[i]?) (fun j p q hp hq=>?_) (fun fv hc=>?_)
   ·have:=jA j p q hp hq
    rw [hu] at this
    simp only at this
    cases PG:fs[p.1]? with
    | none=>simp [PG] at this
    | some f =>
     simp [PG] at this
     simp [PG,this.1,this.2]
   ·have hm:=od fs.toList kZ
    have L1:((fs.mapM fun (f:Field)=>do pure (f.offset,←sizeOf f.type)):Sem (Array (Nat × Nat))).run C.P w = .ok (fs.map fun f=>(f.offset,(gU C.P f.type).getD 0)) w:=by
     rw [Array.mapM_eq_mapM_toList,Sem.run_map,hm]
     simp only [Result.andThen_ok]
     congr 1
     apply Array.ext'
     simp
    simp only [execOp,ho,Instr.build,Sem.run_bind,oc hi DK,run_underlying hu,Result.andThen_ok,L1]
    rw [hc]
    simp
  | array n e =>
   simp only [hu] at qj
   obtain ⟨s,hs⟩:=Option.isSome_iff_exists.1 qj
   obtain ⟨i',h1,h2⟩:=fV hs
   refine fin (fun i=>some (i * s,s)) (fun j p q hp hq=>?_) (fun fv hc=>?_)
   ·have:=jA j p q hp hq
    rw [hu] at this
    simp [hs] at this
    obtain ⟨q1,q2⟩:=q
    simp at this
    rw [this.1,this.2]
   ·simp only [execOp,ho,Instr.build,Sem.run_bind,oc hi DK,run_underlying hu,Result.andThen_ok,run_sizeOf h1,h2]
    rw [hc]
    simp
  | _=>simp [hu] at qj
end
end Go.Eng
namespace Go.Eng
open Go.RowKit
section
variable {X:Type}
theorem nX:∀{σ:Nat→X} {A B:List Nat} {xs ys:List X},A.length=xs.length→bN σ (A++B) (xs++ys)=bN (bN σ B ys) A xs
 | σ,[],B,[],ys,_=>by cases B <;> cases ys <;> rfl
 | σ,a :: A,B,x :: xs,ys,h=>by simp only [List.cons_append,bN];rw [nX (by simpa using h)]
 | σ,[],B,_ :: _,ys,h=>by simp at h
 | σ,_ :: _,B,[],ys,h=>by simp at h
theorem iF:∀{σ:Nat→X} {A:List Nat} {xs:List X} {k:Nat},k ∉ A→bN σ A xs k=σ k
 | σ,[],xs,k,_=>by cases xs <;> rfl
 | σ,a :: A,[],k,_=>rfl
 | σ,a :: A,x :: xs,k,h=>by
  simp only [bN]
  rw [bF _ _ (fun e=>h (by simp [e])),iF (fun e=>h (by simp [e]))]
theorem ia:∀{σ:Nat→X} {A:List Nat} {xs:List X} {k:Nat} {x:X},k ∉ A→bN (cF σ k x) A xs=cF (bN σ A xs) k x
 | σ,[],xs,k,x,_=>by cases xs <;> rfl
 | σ,a :: A,[],k,x,_=>rfl
 | σ,a :: A,y :: xs,k,x,h=>by
  simp only [bN]
  rw [ia (fun e=>h (by simp [e])),gq _ _ _ (fun e=>h (by simp [e]))]
theorem rB:∀{σ:Nat→X} {A B:List Nat} {xs ys:List X},(∀a∈A,a ∉ B)→bN (bN σ A xs) B ys=bN (bN σ B ys) A xs
 | σ,[],B,xs,ys,_=>by cases xs <;> rfl
 | σ,a :: A,B,[],ys,_=>rfl
 | σ,a :: A,B,x :: xs,ys,h=>by
  simp only [bN]
  rw [ia (h a (by simp)),rB (fun c hc=>h c (by simp [hc]))]
theorem pq (σ:Nat→X) (k:Nat) (x y:X):cF (cF σ k x) k y=cF σ k y:=by
 funext j;simp only [cF];split <;> rfl
end
section
variable {C:Ctx} {D:j0} {σ:Sg} {γ:Ga} {a:Act} {w:World}
theorem cL.Gy:∀(ks:List Nat) {σ:Sg},cL C D σ γ a w→(∀k∈ks,(γ k).eQ=false)→cL C D (bN σ ks (ks.map fun _ => .dead)) γ a w
 | [],_,h,_=>h
 | k :: ks,_,h,hk=>(cL.Gy ks h (fun j hj=>hk j (by simp [hj]))).dead (hk k (by simp))
theorem cL.JI:∀(ts:List (Nat × Nat)) {γ:Ga},cL C D σ γ a w→(∀t∈ts,γ t.1 = .live t.2)→(ts.map (·.1)).Nodup→cL C D σ (bN γ (ts.map (·.1)) (ts.map fun _ => .used)) a w
 | [],_,h,_,_=>h
 | t :: ts,γ,h,hk,hn=>by
  simp only [ah,List.nodup_cons] at hn
  have h1:=cL.JI ts h (fun u hu=>hk u (by simp [hu])) hn.2
  simp only [ah,bN]
  exact h1.kill (s:=t.2) (by rw [iF hn.1];exact hk t (by simp))
theorem cL.fR (ts:List (Nat × (Nat × Value))):∀{D:j0} {γ:Ga},cL C D σ γ a w→(∀t∈ts,γ (lk t.1) = .no)→(ts.map (·.1)).Nodup →
  (∀t∈ts,fg D.R w t.2.2 t.2.1)→(∀t∈ts,∀g,t.2.2.ownBlock=some g→C.kY g∧∀key,eI D γ key≠some g)→(∀(i j:Nat) (t u:Nat × (Nat × Value)) (g:Nat),ts[i]?=some t→ts[j]?=some u→t.2.2.ownBlock=some g→u.2.2.ownBlock=some g→i=j) →
  ∃D',cL C D' σ (bN γ (ts.map fun t=>lk t.1) (ts.map fun t => .live t.2.1)) a w∧D'.R=D.R∧D'.β=D.β∧(∀t∈ts,D'.τ (lk t.1)=t.2.2)∧(∀k,(∀t∈ts,k≠lk t.1)→D'.τ k=D.τ k) ∧
   (∀key g,eI D' (bN γ (ts.map fun t=>lk t.1) (ts.map fun t => .live t.2.1)) key=some g→eI D γ key=some g∨∃t∈ts,t.2.2.ownBlock=some g):=by
 induction ts with
 | nil=>exact fun {D γ} h _ _ _ _ _=>⟨D,h,rfl,rfl,by simp,fun _ _=>rfl,fun _ _ hk => .inl hk⟩
 | cons t ts ih =>
  intro D γ h jP hn hT oz IE
  simp only [ah,List.nodup_cons] at hn
  obtain ⟨D1,h1,hR,C3,pJ,LK,hb⟩:=ih h (fun u hu=>jP u (by simp [hu])) hn.2 (fun u hu=>hT u (by simp [hu])) (fun u hu=>oz u (by simp [hu]))
   (fun i j u v g hi hj hu hv=>by have:=IE (i+1) (j+1) u v g (by simpa using hi) (by simpa using hj) hu hv;omega)
  have fI:∀u∈ts,lk t.1≠lk u.1:=fun u hu e=>hn.1 (aO.2 ⟨u,hu,(fO e).symm⟩)
  have IG:lk t.1 ∉ ts.map fun t=>lk t.1:=fun hm=>by obtain ⟨u,hu,e⟩:=aO.1 hm;exact fI u hu e.symm
  have LZ:bN γ (ts.map fun t=>lk t.1) (ts.map fun t => .live t.2.1) (lk t.1) = .no:=by rw [iF IG];exact jP t (by simp)
  have oF:∀g,t.2.2.ownBlock=some g→C.kY g∧∀key,eI D1 (bN γ (ts.map fun t=>lk t.1) (ts.map fun t => .live t.2.1)) key≠some g:=fun g hg=>by
   obtain ⟨m1,m2⟩:=oz t (by simp) g hg
   refine ⟨m1,fun key hk=>?_⟩
   rcases hb key g hk with hk | ⟨u,hu,Sa⟩
   ·exact m2 key hk
   ·obtain ⟨j,hj⟩:=bg hu
    have:=IE 0 (j+1) t u g rfl (by simpa using hj) hg Sa
    omega
  have h2:=h1.wY LZ (by rw [hR];exact hT t (by simp)) oF
  refine ⟨_,h2,hR,C3,fun u hu=>?_,fun k hk=>?_,fun key g hk=>?_⟩
  ·rcases bh.1 hu with rfl | hu
   ·exact bE _ _ _
   ·show cF D1.τ (lk t.1) _ (lk u.1)=_
    rw [bF _ _ (fun e=>fI u hu e.symm)];exact pJ u hu
  ·show cF D1.τ (lk t.1) _ k=_
   rw [bF _ _ (hk t (by simp))];exact LK k (fun u hu=>hk u (by simp [hu]))
  ·by_cases e:key=lk t.1
   ·subst e
    right
    simp only [ah,bN,eI,bE] at hk
    exact ⟨t,by simp,hk⟩
   ·have:eI D1 (bN γ (ts.map fun t=>lk t.1) (ts.map fun t => .live t.2.1)) key=some g:=by
     simp only [ah,bN,eI] at hk
     rw [bF _ _ e] at hk
     unfold eI
     revert hk
     cases hg:bN γ (ts.map fun t=>lk t.1) (ts.map fun t => .live t.2.1) key with
     | live s'=>simp [bF _ _ e]
     | pv s'=>simp [bF _ _ e]
     | pc s'=>simp [bF _ _ e]
     | mX d s'=>simp [bF _ _ e]
     | _=>exact id
    rcases hb key g this with hk | ⟨u,hu,Sa⟩
    ·exact .inl hk
    ·exact .inr ⟨u,by simp [hu],Sa⟩
theorem cL.DA (h:cL C D σ γ a w) {m:Nat} {w':World} {R':Reach} {io:Nat→Prop} {x:AV} {cs:List Value} {ts:List (Nat × (Nat × Nat))} (hm:γ m = .cl ts) (he:Ext w D.R io w' R')
  (vf:∀b,io b→b=D.β m∨(C.kY b∧∀key,eI D γ key≠some b)) (hv:iP R' w' x (D.β m) cs) (lt:∀b o,R' b o→b<w'.heap.size) :
  cL C { D with R:=R' } (cF σ m x) (cF γ m (.cl [])) a w':=by
 have ja:∀j,(cF γ m (.cl []) j).eQ=(γ j).eQ:=fun j=>by
  by_cases e:j=m
  ·subst e;rw [bE,hm];rfl
  ·rw [bF _ _ e]
 have kG:∀j,(cF γ m (.cl []) j).ej=(γ j).ej:=fun j=>by
  by_cases e:j=m
  ·subst e;rw [bE,hm];rfl
  ·rw [bF _ _ e]
 have hM:∀g,eK γ g→eK (cF γ m (.cl [])) g:=fun g hg=>by
  cases g <;> simp only [eK,ja,kG] at hg ⊢ <;> first | exact hg | skip
  rename_i d s'
  have hd:d≠m:=fun e=>by subst e;rcases hg with e | ⟨lY,e⟩ <;> rw [hm] at e <;> cases e
  rw [bF _ _ hd];exact hg
 have hB:∀key,eI { D with R:=R' } (cF γ m (.cl [])) key=eI D γ key:=fun key=>by
  unfold eI
  by_cases e:key=m
  ·subst e;rw [bE,hm]
  ·rw [bF _ _ e]
 have r9:∀key g,key≠m→eI D γ key=some g→w'.heap[g]?=w.heap[g]?∧∀o,R' g o→D.R g o:=fun key g fI hk=>by
  have Pj:¬io g:=fun hi=>by
   rcases vf g hi with e | ⟨_,e⟩
   ·exact fI (h.rI (key:=m) (by rw [hm];rfl) (by rw [gP hm,e]) hk).symm
   ·exact e key hk
  refine ⟨he.heap g (h.lt hk) Pj,fun o hr=>?_⟩
  rcases he.qx g o hr with r | r | r
  ·exact r
  ·have:=h.lt hk;omega
  ·exact (Pj r).elim
 refine ⟨h.size,h.defers,h.iB,fun j hj=>h.oe j (by rwa [ja] at hj),fun j hj=>h.kL j (by rwa [kG] at hj),fun t ht=>?_,fun j vs hj=>?_,fun key s' jx=>?_,h.ps.bL he.bL (fun key hp=>?_),fun p q g hp hq=>(by rw [jh (by rw [hm];rfl) rfl,jh (by rw [hm];rfl) rfl];exact h.sep p q g (by rwa [hB] at hp) (by rwa [hB] at hq)),fun p g hp=>h.own p g (by rwa [hB] at hp),fun key=>?_,?_,lt,fun n=>(h.gl n).mono he.bL,h.fix.cF (by rw [hm];rfl) rfl rfl⟩
 ·have e:t≠m:=by have:=(h.oe m (by rw [hm];rfl)).1;omega
  rw [bF _ _ e,bF _ _ e]
  exact (h.slot t ht).imp id fun ⟨r,g⟩=>⟨r.mono he.bL,by cases hg:γ t <;> rw [hg] at g <;> exact g⟩
 ·by_cases e:j=m
  ·subst e;rw [bE] at hj;cases hj;rw [bE];exact ⟨cs,hv,by simp⟩
  ·rw [bF _ _ e] at hj;rw [bF _ _ e]
   obtain ⟨QS,te,tg⟩:=h.mem j vs hj
   obtain ⟨e1,e2⟩:=r9 j _ e (gP hj)
   exact ⟨QS,te.bL he.bL e1 (fun o hr=>te.CR o (e2 o hr)),tg⟩
 ·have e:key≠m:=fun e=>by subst e;rw [bE] at jx;cases jx
  rw [bF _ _ e] at jx
  exact (h.cB key s' jx).bL fun g hg=>r9 key g e ((gA jx).trans hg)
 ·have e:key≠m:=fun e=>by subst e;rw [bE] at hp;cases hp
  rw [bF _ _ e] at hp ⊢
  rw [bF _ _ e]
  exact ⟨rfl,rfl,rfl,fun g hg=>r9 key g e ((fN hp).trans hg)⟩
 ·by_cases e:key=m
  ·subst e;rw [bE];exact fun t ht=>by cases ht
  ·rw [bF _ _ e];exact hM _ (h.inv key)
 ·refine h.ext.trans he fun b hb=>?_
  rcases vf b hb with e | ⟨e,_⟩
  ·subst e;exact h.own m _ (gP hm)
  ·exact e
theorem cL.uU (h:cL C D σ γ a w) {w':World} {R':Reach} (he:Ext w D.R (fun _=>False) w' R') (lt:∀b o,R' b o→b<w'.heap.size):cL C { D with R:=R' } σ γ a w' :=
 h.grow he.os he.tape he.output he.size (fun b hb=>he.heap b hb id) (fun b o hr=>(he.bL b o hr).1) (fun b o hr=>by
  rcases he.qx b o hr with r | r | r
  ·exact .inl r
  ·exact .inr r
  ·exact r.elim) lt
end
end Go.Eng
namespace Go.Eng
open Go.RowKit
theorem tS {L:List (Nat × (Nat × Nat))} {vs:List Value} {p:Nat} {t:Nat × (Nat × Value)} (h:(List.zipWith (fun t v=>(t.2.1,(t.2.2,v))) L vs)[p]?=some t) :
  ∃q v,L[p]?=some q∧vs[p]?=some v∧t=(q.2.1,(q.2.2,v)):=by
 rw [List.getElem?_zipWith] at h
 cases h1:L[p]? with
 | none=>simp [h1] at h
 | some q =>
  cases h2:vs[p]? with
  | none=>simp [h1,h2] at h
  | some v=>simp [h1,h2] at h;exact ⟨q,v,rfl,rfl,h.symm⟩
theorem ql {β:Type} (f:Nat × Nat→β):∀{L:List (Nat × (Nat × Nat))} {vs:List Value},L.length=vs.length →
  (List.zipWith (fun t v=>(t.2.1,(t.2.2,v))) L vs).map (fun t=>f (t.1,t.2.1))=L.map fun t=>f (t.2.1,t.2.2)
 | [],[],_=>rfl
 | q :: L,v :: vs,h=>by
  simp only [List.zipWith_cons_cons,ah]
  rw [ql f (by simpa using h)]
 | [],_ :: _,h=>by simp at h
 | _ :: _,[],h=>by simp at h
theorem lK {L:List (Nat × (Nat × Nat))} {p:Nat} {q:Nat × (Nat × Nat)} (h:L[p]?=some q):(iN L)[p]?=some (q.1,q.2.2):=by simp [iN,h]
section
variable {C:Ctx} {D:j0} {σ:Sg} {γ:Ga} {a:Act} {w:World}
variable {o:Oper} {d:Nat} {K:Act→World→Prop} {Q:Exit→Act→World→Prop}
theorem kH {f:Nat} {args:Array Operand} {ts:Array TypeId} (ho:o.op = .call { callee := .value (.func f),args,argTypes:=ts }) (hp:fA C.P f=true):(execOp a.eval o).run C.P w = .ok (.enter f (args.map a.eval)) w:=by
 unfold fA at hp
 cases hf:C.P.funcs[f]? with
 | none=>simp [hf] at hp
 | some fn =>
  simp only [hf,Option.any_some,aa,Bool.not_eq_true',beq_eq_false_iff_ne,ne_eq] at hp
  obtain ⟨h1,h2⟩:=hp
  have UA:fn.body.isNone=false:=by cases hb:fn.body <;> simp [hb] at h1 ⊢
  have he:a.eval (.func f) = .func (.func f) #[] #[]:=rfl
  simp [execOp,ho,resolve,Deferred.ofValue,he,invoke,callFunc,hf]
  rw [aD h2,aD (by intro e;rw [e] at h1;cases h1)]
theorem cL.GQ (h:cL C D σ γ a w) (hd:o.dst=some d) {f:Nat} {args:Array Operand} {ts:Array TypeId} (ho:o.op = .call { callee := .value (.func f),args,argTypes:=ts }) (hp:fA C.P f=true)
  {S:FS} (hS:dH C.P C.E.gl f S) (iZ:S.sg.ps=none) {ins outs:List AV} (hG:S.G ins outs) (hA:km S.sg D.R w ins (args.toList.map a.eval))
  (hK:∀x R' w',Ext w D.R (ny S.sg w (args.toList.map a.eval)) w' R'→(∀b o,R' b o→b<w'.heap.size) →
   wx S.sg R' w' (fun b=>ny S.sg w (args.toList.map a.eval) b∨w.heap.size≤b) (args.toList.map a.eval) outs x→K (a.put (some d) x) w'):o.wp C.P a w K Q:=by
 unfold Oper.wp
 rw [kH ho hp,Oper.upon_enter]
 have:=hS.1 iZ w D.R ins outs (args.toList.map a.eval) hG h.jT h.gl hA
 have e:(⟨args.toList.map a.eval⟩:Array Value)=args.map a.eval:=by apply Array.ext';simp
 rw [e] at this
 refine this.mono ?_
 rintro e w' ⟨x,R',rfl,h1,h2,h3⟩
 simp only
 rw [hd]
 exact hK x R' w' h1 h2 h3
theorem CS.pE (c:CS):c.dg.eQ=false∧c.dg.ej=false:=by
 unfold CS.dg
 repeat' split
 all_goals exact ⟨rfl,rfl⟩
theorem CS.xF {c:CS} (h1:∀t∈c.own,(γ (lk t.2.1)).ej=true) (h2:∀q,c.new=some q→(γ q.2).eQ=true):eK γ c.dg:=by
 unfold CS.dg
 split
 ·split
  ·rename_i hn;exact h2 _ hn
  ·rename_i ho;exact h1 _ (by rw [ho];exact List.mem_singleton.2 rfl)
  ·trivial
 ·exact ⟨h1,h2⟩
theorem CS.Gu {c:CS} {rvs:List Value} {x:Value} (hl:rvs.length=c.bO) (hx:x=if c.bO=1 then rvs.headD undef else .tuple ⟨rvs⟩)
  (h1:∀t∈c.own,rvs[t.1]?=some (D.τ (lk t.2.1))∧(D.τ (lk t.2.1)).oneCell'=true) (h2:∀q,c.new=some q→rvs[q.1]?=some (.pointer (some ⟨D.β q.2,0,none⟩))):iw D c.dg x:=by
 unfold CS.dg
 split
 ·rename_i e
  rw [aH e] at hx
  rw [e] at hl
  match rvs,hl with
  | [y],_ =>
   simp at hx;subst hx
   cases hn:c.new with
   | some q =>
    obtain ⟨j,m⟩:=q
    have:=h2 _ hn
    have hj:j=0:=by
     have:=(aE.1 this).1
     simp at this;exact this
    subst hj
    simpa [iw] using this
   | none =>
    split
    ·rename_i e;cases e
    ·rename_i q k s _ ho
     have:=h1 (0,k,s) (by rw [ho];simp)
     simp at this
     exact ⟨this.1,by rw [this.1];exact this.2⟩
    ·trivial
 ·rename_i e
  rw [aD e] at hx
  exact ⟨rvs,hx,h1,h2⟩
theorem yS {c:CS} {g:c7} {R:Reach} {w:World} {outs:List AV} {rvs:List Value} {x:Value} (hn:c.bO=g.bO) (gR:c.new.map (·.1)=g.new) (hl:rvs.length=g.bO) (hx:x=if g.bO=1 then rvs.headD undef else .tuple ⟨rvs⟩)
  (hj:∀q∈c.new.toList,q.1<c.bO) (hT:eY R w ((outs.take g.bO).mapIdx fun i y=>if g.new=some i then .pt else y) rvs):Rep R w (c.main outs) x:=by
 have SM:(fun (i:Nat) (y:AV)=>if g.new=some i then AV.pt else y)=fun i y=>if c.new.any (·.1 == i) then .pt else y:=by
  funext i y
  rw [←gR]
  cases c.new with
  | none=>simp
  | some q=>simp
 rw [SM] at hT
 unfold CS.main
 rw [hn]
 by_cases e:g.bO=1
 ·rw [aH e] at hx ⊢
  rw [e] at hl hT
  match rvs,hl with
  | [y],_ =>
   simp at hx;subst hx
   cases hc:c.new with
   | some q=>simp;exact .pt _
   | none =>
    simp only [hc,Option.isSome_none,aY,if_false]
    rw [hc] at hT
    cases outs with
    | nil=>simp at hT;cases hT
    | cons o1 os =>
     simp at hT
     cases hT with
     | cons h1 _=>simpa using h1
 ·rw [aD e] at hx ⊢
  subst hx
  exact .tu hT
end
end Go.Eng
namespace Go.Eng
open Go.RowKit
theorem GF {L:List (Nat × (Nat × Nat))} (h:iN L=[]):L=[]:=by cases L with | nil=>rfl | cons=>simp [iN] at h
section
variable {C:Ctx} {D:j0} {σ:Sg} {γ:Ga} {a:Act} {w:World}
variable {o:Oper} {d:Nat} {K:Act→World→Prop} {Q:Exit→Act→World→Prop}
theorem cL.yg (h:cL C D σ γ a w) {L:List (Nat × (Nat × Nat))} {vs:List Value} (hl:L.length=vs.length) (jP:∀t∈L,γ (lk t.2.1) = .no) (hnd:(L.map (·.2.1)).Nodup)
  (hT:∀(p:Nat) (t:Nat × Nat) (v:Value),(iN L)[p]?=some t→vs[p]?=some v→fg D.R w v t.2)
  (oz:∀v∈vs,∀g,v.ownBlock=some g→C.kY g∧∀key,eI D γ key≠some g) (IE:∀(p q g:Nat),(vs.map Value.ownBlock)[p]?=some (some g)→(vs.map Value.ownBlock)[q]?=some (some g)→p=q) :
  ∃D',cL C D' (bN σ (L.map fun t=>lk t.2.1) (L.map fun _ => .dead)) (bN γ (L.map fun t=>lk t.2.1) (L.map fun t => .live t.2.2)) a w∧D'.R=D.R∧D'.β=D.β ∧
   (∀(p:Nat) (t:Nat × (Nat × Nat)) (v:Value),L[p]?=some t→vs[p]?=some v→D'.τ (lk t.2.1)=v)∧(∀k,(∀t∈L,k≠lk t.2.1)→D'.τ k=D.τ k) ∧
   (∀key g,eI D' (bN γ (L.map fun t=>lk t.2.1) (L.map fun t => .live t.2.2)) key=some g→eI D γ key=some g∨∃v∈vs,v.ownBlock=some g):=by
 let T:=List.zipWith (fun t v=>(t.2.1,(t.2.2,v))) L vs
 have e1:(T.map fun t=>lk t.1)=L.map fun t=>lk t.2.1:=ql (fun p=>lk p.1) hl
 have e2:(T.map fun t=>Gh.live t.2.1)=L.map fun t => .live t.2.2:=ql (fun p=>Gh.live p.2) hl
 have e3:T.map (·.1)=L.map (·.2.1):=ql (fun p=>p.1) hl
 have qO:∀t∈T,∃(p:Nat) (q:Nat × (Nat × Nat)) (v:Value),T[p]?=some t∧L[p]?=some q∧vs[p]?=some v∧t=(q.2.1,(q.2.2,v)):=fun t ht=>by
  obtain ⟨p,hp⟩:=bg ht
  obtain ⟨q,v,h1,h2,h3⟩:=tS hp
  exact ⟨p,q,v,hp,h1,h2,h3⟩
 obtain ⟨D',h1,hR,C3,pJ,LK,hb⟩:=h.fR T (fun t ht=>by obtain ⟨p,q,v,_,h1,_,rfl⟩:=qO t ht;exact jP q (aT h1)) (by rw [e3];exact hnd)
  (fun t ht=>by obtain ⟨p,q,v,_,h1,h2,rfl⟩:=qO t ht;exact hT p (q.1,q.2.2) v (lK h1) h2)
  (fun t ht g hg=>by obtain ⟨p,q,v,_,h1,h2,rfl⟩:=qO t ht;exact oz v (aT h2) g hg)
  (fun i j t u g hi hj ht hu=>by
   obtain ⟨q,v,h1,h2,rfl⟩:=tS hi
   obtain ⟨q',v',UA,Ck,rfl⟩:=tS hj
   exact IE i j g (by simp [h2];exact ht) (by simp [Ck];exact hu))
 rw [e1,e2] at h1 hb
 have h2:=h1.Gy (L.map fun t=>lk t.2.1) (fun k hk=>by
  cases hc:(bN γ (L.map fun t=>lk t.2.1) (L.map fun t=>Gh.live t.2.2) k).eQ with
  | false=>rfl
  | true =>
   have:=(h1.oe k hc).2
   obtain ⟨t,_,e⟩:=aO.1 hk
   have:=fH t.2.1
   omega)
 rw [aW] at h2
 refine ⟨D',h2,hR,C3,fun p t v ht hv=>?_,fun k hk=>?_,fun key g hk=>?_⟩
 ·have hp:T[p]?=some (t.2.1,(t.2.2,v)):=by simp only [T];rw [List.getElem?_zipWith];simp [ht,hv]
  exact pJ _ (aT hp)
 ·exact LK k (fun t ht=>by obtain ⟨p,q,v,_,h1,_,rfl⟩:=qO t ht;exact hk q (aT h1))
 ·rcases hb key g hk with hk | ⟨t,ht,hg⟩
  ·exact .inl hk
  ·obtain ⟨p,q,v,_,h1,h2,rfl⟩:=qO t ht
   exact .inr ⟨v,aT h2,hg⟩
theorem sd {c:CS} {g:c7} (h:c.fits g=true):c.ref.map (·.1)=g.ref∧iN c.kn=g.fR∧iN c.gC=g.fR∧c.bO=g.bO∧iN c.own=g.own∧c.new.map (·.1)=g.new∧iN c.fD=g.fD ∧
  ((c.kn++c.gC++c.own++c.fD).map (·.2.1)).Nodup∧(c.ref=none→c.kn=[])∧(c.new=none→c.fD=[])∧(c.ref=none∨c.new=none)∧(∀q∈c.new.toList,q.1<c.bO∧q.2<999999)∧g.ps=none:=by
 unfold CS.fits at h;exact aN h
variable (h:cL C D σ γ a w) (hd:o.dst=some d) (hl:d<C.nt)
include h hd hl
theorem E0 {f:Nat} {args:Array Operand} {ts:Array TypeId} {c:CS} {rs:List cO} (ho:o.op = .call { callee := .value (.func f),args,argTypes:=ts }) (hp:fA C.P f=true)
  {S:FS} (hS:dH C.P C.E.gl f S) (hc:c.fits S.sg=true) (gQ:c.ref=none) (hx:bV args.toList rs=true) (c8:small C.nt args.toList=true) {outs:List AV}
  (hG:S.G (rs.map (cO.ev C.E σ)) outs) (rp:outs.length=c.bO+c.jl.length)
  (gR:∀q,c.new=some q→γ q.2 = .no∧C.nt≤q.2∧q.2<1000000) (jP:∀t∈c.own++c.fD,γ (lk t.2.1) = .no)
  (hK:∀D' a' w',cL C D' (bN σ (d :: (c.jl++c.mj)) (c.main outs :: (outs.drop c.bO++c.mj.map fun _ => .dead)))
   (bN γ (d :: (c.jl++c.mj)) (c.dg :: (c.new.toList.map (fun _ => .cl c.fD)++c.ref.toList.map (fun _ => .cl c.gC)++c.kn.map (fun _ => .used)++(c.gC++c.own++c.fD).map fun t => .live t.2.2))) a' w'→K a' w'):o.wp C.P a w K Q:=by
 obtain ⟨f1,f2,f3,f4,f5,f6,f7,f8,f9,f10,f11,f12,f13⟩:=sd hc
 have y8:=f9 gQ
 have sY:S.sg.ref=none:=by rw [←f1,gQ];rfl
 have Cd:S.sg.fR=[]:=by rw [←f2,y8];rfl
 have Cc:c.gC=[]:=GF (by rw [f3,Cd])
 have FW:c.mj=(c.own++c.fD).map fun t=>lk t.2.1:=by simp [CS.mj,y8,Cc]
 have hnd:((c.own++c.fD).map (·.2.1)).Nodup:=by simpa [y8,Cc] using f8
 have hA:km S.sg D.R w (rs.map (cO.ev C.E σ)) (args.toList.map a.eval):=by
  unfold km;rw [sY];exact h.qE hx c8
 refine h.GQ hd ho hp hS f13 hG hA ?_
 intro x R' w' hE eO hO
 have vf:ny S.sg w (args.toList.map a.eval)=fun _=>False:=by funext b;simp [ny,sY]
 rw [vf] at hE
 obtain ⟨rvs,tr,fZ,tn,bn,br,cn,cr,o1,o2,o3,o4,o5,_,o7,o8,o9,_,Rb,VB,MR,Ln,N5⟩:=hO
 have O8:tr=[]:=aR (by rw [o7,Cd];rfl)
 subst O8
 have h1:=h.uU hE eO
 have F7:(c.own++c.fD).length=(fZ++tn).length:=by
  simp only [aq,o8,o9,←f5,←f7,iN,aG]
 have F3:iN (c.own++c.fD)=S.sg.own++S.sg.fD:=by rw [←f5,←f7];simp [iN]
 -- whose blocks TL are
 have FN:j9 S.sg bn br ([]++fZ++tn)=(if S.sg.new.isSome then [some bn] else [])++(fZ++tn).map Value.ownBlock:=by
  simp [j9,sY]
 rw [FN] at Ln N5
 have pT:∀g,some g∈(if S.sg.new.isSome then [some bn] else [])++(fZ++tn).map Value.ownBlock→w.heap.size≤g:=fun g hg=>by
  rcases N5 g hg with e | e
  ·rw [vf] at e;exact e.elim
  ·exact e
 obtain ⟨D2,h2,PV,VV,OY,_,xW⟩:=h1.yg (L:=c.own++c.fD) (vs:=fZ++tn) F7 jP hnd
  (fun p t v ht hv=>by rw [F3] at ht;exact MR p t v (by rw [Cd];exact ht) hv)
  (fun v hv g hg=>by
   have xV:=pT g (List.mem_append.2 (.inr (aO.2 ⟨v,hv,hg⟩)))
   exact ⟨.inr (Nat.le_trans h.ext.size xV),fun key hk=>by have:=h.lt (show eI D γ key=some g from hk);omega⟩)
  (fun p q g hp hq=>by
   have:=Ln ((if S.sg.new.isSome then [some bn] else []).length+p) ((if S.sg.new.isSome then [some bn] else []).length+q) g
    (by rw [aJ (by omega),Nat.add_sub_cancel_left];exact hp) (by rw [aJ (by omega),Nat.add_sub_cancel_left];exact hq)
   omega)
 have kP:∀t∈c.own++c.fD,(bN γ ((c.own++c.fD).map fun t=>lk t.2.1) ((c.own++c.fD).map fun t => .live t.2.2) (lk t.2.1)).ej=true:=by
  intro t ht
  have:∀(L:List (Nat × (Nat × Nat))),t∈L→(bN γ (L.map fun t=>lk t.2.1) (L.map fun t => .live t.2.2) (lk t.2.1)).ej=true:=by
   intro L
   induction L with
   | nil=>intro hm;cases hm
   | cons u L ih =>
    intro hm
    simp only [ah,bN]
    by_cases e:lk t.2.1=lk u.2.1
    ·rw [e,bE];rfl
    ·rw [bF _ _ e]
     rcases bh.1 hm with rfl | hm
     ·exact (e rfl).elim
     ·exact ih hm
  exact this _ ht
 have C7:∀(p:Nat) (t:Nat × (Nat × Nat)) (v:Value),(c.own++c.fD)[p]?=some t→(fZ++tn)[p]?=some v→v.oneCell'=true:=fun p t v ht hv=>by
  have PM:=lK ht
  rw [F3] at PM
  rcases MR p _ v (by rw [Cd];exact PM) hv with rfl | ⟨_,_,_,_,_,_,rfl,_⟩ <;> rfl
 have Cf:∀t∈c.own,rvs[t.1]?=some (D2.τ (lk t.2.1))∧(D2.τ (lk t.2.1)).oneCell'=true:=fun t ht=>by
  obtain ⟨p,jB⟩:=bg ht
  have A5:=(aE.1 jB).1
  have qi:fZ.length=c.own.length:=by rw [o8,←f5];simp [iN]
  have hv:fZ[p]?=some fZ[p]:=aA (by omega)
  have e1:(c.own++c.fD)[p]?=some t:=by rw [List.getElem?_append_left A5];exact jB
  have e2:(fZ++tn)[p]?=some fZ[p]:=by rw [List.getElem?_append_left (by omega)];exact hv
  have e3:=Rb p _ _ (by rw [←f5];exact lK jB) hv
  rw [OY p t _ e1 e2]
  exact ⟨e3,C7 p t _ e1 e2⟩
 have ic:=yS (R:=R') (w:=w') f4 f6 o1 o2 (fun q hq=>(f12 q hq).1) o4
 cases hn:c.new with
 | none =>
  have oD:c.jl=[]:=by simp [CS.jl,hn,gQ]
  have sV:=f10 hn
  have jc:outs.drop c.bO=[]:=bc (by rw [rp,oD];simp)
  have h3:=h2.put (d:=d) (s:=c.main outs) (g:=c.dg) (v:=x) hl (.inr ⟨by rw [PV];exact ic,fun _=>CS.Gu (by rw [o1,f4]) (by rw [f4];exact o2) Cf (by simp [hn])⟩)
   (CS.pE c).1 (CS.pE c).2 (CS.xF (fun t ht=>kP t (by simp [ht])) (by simp [hn]))
  refine hK D2 (a.put (some d) x) w' ?_
  simp only [oD,FW,jc,hn,gQ,y8,Cc,Option.toList,ao,bj,bN]
  simpa [Function.comp_def] using h3
 | some q =>
  obtain ⟨j,m⟩:=q
  obtain ⟨ve,xk,QD⟩:=gR _ hn
  have L3:S.sg.new=some j:=by rw [←f6,hn];rfl
  have oD:c.jl=[m]:=by simp [CS.jl,hn,gQ]
  obtain ⟨p1,p2⟩:=o5 j L3
  have Sr:outs.length=c.bO+1:=by rw [rp,oD];rfl
  have Pq:c.bO<outs.length:=by omega
  have jc:outs.drop c.bO=[outs.getD S.sg.bO .dead]:=by
   rw [List.drop_eq_getElem_cons Pq,bc (by omega),←f4]
   simp [List.getD,Pq]
  have FU:m ∉ (c.own++c.fD).map fun t=>lk t.2.1:=fun hm=>by
   obtain ⟨t,_,e⟩:=aO.1 hm
   have:=fH t.2.1
   simp at e QD
   omega
  have IH:bN γ ((c.own++c.fD).map fun t=>lk t.2.1) ((c.own++c.fD).map fun t => .live t.2.2) m = .no:=by rw [iF FU];exact ve
  have WQ:w.heap.size≤bn:=pT bn (by simp [L3])
  have h3:=h2.newVar (m:=m) (b:=bn) (x:=outs.getD S.sg.bO .dead) (cs:=cn) (ts:=c.fD) IH xk (f12 (j,m) (by rw [hn];exact List.mem_singleton.2 rfl)).2 (by rw [PV];exact p2)
   (fun t ht=>⟨kP t (by simp [ht]),by
    obtain ⟨p,jB⟩:=bg ht
    have A5:=(aE.1 jB).1
    have qi:fZ.length=c.own.length:=by rw [o8,←f5];simp [iN]
    have YZ:tn.length=c.fD.length:=by rw [o9,←f7];simp [iN]
    have hv:tn[p]?=some tn[p]:=aA (by omega)
    rw [OY (c.own.length+p) t tn[p] (by rw [aJ (by omega),Nat.add_sub_cancel_left];exact jB) (by rw [aJ (by omega),qi,Nat.add_sub_cancel_left];exact hv)]
    exact VB p _ _ (by rw [←f7];exact lK jB) hv⟩)
   ⟨.inr (Nat.le_trans h.ext.size WQ),fun key hk=>by
    rcases xW key bn hk with e | ⟨v,hv,e⟩
    ·have:=h.lt (show eI D γ key=some bn from e);omega
    ·obtain ⟨p,jB⟩:=bg hv
     have:=Ln 0 (1+p) bn (by simp [L3]) (by simp only [L3,Option.isSome_some,if_true];rw [aJ (by simp),show 1+p - [some bn].length=p by simp,aI,jB];simp [e])
     omega⟩
  have h4:=h3.put (d:=d) (s:=c.main outs) (g:=c.dg) (v:=x) hl (.inr ⟨by show Rep D2.R w' _ _;rw [PV];exact ic,fun _=>CS.Gu (by rw [o1,f4]) (by rw [f4];exact o2) Cf (fun q hq=>by
    rw [hn] at hq;cases hq
    show rvs[j]?=some (.pointer (some ⟨cF D2.β m bn m,0,none⟩))
    rw [bE];exact p1)⟩)
   (CS.pE c).1 (CS.pE c).2 (CS.xF (fun t ht=>by
    have fI:lk t.2.1≠m:=by have:=fH t.2.1;simp at QD;omega
    rw [bF _ _ fI];exact kP t (by simp [ht])) (fun q hq=>by rw [hn] at hq;cases hq;rw [bE];rfl))
  refine hK { D2 with β:=cF D2.β m bn } (a.put (some d) x) w' ?_
  simp only [oD,FW,jc,hn,gQ,y8,Cc,Option.toList,ao,bj,ah,List.cons_append,bN]
  simpa [Function.comp_def] using h4
end
end Go.Eng
namespace Go.Eng
open Go.RowKit
theorem nh {α:Type} {l:List α} {i:Nat} {x:α} (h:l[i]?=some x):l.set i x=l:=by
 apply List.ext_getElem?
 intro j
 rw [List.getElem?_set]
 split
 ·rename_i e;subst e
  rw [aH (aE.1 h).1,h]
 ·rfl
theorem vP {α:Type}:∀{l:List α} {i j:Nat} {x:α},l.Nodup→l[i]?=some x→l[j]?=some x→i=j
 | [],i,j,x,_,h,_=>by simp at h
 | a :: l,0,0,x,_,_,_=>rfl
 | a :: l,0,j+1,x,hn,h,k=>by
  simp at h k
  subst h
  exact ((List.nodup_cons.1 hn).1 (aT k)).elim
 | a :: l,i+1,0,x,hn,h,k=>by
  simp at h k
  subst k
  exact ((List.nodup_cons.1 hn).1 (aT h)).elim
 | a :: l,i+1,j+1,x,hn,h,k=>by
  have:=vP (i:=i) (j:=j) (List.nodup_cons.1 hn).2 (by simpa using h) (by simpa using k)
  omega
section
variable {C:Ctx} {D:j0} {σ:Sg} {γ:Ga} {a:Act} {w:World}
variable {o:Oper} {d:Nat} {K:Act→World→Prop} {Q:Exit→Act→World→Prop}
variable (h:cL C D σ γ a w) (hd:o.dst=some d) (hl:d<C.nt)
include h hd hl
theorem EZ {f : Nat} {args : Array Operand} {pf : Array TypeId} {c : CS} {rs : List cO} {i m : Nat} {ts : List (Nat × (Nat × Nat))} (ho : o.op = .call { callee := .value (.func f), args, argTypes := pf }) (hp : fA C.P f = true)
    {S : FS} (hS : dH C.P C.E.gl f S) (hc : c.fits S.sg = true) (gQ : c.ref = some (i, m)) (hx : bV args.toList rs = true) (c8 : small C.nt args.toList = true) {outs : List AV}
    (tJ : (rs.map (cO.ev C.E σ))[i]? = some .pt) (De : (rs.map (cO.gh γ))[i]? = some (.ptr m 0)) (hm : γ m = .cl ts) (nM : ∀ t ∈ c.kn, t ∈ ts) (kP : ∀ t ∈ c.kn, γ (lk t.2.1) = .live t.2.2)
    (hG : S.G ((rs.map (cO.ev C.E σ)).set i (σ m)) outs) (rp : outs.length = c.bO + c.jl.length) (jP : ∀ t ∈ c.gC ++ c.own, γ (lk t.2.1) = .no)
    (hK : ∀ D' a' w', cL C D' (bN σ (d :: (c.jl ++ c.mj)) (c.main outs :: (outs.drop c.bO ++ c.mj.map fun _ => .dead)))
      (bN γ (d :: (c.jl ++ c.mj)) (c.dg :: (c.new.toList.map (fun _ => .cl c.fD) ++ c.ref.toList.map (fun _ => .cl c.gC) ++ c.kn.map (fun _ => .used) ++ (c.gC ++ c.own ++ c.fD).map fun t => .live t.2.2))) a' w' → K a' w') : o.wp C.P a w K Q := by
  obtain ⟨f1, f2, f3, f4, f5, f6, f7, f8, f9, f10, f11, f12, f13⟩ := sd hc
  have gR : c.new = none := by rcases f11 with e | e; · rw [gQ] at e; cases e
                               · exact e
  have sV := f10 gR
  have sY : S.sg.ref = some i := by rw [← f1, gQ]; rfl
  have J4 : S.sg.new = none := by rw [← f6, gR]; rfl
  have A7 : S.sg.fD = [] := by rw [← f7, sV]; rfl
  have oD : c.jl = [m] := by simp [CS.jl, gR, gQ]
  have FW : c.mj = (c.kn.map fun t => lk t.2.1) ++ (c.gC ++ c.own).map fun t => lk t.2.1 := by simp [CS.mj, sV]
  simp only [sV, aU] at f8
  have Pl : (c.kn.map (·.2.1)).Nodup := by
    rw [aQ, List.map_append] at f8; exact (List.nodup_append.1 f8).1
  have Sv : ((c.gC ++ c.own).map (·.2.1)).Nodup := by
    rw [aQ, List.map_append] at f8; exact (List.nodup_append.1 f8).2.1
  have PJ : ∀ t ∈ c.kn, ∀ u ∈ c.gC ++ c.own, t.2.1 ≠ u.2.1 := by
    rw [aQ, List.map_append] at f8
    intro t ht u hu
    exact (List.nodup_append.1 f8).2.2 _ (aO.2 ⟨t, ht, rfl⟩) _ (aO.2 ⟨u, hu, rfl⟩)
  obtain ⟨ve, xk⟩ := h.oe m (by rw [hm]; rfl)
  have Da : ∀ k, m ≠ lk k := fun k => by have := fH k; omega
  -- the arguments
  obtain ⟨cs, hV, xn⟩ := h.mem m ts hm
  have hT := h.qE hx c8
  have xl := (aE.1 tJ).1
  obtain ⟨y, vX, _⟩ := hT.get i .pt tJ
  have LV : (args.toList.map a.eval)[i]? = some (.pointer (some ⟨D.β m, 0, none⟩)) := by
    have key : ∀ {l : List Operand} {qs : List cO} {i : Nat}, bV l qs = true → small C.nt l = true → (qs.map (cO.ev C.E σ))[i]? = some .pt → (qs.map (cO.gh γ))[i]? = some (.ptr m 0) → (l.map a.eval)[i]? = some (.pointer (some ⟨D.β m, 0, none⟩)) := by
      intro l
      induction l with
      | nil => intro qs i hq _ jB; cases qs with
        | nil => simp at jB
        | cons => simp [bV] at hq
      | cons x l ih =>
        intro qs i hq Qy jB kb
        cases qs with
        | nil => simp [bV] at hq
        | cons q qs =>
          simp [bV] at hq
          have s1 : small C.nt [x] = true := by simp [small] at Qy ⊢; exact Qy.1
          have s2 : small C.nt l = true := by simp only [small, List.all_cons, aa] at Qy; exact Qy.2
          cases i with
          | zero =>
            simp at jB kb
            have := (h.gy hq.1 s1).gh (by rw [jB]; simp) (by rw [jB]; simp)
            rw [kb] at this
            simpa [iw] using this
          | succ i => simpa using ih hq.2 s2 (by simpa using jB) (by simpa using kb)
    exact key hx c8 tJ De
  let tv : List Value := c.kn.map fun t => D.τ (lk t.2.1)
  have MU : ∀ (p : Nat) (t : Nat × (Nat × Nat)), c.kn[p]? = some t → tv[p]? = some (D.τ (lk t.2.1)) := fun p t ht => by simp [tv, ht]
  have zj : ∀ t ∈ c.kn, eI D γ (lk t.2.1) = (D.τ (lk t.2.1)).ownBlock := fun t ht => gA (kP t ht)
  have hA : km S.sg D.R w ((rs.map (cO.ev C.E σ)).set i (σ m)) (args.toList.map a.eval) := by
    unfold km
    rw [sY]
    refine ⟨D.β m, cs, σ m, tv, LV, List.getElem?_set_self xl, hV, ?_, ?_, ?_, ?_⟩
    · rw [List.set_set, nh tJ]; exact hT
    · simp [tv, ← f2, iN]
    · intro p t v ht hv
      rw [← f2] at ht
      simp only [iN, aI] at ht
      cases hq : c.kn[p]? with
      | none => simp [hq] at ht
      | some q =>
        simp [hq] at ht
        subst ht
        have e := MU p q hq
        rw [hv] at e
        cases e
        have qO := aT hq
        exact ⟨xn q (nM q qO), h.cB _ _ (kP q qO)⟩
    · have jb : ∀ (p g : Nat), (some (D.β m) :: tv.map Value.ownBlock)[p]? = some (some g) → ∃ key, eI D γ key = some g ∧ ((p = 0 ∧ key = m) ∨ ∃ p' t, p = p' + 1 ∧ c.kn[p']? = some t ∧ key = lk t.2.1) := by
        intro p g jB
        cases p with
        | zero => simp at jB; exact ⟨m, by rw [gP hm, jB], .inl ⟨rfl, rfl⟩⟩
        | succ p =>
          simp only [List.getElem?_cons_succ, tv, aW, aI] at jB
          cases hq : c.kn[p]? with
          | none => simp [hq] at jB
          | some q =>
            simp [hq] at jB
            exact ⟨lk q.2.1, by rw [zj q (aT hq)]; exact jB, .inr ⟨p, q, rfl, hq, rfl⟩⟩
      intro p q g jB Ai
      obtain ⟨k1, e1, c1⟩ := jb p g jB
      obtain ⟨k2, e2, c2⟩ := jb q g Ai
      have SH : k1 = k2 := h.rI (by
        rcases c1 with ⟨_, e⟩ | ⟨p', t, _, ht, e⟩
        · rw [e, hm]; rfl
        · rw [e, kP t (aT ht)]; rfl) e1 e2
      rcases c1 with ⟨rfl, rfl⟩ | ⟨p', t, rfl, ht, rfl⟩ <;> rcases c2 with ⟨rfl, rfl⟩ | ⟨q', u, rfl, hu, rfl⟩
      · rfl
      · exact (Da _ SH).elim
      · exact (Da _ SH.symm).elim
      · have hid := fO SH
        have h1 : (c.kn.map (·.2.1))[p']? = some t.2.1 := by simp [ht]
        have h2 : (c.kn.map (·.2.1))[q']? = some t.2.1 := by simp [hu, hid]
        have := vP Pl h1 h2
        omega
  refine h.GQ hd ho hp hS f13 hG hA ?_
  intro x R' w' hE eO hO
  obtain ⟨rvs, tr, fZ, tn, bn, br, cn, cr, o1, o2, o3, o4, _, o6, o7, o8, o9, VC, Rb, _, MR, Ln, N5⟩ := hO
  have O9 : tn = [] := aR (by rw [o9, A7]; rfl)
  subst O9
  obtain ⟨p1, p2⟩ := o6 i sY
  rw [LV] at p1
  cases p1
  simp only [J4, Option.isSome_none, aY, if_false, Nat.add_zero] at p2 o3
  -- what the call may have written
  have vf : ∀ b, ny S.sg w (args.toList.map a.eval) b → b = D.β m ∨ ∃ t ∈ c.kn, (D.τ (lk t.2.1)).ownBlock = some b := by
    intro b hb
    unfold ny at hb
    rw [sY] at hb
    obtain ⟨b', QS, e', q1, q2, q3⟩ := hb
    rw [LV] at q1
    cases q1
    rcases q3 with q3 | ⟨t, ht, v, hv, LN⟩
    · exact .inl q3
    · right
      obtain ⟨_, hh, _⟩ := hV
      rw [hh] at q2
      cases q2
      rw [← f2] at ht
      obtain ⟨q, hq, rfl⟩ := aO.1 ht
      have := xn q (nM q hq)
      simp only at hv
      rw [this] at hv
      cases hv
      exact ⟨q, hq, LN⟩
  -- the YI fR are used up
  have h1 := h.JI (c.kn.map fun t => (lk t.2.1, t.2.2)) (fun u hu => by obtain ⟨t, ht, rfl⟩ := aO.1 hu; exact kP t ht) (by
    rw [aW]
    have : ((fun x : Nat × Nat => x.1) ∘ fun t : Nat × (Nat × Nat) => (lk t.2.1, t.2.2)) = lk ∘ fun t => t.2.1 := rfl
    rw [this, ← aW]
    exact List.Pairwise.map _ (fun _ _ fI e => fI (fO e)) Pl)
  simp only [aW] at h1
  have eT : (c.kn.map ((fun x : Nat × Nat => x.1) ∘ fun t : Nat × (Nat × Nat) => (lk t.2.1, t.2.2))) = c.kn.map fun t => lk t.2.1 := rfl
  have eU : (c.kn.map ((fun _ : Nat × Nat => Gh.used) ∘ fun t : Nat × (Nat × Nat) => (lk t.2.1, t.2.2))) = c.kn.map fun _ => Gh.used := rfl
  rw [eT, eU] at h1
  have SA : m ∉ c.kn.map fun t => lk t.2.1 := fun jC => by obtain ⟨t, _, e⟩ := aO.1 jC; exact Da _ e.symm
  have SB : m ∉ (c.gC ++ c.own).map fun t => lk t.2.1 := fun jC => by obtain ⟨t, _, e⟩ := aO.1 jC; exact Da _ e.symm
  have J6 : ∀ key g, eI D (bN γ (c.kn.map fun t => lk t.2.1) (c.kn.map fun _ => Gh.used)) key = some g → eI D γ key = some g ∧ ∀ t ∈ c.kn, key ≠ lk t.2.1 := by
    intro key g hk
    have IG : key ∉ c.kn.map fun t => lk t.2.1 := fun qO => by
      have : ∀ (L : List (Nat × (Nat × Nat))), key ∈ (L.map fun t => lk t.2.1) → bN γ (L.map fun t => lk t.2.1) (L.map fun _ => Gh.used) key = .used := by
        intro L
        induction L with
        | nil => intro jC; cases jC
        | cons u L ih =>
          intro jC
          simp only [ah, bN]
          by_cases e : key = lk u.2.1
          · rw [e, bE]
          · rw [bF _ _ e]
            rcases bh.1 jC with e' | jC
            · exact (e e').elim
            · exact ih jC
      unfold eI at hk
      rw [this _ qO] at hk
      cases hk
    refine ⟨by unfold eI at hk ⊢; rwa [iF IG] at hk, fun t ht e => IG (aO.2 ⟨t, ht, e.symm⟩)⟩
  have IH : bN γ (c.kn.map fun t => lk t.2.1) (c.kn.map fun _ => Gh.used) m = .cl ts := by rw [iF SA]; exact hm
  have h2 := h1.DA IH hE (fun b hb => by
      rcases vf b hb with e | ⟨t, ht, e⟩
      · exact .inl e
      · refine .inr ⟨h.own (lk t.2.1) b (by rw [zj t ht]; exact e), fun key hk => ?_⟩
        obtain ⟨k1, k2⟩ := J6 key b hk
        exact k2 t ht (h.rI (key := lk t.2.1) (by rw [kP t ht]; rfl) (by rw [zj t ht]; exact e) k1).symm) p2 eO
  -- the new fR
  have FN : j9 S.sg bn (D.β m) (tr ++ fZ ++ []) = some (D.β m) :: (tr ++ fZ).map Value.ownBlock := by simp [j9, sY, J4]
  rw [FN] at Ln N5
  simp only [aU] at MR
  have F7 : (c.gC ++ c.own).length = (tr ++ fZ).length := by simp only [aq, o7, o8, ← f3, ← f5, iN, aG]
  have F3 : iN (c.gC ++ c.own) = S.sg.fR ++ S.sg.own := by rw [← f3, ← f5]; simp [iN]
  have PO : ∀ key g, eI { D with R := R' } (cF (bN γ (c.kn.map fun t => lk t.2.1) (c.kn.map fun _ => Gh.used)) m (.cl [])) key = some g → eI D γ key = some g ∧ ∀ t ∈ c.kn, key ≠ lk t.2.1 := by
    intro key g hk
    apply J6
    unfold eI at hk ⊢
    by_cases e : key = m
    · subst e; rw [bE] at hk; rw [IH]; exact hk
    · rw [bF _ _ e] at hk; exact hk
  obtain ⟨D3, h3, Un, RY, OX, _, _⟩ := h2.yg (L := c.gC ++ c.own) (vs := tr ++ fZ) F7
    (fun t ht => by
      rw [bF _ _ (Da _).symm, iF (fun qO => by obtain ⟨u, hu, e⟩ := aO.1 qO; exact PJ u hu t ht (fO e))]
      exact jP t ht) Sv
    (fun p t v ht hv => by rw [F3] at ht; exact MR p t v (by rw [A7, aU]; exact ht) hv)
    (fun v hv g hg => by
      have ho := N5 g (bh.2 (.inr (aO.2 ⟨v, hv, hg⟩)))
      obtain ⟨p, jB⟩ := bg hv
      have fI : g ≠ D.β m := fun e => by
        have := Ln 0 (p + 1) g (by simp [e]) (by rw [List.getElem?_cons_succ, aI, jB]; simp [hg])
        omega
      refine ⟨?_, fun key hk => ?_⟩
      · rcases ho with ho | ho
        · rcases vf g ho with e | ⟨t, ht, e⟩
          · exact (fI e).elim
          · exact h.own (lk t.2.1) g (by rw [zj t ht]; exact e)
        · exact .inr (Nat.le_trans h.ext.size ho)
      · obtain ⟨k1, k2⟩ := PO key g hk
        rcases ho with ho | ho
        · rcases vf g ho with e | ⟨t, ht, e⟩
          · exact fI e
          · exact k2 t ht (h.rI (key := lk t.2.1) (by rw [kP t ht]; rfl) (by rw [zj t ht]; exact e) k1).symm
        · have := h.lt k1; omega)
    (fun p q g jB Ai => by
      have := Ln (p + 1) (q + 1) g (by simpa using jB) (by simpa using Ai)
      omega)
  have FX : ∀ (TF : Ga) (t : Nat × (Nat × Nat)) (L : List (Nat × (Nat × Nat))), t ∈ L → (bN TF (L.map fun t => lk t.2.1) (L.map fun t => .live t.2.2) (lk t.2.1)).ej = true := by
    intro TF t L
    induction L with
    | nil => intro jC; cases jC
    | cons u L ih =>
      intro jC
      simp only [ah, bN]
      by_cases e : lk t.2.1 = lk u.2.1
      · rw [e, bE]; rfl
      · rw [bF _ _ e]
        rcases bh.1 jC with rfl | jC
        · exact (e rfl).elim
        · exact ih jC
  have qi : tr.length = c.gC.length := by rw [o7, ← f3]; simp [iN]
  have Wp : fZ.length = c.own.length := by rw [o8, ← f5]; simp [iN]
  have C7 : ∀ (p : Nat) (t : Nat × (Nat × Nat)) (v : Value), (c.gC ++ c.own)[p]? = some t → (tr ++ fZ)[p]? = some v → v.oneCell' = true := fun p t v ht hv => by
    have PM := lK ht
    rw [F3] at PM
    rcases MR p _ v (by rw [A7, aU]; exact PM) hv with rfl | ⟨_, _, _, _, _, _, rfl, _⟩ <;> rfl
  have QD : bN (cF (bN γ (c.kn.map fun t => lk t.2.1) (c.kn.map fun _ => Gh.used)) m (.cl [])) ((c.gC ++ c.own).map fun t => lk t.2.1) ((c.gC ++ c.own).map fun t => .live t.2.2) m = .cl [] := by rw [iF SB, bE]
  have h4 := h3.store (us := c.gC) (x := outs.getD S.sg.bO .dead) (cs := cr) QD rfl rfl rfl rfl (fun _ _ => rfl) (by rw [RY, Un]; exact p2) (fun t ht => ⟨FX _ t _ (by simp [ht]), by
      obtain ⟨p, jB⟩ := bg ht
      have A5 := (aE.1 jB).1
      have hv : tr[p]? = some tr[p] := aA (by omega)
      rw [OX p t tr[p] (by rw [List.getElem?_append_left A5]; exact jB) (by rw [List.getElem?_append_left (by omega)]; exact hv)]
      exact VC p _ _ (by rw [← f3]; exact lK jB) hv⟩)
  have h5 := h4.Gy (c.kn.map fun t => lk t.2.1) (fun k hk => by
    cases ja : (cF (bN (cF (bN γ (c.kn.map fun t => lk t.2.1) (c.kn.map fun _ => Gh.used)) m (.cl [])) ((c.gC ++ c.own).map fun t => lk t.2.1) ((c.gC ++ c.own).map fun t => .live t.2.2)) m (.cl c.gC) k).eQ with
    | false => rfl
    | true =>
      have := (h4.oe k ja).2
      obtain ⟨t, _, e⟩ := aO.1 hk
      have := fH t.2.1
      omega)
  have Cf : ∀ t ∈ c.own, rvs[t.1]? = some (D3.τ (lk t.2.1)) ∧ (D3.τ (lk t.2.1)).oneCell' = true := fun t ht => by
    obtain ⟨p, jB⟩ := bg ht
    have A5 := (aE.1 jB).1
    have hv : fZ[p]? = some fZ[p] := aA (by omega)
    have e1 : (c.gC ++ c.own)[c.gC.length + p]? = some t := by rw [aJ (by omega), Nat.add_sub_cancel_left]; exact jB
    have e2 : (tr ++ fZ)[c.gC.length + p]? = some fZ[p] := by rw [aJ (by omega), qi, Nat.add_sub_cancel_left]; exact hv
    have e3 := Rb p _ _ (by rw [← f5]; exact lK jB) hv
    rw [OX _ t _ e1 e2]
    exact ⟨e3, C7 _ t _ e1 e2⟩
  have ic := yS (R := R') (w := w') f4 f6 o1 o2 (fun q hq => (f12 q hq).1) o4
  have h6 := h5.put (d := d) (s := c.main outs) (g := c.dg) (v := x) hl (.inr ⟨by rw [Un]; exact ic, fun _ => CS.Gu (by rw [o1, f4]) (by rw [f4]; exact o2) Cf (by simp [gR])⟩)
    (CS.pE c).1 (CS.pE c).2 (CS.xF (fun t ht => by rw [bF _ _ (Da _).symm]; exact FX _ t _ (by simp [ht])) (by simp [gR]))
  refine hK D3 (a.put (some d) x) w' ?_
  have Sr : outs.length = c.bO + 1 := by rw [rp, oD]; rfl
  have jc : outs.drop c.bO = [outs.getD S.sg.bO .dead] := by
    rw [List.drop_eq_getElem_cons (by omega), bc (by omega), ← f4]
    simp [List.getD, show c.bO < outs.length by omega]
  have PI : ∀ k ∈ c.kn.map (fun t => lk t.2.1), k ∉ (c.gC ++ c.own).map fun t => lk t.2.1 := fun k hk jx => by
    obtain ⟨t, ht, rfl⟩ := aO.1 hk
    obtain ⟨u, hu, e⟩ := aO.1 jx
    exact PJ t ht u hu (fO e).symm
  have Dr : bN σ (c.jl ++ c.mj) (outs.drop c.bO ++ c.mj.map fun _ => .dead) =
      bN (cF (bN (cF σ m (outs.getD S.sg.bO .dead)) ((c.gC ++ c.own).map fun t => lk t.2.1) ((c.gC ++ c.own).map fun _ => .dead)) m (outs.getD S.sg.bO .dead)) (c.kn.map fun t => lk t.2.1) ((c.kn.map fun t => lk t.2.1).map fun _ => .dead) := by
    rw [oD, jc, FW]
    simp only [List.cons_append, bj, bN]
    have e : ∀ (A B : List Nat), ((A ++ B).map fun _ => AV.dead) = (A.map fun _ => .dead) ++ B.map fun _ => .dead := fun A B => List.map_append
    rw [ia SA, ia SB, ia SA, pq, e (c.kn.map fun t => lk t.2.1), nX (by simp), aW (l := c.gC ++ c.own)]
    rfl
  have zG : bN γ (c.jl ++ c.mj) (c.new.toList.map (fun _ => Gh.cl c.fD) ++ c.ref.toList.map (fun _ => .cl c.gC) ++ c.kn.map (fun _ => .used) ++ (c.gC ++ c.own ++ c.fD).map fun t => .live t.2.2) =
      cF (bN (cF (bN γ (c.kn.map fun t => lk t.2.1) (c.kn.map fun _ => Gh.used)) m (.cl [])) ((c.gC ++ c.own).map fun t => lk t.2.1) ((c.gC ++ c.own).map fun t => .live t.2.2)) m (.cl c.gC) := by
    rw [oD, FW, gR, gQ, sV]
    simp only [Option.toList, ao, bj, ah, List.cons_append, aU, bN]
    rw [ia SB, pq, rB PI, nX (by simp)]
  simp only [bN]
  rw [Dr, zG]
  exact h6
end
end Go.Eng
namespace Go.Eng
open Go.RowKit
section
variable {C:Ctx} {D:j0} {σ:Sg} {γ:Ga} {a:Act} {w:World}
theorem bH {nt:Nat} {l:List Operand} (h:small nt l=true) {x:Operand} (hx:x∈l):small nt [x]=true:=by
 simp only [small,List.all_cons,List.all_nil,Bool.and_true]
 exact aL.1 h x hx
theorem gb {nt:Nat} {l l':List Operand} (h:small nt l=true) (hs:∀x∈l',x∈l):small nt l'=true :=
 aL.2 fun x hx=>aL.1 h x (hs x hx)
theorem ez {nt:Nat} {dst:Option Nat} {l ds:List Nat} (h:(match dst with | some d=>decide (d<nt)&&ds == d :: l | none=>false)=true):∃d,dst=some d∧d<nt∧ds=d :: l:=by
 cases dst with
 | none=>cases h
 | some d=>simp at h;exact ⟨d,rfl,h.1,h.2⟩
theorem ka {α:Type} {l:List α} (h:l.length=1):∃x,l=[x]:=by
 match l,h with
 | [x],_=>exact ⟨x,rfl⟩
theorem uL {α:Type} {l:List α} (h:l.length=2):∃x y,l=[x,y]:=by
 match l,h with
 | [x,y],_=>exact ⟨x,y,rfl⟩
theorem DC {α:Type} {l:Array α} {x:α} (h:l.toList=[x]):l=#[x]:=by apply Array.ext';simpa using h
theorem ri {α:Type} {l:Array α} {x y:α} (h:l.toList=[x,y]):l=#[x,y]:=by apply Array.ext';simpa using h
theorem fi:∀{l:List Operand} {rs:List cO},bV l rs=true→l.length=rs.length
 | [],[],_=>rfl
 | _ :: _,_ :: _,h=>by simp [bV] at h;simp [fi h.2]
 | [],_ :: _,h=>by simp [bV] at h
 | _ :: _,[],h=>by simp [bV] at h
variable {sg:Nat→c7} {dst:Option Nat} {op:Op} {ty:TypeId} {pos:String} {after:Array Edge} {guard:Option (Nat × Bool)} {k:K} {rs:List cO} {ds:List Nat} {gd:Option (Nat × Bool)} {ws:List AV} {gs:List Gh}
 {K':Act→World→Prop} {Q:Exit→Act→World→Prop}
def cC (C:Ctx) (sg:Nat→c7) (k:K):Prop :=
 ∀{D:j0} {σ:Sg} {γ:Ga} {a:Act} {w:World} {dst:Option Nat} {op:Op} {ty:TypeId} {pos:String} {after:Array Edge} {guard:Option (Nat × Bool)} {rs:List cO} {ds:List Nat} {gd:Option (Nat × Bool)} {ws:List AV} {gs:List Gh}
  {K':Act→World→Prop} {Q:Exit→Act→World→Prop},cL C D σ γ a w→dX C.P sg ⟨dst,op,ty,pos,after,guard⟩ ⟨k,rs,ds,gd⟩=true→cj C.nt dst ⟨k,rs,ds,gd⟩=true→small C.nt op.operands.toList=true →
  eh C.E k (rs.map (cO.ev C.E σ)) ws→dt k (rs.map (cO.gh γ))=some gs →
  (∀D' a' w',cL C D' (bN σ ds ws) (bN γ ds gs) a' w'→K' a' w')→(⟨dst,op,ty,pos,after,guard⟩:Oper).wp C.P a w K' Q
theorem Rq:cC C sg .mv:=by
 intro D σ γ a w dst op ty pos after guard rs ds gd ws gs K' Q h ho hk c8 hs hg hK
 obtain ⟨d,rfl,hl,rfl⟩:=ez (l:=[]) hk
 simp only [dX] at ho
 split at ho
 ·rename_i x _
  obtain ⟨r,rfl,hx⟩:=jZ ho
  simp only [ah,ao,eh] at hs
  simp only [ah,ao,dt,aB] at hg
  subst hs;subst hg
  exact Jv h rfl hl (.inl rfl) hx (bH c8 (by simp [Op.operands])) hK
 ·rename_i x _
  obtain ⟨r,rfl,hx⟩:=jZ ho
  simp only [ah,ao,eh] at hs
  simp only [ah,ao,dt,aB] at hg
  subst hs;subst hg
  exact Jv h rfl hl (.inr rfl) hx (bH c8 (by simp [Op.operands])) hK
 ·cases ho
theorem Rn {k s:Nat}:cC C sg (.nl k s):=by
 intro D σ γ a w dst op ty pos after guard rs ds gd ws gs K' Q h ho hk c8 hs hg hK
 simp only [cj,aa] at hk
 obtain ⟨eE,gH⟩:=hk
 obtain ⟨d,rfl,hl,rfl⟩:=ez gH
 simp only [dX] at ho
 split at ho
 ·rename_i r
  simp at eE
  cases r <;> simp at eE
  subst eE
  simp only [ah,ao,eh] at hs
  subst hs
  simp only [ah,ao,cO.gh] at hg
  simp only [dt] at hg
  split at hg
  ·rename_i e;cases hg;simp at e;exact Ju h rfl hl (.inl rfl) e hK
  ·cases hg
 ·rename_i r
  simp at eE
  cases r <;> simp at eE
  subst eE
  simp only [ah,ao,eh] at hs
  subst hs
  simp only [ah,ao,cO.gh] at hg
  simp only [dt] at hg
  split at hg
  ·rename_i e;cases hg;simp at e;exact Ju h rfl hl (.inr rfl) e hK
  ·cases hg
 ·cases ho
theorem LB:cC C sg .pick:=by
 intro D σ γ a w dst op ty pos after guard rs ds gd ws gs K' Q h ho hk c8 hs hg hK
 obtain ⟨d,rfl,hl,rfl⟩:=ez (l:=[]) hk
 simp only [dt,aB] at hg
 subst hg
 simp only [dX] at ho
 split at ho
 ·obtain ⟨r,q,s,rfl,hc,hx,hy⟩:=EK ho
  simp only [ah,ao,eh] at hs
  split at hs
  ·rename_i b x y heq
   simp only [aj,and_true] at heq
   obtain ⟨e1,e2,e3⟩:=heq
   subst e2;subst e3;subst hs
   exact H4 h rfl hl rfl hc hx hy (bH c8 (by simp [Op.operands])) (bH c8 (by simp [Op.operands])) (bH c8 (by simp [Op.operands])) e1 hK
  ·cases hs
 ·cases ho
theorem OL {b:BinOp}:cC C sg (.bin b):=by
 intro D σ γ a w dst op ty pos after guard rs ds gd ws gs K' Q h ho hk c8 hs hg hK
 obtain ⟨d,rfl,hl,rfl⟩:=ez (l:=[]) hk
 simp only [dt,aB] at hg
 subst hg
 simp only [dX] at ho
 split at ho
 ·simp only [aa,beq_iff_eq] at ho
  obtain ⟨hb,ho⟩:=ho
  subst hb
  obtain ⟨r,q,rfl,hx,hy⟩:=iz ho
  simp only [ah,ao,eh] at hs
  split at hs
  ·rename_i u v heq
   simp only [aj,and_true] at heq
   obtain ⟨e1,e2⟩:=heq
   obtain ⟨z,hz,rfl⟩:=hs
   exact Lj h rfl hl rfl hx hy (bH c8 (by simp [Op.operands])) (bH c8 (by simp [Op.operands])) e1 e2 hz hK
  ·cases hs
 ·cases ho
theorem RN {neg:Bool}:cC C sg (.be neg):=by
 intro D σ γ a w dst op ty pos after guard rs ds gd ws gs K' Q h ho hk c8 hs hg hK
 obtain ⟨d,rfl,hl,rfl⟩:=ez (l:=[]) hk
 simp only [dt,aB] at hg
 subst hg
 simp only [dX] at ho
 split at ho
 ·simp only [aa,beq_iff_eq] at ho
  obtain ⟨⟨ht,hb⟩,ho⟩:=ho
  obtain ⟨r,q,rfl,hx,hy⟩:=iz ho
  simp only [ah,ao,eh] at hs
  split at hs
  ·rename_i u v heq
   simp only [aj,and_true] at heq
   obtain ⟨e1,e2⟩:=heq
   subst hs
   exact NV h rfl hl rfl hb (xg ht) hx hy (bH c8 (by simp [Op.operands])) (bH c8 (by simp [Op.operands])) e1 e2 hK
  ·cases hs
 ·cases ho
theorem Rg {b:UnOp}:cC C sg (.un b):=by
 intro D σ γ a w dst op ty pos after guard rs ds gd ws gs K' Q h ho hk c8 hs hg hK
 obtain ⟨d,rfl,hl,rfl⟩:=ez (l:=[]) hk
 simp only [dt,aB] at hg
 subst hg
 simp only [dX] at ho
 split at ho
 ·simp only [aa,beq_iff_eq] at ho
  obtain ⟨hb,ho⟩:=ho
  subst hb
  obtain ⟨r,rfl,hx⟩:=jZ ho
  simp only [ah,ao,eh] at hs
  split at hs
  ·rename_i u heq
   simp only [aj,and_true] at heq
   obtain ⟨z,hz,rfl⟩:=hs
   exact Nw h rfl hl rfl hx (bH c8 (by simp [Op.operands])) heq hz hK
  ·cases hs
 ·cases ho
theorem RH {k:IntKind}:cC C sg (.ci k):=by
 intro D σ γ a w dst op ty pos after guard rs ds gd ws gs K' Q h ho hk c8 hs hg hK
 obtain ⟨d,rfl,hl,rfl⟩:=ez (l:=[]) hk
 simp only [dt,aB] at hg
 subst hg
 simp only [dX] at ho
 split at ho
 ·simp only [aa] at ho
  obtain ⟨⟨ht,hu⟩,ho⟩:=ho
  obtain ⟨r,rfl,hx⟩:=jZ ho
  simp only [ah,ao,eh] at hs
  split at hs
  ·rename_i k' n heq
   simp only [aj,and_true] at heq
   subst hs
   exact NR h rfl hl rfl (sS ht) hu hx (bH c8 (by simp [Op.operands])) heq hK
  ·cases hs
 ·cases ho
theorem RF:cC C sg .cs:=by
 intro D σ γ a w dst op ty pos after guard rs ds gd ws gs K' Q h ho hk c8 hs hg hK
 obtain ⟨d,rfl,hl,rfl⟩:=ez (l:=[]) hk
 simp only [dt,aB] at hg
 subst hg
 simp only [dX] at ho
 split at ho
 ·simp only [aa] at ho
  obtain ⟨⟨ht,hu⟩,ho⟩:=ho
  obtain ⟨r,rfl,hx⟩:=jZ ho
  simp only [ah,ao,eh] at hs
  split at hs
  ·rename_i b heq
   simp only [aj,and_true] at heq
   subst hs
   exact NQ h rfl hl rfl (ga hu) (ga ht) hx (bH c8 (by simp [Op.operands])) heq hK
  ·cases hs
 ·cases ho
theorem Rl:cC C sg .sb:=by
 intro D σ γ a w dst op ty pos after guard rs ds gd ws gs K' Q h ho hk c8 hs hg hK
 obtain ⟨d,rfl,hl,rfl⟩:=ez (l:=[]) hk
 simp only [dt,aB] at hg
 subst hg
 simp only [dX] at ho
 split at ho
 ·simp only [aa] at ho
  obtain ⟨⟨ht,hu⟩,ho⟩:=ho
  obtain ⟨e,O6,O5⟩:=ku hu
  obtain ⟨r,rfl,hx⟩:=jZ ho
  simp only [ah,ao,eh] at hs
  split at hs
  ·rename_i b heq
   simp only [aj,and_true] at heq
   obtain ⟨hb,rfl⟩:=hs
   exact Ny h rfl hl rfl (ga ht) O6 O5 hx (bH c8 (by simp [Op.operands])) heq hb hK
  ·cases hs
 ·cases ho
theorem Ok {k:Nat}:cC C sg (.Jn k):=by
 intro D σ γ a w dst op ty pos after guard rs ds gd ws gs K' Q h ho hk c8 hs hg hK
 simp only [cj,aa] at hk
 obtain ⟨⟨jW,eE⟩,gH⟩:=hk
 obtain ⟨d,rfl,hl,rfl⟩:=ez gH
 simp only [dX] at ho
 split at ho
 ·rename_i s u x r rest _ _
  simp only [aa] at ho
  obtain ⟨⟨ht,hu⟩,ho⟩:=ho
  obtain ⟨e,O6,O5⟩:=ku hu
  simp at jW
  obtain ⟨q,rfl⟩:=ka jW
  cases q <;> simp at eE
  subst eE
  simp only [ah,ao,eh] at hs
  simp only [ah,ao,dt] at hg
  split at hs
  ·rename_i b y heq
   simp only [aj,and_true] at heq
   obtain ⟨hb,rfl⟩:=hs
   split at hg
   ·rename_i g dp
    simp only [aj,and_true,cO.gh] at dp
    cases hg
    exact K0 h rfl hl rfl (ga ht) O6 O5 ho (bH c8 (by simp [Op.operands])) heq.1 hb dp.2 hK
   ·cases hg
  ·cases hs
 ·cases ho
theorem RL:cC C sg .bs:=by
 intro D σ γ a w dst op ty pos after guard rs ds gd ws gs K' Q h ho hk c8 hs hg hK
 obtain ⟨d,rfl,hl,rfl⟩:=ez (l:=[]) hk
 simp only [dt,aB] at hg
 subst hg
 simp only [dX] at ho
 split at ho
 ·simp only [aa] at ho
  obtain ⟨⟨ht,hu⟩,ho⟩:=ho
  obtain ⟨e,ht1,ht2⟩:=ku ht
  obtain ⟨r,rfl,hx⟩:=jZ ho
  simp only [ah,ao,eh] at hs
  split at hs
  ·rename_i s es heq
   simp only [aj,and_true] at heq
   obtain ⟨l,rfl,rfl,rfl⟩:=hs
   exact NT h rfl hl rfl ht1 ht2 (ga hu) hx (bH c8 (by simp [Op.operands])) heq hK
  ·cases hs
 ·cases ho
theorem OG:cC C sg .len:=by
 intro D σ γ a w dst op ty pos after guard rs ds gd ws gs K' Q h ho hk c8 hs hg hK
 obtain ⟨d,rfl,hl,rfl⟩:=ez (l:=[]) hk
 simp only [dt,aB] at hg
 subst hg
 simp only [dX] at ho
 split at ho
 ·rename_i pf _
  simp only [aa,beq_iff_eq] at ho
  obtain ⟨⟨⟨h1,h2⟩,h3⟩,ho⟩:=ho
  obtain ⟨t,ht⟩:=ka h1
  obtain ⟨x,kO⟩:=ka h3
  rw [ht] at h2
  simp only [List.all_cons,List.all_nil,Bool.and_true] at h2
  rw [kO] at ho
  obtain ⟨r,rfl,hx⟩:=jZ ho
  have ea:=DC kO
  have et:=DC ht
  subst ea;subst et
  simp only [ah,ao,eh] at hs
  split at hs
  ·rename_i s es heq
   simp only [aj,and_true] at heq
   subst hs
   obtain ⟨e,he⟩:=Option.isSome_iff_exists.1 h2
   exact CP h rfl hl rfl (gF he) hx (bH c8 (by simp [Op.operands,Call.operands])) heq hK
  ·cases hs
 ·cases ho
theorem OE:cC C sg .vT:=by
 intro D σ γ a w dst op ty pos after guard rs ds gd ws gs K' Q h ho hk c8 hs hg hK
 obtain ⟨d,rfl,hl,rfl⟩:=ez (l:=[]) hk
 simp only [dt,aB] at hg
 subst hg
 simp only [dX] at ho
 split at ho
 ·rename_i pf _
  simp only [aa,beq_iff_eq] at ho
  obtain ⟨⟨⟨h1,h2⟩,h3⟩,ho⟩:=ho
  obtain ⟨t,ht⟩:=ka h1
  obtain ⟨x,kO⟩:=ka h3
  rw [ht] at h2
  simp only [List.all_cons,List.all_nil,Bool.and_true] at h2
  rw [kO] at ho
  obtain ⟨r,rfl,hx⟩:=jZ ho
  have ea:=DC kO
  have et:=DC ht
  subst ea;subst et
  simp only [ah,ao,eh] at hs
  split at hs
  ·rename_i b heq
   simp only [aj,and_true] at heq
   subst hs
   exact AM h rfl hl rfl (ga h2) hx (bH c8 (by simp [Op.operands,Call.operands])) heq hK
  ·cases hs
 ·cases ho
theorem Rr:cC C sg .mn:=by
 intro D σ γ a w dst op ty pos after guard rs ds gd ws gs K' Q h ho hk c8 hs hg hK
 obtain ⟨d,rfl,hl,rfl⟩:=ez (l:=[]) hk
 simp only [dt,aB] at hg
 subst hg
 simp only [dX] at ho
 split at ho
 ·rename_i pf _
  simp only [aa,beq_iff_eq] at ho
  obtain ⟨h3,ho⟩:=ho
  obtain ⟨x,y,kO⟩:=uL h3
  rw [kO] at ho
  obtain ⟨r,q,rfl,hx,hy⟩:=iz ho
  have ea:=ri kO
  subst ea
  simp only [ah,ao,eh] at hs
  split at hs
  ·rename_i k u k' v heq
   simp only [aj,and_true] at heq
   subst hs
   exact vO (mx:=false) h rfl hl rfl hx hy (bH c8 (by simp [Op.operands,Call.operands])) (bH c8 (by simp [Op.operands,Call.operands])) heq.1 heq.2 hK
  ·cases hs
 ·cases ho
theorem Rp:cC C sg .mx:=by
 intro D σ γ a w dst op ty pos after guard rs ds gd ws gs K' Q h ho hk c8 hs hg hK
 obtain ⟨d,rfl,hl,rfl⟩:=ez (l:=[]) hk
 simp only [dt,aB] at hg
 subst hg
 simp only [dX] at ho
 split at ho
 ·rename_i pf _
  simp only [aa,beq_iff_eq] at ho
  obtain ⟨h3,ho⟩:=ho
  obtain ⟨x,y,kO⟩:=uL h3
  rw [kO] at ho
  obtain ⟨r,q,rfl,hx,hy⟩:=iz ho
  have ea:=ri kO
  subst ea
  simp only [ah,ao,eh] at hs
  split at hs
  ·rename_i k u k' v heq
   simp only [aj,and_true] at heq
   subst hs
   exact vO (mx:=true) h rfl hl rfl hx hy (bH c8 (by simp [Op.operands,Call.operands])) (bH c8 (by simp [Op.operands,Call.operands])) heq.1 heq.2 hK
  ·cases hs
 ·cases ho
theorem Rx {s:Nat}:cC C sg (.ix s):=by
 intro D σ γ a w dst op ty pos after guard rs ds gd ws gs K' Q h ho hk c8 hs hg hK
 obtain ⟨d,rfl,hl,rfl⟩:=ez (l:=[]) hk
 simp only [dt,aB] at hg
 subst hg
 simp only [dX] at ho
 split at ho
 ·simp only [aa] at ho
  obtain ⟨ht,ho⟩:=ho
  obtain ⟨e,i,h1,h2,h3,h4⟩:=kp ht
  obtain ⟨r,q,rfl,hx,hy⟩:=iz ho
  simp only [ah,ao,eh] at hs
  split at hs
  ·rename_i s' es k i heq
   simp only [aj,and_true] at heq
   obtain ⟨el,rfl,h0,Dg,rfl⟩:=hs
   exact NH h rfl hl rfl h1 h2 h3 hx hy (bH c8 (by simp [Op.operands])) (bH c8 (by simp [Op.operands])) heq.1 heq.2 h0 Dg hK
  ·cases hs
 ·cases ho
theorem Rj:cC C sg .si:=by
 intro D σ γ a w dst op ty pos after guard rs ds gd ws gs K' Q h ho hk c8 hs hg hK
 obtain ⟨d,rfl,hl,rfl⟩:=ez (l:=[]) hk
 simp only [dt,aB] at hg
 subst hg
 simp only [dX] at ho
 split at ho
 ·simp only [aa] at ho
  obtain ⟨ht,ho⟩:=ho
  obtain ⟨r,q,rfl,hx,hy⟩:=iz ho
  simp only [ah,ao,eh] at hs
  split at hs
  ·rename_i b k i heq
   simp only [aj,and_true] at heq
   obtain ⟨el,h0,Dg,rfl⟩:=hs
   exact Nx h rfl hl rfl (ga ht) hx hy (bH c8 (by simp [Op.operands])) (bH c8 (by simp [Op.operands])) heq.1 heq.2 h0 Dg hK
  ·cases hs
 ·cases ho
theorem RT {n s:Nat} {agg:Bool}:cC C sg (.ai n s agg):=by
 intro D σ γ a w dst op ty pos after guard rs ds gd ws gs K' Q h ho hk c8 hs hg hK
 obtain ⟨d,rfl,hl,rfl⟩:=ez (l:=[]) hk
 simp only [dt,aB] at hg
 subst hg
 simp only [dX] at ho
 split at ho
 ·rename_i t x y _
  simp only [aa] at ho
  obtain ⟨ht,ho⟩:=ho
  split at ht
  ·rename_i n' e hu
   simp only [aa,beq_iff_eq] at ht
   obtain ⟨rfl,ht⟩:=ht
   obtain ⟨inf,h1,h2,h3,h4⟩:=gw ht
   obtain ⟨r,q,rfl,hx,hy⟩:=iz ho
   simp only [ah,ao,eh] at hs
   split at hs
   ·rename_i cs k i heq
    simp only [aj,and_true] at heq
    obtain ⟨el,h0,hn,Dg,rfl⟩:=hs
    exact NZ h rfl hl rfl hu h1 h2 h3 h4 hx hy (bH c8 (by simp [Op.operands])) (bH c8 (by simp [Op.operands])) heq.1 heq.2 h0 hn Dg hK
   ·cases hs
  ·cases ht
 ·cases ho
theorem RA {o' n:Nat} {agg:Bool}:cC C sg (.fe o' n agg):=by
 intro D σ γ a w dst op ty pos after guard rs ds gd ws gs K' Q h ho hk c8 hs hg hK
 obtain ⟨d,rfl,hl,rfl⟩:=ez (l:=[]) hk
 simp only [dt,aB] at hg
 subst hg
 simp only [dX] at ho
 split at ho
 ·rename_i t x f
  simp only [aa] at ho
  obtain ⟨ht,ho⟩:=ho
  cases hf:mz C.P t f with
  | none=>simp [hf] at ht
  | some fl =>
   simp only [hf,Option.any_some,aa,beq_iff_eq] at ht
   obtain ⟨h0,ht⟩:=ht
   obtain ⟨fs,hu,qj⟩:=l0 hf
   obtain ⟨inf,h1,h2,h3,h4⟩:=gw ht
   obtain ⟨r,rfl,hx⟩:=jZ ho
   simp only [ah,ao,eh] at hs
   split at hs
   ·rename_i cs heq
    simp only [aj,and_true] at heq
    obtain ⟨el,Dg,rfl⟩:=hs
    exact NK h rfl hl rfl hu qj h0 h1 h2 h3 h4 hx (bH c8 (by simp [Op.operands])) heq Dg hK
   ·cases hs
 ·cases ho
theorem Ru {n:Nat} {agg:Bool}:cC C sg (.lr n agg):=by
 intro D σ γ a w dst op ty pos after guard rs ds gd ws gs K' Q h ho hk c8 hs hg hK
 obtain ⟨d,rfl,hl,rfl⟩:=ez (l:=[]) hk
 simp only [dt,aB] at hg
 subst hg
 simp only [dX] at ho
 split at ho
 ·simp only [aa] at ho
  obtain ⟨ht,hx⟩:=ho
  obtain ⟨inf,h1,h2,h3,h4⟩:=gw ht
  simp only [ah,ao,eh] at hs
  split at hs
  ·rename_i x heq
   simp only [aj,and_true] at heq
   obtain ⟨p1,p2,rfl⟩:=hs
   exact ND h rfl hl rfl h1 h2 h3 h4 hx (bH c8 (by simp [Op.operands])) heq p1 p2 hK
  ·cases hs
 ·cases ho
theorem OB:cC C sg .N8:=by
 intro D σ γ a w dst op ty pos after guard rs ds gd ws gs K' Q h ho hk c8 hs hg hK
 obtain ⟨d,rfl,hl,rfl⟩:=ez (l:=[]) hk
 simp only [dt,aB] at hg
 subst hg
 simp only [dX] at ho
 split at ho
 ·simp only [ah,ao,eh] at hs
  split at hs
  ·rename_i x heq
   simp only [aj,and_true] at heq
   subst hs
   exact Lb h rfl hl rfl ho (bH c8 (by simp [Op.operands])) heq hK
  ·cases hs
 ·cases ho
theorem RD {i:Nat}:cC C sg (.ex i):=by
 intro D σ γ a w dst op ty pos after guard rs ds gd ws gs K' Q h ho hk c8 hs hg hK
 obtain ⟨d,rfl,hl,rfl⟩:=ez (l:=[]) hk
 simp only [dX] at ho
 split at ho
 ·simp only [aa,beq_iff_eq] at ho
  obtain ⟨rfl,hx⟩:=ho
  simp only [ah,ao,dt,aB] at hg
  subst hg
  simp only [ah,ao,eh] at hs
  split at hs
  ·rename_i vs heq
   simp only [aj,and_true] at heq
   obtain ⟨x,xT,rfl⟩:=hs
   exact NN h rfl hl rfl hx (bH c8 (by simp [Op.operands])) heq xT hK
  ·cases hs
 ·cases ho
end
end Go.Eng
