/- Texts of my own, one behind the other: NrR3, NrShelf, NrHand, NrOKT, NrWhole, NrJ, NrP, NrOK, NrA, NrQA, NrOKA, NrLParses, NrQParses, NrOKParses. -/
import Derived.Test.YtdjpjmcecjhakaaDoorT5
import Derived.Shelf.Strings.SlTrimAscii
import Derived.Shelf.Small.Wraps
import Derived.Shelf.Strings.Search1
import Derived.Shelf.Strings.Search2
import Derived.Shelf.Strings.IndexAnyAll
import Derived.Shelf.Spec.TrailingZeros
import Derived.Test.YtdjpjmcecjhakaaDoorProg
import Derived.WalkKit
import Derived.WalkSpells
set_option linter.unusedVariables false
set_option linter.unusedSimpArgs false
namespace Go.Eng
open Go.IntWalk
theorem ck_imp {b c:Bool} (h:b=true→c=true):(!b || ((b&&b)&&c))=true:=by
 cases b
 ·rfl
 ·rw [h rfl];rfl
theorem ck_self (b:Bool):(!b || b)=true:=by cases b <;> rfl
theorem Nr.scan (t:Str) (i:Nat) (c:UInt8) {v2 v3:Bool} (h2:v2=cond (decide ((i:Int)<(t.length:Int))) (decide ((48:UInt8)≤c)) false) (h3:v3=cond v2 (decide (c≤(57:UInt8))) false):v3=(decide (i<t.length)&&isDig c)∧(v2=true→i<t.length):=by
 subst h2 h3
 by_cases k:i<t.length
 ·rw [decide_eq_true (show (i:Int)<t.length by omega),decide_eq_true k,cond_true,isDig_cond]
  exact ⟨rfl,fun _=>k⟩
 ·rw [decide_eq_false (show ¬(i:Int)<t.length by omega),decide_eq_false k]
  exact ⟨rfl,fun h=>by cases h⟩
theorem ck_i {t:Str} {i:Nat} {b:Bool} (h:b=true→i<t.length):(!b || ((b&&b)&&idxOK (i:Int) t.length))=true:=ck_imp fun k=>idx_ok (by omega) (by have:=h k;omega)
theorem ck_d {t:Str} {i:Nat}:(!decide ((i:Int)<(t.length:Int)) || ((decide ((i:Int)<(t.length:Int))&&decide ((i:Int)<(t.length:Int)))&&idxOK (i:Int) t.length))=true:=ck_i fun h=>by have:=of_decide_eq_true h;omega
theorem r9_Parse.l2_ok (t:Str) (g:Bool) (hl:t.length≤300) (n:Nat) (hn:n≤t.length) (hd:∀k,k<n→Nr.isDig (t.getD k 0)=true) (hx:n<t.length→Nr.isDig (t.getD n 0)=false):∀m i,i+m=n →
  r9_Parse.l2 t g 0 i=cond (decide (n<t.length)&&decide (t.getD n 0=46)) (r9_Parse.l3 t g (t.take n) n 0 ((n+1:Nat):Int) ((n+1:Nat):Int)) (r9_Parse.j4 t g (t.take n) n 0 n):=by
 intro m
 induction m with
 | zero =>
  intro i hi
  obtain rfl:i=n:=by omega
  refine r9_Parse.l2_in _ _ _ _ ?_
  intro v1 h1 v2 h2 v3 h3 v4 h4 v5 h5
  rw [Int.toNat_natCast] at h1
  obtain ⟨s3,s2⟩:=Nr.scan t i v1 h2 h3
  have e4:v4=((i+1:Nat):Int):=by rw [h4,i64_in _ (by omega)];omega
  have e3:v3=false:=by
   rw [s3]
   by_cases c:i<t.length
   ·rw [h1,hx c,Bool.and_false]
   ·rw [decide_eq_false c];rfl
  have e5:v5=(decide (i<t.length)&&decide (t.getD i 0=46)):=by
   rw [h5,←h1]
   by_cases c:i<t.length
   ·rw [decide_eq_true (show (i:Int)<t.length by omega),decide_eq_true c];rfl
   ·rw [decide_eq_false (show ¬(i:Int)<t.length by omega),decide_eq_false c];rfl
  rw [ck_of ck_d,ck_of (ck_self _),ck_of (ck_self _),ck_of (ck_i s2),ck_of (ck_self _),ck_of (ck_self _),e3,cond_false,ck_of (cut_ok (by omega) (by omega) (by omega)),ck_of ck_d,ck_of (ck_self _),ck_of (ck_self _),e5,Int.toNat_natCast,e4]
 | succ m ih =>
  intro i hi
  refine r9_Parse.l2_in _ _ _ _ ?_
  intro v1 h1 v2 h2 v3 h3 v4 h4 v5 h5
  rw [Int.toNat_natCast] at h1
  obtain ⟨s3,s2⟩:=Nr.scan t i v1 h2 h3
  have e4:v4=((i+1:Nat):Int):=by rw [h4,i64_in _ (by omega)];omega
  have e3:v3=true:=by rw [s3,h1,hd i (by omega),decide_eq_true (by omega)];rfl
  rw [ck_of ck_d,ck_of (ck_self _),ck_of (ck_self _),ck_of (ck_i s2),ck_of (ck_self _),ck_of (ck_self _),e3,cond_true,e4]
  exact ih (i+1) (by omega)
theorem r9_Parse.l3_ok (t:Str) (g:Bool) (hl:t.length≤300) (d:Str) (hdl:d.length≤300) (L:Int) (f n:Nat) (hn:n≤t.length) (hf:f≤n) (hd:∀k,f≤k→k<n→Nr.isDig (t.getD k 0)=true) (hx:n<t.length→Nr.isDig (t.getD n 0)=false):∀m i,i+m=n→f≤i →
  r9_Parse.l3 t g d L 0 i f=r9_Parse.j4 t g (d++(t.take n).drop f) L 0 n:=by
 intro m
 induction m with
 | zero =>
  intro i hi hfi
  obtain rfl:i=n:=by omega
  refine r9_Parse.l3_in _ _ _ _ _ _ _ ?_
  intro v1 h1 v2 h2 v3 h3 v4 h4 v5 h5
  rw [Int.toNat_natCast] at h1
  rw [Int.toNat_natCast,Int.toNat_natCast] at h5
  obtain ⟨s3,s2⟩:=Nr.scan t i v1 h2 h3
  have e3:v3=false:=by
   rw [s3]
   by_cases c:i<t.length
   ·rw [h1,hx c,Bool.and_false]
   ·rw [decide_eq_false c];rfl
  rw [ck_of ck_d,ck_of (ck_self _),ck_of (ck_self _),ck_of (ck_i s2),ck_of (ck_self _),ck_of (ck_self _),e3,cond_false,ck_of (cut_ok (by omega) (by omega) (by omega)),ck_of (decide_eq_true (by rw [h5,List.length_drop,List.length_take];omega)),h5]
 | succ m ih =>
  intro i hi hfi
  refine r9_Parse.l3_in _ _ _ _ _ _ _ ?_
  intro v1 h1 v2 h2 v3 h3 v4 h4 v5 h5
  rw [Int.toNat_natCast] at h1
  obtain ⟨s3,s2⟩:=Nr.scan t i v1 h2 h3
  have e4:v4=((i+1:Nat):Int):=by rw [h4,i64_in _ (by omega)];omega
  have e3:v3=true:=by rw [s3,h1,hd i hfi (by omega),decide_eq_true (by omega)];rfl
  rw [ck_of ck_d,ck_of (ck_self _),ck_of (ck_self _),ck_of (ck_i s2),ck_of (ck_self _),ck_of (ck_self _),e3,cond_true,e4]
  exact ih (i+1) (by omega) (by omega)
namespace Nr
def expC (st:Nat) (c:UInt8):Nat:=if isDig c=true then min (10 * st+(c.toNat - 48)) 10000 else st
theorem expC_le {st:Nat} (h:st≤10000) (c:UInt8):expC st c≤10000:=by unfold expC;split <;> omega
theorem expC_digs:∀(r:Str) (n:Nat),r.all isDig=true→r.foldl expC (min n 10000)=min (r.foldl (fun n c=>10 * n+(c.toNat - 48)) n) 10000
 | [],n,_=>rfl
 | c :: r,n,h=>by
  rw [List.all_cons,Bool.and_eq_true] at h
  rw [List.foldl_cons,List.foldl_cons,←expC_digs r _ h.2]
  unfold expC
  rw [if_pos h.1,min_step _ _ _ (by omega)]
theorem expC_all {e:Str} (h:(signed e).all isDig=true):e.foldl expC 0=min (num (signed e)) 10000:=by
 cases e with
 | nil=>rfl
 | cons c r =>
  rw [signed_cons] at h ⊢
  by_cases k:c=43∨c=45
  ·rw [if_pos k] at h ⊢
   have hc:isDig c=false:=by rcases k with rfl | rfl <;> rfl
   rw [List.foldl_cons]
   have:expC 0 c=min 0 10000:=by unfold expC;rw [hc];rfl
   rw [this,expC_digs r 0 h];rfl
  ·rw [if_neg k] at h ⊢
   have:=expC_digs (c :: r) 0 h
   exact this
end Nr
theorem r9_Parse.l5_ok (t:Str) (g:Bool) (hl:t.length≤300) (D:Str) (L:Int) (low:Bool):∀(m i st:Nat),i+m=t.length→st≤10000 →
  r9_Parse.l5 t g D L st i low=cond low (r9_Parse.j7 g D L (-(((t.drop i).foldl Nr.expC st:Nat):Int))) (r9_Parse.j7 g D L (((t.drop i).foldl Nr.expC st:Nat):Int)):=by
 intro m
 induction m with
 | zero =>
  intro i st hi hst
  refine r9_Parse.l5_in _ _ _ _ _ _ _ ?_
  intro v1 h1 v2 h2 v3 h3 v4 h4 v5 h5
  rw [decide_eq_false (by omega),cond_false,List.drop_of_length_le (by omega),List.foldl_nil,i64_in _ (by omega),show (0:Int) - st=-(st:Int) by omega]
 | succ m ih =>
  intro i st hi hst
  refine r9_Parse.l5_in _ _ _ _ _ _ _ ?_
  intro v1 h1 v2 h2 v3 h3 v4 h4 v5 h5
  rw [Int.toNat_natCast] at h1
  have hx:idxOK (i:Int) t.length=true:=idx_ok (by omega) (by omega)
  have e2:v2=Nr.isDig v1:=by rw [h2,Nr.isDig_cond]
  have next:∀st':Nat,st'≤10000→r9_Parse.j6 t g D L st' i low=cond low (r9_Parse.j7 g D L (-(((t.drop (i+1)).foldl Nr.expC st':Nat):Int))) (r9_Parse.j7 g D L (((t.drop (i+1)).foldl Nr.expC st':Nat):Int)):=by
   intro st' hst'
   refine r9_Parse.j6_in _ _ _ _ _ _ _ ?_
   intro w1 k1
   have:w1=((i+1:Nat):Int):=by rw [k1,i64_in _ (by omega)];omega
   rw [this]
   exact ih (i+1) st' (by omega) hst'
  rw [decide_eq_true (by omega),cond_true,hx,ck_of (by rfl),ck_of (ck_imp fun _=>rfl),ck_of (ck_self _),ck_of (ck_self _),drop_cons (show i<t.length by omega) 0,←h1,List.foldl_cons,ck_of (by rfl),e2]
  by_cases c:Nr.isDig v1=true
  ·have hd:=Nr.isDig_iff.1 c
   have e3:v3=((10 * st:Nat):Int):=by rw [h3,i64_in _ (by omega)];omega
   have e4:v4=((v1.toNat - 48:Nat):Int):=by rw [h4,dig_val v1 c,i64_in _ (by omega)]
   have e5:v5=((Nr.expC st v1:Nat):Int):=by
    unfold Nr.expC
    rw [if_pos c,h5,e3,e4,i64_in _ (by omega)]
    unfold minI
    split <;> omega
   rw [c,cond_true,e5]
   exact next _ (Nr.expC_le hst v1)
  ·have c':Nr.isDig v1=false:=by simpa using c
   have ee:Nr.expC st v1=st:=by unfold Nr.expC;rw [if_neg c]
   rw [c',cond_false,ee]
   exact next _ hst
theorem r9_Parse.j7_ok (s:Str) (hs:s.length≤300) (hx:Nr.lexeme s≠0) (x:Int) (hx2 : -1000000≤x∧x≤1000000) (hr:Nr.read (Nr.ahead s++Nr.behind s) ((Nr.ahead s).length+x)=Nr.read (Nr.ahead s++Nr.behind s) ((Nr.ahead s).length+Nr.expo (Nr.tail s))) (hm:(Nr.ahead s).length≤300) :
  r9_Parse.j7 (decide (s.getD 0 0=45)) (Nr.ahead s++Nr.behind s) (Nr.ahead s).length x=some [.u64 (Nr.parse s).1,.i .i64 (Nr.parse s).2]:=by
 refine r9_Parse.j7_in _ _ _ _ ?_
 intro v1 h1 v2 h2 v3 h3
 rw [i64_in _ (by omega),hr] at h1 h2
 have ep:Nr.parse s=match Nr.read (Nr.ahead s++Nr.behind s) ((Nr.ahead s).length+Nr.expo (Nr.tail s)) with
  | none=>(0,10)
  | some p=>(UInt64.ofNat (p+if s.getD 0 0=45 then 9223372036854775808 else 0),0):=by
  rw [Nr.parse_eq];unfold Nr.parse0
  rw [if_neg hx,if_neg (by omega)]
  rfl
 rw [ep]
 cases hq:Nr.read (Nr.ahead s++Nr.behind s) ((Nr.ahead s).length+Nr.expo (Nr.tail s)) with
 | none =>
  rw [hq] at h2
  have e2:v2=false:=h2
  rw [e2];rfl
 | some p =>
  have hp:=Nr.read_le hq
  have hp:p≤9218868437227405311:=hp
  rw [hq] at h1 h2
  have e2:v2=true:=h2
  have e1:v1=UInt64.ofNat p:=h1
  have e1':v1.toNat=p:=by rw [e1,u64_of];omega
  rw [e2]
  refine Eq.trans (b:=cond (decide (s.getD 0 0=45)) (r9_Parse.j8 v3) (r9_Parse.j8 v1)) rfl ?_
  by_cases c:s.getD 0 0=45
  ·have e3:v3=UInt64.ofNat (p+9223372036854775808):=by
    apply u64_eq
    rw [h3,UInt64.toNat_add,e1',u64_of];rfl
   rw [decide_eq_true c,cond_true,r9_Parse.j8_eq,e3]
   simp only [if_pos c]
  ·rw [decide_eq_false c,cond_false,r9_Parse.j8_eq,e1]
   simp only [if_neg c];rfl
section
variable {s a b fr ex e:Str} (h:Nr.Shape (Nr.body s) a b fr ex e)
include h
theorem Nr.Shape.lens:(Nr.body s).length=a.length+fr.length+ex.length:=by rw [h.eq,List.length_append,List.length_append]
theorem Nr.Shape.geta (k:Nat) (hk:k<a.length):Nr.isDig ((Nr.body s).getD k 0)=true:=by
 rw [h.eq,List.getD_eq_getElem?_getD,List.append_assoc,List.getElem?_append_left hk]
 rw [List.getElem?_eq_getElem hk]
 exact List.all_eq_true.1 h.ad _ (List.getElem_mem _)
theorem Nr.Shape.gete (x:Nat) (hx:x=a.length+fr.length):(Nr.body s).drop x=ex:=by
 rw [h.eq,hx,←List.length_append,List.drop_left]
theorem Nr.Shape.getf:(Nr.body s).drop a.length=fr++ex:=by
 rw [h.eq,List.append_assoc,List.drop_left]
end
theorem getD_drop0 (t:Str) (n:Nat):t.getD n 0=(t.drop n).getD 0 0:=by
 rw [List.getD_eq_getElem?_getD,List.getD_eq_getElem?_getD,List.getElem?_drop,Nat.add_zero]
theorem r9_Parse.j4_ok (s:Str) (hs:s.length≤300) (hx:Nr.lexeme s≠0) {a b fr ex e:Str} (sh:Nr.Shape (Nr.body s) a b fr ex e) :
  r9_Parse.j4 (Nr.body s) (decide (s.getD 0 0=45)) (a++b) a.length 0 ((a.length+fr.length:Nat):Int)=some [.u64 (Nr.parse s).1,.i .i64 (Nr.parse s).2]:=by
 have hbl:=Nr.body_len s
 have hlen:=sh.lens
 obtain ⟨q1,q2,q3,q4⟩:=sh.parts
 have hal:(Nr.ahead s).length≤300:=by rw [q3];omega
 refine r9_Parse.j4_in _ _ _ _ _ _ ?_
 intro v1 h1 v2 h2
 have hab:a++b=Nr.ahead s++Nr.behind s:=by rw [q3,q4]
 have haL:(a.length:Int)=((Nr.ahead s).length:Int):=by rw [q3]
 rcases sh.ex with ⟨x1,x2⟩ | ⟨c,x1,x2,x3⟩
 ·rw [x1,List.length_nil] at hlen
  rw [decide_eq_false (by omega),cond_false,hab,haL]
  have ht0:Nr.expo (Nr.tail s)=0:=by rw [q2,x2];rfl
  exact r9_Parse.j7_ok s hs hx 0 (by omega) (by rw [ht0]) hal
 ·rw [x2,List.length_cons] at hlen
  have ee:e≠[]:=by intro e0;rw [e0] at x3;exact x3 rfl
  have el:=List.length_pos_iff.2 ee
  have e1:v1=((a.length+fr.length+1:Nat):Int):=by rw [h1,i64_in _ (by omega)];omega
  rw [e1,Int.toNat_natCast] at h2
  have hdr:(Nr.body s).drop (a.length+fr.length+1)=e:=by
   rw [←List.drop_drop,sh.gete _ rfl,x2];rfl
  have e2:v2=e.getD 0 0:=by rw [h2,getD_drop0,hdr]
  have hL:=r9_Parse.l5_ok (Nr.body s) (decide (s.getD 0 0=45)) (by omega) (a++b) a.length (decide (v2=45)) e.length (a.length+fr.length+1) 0 (by omega) (by omega)
  rw [hdr,Nr.expC_all sh.ed] at hL
  rw [decide_eq_true (by omega),cond_true,ck_of (idx_ok (by omega) (by omega)),e1]
  refine hL.trans ?_
  rw [e2,hab,haL]
  have hcl:=Nr.read_clamp (D:=Nr.ahead s++Nr.behind s) (t:=e) (L:=(Nr.ahead s).length) (M:=10000) hal (by omega)
  by_cases c:e.getD 0 0=45
  ·rw [if_pos c] at hcl
   rw [decide_eq_true c,cond_true]
   exact r9_Parse.j7_ok s hs hx _ (by omega) (by rw [q2];exact hcl) hal
  ·rw [if_neg c] at hcl
   rw [decide_eq_false c,cond_false]
   exact r9_Parse.j7_ok s hs hx _ (by omega) (by rw [q2];exact hcl) hal
theorem r9_Parse.l2_all (s:Str) (hs:s.length≤300) (hx:Nr.lexeme s≠0):r9_Parse.l2 (Nr.body s) (decide (s.getD 0 0=45)) 0 0=some [.u64 (Nr.parse s).1,.i .i64 (Nr.parse s).2]:=by
 obtain ⟨a,b,fr,ex,e,sh⟩:=Nr.lex_shape hx
 have hbl:=Nr.body_len s
 have hlen:=sh.lens
 have hE:∀c:UInt8,Nr.isE c=true→Nr.isDig c=false∧c≠46:=fun c hc=>by
  have:c=101∨c=69:=of_decide_eq_true hc
  rcases this with rfl | rfl <;> exact ⟨rfl,by decide⟩
 have hend:∀n,n=a.length+fr.length→n<(Nr.body s).length→Nr.isDig ((Nr.body s).getD n 0)=false∧(Nr.body s).getD n 0≠46:=fun n hn hlt=>by
  rw [getD_drop0,sh.gete n hn]
  rcases sh.ex with ⟨x1,_⟩ | ⟨c,x1,x2,_⟩
  ·rw [x1,List.length_nil] at hlen;omega
  ·rw [x2];exact hE c x1
 have hta:(Nr.body s).take a.length=a:=by rw [sh.eq,List.append_assoc,List.take_left]
 rcases sh.fr with ⟨f1,f2⟩ | ⟨f1,f2⟩
 ·have:=r9_Parse.l2_ok (Nr.body s) (decide (s.getD 0 0=45)) (by omega) a.length (by omega) sh.geta (fun h=>(hend _ (by rw [f1,List.length_nil];omega) h).1) a.length 0 (by omega)
  refine this.trans ?_
  have hc:(decide (a.length<(Nr.body s).length)&&decide ((Nr.body s).getD a.length 0=46))=false:=by
   by_cases c:a.length<(Nr.body s).length
   ·rw [decide_eq_false (hend _ (by rw [f1,List.length_nil];omega) c).2,Bool.and_false]
   ·rw [decide_eq_false c,Bool.false_and]
  rw [hc,cond_false,hta]
  have:=r9_Parse.j4_ok s hs hx sh
  rw [f2,List.append_nil,f1,List.length_nil,Nat.add_zero] at this
  exact this
 ·have hfl:fr.length=b.length+1:=by rw [f1,List.length_cons]
  have hg:(Nr.body s).getD a.length 0=46:=by rw [getD_drop0,sh.getf,f1];rfl
  have:=r9_Parse.l2_ok (Nr.body s) (decide (s.getD 0 0=45)) (by omega) a.length (by omega) sh.geta (fun _=>by rw [hg];rfl) a.length 0 (by omega)
  refine this.trans ?_
  rw [hg,decide_eq_true (show a.length<(Nr.body s).length by omega)]
  refine Eq.trans (b:=_) (cond_true _ _) ?_
  rw [hta]
  have hdb:(Nr.body s).drop (a.length+1)=b++ex:=by rw [←List.drop_drop,sh.getf,f1];rfl
  have h3:=r9_Parse.l3_ok (Nr.body s) (decide (s.getD 0 0=45)) (by omega) a (by omega) a.length (a.length+1) (a.length+fr.length) (by omega) (by omega) (fun k k1 k2=>by
   have:(Nr.body s).getD k 0=(b++ex).getD (k - (a.length+1)) 0:=by
    rw [←hdb,List.getD_eq_getElem?_getD,List.getD_eq_getElem?_getD,List.getElem?_drop,show a.length+1+(k - (a.length+1))=k by omega]
   rw [this,List.getD_eq_getElem?_getD,List.getElem?_append_left (by omega),List.getElem?_eq_getElem (by omega)]
   exact List.all_eq_true.1 sh.bd _ (List.getElem_mem _)) (fun h=>(hend _ rfl h).1) b.length (a.length+1) (by omega) (by omega)
  refine h3.trans ?_
  have hb:((Nr.body s).take (a.length+fr.length)).drop (a.length+1)=b:=by
   rw [List.drop_take,hdb,show a.length+fr.length - (a.length+1)=b.length by omega,List.take_left]
  rw [hb]
  exact r9_Parse.j4_ok s hs hx sh
theorem r9_Parse.goal (s:Str) (hp:decide (s.length≤1099511627776)=true):r9_Parse.F s=some [.u64 (Nr.parse s).1,.i .i64 (Nr.parse s).2]:=by
 refine r9_Parse.F_in _ ?_
 intro v1 h1 v2 h2
 rw [ck_of hp]
 by_cases hx:Nr.lexeme s=0
 ·rw [decide_eq_true hx,cond_true];rw [Nr.parse_eq];unfold Nr.parse0;rw [if_pos hx]
 ·rw [decide_eq_false hx,cond_false]
  by_cases hl:300<s.length
  ·rw [decide_eq_true (by omega),cond_true];rw [Nr.parse_eq];unfold Nr.parse0;rw [if_neg hx,if_pos hl]
  ·have hn:s≠[]:=by intro e;rw [e] at hx;exact hx rfl
   have hnl:=List.length_pos_iff.2 hn
   have e1:v1=s.getD 0 0:=h1
   rw [decide_eq_false (by omega),cond_false,ck_of (idx_ok (by omega) (by omega)),e1,r9_Parse.j1_eq,r9_Parse.j1_eq]
   have hall:=r9_Parse.l2_all s (by omega) hx
   by_cases c:s.getD 0 0=45
   ·have hb:v2=Nr.body s:=by
     rw [h2]
     cases s with
     | nil=>exact (hn rfl).elim
     | cons d r =>
      have:d=45:=c
      subst this;rfl
    rw [decide_eq_true c,cond_true,ck_of (cut_ok (by omega) (by omega) (by omega)),hb]
    rw [decide_eq_true c] at hall
    exact hall
   ·have hb:Nr.body s=s:=by
     cases s with
     | nil=>exact (hn rfl).elim
     | cons d r =>
      have hd:d≠45:=c
      unfold Nr.body
      split
      ·rename_i heq;injection heq with h1 _;exact (hd h1).elim
      ·rfl
    rw [decide_eq_false c,cond_false]
    rw [decide_eq_false c,hb] at hall
    exact hall
end Go.Eng
namespace Go.Proofs
open Go.Shelf
def Tryd.lays161_ren:Go.Shelf.Ren:=⟨fun | 161=>16 | 231=>34 | 227=>36 | 233=>37 | 235=>39 | 228=>55 | 197=>58 | 151=>59 | 260=>79 | 152=>53 | 137=>74 | 119=>75 | 224=>76 | 225=>77 | 217=>93 | 266=>99 | n=>n,fun | 9=>9 | 4=>4 | 3=>3 | 5=>5 | 117=>61 | 116=>60 | 0=>0 | 124=>64 | 105=>84 | 21=>21 | 119=>120 | 46=>67 | 139=>123 | 138=>122 | n=>n,fun | 3=>2 | 4=>3 | n=>n⟩
theorem Tryd.lays161:Go.Proofs.Lays.n161 Tryd.prog Tryd.lays161_ren:={
 mixed:=by kernel_rfl
 f119:=Tryd.func75.trans (congrArg some (by kernel_rfl))
 f137:=Tryd.func74.trans (congrArg some (by kernel_rfl))
 f151:=Tryd.func59.trans (congrArg some (by kernel_rfl))
 f152:=Tryd.func53.trans (congrArg some (by kernel_rfl))
 f161:=Tryd.func16.trans (congrArg some (by kernel_rfl))
 f197:=Tryd.func58.trans (congrArg some (by kernel_rfl))
 f217:=Tryd.func93.trans (congrArg some (by kernel_rfl))
 f224:=Tryd.func76.trans (congrArg some (by kernel_rfl))
 f225:=Tryd.func77.trans (congrArg some (by kernel_rfl))
 f227:=Tryd.func36.trans (congrArg some (by kernel_rfl))
 f228:=Tryd.func55.trans (congrArg some (by kernel_rfl))
 f231:=Tryd.func34.trans (congrArg some (by kernel_rfl))
 f233:=Tryd.func37.trans (congrArg some (by kernel_rfl))
 f235:=Tryd.func39.trans (congrArg some (by kernel_rfl))
 f260:=Tryd.func79.trans (congrArg some (by kernel_rfl))
 f266:=Tryd.func99.trans (congrArg some (by kernel_rfl))
 t0:=Tryd.underlying0
 a0:=Tryd.isAgg0
 z0:=Tryd.sizeOf0
 v0:=Tryd.zeroValue0
 t3:=Tryd.underlying3
 a3:=Tryd.isAgg3
 z3:=Tryd.sizeOf3
 v3:=Tryd.zeroValue3
 t4:=Tryd.underlying4
 a4:=Tryd.isAgg4
 z4:=Tryd.sizeOf4
 v4:=Tryd.zeroValue4
 t5:=Tryd.underlying5
 a5:=Tryd.isAgg5
 z5:=Tryd.sizeOf5
 v5:=Tryd.zeroValue5
 t9:=Tryd.underlying9
 a9:=Tryd.isAgg9
 z9:=Tryd.sizeOf9
 v9:=Tryd.zeroValue9
 t21:=Tryd.underlying21
 a21:=Tryd.isAgg21
 z21:=Tryd.sizeOf21
 v21:=Tryd.zeroValue21
 t46:=Tryd.underlying67
 a46:=Tryd.isAgg67
 z46:=Tryd.sizeOf67
 v46:=Tryd.zeroValue67
 t105:=Tryd.underlying84
 a105:=Tryd.isAgg84
 z105:=Tryd.sizeOf84
 v105:=Tryd.zeroValue84
 t116:=Tryd.underlying60
 a116:=Tryd.isAgg60
 z116:=Tryd.sizeOf60
 t117:=Tryd.underlying61
 a117:=Tryd.isAgg61
 z117:=Tryd.sizeOf61
 v117:=Tryd.zeroValue61
 t119:=Tryd.underlying120
 a119:=Tryd.isAgg120
 z119:=Tryd.sizeOf120
 t124:=Tryd.underlying64
 a124:=Tryd.isAgg64
 z124:=Tryd.sizeOf64
 v124:=Tryd.zeroValue64
 t138:=Tryd.underlying122
 a138:=Tryd.isAgg122
 z138:=Tryd.sizeOf122
 v138:=Tryd.zeroValue122
 t139:=Tryd.underlying123
 a139:=Tryd.isAgg123
 z139:=Tryd.sizeOf123
 v139:=Tryd.zeroValue123
 g3:=by kernel_rfl
 g4:=by kernel_rfl }
def Tryd.lays162_ren:Go.Shelf.Ren:=⟨fun | 162=>17 | 232=>35 | 227=>36 | 234=>38 | 236=>40 | 228=>55 | 271=>60 | 151=>59 | 120=>80 | 197=>58 | 152=>53 | 260=>79 | 137=>74 | 119=>75 | 224=>76 | 225=>77 | 217=>93 | 266=>99 | n=>n,fun | 9=>9 | 4=>4 | 3=>3 | 5=>5 | 117=>61 | 116=>60 | 0=>0 | 124=>64 | 21=>21 | 105=>84 | 46=>67 | 119=>120 | 139=>123 | 138=>122 | n=>n,fun | 3=>2 | 4=>3 | n=>n⟩
theorem Tryd.lays162:Go.Proofs.Lays.n162 Tryd.prog Tryd.lays162_ren:={
 mixed:=by kernel_rfl
 f119:=Tryd.func75.trans (congrArg some (by kernel_rfl))
 f120:=Tryd.func80.trans (congrArg some (by kernel_rfl))
 f137:=Tryd.func74.trans (congrArg some (by kernel_rfl))
 f151:=Tryd.func59.trans (congrArg some (by kernel_rfl))
 f152:=Tryd.func53.trans (congrArg some (by kernel_rfl))
 f162:=Tryd.func17.trans (congrArg some (by kernel_rfl))
 f197:=Tryd.func58.trans (congrArg some (by kernel_rfl))
 f217:=Tryd.func93.trans (congrArg some (by kernel_rfl))
 f224:=Tryd.func76.trans (congrArg some (by kernel_rfl))
 f225:=Tryd.func77.trans (congrArg some (by kernel_rfl))
 f227:=Tryd.func36.trans (congrArg some (by kernel_rfl))
 f228:=Tryd.func55.trans (congrArg some (by kernel_rfl))
 f232:=Tryd.func35.trans (congrArg some (by kernel_rfl))
 f234:=Tryd.func38.trans (congrArg some (by kernel_rfl))
 f236:=Tryd.func40.trans (congrArg some (by kernel_rfl))
 f260:=Tryd.func79.trans (congrArg some (by kernel_rfl))
 f266:=Tryd.func99.trans (congrArg some (by kernel_rfl))
 f271:=Tryd.func60.trans (congrArg some (by kernel_rfl))
 t0:=Tryd.underlying0
 a0:=Tryd.isAgg0
 z0:=Tryd.sizeOf0
 v0:=Tryd.zeroValue0
 t3:=Tryd.underlying3
 a3:=Tryd.isAgg3
 z3:=Tryd.sizeOf3
 v3:=Tryd.zeroValue3
 t4:=Tryd.underlying4
 a4:=Tryd.isAgg4
 z4:=Tryd.sizeOf4
 v4:=Tryd.zeroValue4
 t5:=Tryd.underlying5
 a5:=Tryd.isAgg5
 z5:=Tryd.sizeOf5
 v5:=Tryd.zeroValue5
 t9:=Tryd.underlying9
 a9:=Tryd.isAgg9
 z9:=Tryd.sizeOf9
 v9:=Tryd.zeroValue9
 t21:=Tryd.underlying21
 a21:=Tryd.isAgg21
 z21:=Tryd.sizeOf21
 v21:=Tryd.zeroValue21
 t46:=Tryd.underlying67
 a46:=Tryd.isAgg67
 z46:=Tryd.sizeOf67
 v46:=Tryd.zeroValue67
 t105:=Tryd.underlying84
 a105:=Tryd.isAgg84
 z105:=Tryd.sizeOf84
 v105:=Tryd.zeroValue84
 t116:=Tryd.underlying60
 a116:=Tryd.isAgg60
 z116:=Tryd.sizeOf60
 t117:=Tryd.underlying61
 a117:=Tryd.isAgg61
 z117:=Tryd.sizeOf61
 v117:=Tryd.zeroValue61
 t119:=Tryd.underlying120
 a119:=Tryd.isAgg120
 z119:=Tryd.sizeOf120
 t124:=Tryd.underlying64
 a124:=Tryd.isAgg64
 z124:=Tryd.sizeOf64
 v124:=Tryd.zeroValue64
 t138:=Tryd.underlying122
 a138:=Tryd.isAgg122
 z138:=Tryd.sizeOf122
 v138:=Tryd.zeroValue122
 t139:=Tryd.underlying123
 a139:=Tryd.isAgg123
 z139:=Tryd.sizeOf123
 v139:=Tryd.zeroValue123
 g3:=by kernel_rfl
 g4:=by kernel_rfl }
def Tryd.lays160_ren:Go.Shelf.Ren:=⟨fun | 160=>15 | 232=>35 | 231=>34 | 227=>36 | 234=>38 | 233=>37 | 236=>40 | 235=>39 | 228=>55 | 271=>60 | 151=>59 | 197=>58 | 120=>80 | 152=>53 | 260=>79 | 137=>74 | 119=>75 | 224=>76 | 225=>77 | 217=>93 | 266=>99 | n=>n,fun | 9=>9 | 4=>4 | 3=>3 | 5=>5 | 117=>61 | 116=>60 | 0=>0 | 124=>64 | 21=>21 | 105=>84 | 46=>67 | 119=>120 | 139=>123 | 138=>122 | n=>n,fun | 3=>2 | 4=>3 | n=>n⟩
theorem Tryd.lays160:Go.Proofs.Lays.n160 Tryd.prog Tryd.lays160_ren:={
 mixed:=by kernel_rfl
 f119:=Tryd.func75.trans (congrArg some (by kernel_rfl))
 f120:=Tryd.func80.trans (congrArg some (by kernel_rfl))
 f137:=Tryd.func74.trans (congrArg some (by kernel_rfl))
 f151:=Tryd.func59.trans (congrArg some (by kernel_rfl))
 f152:=Tryd.func53.trans (congrArg some (by kernel_rfl))
 f160:=Tryd.func15.trans (congrArg some (by kernel_rfl))
 f197:=Tryd.func58.trans (congrArg some (by kernel_rfl))
 f217:=Tryd.func93.trans (congrArg some (by kernel_rfl))
 f224:=Tryd.func76.trans (congrArg some (by kernel_rfl))
 f225:=Tryd.func77.trans (congrArg some (by kernel_rfl))
 f227:=Tryd.func36.trans (congrArg some (by kernel_rfl))
 f228:=Tryd.func55.trans (congrArg some (by kernel_rfl))
 f231:=Tryd.func34.trans (congrArg some (by kernel_rfl))
 f232:=Tryd.func35.trans (congrArg some (by kernel_rfl))
 f233:=Tryd.func37.trans (congrArg some (by kernel_rfl))
 f234:=Tryd.func38.trans (congrArg some (by kernel_rfl))
 f235:=Tryd.func39.trans (congrArg some (by kernel_rfl))
 f236:=Tryd.func40.trans (congrArg some (by kernel_rfl))
 f260:=Tryd.func79.trans (congrArg some (by kernel_rfl))
 f266:=Tryd.func99.trans (congrArg some (by kernel_rfl))
 f271:=Tryd.func60.trans (congrArg some (by kernel_rfl))
 t0:=Tryd.underlying0
 a0:=Tryd.isAgg0
 z0:=Tryd.sizeOf0
 v0:=Tryd.zeroValue0
 t3:=Tryd.underlying3
 a3:=Tryd.isAgg3
 z3:=Tryd.sizeOf3
 v3:=Tryd.zeroValue3
 t4:=Tryd.underlying4
 a4:=Tryd.isAgg4
 z4:=Tryd.sizeOf4
 v4:=Tryd.zeroValue4
 t5:=Tryd.underlying5
 a5:=Tryd.isAgg5
 z5:=Tryd.sizeOf5
 v5:=Tryd.zeroValue5
 t9:=Tryd.underlying9
 a9:=Tryd.isAgg9
 z9:=Tryd.sizeOf9
 v9:=Tryd.zeroValue9
 t21:=Tryd.underlying21
 a21:=Tryd.isAgg21
 z21:=Tryd.sizeOf21
 v21:=Tryd.zeroValue21
 t46:=Tryd.underlying67
 a46:=Tryd.isAgg67
 z46:=Tryd.sizeOf67
 v46:=Tryd.zeroValue67
 t105:=Tryd.underlying84
 a105:=Tryd.isAgg84
 z105:=Tryd.sizeOf84
 v105:=Tryd.zeroValue84
 t116:=Tryd.underlying60
 a116:=Tryd.isAgg60
 z116:=Tryd.sizeOf60
 t117:=Tryd.underlying61
 a117:=Tryd.isAgg61
 z117:=Tryd.sizeOf61
 v117:=Tryd.zeroValue61
 t119:=Tryd.underlying120
 a119:=Tryd.isAgg120
 z119:=Tryd.sizeOf120
 t124:=Tryd.underlying64
 a124:=Tryd.isAgg64
 z124:=Tryd.sizeOf64
 v124:=Tryd.zeroValue64
 t138:=Tryd.underlying122
 a138:=Tryd.isAgg122
 z138:=Tryd.sizeOf122
 v138:=Tryd.zeroValue122
 t139:=Tryd.underlying123
 a139:=Tryd.isAgg123
 z139:=Tryd.sizeOf123
 v139:=Tryd.zeroValue123
 g3:=by kernel_rfl
 g4:=by kernel_rfl }
def Tryd.lays103_ren:Go.Shelf.Ren:=⟨fun | 103=>27 | 210=>52 | 206=>73 | n=>n,fun | 9=>9 | 4=>4 | 24=>51 | 3=>3 | n=>n,fun | n=>n⟩
theorem Tryd.lays103:Go.Proofs.Lays.n103 Tryd.prog Tryd.lays103_ren:={
 mixed:=by kernel_rfl
 f103:=Tryd.func27.trans (congrArg some (by kernel_rfl))
 f206:=Tryd.func73.trans (congrArg some (by kernel_rfl))
 f210:=Tryd.func52.trans (congrArg some (by kernel_rfl))
 t3:=Tryd.underlying3
 a3:=Tryd.isAgg3
 z3:=Tryd.sizeOf3
 v3:=Tryd.zeroValue3
 t4:=Tryd.underlying4
 a4:=Tryd.isAgg4
 z4:=Tryd.sizeOf4
 v4:=Tryd.zeroValue4
 t9:=Tryd.underlying9
 a9:=Tryd.isAgg9
 z9:=Tryd.sizeOf9
 v9:=Tryd.zeroValue9
 t24:=Tryd.underlying51
 a24:=Tryd.isAgg51
 z24:=Tryd.sizeOf51
 v24:=Tryd.zeroValue51 }
def Tryd.lays153_ren:Go.Shelf.Ren:=⟨fun | 153=>28 | 152=>53 | 226=>54 | 227=>36 | 228=>55 | 137=>74 | 119=>75 | 224=>76 | 225=>77 | 217=>93 | 266=>99 | n=>n,fun | 9=>9 | 3=>3 | 4=>4 | 5=>5 | 21=>21 | 117=>61 | 116=>60 | 0=>0 | 46=>67 | 124=>64 | n=>n,fun | n=>n⟩
theorem Tryd.lays153:Go.Proofs.Lays.n153 Tryd.prog Tryd.lays153_ren:={
 mixed:=by kernel_rfl
 f119:=Tryd.func75.trans (congrArg some (by kernel_rfl))
 f137:=Tryd.func74.trans (congrArg some (by kernel_rfl))
 f152:=Tryd.func53.trans (congrArg some (by kernel_rfl))
 f153:=Tryd.func28.trans (congrArg some (by kernel_rfl))
 f217:=Tryd.func93.trans (congrArg some (by kernel_rfl))
 f224:=Tryd.func76.trans (congrArg some (by kernel_rfl))
 f225:=Tryd.func77.trans (congrArg some (by kernel_rfl))
 f226:=Tryd.func54.trans (congrArg some (by kernel_rfl))
 f227:=Tryd.func36.trans (congrArg some (by kernel_rfl))
 f228:=Tryd.func55.trans (congrArg some (by kernel_rfl))
 f266:=Tryd.func99.trans (congrArg some (by kernel_rfl))
 t0:=Tryd.underlying0
 a0:=Tryd.isAgg0
 z0:=Tryd.sizeOf0
 v0:=Tryd.zeroValue0
 t3:=Tryd.underlying3
 a3:=Tryd.isAgg3
 z3:=Tryd.sizeOf3
 v3:=Tryd.zeroValue3
 t4:=Tryd.underlying4
 a4:=Tryd.isAgg4
 z4:=Tryd.sizeOf4
 v4:=Tryd.zeroValue4
 t5:=Tryd.underlying5
 a5:=Tryd.isAgg5
 z5:=Tryd.sizeOf5
 v5:=Tryd.zeroValue5
 t9:=Tryd.underlying9
 a9:=Tryd.isAgg9
 z9:=Tryd.sizeOf9
 v9:=Tryd.zeroValue9
 t21:=Tryd.underlying21
 a21:=Tryd.isAgg21
 z21:=Tryd.sizeOf21
 v21:=Tryd.zeroValue21
 t46:=Tryd.underlying67
 a46:=Tryd.isAgg67
 z46:=Tryd.sizeOf67
 v46:=Tryd.zeroValue67
 t116:=Tryd.underlying60
 a116:=Tryd.isAgg60
 z116:=Tryd.sizeOf60
 t117:=Tryd.underlying61
 a117:=Tryd.isAgg61
 z117:=Tryd.sizeOf61
 v117:=Tryd.zeroValue61
 t124:=Tryd.underlying64
 a124:=Tryd.isAgg64
 z124:=Tryd.sizeOf64
 v124:=Tryd.zeroValue64 }
def Tryd.lays219_ren:Go.Shelf.Ren:=⟨fun | 219=>78 | 217=>93 | 225=>77 | 224=>76 | 267=>94 | 266=>99 | 314=>100 | n=>n,fun | 9=>9 | 3=>3 | 4=>4 | 5=>5 | 46=>67 | 146=>128 | 51=>127 | n=>n,fun | 1=>1 | n=>n⟩
theorem Tryd.lays219:Go.Proofs.Lays.n219 Tryd.prog Tryd.lays219_ren:={
 mixed:=by kernel_rfl
 f217:=Tryd.func93.trans (congrArg some (by kernel_rfl))
 f219:=Tryd.func78.trans (congrArg some (by kernel_rfl))
 f224:=Tryd.func76.trans (congrArg some (by kernel_rfl))
 f225:=Tryd.func77.trans (congrArg some (by kernel_rfl))
 f266:=Tryd.func99.trans (congrArg some (by kernel_rfl))
 f267:=Tryd.func94.trans (congrArg some (by kernel_rfl))
 f314:=Tryd.func100.trans (congrArg some (by kernel_rfl))
 t3:=Tryd.underlying3
 a3:=Tryd.isAgg3
 z3:=Tryd.sizeOf3
 v3:=Tryd.zeroValue3
 t4:=Tryd.underlying4
 a4:=Tryd.isAgg4
 z4:=Tryd.sizeOf4
 v4:=Tryd.zeroValue4
 t5:=Tryd.underlying5
 a5:=Tryd.isAgg5
 z5:=Tryd.sizeOf5
 v5:=Tryd.zeroValue5
 t9:=Tryd.underlying9
 a9:=Tryd.isAgg9
 z9:=Tryd.sizeOf9
 v9:=Tryd.zeroValue9
 t46:=Tryd.underlying67
 a46:=Tryd.isAgg67
 z46:=Tryd.sizeOf67
 v46:=Tryd.zeroValue67
 t51:=Tryd.underlying127
 a51:=Tryd.isAgg127
 z51:=Tryd.sizeOf127
 v51:=Tryd.zeroValue127
 t146:=Tryd.underlying128
 a146:=Tryd.isAgg128
 z146:=Tryd.sizeOf128
 v146:=Tryd.zeroValue128
 g1:=by kernel_rfl }
def Tryd.lays29_ren:Go.Shelf.Ren:=⟨fun | 29=>71 | n=>n,fun | 22=>23 | 3=>3 | 4=>4 | 25=>67 | 54=>119 | 0=>0 | 5=>5 | n=>n,fun | 1=>0 | n=>n⟩
theorem Tryd.lays29:Go.Proofs.Lays7.n29 Tryd.prog Tryd.lays29_ren:={
 mixed:=by kernel_rfl
 f29:=Tryd.func71.trans (congrArg some (by kernel_rfl))
 t0:=Tryd.underlying0
 a0:=Tryd.isAgg0
 z0:=Tryd.sizeOf0
 v0:=Tryd.zeroValue0
 i0:=by kernel_rfl
 t3:=Tryd.underlying3
 a3:=Tryd.isAgg3
 z3:=Tryd.sizeOf3
 v3:=Tryd.zeroValue3
 i3:=by kernel_rfl
 t4:=Tryd.underlying4
 a4:=Tryd.isAgg4
 z4:=Tryd.sizeOf4
 v4:=Tryd.zeroValue4
 i4:=by kernel_rfl
 t5:=Tryd.underlying5
 a5:=Tryd.isAgg5
 z5:=Tryd.sizeOf5
 v5:=Tryd.zeroValue5
 i5:=by kernel_rfl
 t22:=Tryd.underlying23
 a22:=Tryd.isAgg23
 z22:=Tryd.sizeOf23
 v22:=Tryd.zeroValue23
 i22:=by kernel_rfl
 t25:=Tryd.underlying67
 a25:=Tryd.isAgg67
 z25:=Tryd.sizeOf67
 v25:=Tryd.zeroValue67
 i25:=by kernel_rfl
 t54:=Tryd.underlying119
 a54:=Tryd.isAgg119
 z54:=Tryd.sizeOf119
 g1:=by kernel_rfl }
end Go.Proofs
namespace Go.Eng
open Go.RowKit Go.Proofs
theorem spec_many {P:Program} {gl:Nat→AV} {f n:Nat} {c:Ctr} (h:∀(ti to_:List TV) (w:World) (R:Reach) (xs:List Value),(c ti).holds to_→RepT R w (ti.map TV.av) xs→(∀n,Rep R w (gl n) (.pointer (some ⟨n,0,none⟩))) →
  to_.length=n∧Calls P f ⟨xs⟩ w fun e w'=>∃rvs:List Value,e = .returned (if n=1 then rvs.headD undef else .tuple ⟨rvs⟩)∧Below w.heap.size w w'∧∀R w',RepT R w' (to_.map TV.av) rvs):SpecOK P gl f (Ctr.fs (c,{ nres:=n })):=by
 refine ⟨fun _ w R ins outs xs hG hR hgl ha=>?_,fun _ _ h=>by cases h⟩
 obtain ⟨ti,to_,rfl,rfl,hc⟩:=hG
 obtain ⟨hl,h⟩:=h ti to_ w R xs hc ha hgl
 refine h.mono ?_
 rintro e w' ⟨rvs,rfl,hb,hx⟩
 refine ⟨_,R,rfl,below_ext hR hb,fun b o hr=>Nat.lt_of_lt_of_le (hR b o hr) hb.size,?_⟩
 have hl2:rvs.length=n:=by
  have:=(hx R w').length
  simpa [hl] using this.symm
 refine ⟨rvs,[],[],[],0,0,[],[],hl2,rfl,by simp [hl,Ctr.fs],?_,fun j hj=>by simp [Ctr.fs] at hj,fun j hj=>by simp [Ctr.fs] at hj,rfl,rfl,rfl,?_,?_,?_,?_,?_,?_⟩
 ·have e:(List.mapIdx (fun i y=>if (Ctr.fs (c,{ nres:=n })).sg.new=some i then AV.pt else y) ((to_.map TV.av).take (Ctr.fs (c,{ nres:=n })).sg.nres))=to_.map TV.av:=by
   have e1:(to_.map TV.av).take (Ctr.fs (c,{ nres:=n })).sg.nres=to_.map TV.av:=List.take_of_length_le (by rw [List.length_map,hl];exact Nat.le_refl _)
   rw [e1]
   show List.mapIdx (fun _ y=>y) (to_.map TV.av)=to_.map TV.av
   exact List.ext_getElem? fun i=>by rw [List.getElem?_mapIdx];cases (to_.map TV.av)[i]? <;> rfl
  rw [e];exact hx R w'
 all_goals intros
 all_goals simp_all [Ctr.fs,owners]
theorem rep_s2 {R:Reach} {w:World} {a b:Str} {xs:List Value} (h:RepT R w (([.s a,.s b]:List TV).map TV.av) xs):xs=[.string ⟨a.toArray⟩,.string ⟨b.toArray⟩]:=by
 have h:RepT R w [.v (.string ⟨⟨a⟩⟩),.v (.string ⟨⟨b⟩⟩)] xs:=h
 cases h with
 | cons x y =>
  cases x
  cases y with
  | cons x y=>cases x;cases y;rfl
theorem rep_s1 {R:Reach} {w:World} {a:Str}:Rep R w (TV.s a).av (.string ⟨a.toArray⟩):=by
 have:Rep R w (.v (.string ⟨⟨a⟩⟩)) (.string ⟨a.toArray⟩) := .v _
 exact this
theorem rep_i {R:Reach} {w:World} {n:Int}:Rep R w (TV.i .i64 n).av (.int .i64 n):=by
 have:Rep R w (.v (.int .i64 n)) (.int .i64 n) := .v _
 exact this
theorem rep_b {R:Reach} {w:World} {b:Bool}:Rep R w (TV.b b).av (.bool b):=by
 have:Rep R w (.v (.bool b)) (.bool b) := .v _
 exact this
theorem ascii_all {c:Str} (h:c.all (fun b=>decide (b.toNat<128))=true):∀(j:Nat) b,(⟨c.toArray⟩:ByteArray).data.toList[j]?=some b→b.toNat<128:=fun j b hb=>of_decide_eq_true (List.all_eq_true.1 h b (List.mem_of_getElem? (by simpa using hb)))
theorem trim_pre {s c:Str} (h:(decide (s.length≤1099511627776∧c.length≤100)&&c.all (fun b=>decide (b.toNat<128)))=true):(⟨s.toArray⟩:ByteArray).size≤9223372036854775807∧(⟨c.toArray⟩:ByteArray).size<4294967281∧c.all (fun b=>decide (b.toNat<128))=true:=by
 simp only [Bool.and_eq_true,decide_eq_true_eq] at h
 refine ⟨?_,?_,by simpa using h.2⟩
 ·show s.toArray.size≤_
  rw [List.size_toArray];omega
 ·show c.toArray.size<_
  rw [List.size_toArray];omega
theorem st_Trim.ok:KO 15 (st_Trim.c) st_Trim.sg:=by
 refine spec_many fun ti to_ w R xs hc ha hG=>?_
 unfold st_Trim.c at hc
 split at hc
 ·rename_i s c
  obtain ⟨hp,rfl⟩:=hc
  rw [rep_s2 ha]
  obtain ⟨p1,p2,p3⟩:=trim_pre hp
  refine ⟨rfl,(Go.Proofs.Any.strings_Trim_laid Tryd.lays160 (by kernel_rfl) _ _ w p1 p2 (ascii_all p3)).mono ?_⟩
  rintro e w' ⟨rfl,hb⟩
  exact ⟨[_],rfl,hb,fun R w' => .cons rep_s1 .nil⟩
 ·exact hc.elim
theorem st_TrimLeft.ok:KO 16 (st_TrimLeft.c) st_TrimLeft.sg:=by
 refine spec_many fun ti to_ w R xs hc ha hG=>?_
 unfold st_TrimLeft.c at hc
 split at hc
 ·rename_i s c
  obtain ⟨hp,rfl⟩:=hc
  rw [rep_s2 ha]
  obtain ⟨p1,p2,p3⟩:=trim_pre hp
  refine ⟨rfl,(Go.Proofs.Any.strings_TrimLeft_laid Tryd.lays161 (by kernel_rfl) _ _ w p2 (ascii_all p3)).mono ?_⟩
  rintro e w' ⟨rfl,hb⟩
  exact ⟨[_],rfl,hb,fun R w' => .cons rep_s1 .nil⟩
 ·exact hc.elim
theorem st_TrimRight.ok:KO 17 (st_TrimRight.c) st_TrimRight.sg:=by
 refine spec_many fun ti to_ w R xs hc ha hG=>?_
 unfold st_TrimRight.c at hc
 split at hc
 ·rename_i s c
  obtain ⟨hp,rfl⟩:=hc
  rw [rep_s2 ha]
  obtain ⟨p1,p2,p3⟩:=trim_pre hp
  refine ⟨rfl,(Go.Proofs.Any.strings_TrimRight_laid Tryd.lays162 (by kernel_rfl) _ _ w p1 p2 (ascii_all p3)).mono ?_⟩
  rintro e w' ⟨rfl,hb⟩
  exact ⟨[_],rfl,hb,fun R w' => .cons rep_s1 .nil⟩
 ·exact hc.elim
theorem trimPrefix_eq (s p:Str):Lib.trimPrefix s p=(if p.isPrefixOf s then s.drop p.length else s)∧Lib.hasPrefix s p=p.isPrefixOf s:=by
 unfold Lib.trimPrefix Lib.hasPrefix
 constructor
 ·split <;> simp_all
 ·rfl
theorem st_CutPrefix.ok:KO 27 (st_CutPrefix.c) st_CutPrefix.sg:=by
 refine spec_many fun ti to_ w R xs hc ha hG=>?_
 unfold st_CutPrefix.c at hc
 split at hc
 ·rename_i s c
  cases hc
  rw [rep_s2 ha]
  refine ⟨rfl,(Go.Proofs.Any.strings_CutPrefix Tryd.lays103 _ _ w).mono ?_⟩
  rintro e w' ⟨rfl,rfl⟩
  refine ⟨[_,_],rfl,Below.refl _ _,fun R w'=>?_⟩
  obtain ⟨e1,e2⟩:=trimPrefix_eq s c
  rw [←e1,←e2]
  exact .cons rep_s1 (.cons rep_b .nil)
 ·exact hc.elim
theorem st_IndexAny.ok:KO 28 (st_IndexAny.c) st_IndexAny.sg:=by
 refine spec_many fun ti to_ w R xs hc ha hG=>?_
 unfold st_IndexAny.c at hc
 split at hc
 ·rename_i s c
  obtain ⟨hp,rfl⟩:=hc
  rw [rep_s2 ha]
  simp only [Bool.and_eq_true,decide_eq_true_eq,List.all_append] at hp
  obtain ⟨⟨p1,p2⟩,p3,p4⟩:=hp
  refine ⟨rfl,(Go.Proofs.Any.strings_IndexAny_laid Tryd.lays153 (by kernel_rfl) _ _ w (by show s.toArray.size<_;rw [List.size_toArray];omega) (by show c.toArray.size<_;rw [List.size_toArray];omega) (ascii_all p3) (ascii_all p4)).mono ?_⟩
  rintro e w' ⟨rfl,hb⟩
  exact ⟨[_],rfl,hb,fun R w' => .cons rep_i .nil⟩
 ·exact hc.elim
theorem sl_Index.ok:KO 78 (sl_Index.c) sl_Index.sg:=by
 refine spec_many fun ti to_ w R xs hc ha hG=>?_
 unfold sl_Index.c at hc
 split at hc
 ·rename_i s c
  obtain ⟨hp,rfl⟩:=hc
  rw [rep_s2 ha]
  obtain ⟨p1,rfl⟩:=of_decide_eq_true hp
  refine ⟨rfl,(Go.Proofs.Any.stringslite_Index_one Tryd.lays219 _ 46 w).mono ?_⟩
  rintro e w' ⟨rfl,rfl⟩
  exact ⟨[_],rfl,Below.refl _ _,fun R w' => .cons rep_i .nil⟩
 ·exact hc.elim
theorem bits_TZ.ok:KO 71 (bits_TZ.c) bits_TZ.sg:=by
 refine spec_many fun ti to_ w R xs hc ha hG=>?_
 unfold bits_TZ.c at hc
 split at hc
 ·rename_i x
  cases hc
  have e:xs=[.int .u64 x.toNat]:=by
   have ha:RepT R w [.v (.int .u64 x.toNat)] xs:=ha
   cases ha with
   | cons a b=>cases a;cases b;rfl
  rw [e]
  have h0:Rep R w (.gv ((Lib.deBruijn64tab.map Int.ofNat).map fun z=>Value.int .u8 z)) (.pointer (some ⟨0,0,none⟩)):=hG 0
  refine ⟨rfl,(Go.Proofs.Any7.bits_TrailingZeros64 Tryd.lays29 x.toNat x.toNat_lt w fun _ j hj=>?_).mono ?_⟩
  ·cases h0 with
   | gv h1 h2 =>
    have:=h2 j
    rw [List.map_map,List.getElem?_map,List.getElem?_eq_getElem hj] at this
    rw [List.getD_eq_getElem?_getD,List.getElem?_eq_getElem hj]
    exact this
  ·rintro e w' ⟨rfl,rfl⟩
   exact ⟨[_],rfl,Below.refl _ _,fun R w' => .cons rep_i .nil⟩
 ·exact hc.elim
end Go.Eng
namespace Go.Eng
open Go.Proofs
theorem math_Trunc.fit (x:Nat) (hp:(Fl.num x)=true):([.c (.float .f64 x)]:List TV).length=math_Trunc.d.np∧math_Trunc.d.run (envL nrGl math_Trunc.env) [.c (.float .f64 x)]=some (([(.c (.float .f64 (Fl.trunc x)))]:List TV)++math_Trunc.d.lent.map fun q=>([.c (.float .f64 x)]:List TV).getD q.1 .dead) :=
 ⟨by kernel_rfl,Eq.trans (b:=math_Trunc.F x) (by kernel_rfl) (Eq.trans (math_Trunc.goal x hp) (by kernel_rfl))⟩
theorem math_Trunc.ok:KO 96 (math_Trunc.c) math_Trunc.sg :=
 meets (l:=math_Trunc.env) all_nil math_Trunc.chk (by
   intro ins outs h
   unfold math_Trunc.c at h
   split at h
   ·obtain ⟨hp,rfl⟩:=h;exact math_Trunc.fit _ hp
   ·exact h.elim)
end Go.Eng
namespace Go.Eng
open Go.RowKit Go.Proofs
set_option maxRecDepth 100000
set_option maxHeartbeats 1000000
theorem Fl.read_neg (a:Nat):Ieee.double.read (Fl.neg a)=(Ieee.double.read a).opposite:=by
 have e1:Fl.neg a % 2 ^ 63=a % 2 ^ 63:=by
  unfold Fl.neg
  rw [show 9223372036854775808=2 ^ 63 by decide,Nat.xor_mod_two_pow,Nat.mod_self,Nat.xor_zero]
 have e2:(Fl.neg a / 2 ^ 63 % 2 == 1)=!(a / 2 ^ 63 % 2 == 1):=by
  unfold Fl.neg
  rw [show 9223372036854775808=2 ^ 63 by decide,Nat.xor_div_two_pow,Nat.div_self (by decide)]
  have:=Nat.xor_mod_two_pow (a:=a / 2 ^ 63) (b:=1) (n:=1)
  rw [Nat.pow_one] at this
  rw [this]
  rcases Nat.mod_two_eq_zero_or_one (a / 2 ^ 63) with e | e <;> rw [e] <;> rfl
 have h:Ieee.double.signWeight=2 ^ 63:=rfl
 unfold Ieee.Format.read
 rw [h]
 simp only [e1,e2]
 split
 ·rfl
 ·split
  ·rfl
  ·split <;> rfl
theorem Fl.W.neg {a:Nat} {x:Int} (h:Fl.W a x):Fl.W (Fl.neg a) (-x):=by
 show Fl.WD (Ieee.double.read (Fl.neg a)) (-x)
 rw [Fl.read_neg]
 exact Fl.WD.opposite h
theorem wh_trunc {R:Reach} {w:World} {x:Nat} (hx:Fl.num x=true) (hR:∀b o,R b o→b<w.heap.size) (hG:∀n,Rep R w ((nrGl n).av) (.pointer (some ⟨n,0,none⟩))) :
  Calls Tryd.prog 96 #[.float .f64 x] w fun e w'=>e = .returned (.float .f64 (Fl.trunc x))∧Below w.heap.size w w':=by
 refine (math_Trunc.ok.1 rfl w R [.v (.float .f64 x)] [.v (.float .f64 (Fl.trunc x))] [.float .f64 x] ⟨[.c (.float .f64 x)],[.c (.float .f64 (Fl.trunc x))],rfl,rfl,?_⟩ hR hG (.cons (.v _) .nil)).mono ?_
 ·exact ⟨hx,rfl⟩
 ·rintro e w' ⟨y,R',rfl,hx,hr,ho⟩
  obtain ⟨rvs,tr,to_,tn,bn,br,cn,cr,h1,h2,h3,h4,_⟩:=ho
  refine ⟨?_,hx.os,hx.tape,hx.output,hx.size,fun k hk=>hx.heap k hk id⟩
  congr 1
  have h1:rvs.length=1:=h1
  match rvs,h1 with
  | [y],_ =>
   have h4:RepT R' w' [.v (.float .f64 (Fl.trunc x))] [y]:=h4
   cases h4 with
   | cons a b=>cases a;exact h2
theorem wh1 {R:Reach} (b:Nat) (x m:Nat) (X M:Int) (w:World) (hc:w.cell? ⟨b,0,none⟩=some (.float .f64 m)) (hX:Fl.W x X) (hM:Fl.W m M) (hXM:(X.natAbs:Int)≤M) (hB:M≤9007199254740992) (hR:∀b o,R b o→b<w.heap.size) (hG:∀n,Rep R w ((nrGl n).av) (.pointer (some ⟨n,0,none⟩))) :
  Calls Tryd.prog 98 #[.float .f64 x,.pointer (some ⟨b,0,none⟩)] w fun e w'=>e = .returned (.bool true)∧Below w.heap.size w w':=by
 have hn:∀w:World,(Op.unary .neg (.float .f64 m)).run Tryd.prog w = .ok (.float .f64 (Fl.neg m)) w:=fun w=>rfl
 have h1:FloatKind.f64.format.order x (Fl.neg m)=some .gt∨FloatKind.f64.format.order x (Fl.neg m)=some .eq:=by
  have e:FloatKind.f64.format.order x (Fl.neg m)=some (compare X (-M)):=Fl.order_whole hX hM.neg
  rw [e]
  rcases Int.lt_or_eq_of_le (show -M≤X by omega) with c | c
  ·rw [Int.compare_eq_gt.2 c];exact .inl rfl
  ·rw [←c,Int.compare_eq_eq.2 rfl];exact .inr rfl
 have h2:FloatKind.f64.format.order x m=some .lt∨FloatKind.f64.format.order x m=some .eq:=by
  have e:FloatKind.f64.format.order x m=some (compare X M):=Fl.order_whole hX hM
  rw [e]
  rcases Int.lt_or_eq_of_le (show X≤M by omega) with c | c
  ·rw [Int.compare_eq_lt.2 c];exact .inl rfl
  ·rw [←c,Int.compare_eq_eq.2 rfl];exact .inr rfl
 have h3:FloatKind.f64.format.order x (Fl.trunc x)=some .eq:=by
  have e:FloatKind.f64.format.order x (Fl.trunc x)=some (compare X X):=Fl.order_whole hX (hX.trunc (by omega))
  rw [e,Int.compare_eq_eq.2 rfl]
 go_enter Tryd.func98,Tryd.ntmps98
 rcases h1 with h1 | h1 <;> rcases h2 with h2 | h2
 all_goals
  go_wp2_with (go_at_call 96;refine (wh_trunc hX.num hR hG).mono ?_;rintro e w' ⟨rfl,hb⟩)
  go_ret
  exact ⟨rfl,hb⟩
theorem gl_below {R:Reach} {w w':World} (hR:∀b o,R b o→b<w.heap.size) (h:Below w.heap.size w w') (hG:∀n,Rep R w ((nrGl n).av) (.pointer (some ⟨n,0,none⟩))):∀n,Rep R w' ((nrGl n).av) (.pointer (some ⟨n,0,none⟩)) :=
 fun n=>Rep.mono (below_ext hR h).keep (hG n)
theorem wh2 {R:Reach} (z:Cx) (m:Nat) (X Y M:Int) (w:World) (hZ:Gz.Is z X Y) (hM:Fl.W m M) (hX:(X.natAbs:Int)≤M) (hY:(Y.natAbs:Int)≤M) (hB:M≤9007199254740992) (hR:∀b o,R b o→b<w.heap.size) (hG:∀n,Rep R w ((nrGl n).av) (.pointer (some ⟨n,0,none⟩))) :
  Calls Tryd.prog 86 #[.complex .f64 z.1 z.2,.float .f64 m] w fun e w'=>e = .returned (.bool true)∧Below w.heap.size w w':=by
 have hmf:∀(fn:Fn) (first cap:Array Value) (w:World),(Instr.makeFunc fn first cap).run Tryd.prog w = .ok (.func fn first cap) w:=fun _ _ _ _=>rfl
 have hb1:Below w.heap.size w (w.alloc (.cells #[.float .f64 m] 113)):=(Below.refl _ _).alloc (Nat.le_refl _) _
 have hc1:(w.alloc (.cells #[.float .f64 m] 113)).cell? ⟨w.heap.size,0,none⟩=some (.float .f64 m):=by
  rw [World.cell?_alloc_at _ _ _ _ rfl];rfl
 have hs1:(w.alloc (.cells #[.float .f64 m] 113)).heap.size=w.heap.size+1:=Array.size_push ..
 have hre:∀(a:Array TypeId) (b:TypeId) (p q:Nat) (w:World),(Builtin.real_ a b #[.complex .f64 p q]).run Tryd.prog w = .ok (.float .f64 p) w:=fun _ _ _ _ _=>rfl
 have him:∀(a:Array TypeId) (b:TypeId) (p q:Nat) (w:World),(Builtin.imag_ a b #[.complex .f64 p q]).run Tryd.prog w = .ok (.float .f64 q) w:=fun _ _ _ _ _=>rfl
 have hR1:∀b o,R b o→b<(w.alloc (.cells #[.float .f64 m] 113)).heap.size:=fun b o h=>by have:=hR b o h;omega
 go_enter Tryd.func86,Tryd.ntmps86
 have hG1:=gl_below hR hb1 hG
 go_wp2_with (go_at_call 98;refine (wh1 (R:=R) w.heap.size z.1 m X M (w.alloc (.cells #[.float .f64 m] 113)) hc1 hZ.1 hM hX hB hR1 hG1).mono ?hk1;rintro e w2 ⟨rfl,hb2⟩)
 have hc2:w2.cell? ⟨w.heap.size,0,none⟩=some (.float .f64 m):=by
  simp only [World.cell?,hb2.block w.heap.size (by omega)]
  exact hc1
 have hR2:∀b o,R b o→b<w2.heap.size:=fun b o h=>Nat.lt_of_lt_of_le (hR1 b o h) hb2.size
 refine (wh1 (R:=R) w.heap.size z.2 m Y M w2 hc2 hZ.2 hM hY hB hR2 (gl_below hR1 hb2 hG1)).mono ?_
 rintro e w3 ⟨rfl,hb3⟩
 go_wp2
 go_ret
 refine ⟨rfl,?_⟩
 exact ⟨hb3.os.trans (hb2.os.trans hb1.os),hb3.tape.trans (hb2.tape.trans hb1.tape),hb3.output.trans (hb2.output.trans hb1.output),by have:=hb3.size;have:=hb2.size;omega,fun k hk=>(hb3.block k (by have:=hb2.size;omega)).trans ((hb2.block k (by omega)).trans (hb1.block k hk))⟩
theorem gz_whole.ok:KO 86 (gz_whole.c) gz_whole.sg:=by
 refine spec_plain fun ti to_ w R xs hc ha hR hG=>?_
 unfold gz_whole.c at hc
 split at hc
 ·rename_i p q m
  obtain ⟨hp,rfl⟩:=hc
  have e:xs=[.complex .f64 p q,.float .f64 m]:=by
   have ha:RepT R w [.v (.complex .f64 p q),.v (.float .f64 m)] xs:=ha
   cases ha with
   | cons a b =>
    cases a
    cases b with
    | cons a b=>cases a;cases b;rfl
  subst e
  unfold Gz.inM at hp
  classical
  obtain ⟨X,Y,M,h1,h2,h3,h4,h5⟩:=of_decide_eq_true hp
  refine (wh2 (p,q) m X Y M w h1 h2 h3 h4 h5 hR hG).mono ?_
  rintro e w' ⟨rfl,hb⟩
  exact ⟨_,rfl,hb,fun R w' => .cons rep_b .nil⟩
 ·exact hc.elim
end Go.Eng
namespace Go.Eng
open Go.IntWalk
theorem mask11 (x:UInt64):(x &&& (2047:UInt64)).toNat=x.toNat % 2048:=by
 rw [UInt64.toNat_and]
 exact Nat.and_two_pow_sub_one_eq_mod x.toNat 11
theorem r9_Split.goal (b:UInt64):r9_Split.F b=some [.i .i64 (Nr.split b).1,.b (Nr.split b).2.1,.u64 (Nr.split b).2.2.1,.i .i64 (Nr.split b).2.2.2]:=by
 refine r9_Split.F_in _ ?_
 intro v1 h1 v2 h2 v3 h3 v4 h4 v5 h5 v6 h6 v7 h7 v8 h8
 have hb:=b.toNat_lt
 have hv1:v1.toNat=b.toNat / 9223372036854775808:=by rw [h1,shr64_toNat];rfl
 have hv2:v2.toNat=b.toNat / 4503599627370496:=by rw [h2,shr64_toNat];rfl
 have e3:v3=((b.toNat / 4503599627370496 % 2048:Nat):Int):=by rw [h3,mask11,hv2,i64_in _ (by omega)]
 have e4:v4.toNat=b.toNat % 4503599627370496:=by rw [h4,mask52]
 have en:decide (v1=1)=decide (9223372036854775808≤b.toNat):=by
  by_cases c:9223372036854775808≤b.toNat
  ·rw [decide_eq_true c,decide_eq_true (u64_eq (by rw [hv1];show _=1;omega))]
  ·rw [decide_eq_false c,decide_eq_false (fun h=>by have:=congrArg UInt64.toNat h;rw [hv1] at this;have e1:(1:UInt64).toNat=1:=rfl;omega)]
 have ef:decide (v4=0)=decide (b.toNat % 4503599627370496=0):=by
  by_cases c:b.toNat % 4503599627370496=0
  ·rw [decide_eq_true c,decide_eq_true (u64_eq (by rw [e4];exact c))]
  ·rw [decide_eq_false c,decide_eq_false (fun h=>by have:=congrArg UInt64.toNat h;rw [e4] at this;exact c this)]
 have e4':v4=UInt64.ofNat (b.toNat % 4503599627370496):=u64_eq (by rw [e4,u64_of];omega)
 have e7:v7=UInt64.ofNat (4503599627370496+b.toNat % 4503599627370496):=u64_eq (by
  rw [h7,UInt64.toNat_add,e4,u64_of];rfl)
 have e8:v8=((b.toNat / 4503599627370496 % 2048:Nat):Int) - 1075:=by rw [h8,e3,i64_in _ (by omega)]
 have hcc:∀b:Bool,(!b || b)=true:=by decide
 rw [ck_of (hcc _),ck_of (hcc _),ck_of (hcc _),ck_of (hcc _),en]
 unfold Nr.split
 simp only
 rw [ef] at h5 h6
 generalize b.toNat / 4503599627370496 % 2048=x at *
 by_cases c1:x=2047
 ·rw [if_pos c1]
  have e5:v5=false:=by rw [h5,decide_eq_false (by omega),cond_false]
  have e33:decide (v3=2047)=true:=decide_eq_true (by omega)
  rw [e33,cond_true] at h6
  rw [e5,cond_false,h6,e33]
  by_cases c2:b.toNat % 4503599627370496=0
  ·rw [decide_eq_true c2,cond_true,if_pos c2]
  ·rw [decide_eq_false c2,cond_false,cond_true,if_neg c2]
 ·rw [if_neg c1]
  have e33:decide (v3=2047)=false:=decide_eq_false (by omega)
  rw [e33,cond_false] at h6
  rw [h6,e33,cond_false,cond_false]
  by_cases c2:x=0
  ·have e30:decide (v3=0)=true:=decide_eq_true (by omega)
   rw [e30,cond_true] at h5
   rw [h5,e30,if_pos c2,cond_true]
   by_cases c3:b.toNat % 4503599627370496=0
   ·rw [decide_eq_true c3,cond_true,if_pos c3]
   ·rw [decide_eq_false c3,cond_false,if_neg c3,e4']
  ·have e30:decide (v3=0)=false:=decide_eq_false (by omega)
   rw [e30,cond_false] at h5
   rw [h5,e30,if_neg c2,cond_false,cond_false,e7,e8]
theorem r9_CmpDec.goal (a:Str) (x:Int) (b:Str) (y:Int):r9_CmpDec.F a x b y=some [.i .i64 (Nr.cmpDec a x b y)]:=by
 refine r9_CmpDec.F_in _ _ _ _ ?_
 intro v1 h1 v2 h2 v3 h3 v4 h4
 have e3:v3=(decide (x<y) || (decide (x=y)&&Op.bytesLess a b)):=by
  rw [h3,h2];cases decide (x<y) <;> cases decide (x=y) <;> rfl
 have e4:v4=(decide (x=y)&&decide (a=b)):=by rw [h4];cases decide (x=y) <;> rfl
 unfold Nr.cmpDec
 rw [h1,e3,e4]
 cases decide (x<y) <;> cases decide (x=y) <;> cases Op.bytesLess a b <;> cases decide (a=b) <;> rfl
end Go.Eng
namespace Go.Eng
open Go.Proofs
theorem bits_Len16.fit (x:UInt16):([.u16 x]:List TV).length=bits_Len16.d.np∧bits_Len16.d.run (envL nrGl bits_Len16.env) [.u16 x]=some (([(.i .i64 ((Nt.bits (x).toNat:Int)))]:List TV)++bits_Len16.d.lent.map fun q=>([.u16 x]:List TV).getD q.1 .dead) :=
 ⟨by kernel_rfl,Eq.trans (b:=bits_Len16.F x) (by kernel_rfl) (Eq.trans (bits_Len16.goal x) (by kernel_rfl))⟩
theorem bits_Len16.ok:KO 66 (bits_Len16.c) bits_Len16.sg :=
 meets (l:=bits_Len16.env) all_nil bits_Len16.chk (by
   intro ins outs h
   unfold bits_Len16.c at h
   split at h
   ·cases h;exact bits_Len16.fit _
   ·exact h.elim)
theorem bits_Len64.fit (x:UInt64):([.u64 x]:List TV).length=bits_Len64.d.np∧bits_Len64.d.run (envL nrGl bits_Len64.env) [.u64 x]=some (([(.i .i64 ((Nt.bits (x).toNat:Int)))]:List TV)++bits_Len64.d.lent.map fun q=>([.u64 x]:List TV).getD q.1 .dead) :=
 ⟨by kernel_rfl,Eq.trans (b:=bits_Len64.F x) (by kernel_rfl) (Eq.trans (bits_Len64.goal x) (by kernel_rfl))⟩
theorem bits_Len64.ok:KO 72 (bits_Len64.c) bits_Len64.sg :=
 meets (l:=bits_Len64.env) all_nil bits_Len64.chk (by
   intro ins outs h
   unfold bits_Len64.c at h
   split at h
   ·cases h;exact bits_Len64.fit _
   ·exact h.elim)
theorem sl_Cut.fit (s:Str) (c:Str) (hp:(decide ((s).length≤4294967280∧c=[46]))=true):([.s s,.s c]:List TV).length=sl_Cut.d.np∧sl_Cut.d.run (envL nrGl sl_Cut.env) [.s s,.s c]=some (([(.s (((s).takeWhile (· != 46)))),(.s ((((s).dropWhile (· != 46)).drop 1))),(.b (((s).contains 46)))]:List TV)++sl_Cut.d.lent.map fun q=>([.s s,.s c]:List TV).getD q.1 .dead) :=
 ⟨by kernel_rfl,Eq.trans (b:=sl_Cut.F s c) (by kernel_rfl) (Eq.trans (sl_Cut.goal s c hp) (by kernel_rfl))⟩
theorem sl_Cut.ok:KO 56 (sl_Cut.c) sl_Cut.sg :=
 meets (l:=sl_Cut.env) (all_cons sl_Index.ok all_nil) sl_Cut.chk (by
   intro ins outs h
   unfold sl_Cut.c at h
   split at h
   ·obtain ⟨hp,rfl⟩:=h;exact sl_Cut.fit _ _ hp
   ·exact h.elim)
theorem st_Cut.fit (s:Str) (c:Str) (hp:(decide ((s).length≤4294967280∧c=[46]))=true):([.s s,.s c]:List TV).length=st_Cut.d.np∧st_Cut.d.run (envL nrGl st_Cut.env) [.s s,.s c]=some (([(.s (((s).takeWhile (· != 46)))),(.s ((((s).dropWhile (· != 46)).drop 1))),(.b (((s).contains 46)))]:List TV)++st_Cut.d.lent.map fun q=>([.s s,.s c]:List TV).getD q.1 .dead) :=
 ⟨by kernel_rfl,Eq.trans (b:=st_Cut.F s c) (by kernel_rfl) (Eq.trans (st_Cut.goal s c hp) (by kernel_rfl))⟩
theorem st_Cut.ok:KO 30 (st_Cut.c) st_Cut.sg :=
 meets (l:=st_Cut.env) (all_cons sl_Cut.ok all_nil) st_Cut.chk (by
   intro ins outs h
   unfold st_Cut.c at h
   split at h
   ·obtain ⟨hp,rfl⟩:=h;exact st_Cut.fit _ _ hp
   ·exact h.elim)
theorem gz_small.fit (z_1:Nat) (z_2:Nat) (hp:(Gz.inB ((z_1,z_2):Cx) 33554432)=true):([.c (.complex .f64 z_1 z_2)]:List TV).length=gz_small.d.np∧gz_small.d.run (envL nrGl gz_small.env) [.c (.complex .f64 z_1 z_2)]=some (([(.b (true))]:List TV)++gz_small.d.lent.map fun q=>([.c (.complex .f64 z_1 z_2)]:List TV).getD q.1 .dead) :=
 ⟨by kernel_rfl,Eq.trans (b:=gz_small.F ((z_1,z_2):Cx)) (by kernel_rfl) (Eq.trans (gz_small.goal ((z_1,z_2):Cx) hp) (by kernel_rfl))⟩
theorem gz_small.ok:KO 83 (gz_small.c) gz_small.sg :=
 meets (l:=gz_small.env) (all_cons gz_whole.ok all_nil) gz_small.chk (by
   intro ins outs h
   unfold gz_small.c at h
   split at h
   ·obtain ⟨hp,rfl⟩:=h;exact gz_small.fit _ _ hp
   ·exact h.elim)
theorem gz_Of.fit (x:Int) (y:Int) (hp:(decide (-33554432≤x∧x≤33554432∧-33554432≤y∧y≤33554432))=true):([.i .i64 x,.i .i64 y]:List TV).length=gz_Of.d.np∧gz_Of.d.run (envL nrGl gz_Of.env) [.i .i64 x,.i .i64 y]=some (([(.c (.complex .f64 (((Fl.ofInt x,Fl.ofInt y):Cx)).1 (((Fl.ofInt x,Fl.ofInt y):Cx)).2))]:List TV)++gz_Of.d.lent.map fun q=>([.i .i64 x,.i .i64 y]:List TV).getD q.1 .dead) :=
 ⟨by kernel_rfl,Eq.trans (b:=gz_Of.F x y) (by kernel_rfl) (Eq.trans (gz_Of.goal x y hp) (by kernel_rfl))⟩
theorem gz_Of.ok:KO 81 (gz_Of.c) gz_Of.sg :=
 meets (l:=gz_Of.env) all_nil gz_Of.chk (by
   intro ins outs h
   unfold gz_Of.c at h
   split at h
   ·obtain ⟨hp,rfl⟩:=h;exact gz_Of.fit _ _ hp
   ·exact h.elim)
theorem gz_Parts.fit (z_1:Nat) (z_2:Nat) (hp:(Gz.inB ((z_1,z_2):Cx) 4503599627370496)=true):([.c (.complex .f64 z_1 z_2)]:List TV).length=gz_Parts.d.np∧gz_Parts.d.run (envL nrGl gz_Parts.env) [.c (.complex .f64 z_1 z_2)]=some (([(.i .i64 (Fl.toInt (((z_1,z_2):Cx)).1)),(.i .i64 (Fl.toInt (((z_1,z_2):Cx)).2)),(.b (true))]:List TV)++gz_Parts.d.lent.map fun q=>([.c (.complex .f64 z_1 z_2)]:List TV).getD q.1 .dead) :=
 ⟨by kernel_rfl,Eq.trans (b:=gz_Parts.F ((z_1,z_2):Cx)) (by kernel_rfl) (Eq.trans (gz_Parts.goal ((z_1,z_2):Cx) hp) (by kernel_rfl))⟩
theorem gz_Parts.ok:KO 65 (gz_Parts.c) gz_Parts.sg :=
 meets (l:=gz_Parts.env) (all_cons gz_whole.ok all_nil) gz_Parts.chk (by
   intro ins outs h
   unfold gz_Parts.c at h
   split at h
   ·obtain ⟨hp,rfl⟩:=h;exact gz_Parts.fit _ _ hp
   ·exact h.elim)
theorem gz_Turn.fit (z_1:Nat) (z_2:Nat) (k:Int) (hp:(Gz.inB ((z_1,z_2):Cx) 1125899906842624&&decide (-100≤k∧k≤100))=true):([.c (.complex .f64 z_1 z_2),.i .i64 k]:List TV).length=gz_Turn.d.np∧gz_Turn.d.run (envL nrGl gz_Turn.env) [.c (.complex .f64 z_1 z_2),.i .i64 k]=some (([(.c (.complex .f64 (Gz.turn ((z_1,z_2):Cx) k).1 (Gz.turn ((z_1,z_2):Cx) k).2))]:List TV)++gz_Turn.d.lent.map fun q=>([.c (.complex .f64 z_1 z_2),.i .i64 k]:List TV).getD q.1 .dead) :=
 ⟨by kernel_rfl,Eq.trans (b:=gz_Turn.F ((z_1,z_2):Cx) k) (by kernel_rfl) (Eq.trans (gz_Turn.goal ((z_1,z_2):Cx) k hp) (by kernel_rfl))⟩
theorem gz_Turn.ok:KO 97 (gz_Turn.c) gz_Turn.sg :=
 meets (l:=gz_Turn.env) (all_cons gz_whole.ok all_nil) gz_Turn.chk (by
   intro ins outs h
   unfold gz_Turn.c at h
   split at h
   ·obtain ⟨hp,rfl⟩:=h;exact gz_Turn.fit _ _ _ hp
   ·exact h.elim)
theorem gz_Times.fit (z_1:Nat) (z_2:Nat) (w_1:Nat) (w_2:Nat) (hp:(Gz.inB ((z_1,z_2):Cx) 33554432&&Gz.inB ((w_1,w_2):Cx) 33554432)=true):([.c (.complex .f64 z_1 z_2),.c (.complex .f64 w_1 w_2)]:List TV).length=gz_Times.d.np∧gz_Times.d.run (envL nrGl gz_Times.env) [.c (.complex .f64 z_1 z_2),.c (.complex .f64 w_1 w_2)]=some (([(.c (.complex .f64 (Gz.mul ((z_1,z_2):Cx) ((w_1,w_2):Cx)).1 (Gz.mul ((z_1,z_2):Cx) ((w_1,w_2):Cx)).2))]:List TV)++gz_Times.d.lent.map fun q=>([.c (.complex .f64 z_1 z_2),.c (.complex .f64 w_1 w_2)]:List TV).getD q.1 .dead) :=
 ⟨by kernel_rfl,Eq.trans (b:=gz_Times.F ((z_1,z_2):Cx) ((w_1,w_2):Cx)) (by kernel_rfl) (Eq.trans (gz_Times.goal ((z_1,z_2):Cx) ((w_1,w_2):Cx) hp) (by kernel_rfl))⟩
theorem gz_Times.ok:KO 63 (gz_Times.c) gz_Times.sg :=
 meets (l:=gz_Times.env) (all_cons gz_small.ok all_nil) gz_Times.chk (by
   intro ins outs h
   unfold gz_Times.c at h
   split at h
   ·obtain ⟨hp,rfl⟩:=h;exact gz_Times.fit _ _ _ _ hp
   ·exact h.elim)
theorem wv_fit1.fit (x:Nat) (hp:(Gz.inR x)=true):([.c (.float .f64 x)]:List TV).length=wv_fit1.d.np∧wv_fit1.d.run (envL nrGl wv_fit1.env) [.c (.float .f64 x)]=some (([(.b (true))]:List TV)++wv_fit1.d.lent.map fun q=>([.c (.float .f64 x)]:List TV).getD q.1 .dead) :=
 ⟨by kernel_rfl,Eq.trans (b:=wv_fit1.F x) (by kernel_rfl) (Eq.trans (wv_fit1.goal x hp) (by kernel_rfl))⟩
theorem wv_fit1.ok:KO 95 (wv_fit1.c) wv_fit1.sg :=
 meets (l:=wv_fit1.env) (all_cons math_Trunc.ok all_nil) wv_fit1.chk (by
   intro ins outs h
   unfold wv_fit1.c at h
   split at h
   ·obtain ⟨hp,rfl⟩:=h;exact wv_fit1.fit _ hp
   ·exact h.elim)
theorem wv_fit.fit (l_c0_1:Nat) (l_c0_2:Nat) (l_c1_1:Nat) (l_c1_2:Nat) (l_c2_1:Nat) (l_c2_2:Nat) (l_c3_1:Nat) (l_c3_2:Nat) (hp:(Gz.inQ (Qd.mk ((l_c0_1,l_c0_2):Cx) ((l_c1_1,l_c1_2):Cx) ((l_c2_1,l_c2_2):Cx) ((l_c3_1,l_c3_2):Cx)) 1125899906842624)=true):([.ag [.c (.complex .f64 l_c0_1 l_c0_2),.c (.complex .f64 l_c1_1 l_c1_2),.c (.complex .f64 l_c2_1 l_c2_2),.c (.complex .f64 l_c3_1 l_c3_2)]]:List TV).length=wv_fit.d.np∧wv_fit.d.run (envL nrGl wv_fit.env) [.ag [.c (.complex .f64 l_c0_1 l_c0_2),.c (.complex .f64 l_c1_1 l_c1_2),.c (.complex .f64 l_c2_1 l_c2_2),.c (.complex .f64 l_c3_1 l_c3_2)]]=some (([(.b (true))]:List TV)++wv_fit.d.lent.map fun q=>([.ag [.c (.complex .f64 l_c0_1 l_c0_2),.c (.complex .f64 l_c1_1 l_c1_2),.c (.complex .f64 l_c2_1 l_c2_2),.c (.complex .f64 l_c3_1 l_c3_2)]]:List TV).getD q.1 .dead) :=
 ⟨by kernel_rfl,Eq.trans (b:=wv_fit.F (Qd.mk ((l_c0_1,l_c0_2):Cx) ((l_c1_1,l_c1_2):Cx) ((l_c2_1,l_c2_2):Cx) ((l_c3_1,l_c3_2):Cx))) (by kernel_rfl) (Eq.trans (wv_fit.goal (Qd.mk ((l_c0_1,l_c0_2):Cx) ((l_c1_1,l_c1_2):Cx) ((l_c2_1,l_c2_2):Cx) ((l_c3_1,l_c3_2):Cx)) hp) (by kernel_rfl))⟩
theorem wv_fit.ok:KO 84 (wv_fit.c) wv_fit.sg :=
 meets (l:=wv_fit.env) (all_cons wv_fit1.ok all_nil) wv_fit.chk (by
   intro ins outs h
   unfold wv_fit.c at h
   split at h
   ·obtain ⟨hp,rfl⟩:=h;exact wv_fit.fit _ _ _ _ _ _ _ _ hp
   ·exact h.elim)
theorem wv_sums.fit (l_c0_1:Nat) (l_c0_2:Nat) (l_c1_1:Nat) (l_c1_2:Nat) (l_c2_1:Nat) (l_c2_2:Nat) (l_c3_1:Nat) (l_c3_2:Nat) (w:Int) (hp:(Gz.inQ (Qd.mk ((l_c0_1,l_c0_2):Cx) ((l_c1_1,l_c1_2):Cx) ((l_c2_1,l_c2_2):Cx) ((l_c3_1,l_c3_2):Cx)) 1125899906842624&&decide (w=1∨w=-1))=true):([.ag [.c (.complex .f64 l_c0_1 l_c0_2),.c (.complex .f64 l_c1_1 l_c1_2),.c (.complex .f64 l_c2_1 l_c2_2),.c (.complex .f64 l_c3_1 l_c3_2)],.i .i64 w]:List TV).length=wv_sums.d.np∧wv_sums.d.run (envL nrGl wv_sums.env) [.ag [.c (.complex .f64 l_c0_1 l_c0_2),.c (.complex .f64 l_c1_1 l_c1_2),.c (.complex .f64 l_c2_1 l_c2_2),.c (.complex .f64 l_c3_1 l_c3_2)],.i .i64 w]=some (([(.ag (Qd.cells (Gz.sums (Qd.mk ((l_c0_1,l_c0_2):Cx) ((l_c1_1,l_c1_2):Cx) ((l_c2_1,l_c2_2):Cx) ((l_c3_1,l_c3_2):Cx)) w)))]:List TV)++wv_sums.d.lent.map fun q=>([.ag [.c (.complex .f64 l_c0_1 l_c0_2),.c (.complex .f64 l_c1_1 l_c1_2),.c (.complex .f64 l_c2_1 l_c2_2),.c (.complex .f64 l_c3_1 l_c3_2)],.i .i64 w]:List TV).getD q.1 .dead) :=
 ⟨by kernel_rfl,Eq.trans (b:=wv_sums.F (Qd.mk ((l_c0_1,l_c0_2):Cx) ((l_c1_1,l_c1_2):Cx) ((l_c2_1,l_c2_2):Cx) ((l_c3_1,l_c3_2):Cx)) w) (by kernel_rfl) (Eq.trans (wv_sums.goal (Qd.mk ((l_c0_1,l_c0_2):Cx) ((l_c1_1,l_c1_2):Cx) ((l_c2_1,l_c2_2):Cx) ((l_c3_1,l_c3_2):Cx)) w hp) (by kernel_rfl))⟩
theorem wv_sums.ok:KO 85 (wv_sums.c) wv_sums.sg :=
 meets (l:=wv_sums.env) (all_cons gz_Turn.ok all_nil) wv_sums.chk (by
   intro ins outs h
   unfold wv_sums.c at h
   split at h
   ·obtain ⟨hp,rfl⟩:=h;exact wv_sums.fit _ _ _ _ _ _ _ _ _ hp
   ·exact h.elim)
theorem wv_Four.fit (l_c0_1:Nat) (l_c0_2:Nat) (l_c1_1:Nat) (l_c1_2:Nat) (l_c2_1:Nat) (l_c2_2:Nat) (l_c3_1:Nat) (l_c3_2:Nat) (hp:(Gz.inQ (Qd.mk ((l_c0_1,l_c0_2):Cx) ((l_c1_1,l_c1_2):Cx) ((l_c2_1,l_c2_2):Cx) ((l_c3_1,l_c3_2):Cx)) 1125899906842624)=true):([.ag [.c (.complex .f64 l_c0_1 l_c0_2),.c (.complex .f64 l_c1_1 l_c1_2),.c (.complex .f64 l_c2_1 l_c2_2),.c (.complex .f64 l_c3_1 l_c3_2)]]:List TV).length=wv_Four.d.np∧wv_Four.d.run (envL nrGl wv_Four.env) [.ag [.c (.complex .f64 l_c0_1 l_c0_2),.c (.complex .f64 l_c1_1 l_c1_2),.c (.complex .f64 l_c2_1 l_c2_2),.c (.complex .f64 l_c3_1 l_c3_2)]]=some (([(.ag (Qd.cells (Gz.sums (Qd.mk ((l_c0_1,l_c0_2):Cx) ((l_c1_1,l_c1_2):Cx) ((l_c2_1,l_c2_2):Cx) ((l_c3_1,l_c3_2):Cx)) 1)))]:List TV)++wv_Four.d.lent.map fun q=>([.ag [.c (.complex .f64 l_c0_1 l_c0_2),.c (.complex .f64 l_c1_1 l_c1_2),.c (.complex .f64 l_c2_1 l_c2_2),.c (.complex .f64 l_c3_1 l_c3_2)]]:List TV).getD q.1 .dead) :=
 ⟨by kernel_rfl,Eq.trans (b:=wv_Four.F (Qd.mk ((l_c0_1,l_c0_2):Cx) ((l_c1_1,l_c1_2):Cx) ((l_c2_1,l_c2_2):Cx) ((l_c3_1,l_c3_2):Cx))) (by kernel_rfl) (Eq.trans (wv_Four.goal (Qd.mk ((l_c0_1,l_c0_2):Cx) ((l_c1_1,l_c1_2):Cx) ((l_c2_1,l_c2_2):Cx) ((l_c3_1,l_c3_2):Cx)) hp) (by kernel_rfl))⟩
theorem wv_Four.ok:KO 82 (wv_Four.c) wv_Four.sg :=
 meets (l:=wv_Four.env) (all_cons wv_fit.ok (all_cons wv_sums.ok all_nil)) wv_Four.chk (by
   intro ins outs h
   unfold wv_Four.c at h
   split at h
   ·obtain ⟨hp,rfl⟩:=h;exact wv_Four.fit _ _ _ _ _ _ _ _ hp
   ·exact h.elim)
theorem wv_Back.fit (l_c0_1:Nat) (l_c0_2:Nat) (l_c1_1:Nat) (l_c1_2:Nat) (l_c2_1:Nat) (l_c2_2:Nat) (l_c3_1:Nat) (l_c3_2:Nat) (hp:(Gz.inQ (Qd.mk ((l_c0_1,l_c0_2):Cx) ((l_c1_1,l_c1_2):Cx) ((l_c2_1,l_c2_2):Cx) ((l_c3_1,l_c3_2):Cx)) 1125899906842624&&Gz.in4 (Qd.mk ((l_c0_1,l_c0_2):Cx) ((l_c1_1,l_c1_2):Cx) ((l_c2_1,l_c2_2):Cx) ((l_c3_1,l_c3_2):Cx)))=true):([.ag [.c (.complex .f64 l_c0_1 l_c0_2),.c (.complex .f64 l_c1_1 l_c1_2),.c (.complex .f64 l_c2_1 l_c2_2),.c (.complex .f64 l_c3_1 l_c3_2)]]:List TV).length=wv_Back.d.np∧wv_Back.d.run (envL nrGl wv_Back.env) [.ag [.c (.complex .f64 l_c0_1 l_c0_2),.c (.complex .f64 l_c1_1 l_c1_2),.c (.complex .f64 l_c2_1 l_c2_2),.c (.complex .f64 l_c3_1 l_c3_2)]]=some (([(.ag (Qd.cells (Gz.back (Qd.mk ((l_c0_1,l_c0_2):Cx) ((l_c1_1,l_c1_2):Cx) ((l_c2_1,l_c2_2):Cx) ((l_c3_1,l_c3_2):Cx))))),(.b (true))]:List TV)++wv_Back.d.lent.map fun q=>([.ag [.c (.complex .f64 l_c0_1 l_c0_2),.c (.complex .f64 l_c1_1 l_c1_2),.c (.complex .f64 l_c2_1 l_c2_2),.c (.complex .f64 l_c3_1 l_c3_2)]]:List TV).getD q.1 .dead) :=
 ⟨by kernel_rfl,Eq.trans (b:=wv_Back.F (Qd.mk ((l_c0_1,l_c0_2):Cx) ((l_c1_1,l_c1_2):Cx) ((l_c2_1,l_c2_2):Cx) ((l_c3_1,l_c3_2):Cx))) (by kernel_rfl) (Eq.trans (wv_Back.goal (Qd.mk ((l_c0_1,l_c0_2):Cx) ((l_c1_1,l_c1_2):Cx) ((l_c2_1,l_c2_2):Cx) ((l_c3_1,l_c3_2):Cx)) hp) (by kernel_rfl))⟩
theorem wv_Back.ok:KO 64 (wv_Back.c) wv_Back.sg :=
 meets (l:=wv_Back.env) (all_cons gz_Parts.ok (all_cons wv_fit.ok (all_cons wv_sums.ok all_nil))) wv_Back.chk (by
   intro ins outs h
   unfold wv_Back.c at h
   split at h
   ·obtain ⟨hp,rfl⟩:=h;exact wv_Back.fit _ _ _ _ _ _ _ _ hp
   ·exact h.elim)
theorem wv_digits.fit (l:List Int) (hp:(decide ((l).length≤256)&&Gz.digs l)=true):([.sl .is l]:List TV).length=wv_digits.d.np∧wv_digits.d.run (envL nrGl wv_digits.env) [.sl .is l]=some (([(.b (true))]:List TV)++wv_digits.d.lent.map fun q=>([.sl .is l]:List TV).getD q.1 .dead) :=
 ⟨by kernel_rfl,Eq.trans (b:=wv_digits.F l) (by kernel_rfl) (Eq.trans (wv_digits.goal l hp) (by kernel_rfl))⟩
theorem wv_digits.ok:KO 61 (wv_digits.c) wv_digits.sg :=
 meets (l:=wv_digits.env) all_nil wv_digits.chk (by
   intro ins outs h
   unfold wv_digits.c at h
   split at h
   ·obtain ⟨hp,rfl⟩:=h;exact wv_digits.fit _ hp
   ·exact h.elim)
theorem wv_pairs.fit (l:List Int) (hp:(decide ((l).length≤256)&&Gz.digs l)=true):([.sl .is l]:List TV).length=wv_pairs.d.np∧wv_pairs.d.run (envL nrGl wv_pairs.env) [.sl .is l]=some (([(.sl .qd (Gz.pairs l))]:List TV)++wv_pairs.d.lent.map fun q=>([.sl .is l]:List TV).getD q.1 .dead) :=
 ⟨by kernel_rfl,Eq.trans (b:=wv_pairs.F l) (by kernel_rfl) (Eq.trans (wv_pairs.goal l hp) (by kernel_rfl))⟩
theorem wv_pairs.ok:KO 62 (wv_pairs.c) wv_pairs.sg :=
 meets (l:=wv_pairs.env) (all_cons gz_Of.ok (all_cons wv_Four.ok all_nil)) wv_pairs.chk (by
   intro ins outs h
   unfold wv_pairs.c at h
   split at h
   ·obtain ⟨hp,rfl⟩:=h;exact wv_pairs.fit _ hp
   ·exact h.elim)
theorem wv_Fold.fit (a:List Int) (b:List Int) (hp:(decide ((a).length≤256∧(b).length≤256)&&(Gz.digs a&&Gz.digs b))=true):([.sl .is a,.sl .is b]:List TV).length=wv_Fold.d.np∧wv_Fold.d.run (envL nrGl wv_Fold.env) [.sl .is a,.sl .is b]=some (([(.sl .is (Gz.conv a b)),(.b (true))]:List TV)++wv_Fold.d.lent.map fun q=>([.sl .is a,.sl .is b]:List TV).getD q.1 .dead) :=
 ⟨by kernel_rfl,Eq.trans (b:=wv_Fold.F a b) (by kernel_rfl) (Eq.trans (wv_Fold.goal a b hp) (by kernel_rfl))⟩
theorem wv_Fold.ok:KO 43 (wv_Fold.c) wv_Fold.sg :=
 meets (l:=wv_Fold.env) (all_cons wv_digits.ok (all_cons wv_pairs.ok (all_cons gz_Times.ok (all_cons wv_Back.ok (all_cons gz_Parts.ok all_nil))))) wv_Fold.chk (by
   intro ins outs h
   unfold wv_Fold.c at h
   split at h
   ·obtain ⟨hp,rfl⟩:=h;exact wv_Fold.fit _ _ hp
   ·exact h.elim)
theorem bg_trim.fit (a:List UInt16) (hp:(decide ((a).length≤1099511627776))=true):([.sl .ws a]:List TV).length=bg_trim.d.np∧bg_trim.d.run (envL nrGl bg_trim.env) [.sl .ws a]=some (([(.sl .ws (Nt.of (Nt.val a)))]:List TV)++bg_trim.d.lent.map fun q=>([.sl .ws a]:List TV).getD q.1 .dead) :=
 ⟨by kernel_rfl,Eq.trans (b:=bg_trim.F a) (by kernel_rfl) (Eq.trans (bg_trim.goal a hp) (by kernel_rfl))⟩
theorem bg_trim.ok:KO 45 (bg_trim.c) bg_trim.sg :=
 meets (l:=bg_trim.env) all_nil bg_trim.chk (by
   intro ins outs h
   unfold bg_trim.c at h
   split at h
   ·obtain ⟨hp,rfl⟩:=h;exact bg_trim.fit _ hp
   ·exact h.elim)
theorem bg_Is.fit (a:List UInt16) (hp:(decide ((a).length≤1099511627776))=true):([.sl .ws a]:List TV).length=bg_Is.d.np∧bg_Is.d.run (envL nrGl bg_Is.env) [.sl .ws a]=some (([(.b (Nt.is a))]:List TV)++bg_Is.d.lent.map fun q=>([.sl .ws a]:List TV).getD q.1 .dead) :=
 ⟨by kernel_rfl,Eq.trans (b:=bg_Is.F a) (by kernel_rfl) (Eq.trans (bg_Is.goal a hp) (by kernel_rfl))⟩
theorem bg_Is.ok:KO 42 (bg_Is.c) bg_Is.sg :=
 meets (l:=bg_Is.env) all_nil bg_Is.chk (by
   intro ins outs h
   unfold bg_Is.c at h
   split at h
   ·obtain ⟨hp,rfl⟩:=h;exact bg_Is.fit _ hp
   ·exact h.elim)
theorem bg_Of.fit (v:UInt64):([.u64 v]:List TV).length=bg_Of.d.np∧bg_Of.d.run (envL nrGl bg_Of.env) [.u64 v]=some (([(.sl .ws (Nt.of (v).toNat))]:List TV)++bg_Of.d.lent.map fun q=>([.u64 v]:List TV).getD q.1 .dead) :=
 ⟨by kernel_rfl,Eq.trans (b:=bg_Of.F v) (by kernel_rfl) (Eq.trans (bg_Of.goal v) (by kernel_rfl))⟩
theorem bg_Of.ok:KO 19 (bg_Of.c) bg_Of.sg :=
 meets (l:=bg_Of.env) all_nil bg_Of.chk (by
   intro ins outs h
   unfold bg_Of.c at h
   split at h
   ·cases h;exact bg_Of.fit _
   ·exact h.elim)
theorem bg_Small.fit (a:List UInt16) (hp:(decide (Nt.is a=true∧(a).length≤4))=true):([.sl .ws a]:List TV).length=bg_Small.d.np∧bg_Small.d.run (envL nrGl bg_Small.env) [.sl .ws a]=some (([(.u64 (UInt64.ofNat (Nt.val a))),(.b (true))]:List TV)++bg_Small.d.lent.map fun q=>([.sl .ws a]:List TV).getD q.1 .dead) :=
 ⟨by kernel_rfl,Eq.trans (b:=bg_Small.F a) (by kernel_rfl) (Eq.trans (bg_Small.goal a hp) (by kernel_rfl))⟩
theorem bg_Small.ok:KO 69 (bg_Small.c) bg_Small.sg :=
 meets (l:=bg_Small.env) (all_cons bg_Is.ok all_nil) bg_Small.chk (by
   intro ins outs h
   unfold bg_Small.c at h
   split at h
   ·obtain ⟨hp,rfl⟩:=h;exact bg_Small.fit _ hp
   ·exact h.elim)
theorem bg_Bits.fit (a:List UInt16) (hp:(Nt.is a)=true):([.sl .ws a]:List TV).length=bg_Bits.d.np∧bg_Bits.d.run (envL nrGl bg_Bits.env) [.sl .ws a]=some (([(.i .i64 ((Nt.bits (Nt.val a):Int)))]:List TV)++bg_Bits.d.lent.map fun q=>([.sl .ws a]:List TV).getD q.1 .dead) :=
 ⟨by kernel_rfl,Eq.trans (b:=bg_Bits.F a) (by kernel_rfl) (Eq.trans (bg_Bits.goal a hp) (by kernel_rfl))⟩
theorem bg_Bits.ok:KO 46 (bg_Bits.c) bg_Bits.sg :=
 meets (l:=bg_Bits.env) (all_cons bg_Is.ok (all_cons bits_Len16.ok all_nil)) bg_Bits.chk (by
   intro ins outs h
   unfold bg_Bits.c at h
   split at h
   ·obtain ⟨hp,rfl⟩:=h;exact bg_Bits.fit _ hp
   ·exact h.elim)
theorem bg_cmp.fit (a:List UInt16) (b:List UInt16) (hp:(decide ((a).length≤1099511627776∧(b).length≤1099511627776)&&(Nt.norm a&&Nt.norm b))=true):([.sl .ws a,.sl .ws b]:List TV).length=bg_cmp.d.np∧bg_cmp.d.run (envL nrGl bg_cmp.env) [.sl .ws a,.sl .ws b]=some (([(.i .i64 (Nt.cmp (Nt.val a) (Nt.val b)))]:List TV)++bg_cmp.d.lent.map fun q=>([.sl .ws a,.sl .ws b]:List TV).getD q.1 .dead) :=
 ⟨by kernel_rfl,Eq.trans (b:=bg_cmp.F a b) (by kernel_rfl) (Eq.trans (bg_cmp.goal a b hp) (by kernel_rfl))⟩
theorem bg_cmp.ok:KO 88 (bg_cmp.c) bg_cmp.sg :=
 meets (l:=bg_cmp.env) all_nil bg_cmp.chk (by
   intro ins outs h
   unfold bg_cmp.c at h
   split at h
   ·obtain ⟨hp,rfl⟩:=h;exact bg_cmp.fit _ _ hp
   ·exact h.elim)
theorem bg_Cmp.fit (a:List UInt16) (b:List UInt16) (hp:(Nt.is a&&Nt.is b)=true):([.sl .ws a,.sl .ws b]:List TV).length=bg_Cmp.d.np∧bg_Cmp.d.run (envL nrGl bg_Cmp.env) [.sl .ws a,.sl .ws b]=some (([(.i .i64 (Nt.cmp (Nt.val a) (Nt.val b)))]:List TV)++bg_Cmp.d.lent.map fun q=>([.sl .ws a,.sl .ws b]:List TV).getD q.1 .dead) :=
 ⟨by kernel_rfl,Eq.trans (b:=bg_Cmp.F a b) (by kernel_rfl) (Eq.trans (bg_Cmp.goal a b hp) (by kernel_rfl))⟩
theorem bg_Cmp.ok:KO 70 (bg_Cmp.c) bg_Cmp.sg :=
 meets (l:=bg_Cmp.env) (all_cons bg_Is.ok (all_cons bg_cmp.ok all_nil)) bg_Cmp.chk (by
   intro ins outs h
   unfold bg_Cmp.c at h
   split at h
   ·obtain ⟨hp,rfl⟩:=h;exact bg_Cmp.fit _ _ hp
   ·exact h.elim)
theorem bg_numbers.fit (a:List UInt16) (hp:(decide ((a).length≤256))=true):([.sl .ws a]:List TV).length=bg_numbers.d.np∧bg_numbers.d.run (envL nrGl bg_numbers.env) [.sl .ws a]=some (([(.sl .is ((a).map fun d=>(d.toNat:Int)))]:List TV)++bg_numbers.d.lent.map fun q=>([.sl .ws a]:List TV).getD q.1 .dead) :=
 ⟨by kernel_rfl,Eq.trans (b:=bg_numbers.F a) (by kernel_rfl) (Eq.trans (bg_numbers.goal a hp) (by kernel_rfl))⟩
theorem bg_numbers.ok:KO 44 (bg_numbers.c) bg_numbers.sg :=
 meets (l:=bg_numbers.env) all_nil bg_numbers.chk (by
   intro ins outs h
   unfold bg_numbers.c at h
   split at h
   ·obtain ⟨hp,rfl⟩:=h;exact bg_numbers.fit _ hp
   ·exact h.elim)
theorem bg_Mul.fit (a:List UInt16) (b:List UInt16) (hp:(Nt.is a&&Nt.is b)=true):([.sl .ws a,.sl .ws b]:List TV).length=bg_Mul.d.np∧bg_Mul.d.run (envL nrGl bg_Mul.env) [.sl .ws a,.sl .ws b]=some (([(.sl .ws (Nt.of (Nt.val a * Nt.val b)))]:List TV)++bg_Mul.d.lent.map fun q=>([.sl .ws a,.sl .ws b]:List TV).getD q.1 .dead) :=
 ⟨by kernel_rfl,Eq.trans (b:=bg_Mul.F a b) (by kernel_rfl) (Eq.trans (bg_Mul.goal a b hp) (by kernel_rfl))⟩
theorem bg_Mul.ok:KO 21 (bg_Mul.c) bg_Mul.sg :=
 meets (l:=bg_Mul.env) (all_cons bg_Is.ok (all_cons wv_Fold.ok (all_cons bg_numbers.ok (all_cons bg_trim.ok all_nil)))) bg_Mul.chk (by
   intro ins outs h
   unfold bg_Mul.c at h
   split at h
   ·obtain ⟨hp,rfl⟩:=h;exact bg_Mul.fit _ _ hp
   ·exact h.elim)
theorem bg_few.fit (a:List UInt16) (d:UInt16) (hp:(decide ((a).length≤1000000∧d≠0))=true):([.sl .ws a,.u16 d]:List TV).length=bg_few.d.np∧bg_few.d.run (envL nrGl bg_few.env) [.sl .ws a,.u16 d]=some (([(.sl .ws (Nt.of (Nt.val a / (d).toNat))),(.u16 (UInt16.ofNat (Nt.val a % (d).toNat)))]:List TV)++bg_few.d.lent.map fun q=>([.sl .ws a,.u16 d]:List TV).getD q.1 .dead) :=
 ⟨by kernel_rfl,Eq.trans (b:=bg_few.F a d) (by kernel_rfl) (Eq.trans (bg_few.goal a d hp) (by kernel_rfl))⟩
theorem bg_few.ok:KO 90 (bg_few.c) bg_few.sg :=
 meets (l:=bg_few.env) (all_cons bg_trim.ok all_nil) bg_few.chk (by
   intro ins outs h
   unfold bg_few.c at h
   split at h
   ·obtain ⟨hp,rfl⟩:=h;exact bg_few.fit _ _ hp
   ·exact h.elim)
theorem bg_up.fit (a:List UInt16) (n:Int) (hp:(decide ((a).length≤1000000∧0≤n∧n<16)&&Nt.norm a)=true):([.sl .ws a,.i .i64 n]:List TV).length=bg_up.d.np∧bg_up.d.run (envL nrGl bg_up.env) [.sl .ws a,.i .i64 n]=some (([(.sl .ws (Nt.of (Nt.val a * 2 ^ (n).toNat)))]:List TV)++bg_up.d.lent.map fun q=>([.sl .ws a,.i .i64 n]:List TV).getD q.1 .dead) :=
 ⟨by kernel_rfl,Eq.trans (b:=bg_up.F a n) (by kernel_rfl) (Eq.trans (bg_up.goal a n hp) (by kernel_rfl))⟩
theorem bg_up.ok:KO 87 (bg_up.c) bg_up.sg :=
 meets (l:=bg_up.env) all_nil bg_up.chk (by
   intro ins outs h
   unfold bg_up.c at h
   split at h
   ·obtain ⟨hp,rfl⟩:=h;exact bg_up.fit _ _ hp
   ·exact h.elim)
theorem bg_down.fit (a:List UInt16) (n:Int) (hp:(decide ((a).length≤1000000∧0≤n∧n<16))=true):([.sl .ws a,.i .i64 n]:List TV).length=bg_down.d.np∧bg_down.d.run (envL nrGl bg_down.env) [.sl .ws a,.i .i64 n]=some (([(.sl .ws (Nt.of (Nt.val a / 2 ^ (n).toNat)))]:List TV)++bg_down.d.lent.map fun q=>([.sl .ws a,.i .i64 n]:List TV).getD q.1 .dead) :=
 ⟨by kernel_rfl,Eq.trans (b:=bg_down.F a n) (by kernel_rfl) (Eq.trans (bg_down.goal a n hp) (by kernel_rfl))⟩
theorem bg_down.ok:KO 92 (bg_down.c) bg_down.sg :=
 meets (l:=bg_down.env) (all_cons bg_trim.ok all_nil) bg_down.chk (by
   intro ins outs h
   unfold bg_down.c at h
   split at h
   ·obtain ⟨hp,rfl⟩:=h;exact bg_down.fit _ _ hp
   ·exact h.elim)
theorem bg_long.fit (u:List UInt16) (v:List UInt16) (hp:(decide ((u).length≤1000000∧2≤(v).length∧(v).length≤(u).length∧32768≤((v).getLast?.getD 0).toNat))=true):([.sl .ws u,.sl .ws v]:List TV).length=bg_long.d.np∧bg_long.d.run (envL nrGl bg_long.env) [.sl .ws u,.sl .ws v]=some (([(.sl .ws (Nt.fix ((u).length+1 - (v).length) (Nt.val u / Nt.val v))),(.sl .ws (Nt.fix (v).length (Nt.val u % Nt.val v)))]:List TV)++bg_long.d.lent.map fun q=>([.sl .ws u,.sl .ws v]:List TV).getD q.1 .dead) :=
 ⟨by kernel_rfl,Eq.trans (b:=bg_long.F u v) (by kernel_rfl) (Eq.trans (bg_long.goal u v hp) (by kernel_rfl))⟩
theorem bg_long.ok:KO 91 (bg_long.c) bg_long.sg :=
 meets (l:=bg_long.env) all_nil bg_long.chk (by
   intro ins outs h
   unfold bg_long.c at h
   split at h
   ·obtain ⟨hp,rfl⟩:=h;exact bg_long.fit _ _ hp
   ·exact h.elim)
theorem bg_Div.fit (a:List UInt16) (b:List UInt16) (hp:(Nt.is a&&Nt.is b&&decide (b≠[]))=true):([.sl .ws a,.sl .ws b]:List TV).length=bg_Div.d.np∧bg_Div.d.run (envL nrGl bg_Div.env) [.sl .ws a,.sl .ws b]=some (([(.sl .ws (Nt.of (Nt.val a / Nt.val b))),(.sl .ws (Nt.of (Nt.val a % Nt.val b))),(.b (true))]:List TV)++bg_Div.d.lent.map fun q=>([.sl .ws a,.sl .ws b]:List TV).getD q.1 .dead) :=
 ⟨by kernel_rfl,Eq.trans (b:=bg_Div.F a b) (by kernel_rfl) (Eq.trans (bg_Div.goal a b hp) (by kernel_rfl))⟩
theorem bg_Div.ok:KO 68 (bg_Div.c) bg_Div.sg :=
 meets (l:=bg_Div.env) (all_cons bg_Of.ok (all_cons bg_Is.ok (all_cons bg_trim.ok (all_cons bits_Len16.ok (all_cons bg_up.ok (all_cons bg_cmp.ok (all_cons clone_ws.ok (all_cons bg_few.ok (all_cons bg_long.ok (all_cons bg_down.ok all_nil)))))))))) bg_Div.chk (by
   intro ins outs h
   unfold bg_Div.c at h
   split at h
   ·obtain ⟨hp,rfl⟩:=h;exact bg_Div.fit _ _ hp
   ·exact h.elim)
theorem bg_Up.fit (a:List UInt16) (n:Int) (hp:(decide (0≤n∧n≤4096)&&Nt.is a)=true):([.sl .ws a,.i .i64 n]:List TV).length=bg_Up.d.np∧bg_Up.d.run (envL nrGl bg_Up.env) [.sl .ws a,.i .i64 n]=some (([(.sl .ws (Nt.of (Nt.val a * 2 ^ (n).toNat)))]:List TV)++bg_Up.d.lent.map fun q=>([.sl .ws a,.i .i64 n]:List TV).getD q.1 .dead) :=
 ⟨by kernel_rfl,Eq.trans (b:=bg_Up.F a n) (by kernel_rfl) (Eq.trans (bg_Up.goal a n hp) (by kernel_rfl))⟩
theorem bg_Up.ok:KO 67 (bg_Up.c) bg_Up.sg :=
 meets (l:=bg_Up.env) (all_cons bg_Is.ok (all_cons bg_up.ok all_nil)) bg_Up.chk (by
   intro ins outs h
   unfold bg_Up.c at h
   split at h
   ·obtain ⟨hp,rfl⟩:=h;exact bg_Up.fit _ _ hp
   ·exact h.elim)
theorem bg_more.fit (a:List UInt16) (b:Int) (c:Int) (hp:(decide ((a).length≤1000000∧1≤b∧b≤65535∧0≤c∧c≤65535)&&Nt.norm a)=true):([.sl .ws a,.i .i64 b,.i .i64 c]:List TV).length=bg_more.d.np∧bg_more.d.run (envL nrGl bg_more.env) [.sl .ws a,.i .i64 b,.i .i64 c]=some (([(.sl .ws (Nt.of (Nt.val a * (b).toNat+(c).toNat)))]:List TV)++bg_more.d.lent.map fun q=>([.sl .ws a,.i .i64 b,.i .i64 c]:List TV).getD q.1 .dead) :=
 ⟨by kernel_rfl,Eq.trans (b:=bg_more.F a b c) (by kernel_rfl) (Eq.trans (bg_more.goal a b c hp) (by kernel_rfl))⟩
theorem bg_more.ok:KO 41 (bg_more.c) bg_more.sg :=
 meets (l:=bg_more.env) all_nil bg_more.chk (by
   intro ins outs h
   unfold bg_more.c at h
   split at h
   ·obtain ⟨hp,rfl⟩:=h;exact bg_more.fit _ _ _ hp
   ·exact h.elim)
theorem bg_Power.fit (b:Int) (e:Int) (hp:(decide (2≤b∧b≤65535∧0≤e∧e≤1000∧(b).toNat ^ (e).toNat<2 ^ 4096))=true):([.i .i64 b,.i .i64 e]:List TV).length=bg_Power.d.np∧bg_Power.d.run (envL nrGl bg_Power.env) [.i .i64 b,.i .i64 e]=some (([(.sl .ws (Nt.of ((b).toNat ^ (e).toNat))),(.b (true))]:List TV)++bg_Power.d.lent.map fun q=>([.i .i64 b,.i .i64 e]:List TV).getD q.1 .dead) :=
 ⟨by kernel_rfl,Eq.trans (b:=bg_Power.F b e) (by kernel_rfl) (Eq.trans (bg_Power.goal b e hp) (by kernel_rfl))⟩
theorem bg_Power.ok:KO 20 (bg_Power.c) bg_Power.sg :=
 meets (l:=bg_Power.env) (all_cons bg_Of.ok (all_cons bg_more.ok (all_cons bg_Is.ok all_nil))) bg_Power.chk (by
   intro ins outs h
   unfold bg_Power.c at h
   split at h
   ·obtain ⟨hp,rfl⟩:=h;exact bg_Power.fit _ _ hp
   ·exact h.elim)
theorem bg_Parse.fit (s:Str) (hp:(decide (1≤(s).length∧(s).length≤300∧(s).getD 0 0≠48)&&(s).all Nr.isDig)=true):([.s s]:List TV).length=bg_Parse.d.np∧bg_Parse.d.run (envL nrGl bg_Parse.env) [.s s]=some (([(.sl .ws (Nt.of (Nr.num s))),(.b (true))]:List TV)++bg_Parse.d.lent.map fun q=>([.s s]:List TV).getD q.1 .dead) :=
 ⟨by kernel_rfl,Eq.trans (b:=bg_Parse.F s) (by kernel_rfl) (Eq.trans (bg_Parse.goal s hp) (by kernel_rfl))⟩
theorem bg_Parse.ok:KO 18 (bg_Parse.c) bg_Parse.sg :=
 meets (l:=bg_Parse.env) (all_cons bg_more.ok (all_cons bg_Is.ok all_nil)) bg_Parse.chk (by
   intro ins outs h
   unfold bg_Parse.c at h
   split at h
   ·obtain ⟨hp,rfl⟩:=h;exact bg_Parse.fit _ hp
   ·exact h.elim)
theorem db_Join.fit (n:Bool) (m:UInt64) (e:Int) (hp:(decide (-1100≤e∧e≤2000))=true):([.b n,.u64 m,.i .i64 e]:List TV).length=db_Join.d.np∧db_Join.d.run (envL nrGl db_Join.env) [.b n,.u64 m,.i .i64 e]=some (([(.u64 (Nr.pat (Nr.join n (m).toNat e))),(.b ((Nr.join n (m).toNat e).isSome))]:List TV)++db_Join.d.lent.map fun q=>([.b n,.u64 m,.i .i64 e]:List TV).getD q.1 .dead) :=
 ⟨by kernel_rfl,Eq.trans (b:=db_Join.F n m e) (by kernel_rfl) (Eq.trans (db_Join.goal n m e hp) (by kernel_rfl))⟩
theorem db_Join.ok:KO 48 (db_Join.c) db_Join.sg :=
 meets (l:=db_Join.env) (all_cons bits_TZ.ok (all_cons bits_Len64.ok all_nil)) db_Join.chk (by
   intro ins outs h
   unfold db_Join.c at h
   split at h
   ·obtain ⟨hp,rfl⟩:=h;exact db_Join.fit _ _ _ hp
   ·exact h.elim)
theorem nr_rounded.fit (a:List UInt16) (b:List UInt16) (e:Int) (hp:(Nt.is a&&Nt.is b&&decide (-4096≤e∧e≤4096∧0<Nt.val b∧Nr.scA (Nt.val a) e<2 ^ 4090∧Nr.scB (Nt.val b) e<2 ^ 4090∧Nr.scA (Nt.val a) e<2 ^ 60 * Nr.scB (Nt.val b) e))=true):([.sl .ws a,.sl .ws b,.i .i64 e]:List TV).length=nr_rounded.d.np∧nr_rounded.d.run (envL nrGl nr_rounded.env) [.sl .ws a,.sl .ws b,.i .i64 e]=some (([(.u64 (UInt64.ofNat (Nr.rnd (Nr.scA (Nt.val a) e) (Nr.scB (Nt.val b) e)))),(.b (Nr.rndUp (Nr.scA (Nt.val a) e) (Nr.scB (Nt.val b) e)))]:List TV)++nr_rounded.d.lent.map fun q=>([.sl .ws a,.sl .ws b,.i .i64 e]:List TV).getD q.1 .dead) :=
 ⟨by kernel_rfl,Eq.trans (b:=nr_rounded.F a b e) (by kernel_rfl) (Eq.trans (nr_rounded.goal a b e hp) (by kernel_rfl))⟩
theorem nr_rounded.ok:KO 47 (nr_rounded.c) nr_rounded.sg :=
 meets (l:=nr_rounded.env) (all_cons bg_Up.ok (all_cons bg_Div.ok (all_cons bg_Small.ok (all_cons bg_Cmp.ok all_nil)))) nr_rounded.chk (by
   intro ins outs h
   unfold nr_rounded.c at h
   split at h
   ·obtain ⟨hp,rfl⟩:=h;exact nr_rounded.fit _ _ _ hp
   ·exact h.elim)
theorem nr_ratio.fit (a:List UInt16) (b:List UInt16) (hp:(Nt.is a&&Nt.is b&&decide (0<Nt.val a∧0<Nt.val b∧Nt.val a<2 ^ 1100∧Nt.val b<2 ^ 2200))=true):([.sl .ws a,.sl .ws b]:List TV).length=nr_ratio.d.np∧nr_ratio.d.run (envL nrGl nr_ratio.env) [.sl .ws a,.sl .ws b]=some (([(.u64 (Nr.pat (Nr.near (Nt.val a) (Nt.val b)))),(.b ((Nr.near (Nt.val a) (Nt.val b)).isSome))]:List TV)++nr_ratio.d.lent.map fun q=>([.sl .ws a,.sl .ws b]:List TV).getD q.1 .dead) :=
 ⟨by kernel_rfl,Eq.trans (b:=nr_ratio.F a b) (by kernel_rfl) (Eq.trans (nr_ratio.goal a b hp) (by kernel_rfl))⟩
theorem nr_ratio.ok:KO 22 (nr_ratio.c) nr_ratio.sg :=
 meets (l:=nr_ratio.env) (all_cons bg_Bits.ok (all_cons nr_rounded.ok (all_cons db_Join.ok all_nil))) nr_ratio.chk (by
   intro ins outs h
   unfold nr_ratio.c at h
   split at h
   ·obtain ⟨hp,rfl⟩:=h;exact nr_ratio.fit _ _ hp
   ·exact h.elim)
theorem nr_Read.fit (d:Str) (x:Int):([.s d,.i .i64 x]:List TV).length=nr_Read.d.np∧nr_Read.d.run (envL nrGl nr_Read.env) [.s d,.i .i64 x]=some (([(.u64 (Nr.pat (Nr.read d x))),(.b ((Nr.read d x).isSome))]:List TV)++nr_Read.d.lent.map fun q=>([.s d,.i .i64 x]:List TV).getD q.1 .dead) :=
 ⟨by kernel_rfl,Eq.trans (b:=nr_Read.F d x) (by kernel_rfl) (Eq.trans (nr_Read.goal d x) (by kernel_rfl))⟩
theorem nr_Read.ok:KO 9 (nr_Read.c) nr_Read.sg :=
 meets (l:=nr_Read.env) (all_cons st_Trim.ok (all_cons st_TrimLeft.ok (all_cons st_TrimRight.ok (all_cons bg_Parse.ok (all_cons bg_Of.ok (all_cons bg_Power.ok (all_cons bg_Mul.ok (all_cons nr_ratio.ok all_nil)))))))) nr_Read.chk (by
   intro ins outs h
   unfold nr_Read.c at h
   split at h
   ·cases h;exact nr_Read.fit _ _
   ·exact h.elim)
theorem nr_power.fit (s:Str) (hp:(decide (1≤(Nr.signed s).length∧(s).length≤300)&&(Nr.signed s).all Nr.isDig)=true):([.s s]:List TV).length=nr_power.d.np∧nr_power.d.run (envL nrGl nr_power.env) [.s s]=some (([(.i .i64 (Nr.power s))]:List TV)++nr_power.d.lent.map fun q=>([.s s]:List TV).getD q.1 .dead) :=
 ⟨by kernel_rfl,Eq.trans (b:=nr_power.F s) (by kernel_rfl) (Eq.trans (nr_power.goal s hp) (by kernel_rfl))⟩
theorem nr_power.ok:KO 29 (nr_power.c) nr_power.sg :=
 meets (l:=nr_power.env) (all_cons st_TrimLeft.ok all_nil) nr_power.chk (by
   intro ins outs h
   unfold nr_power.c at h
   split at h
   ·obtain ⟨hp,rfl⟩:=h;exact nr_power.fit _ hp
   ·exact h.elim)
theorem wh_is.fit (s:Str) (at_:Int) (c:UInt8) (d:UInt8) (hp:(decide ((s).length≤1099511627776)&&decide (0≤at_))=true):([.s s,.i .i64 at_,.u8 c,.u8 d]:List TV).length=wh_is.d.np∧wh_is.d.run (envL nrGl wh_is.env) [.s s,.i .i64 at_,.u8 c,.u8 d]=some (([(.b ((decide (at_<(s).length)&&(decide ((s).getD (at_).toNat 0=c) || decide ((s).getD (at_).toNat 0=d)))))]:List TV)++wh_is.d.lent.map fun q=>([.s s,.i .i64 at_,.u8 c,.u8 d]:List TV).getD q.1 .dead) :=
 ⟨by kernel_rfl,Eq.trans (b:=wh_is.F s at_ c d) (by kernel_rfl) (Eq.trans (wh_is.goal s at_ c d hp) (by kernel_rfl))⟩
theorem wh_is.ok:KO 50 (wh_is.c) wh_is.sg :=
 meets (l:=wh_is.env) all_nil wh_is.chk (by
   intro ins outs h
   unfold wh_is.c at h
   split at h
   ·obtain ⟨hp,rfl⟩:=h;exact wh_is.fit _ _ _ _ hp
   ·exact h.elim)
theorem wh_digits.fit (s:Str) (at_:Int) (hp:(decide ((s).length≤1099511627776)&&decide (0≤at_∧at_≤1099511627776))=true):([.s s,.i .i64 at_]:List TV).length=wh_digits.d.np∧wh_digits.d.run (envL nrGl wh_digits.env) [.s s,.i .i64 at_]=some (([(.i .i64 ((at_+(Nr.run ((s).drop (at_).toNat):Int))))]:List TV)++wh_digits.d.lent.map fun q=>([.s s,.i .i64 at_]:List TV).getD q.1 .dead) :=
 ⟨by kernel_rfl,Eq.trans (b:=wh_digits.F s at_) (by kernel_rfl) (Eq.trans (wh_digits.goal s at_ hp) (by kernel_rfl))⟩
theorem wh_digits.ok:KO 51 (wh_digits.c) wh_digits.sg :=
 meets (l:=wh_digits.env) all_nil wh_digits.chk (by
   intro ins outs h
   unfold wh_digits.c at h
   split at h
   ·obtain ⟨hp,rfl⟩:=h;exact wh_digits.fit _ _ hp
   ·exact h.elim)
theorem wh_Lexeme.fit (s:Str) (hp:(decide ((s).length≤1099511627776))=true):([.s s]:List TV).length=wh_Lexeme.d.np∧wh_Lexeme.d.run (envL nrGl wh_Lexeme.env) [.s s]=some (([(.i .i64 (Nr.lexeme s))]:List TV)++wh_Lexeme.d.lent.map fun q=>([.s s]:List TV).getD q.1 .dead) :=
 ⟨by kernel_rfl,Eq.trans (b:=wh_Lexeme.F s) (by kernel_rfl) (Eq.trans (wh_Lexeme.goal s hp) (by kernel_rfl))⟩
theorem wh_Lexeme.ok:KO 26 (wh_Lexeme.c) wh_Lexeme.sg :=
 meets (l:=wh_Lexeme.env) (all_cons wh_is.ok (all_cons wh_digits.ok all_nil)) wh_Lexeme.chk (by
   intro ins outs h
   unfold wh_Lexeme.c at h
   split at h
   ·obtain ⟨hp,rfl⟩:=h;exact wh_Lexeme.fit _ hp
   ·exact h.elim)
theorem nr_Parse.fit (s:Str) (hp:(decide ((s).length≤1099511627776))=true):([.s s]:List TV).length=nr_Parse.d.np∧nr_Parse.d.run (envL nrGl nr_Parse.env) [.s s]=some (([(.u64 ((Nr.parse s).1)),(.i .i64 ((Nr.parse s).2))]:List TV)++nr_Parse.d.lent.map fun q=>([.s s]:List TV).getD q.1 .dead) :=
 ⟨by kernel_rfl,Eq.trans (b:=nr_Parse.F s) (by kernel_rfl) (Eq.trans (nr_Parse.goal s hp) (by kernel_rfl))⟩
theorem nr_Parse.ok:KO 11 (nr_Parse.c) nr_Parse.sg :=
 meets (l:=nr_Parse.env) (all_cons nr_Read.ok (all_cons wh_Lexeme.ok (all_cons st_CutPrefix.ok (all_cons st_IndexAny.ok (all_cons nr_power.ok (all_cons st_Cut.ok all_nil)))))) nr_Parse.chk (by
   intro ins outs h
   unfold nr_Parse.c at h
   split at h
   ·obtain ⟨hp,rfl⟩:=h;exact nr_Parse.fit _ hp
   ·exact h.elim)
theorem r5_run.fit (s:Str) (hp:(decide ((s).length≤1099511627776))=true):([.s s]:List TV).length=r5_run.d.np∧r5_run.d.run (envL nrGl r5_run.env) [.s s]=some (([(.i .i64 ((Nr.run s:Int)))]:List TV)++r5_run.d.lent.map fun q=>([.s s]:List TV).getD q.1 .dead) :=
 ⟨by kernel_rfl,Eq.trans (b:=r5_run.F s) (by kernel_rfl) (Eq.trans (r5_run.goal s hp) (by kernel_rfl))⟩
theorem r5_run.ok:KO 57 (r5_run.c) r5_run.sg :=
 meets (l:=r5_run.env) all_nil r5_run.chk (by
   intro ins outs h
   unfold r5_run.c at h
   split at h
   ·obtain ⟨hp,rfl⟩:=h;exact r5_run.fit _ hp
   ·exact h.elim)
theorem r5_Lexeme.fit (s:Str) (hp:(decide ((s).length≤1099511627776))=true):([.s s]:List TV).length=r5_Lexeme.d.np∧r5_Lexeme.d.run (envL nrGl r5_Lexeme.env) [.s s]=some (([(.i .i64 (Nr.lexeme s))]:List TV)++r5_Lexeme.d.lent.map fun q=>([.s s]:List TV).getD q.1 .dead) :=
 ⟨by kernel_rfl,Eq.trans (b:=r5_Lexeme.F s) (by kernel_rfl) (Eq.trans (r5_Lexeme.goal s hp) (by kernel_rfl))⟩
theorem r5_Lexeme.ok:KO 31 (r5_Lexeme.c) r5_Lexeme.sg :=
 meets (l:=r5_Lexeme.env) (all_cons r5_run.ok all_nil) r5_Lexeme.chk (by
   intro ins outs h
   unfold r5_Lexeme.c at h
   split at h
   ·obtain ⟨hp,rfl⟩:=h;exact r5_Lexeme.fit _ hp
   ·exact h.elim)
theorem r9_Split.fit (b:UInt64):([.u64 b]:List TV).length=r9_Split.d.np∧r9_Split.d.run (envL nrGl r9_Split.env) [.u64 b]=some (([(.i .i64 ((Nr.split b).1)),(.b ((Nr.split b).2.1)),(.u64 ((Nr.split b).2.2.1)),(.i .i64 ((Nr.split b).2.2.2))]:List TV)++r9_Split.d.lent.map fun q=>([.u64 b]:List TV).getD q.1 .dead) :=
 ⟨by kernel_rfl,Eq.trans (b:=r9_Split.F b) (by kernel_rfl) (Eq.trans (r9_Split.goal b) (by kernel_rfl))⟩
theorem r9_Split.ok:KO 23 (r9_Split.c) r9_Split.sg :=
 meets (l:=r9_Split.env) all_nil r9_Split.chk (by
   intro ins outs h
   unfold r9_Split.c at h
   split at h
   ·cases h;exact r9_Split.fit _
   ·exact h.elim)
theorem r9_times.fit (a:List UInt64) (m:UInt64) (hp:(decide ((a).length≤1000∧(m).toNat≤100000000)&&(a).all (fun x=>decide (x.toNat<100000000)))=true):([.sl .us a,.u64 m]:List TV).length=r9_times.d.np∧r9_times.d.run (envL nrGl r9_times.env) [.sl .us a,.u64 m]=some (([(.sl .us (Nr.times a m 0))]:List TV)++r9_times.d.lent.map fun q=>([.sl .us a,.u64 m]:List TV).getD q.1 .dead) :=
 ⟨by kernel_rfl,Eq.trans (b:=r9_times.F a m) (by kernel_rfl) (Eq.trans (r9_times.goal a m hp) (by kernel_rfl))⟩
theorem r9_times.ok:KO 49 (r9_times.c) r9_times.sg :=
 meets (l:=r9_times.env) all_nil r9_times.chk (by
   intro ins outs h
   unfold r9_times.c at h
   split at h
   ·obtain ⟨hp,rfl⟩:=h;exact r9_times.fit _ _ hp
   ·exact h.elim)
theorem r9_Exact.fit (m:UInt64) (e:Int) (hp:(decide (1≤(m).toNat∧(m).toNat<2 ^ 55∧-1075≤e∧e≤971))=true):([.u64 m,.i .i64 e]:List TV).length=r9_Exact.d.np∧r9_Exact.d.run (envL nrGl r9_Exact.env) [.u64 m,.i .i64 e]=some (([(.s (Nr.exD (m).toNat e)),(.i .i64 (Nr.exX (m).toNat e))]:List TV)++r9_Exact.d.lent.map fun q=>([.u64 m,.i .i64 e]:List TV).getD q.1 .dead) :=
 ⟨by kernel_rfl,Eq.trans (b:=r9_Exact.F m e) (by kernel_rfl) (Eq.trans (r9_Exact.goal m e hp) (by kernel_rfl))⟩
theorem r9_Exact.ok:KO 24 (r9_Exact.c) r9_Exact.sg :=
 meets (l:=r9_Exact.env) (all_cons r9_times.ok all_nil) r9_Exact.chk (by
   intro ins outs h
   unfold r9_Exact.c at h
   split at h
   ·obtain ⟨hp,rfl⟩:=h;exact r9_Exact.fit _ _ hp
   ·exact h.elim)
theorem r9_CmpDec.fit (a:Str) (x:Int) (b:Str) (y:Int):([.s a,.i .i64 x,.s b,.i .i64 y]:List TV).length=r9_CmpDec.d.np∧r9_CmpDec.d.run (envL nrGl r9_CmpDec.env) [.s a,.i .i64 x,.s b,.i .i64 y]=some (([(.i .i64 (Nr.cmpDec a x b y))]:List TV)++r9_CmpDec.d.lent.map fun q=>([.s a,.i .i64 x,.s b,.i .i64 y]:List TV).getD q.1 .dead) :=
 ⟨by kernel_rfl,Eq.trans (b:=r9_CmpDec.F a x b y) (by kernel_rfl) (Eq.trans (r9_CmpDec.goal a x b y) (by kernel_rfl))⟩
theorem r9_CmpDec.ok:KO 25 (r9_CmpDec.c) r9_CmpDec.sg :=
 meets (l:=r9_CmpDec.env) all_nil r9_CmpDec.chk (by
   intro ins outs h
   unfold r9_CmpDec.c at h
   split at h
   ·cases h;exact r9_CmpDec.fit _ _ _ _
   ·exact h.elim)
theorem r9_Read.fit (d:Str) (x:Int):([.s d,.i .i64 x]:List TV).length=r9_Read.d.np∧r9_Read.d.run (envL nrGl r9_Read.env) [.s d,.i .i64 x]=some (([(.u64 (Nr.pat (Nr.read d x))),(.b ((Nr.read d x).isSome))]:List TV)++r9_Read.d.lent.map fun q=>([.s d,.i .i64 x]:List TV).getD q.1 .dead) :=
 ⟨by kernel_rfl,Eq.trans (b:=r9_Read.F d x) (by kernel_rfl) (Eq.trans (r9_Read.goal d x) (by kernel_rfl))⟩
theorem r9_Read.ok:KO 10 (r9_Read.c) r9_Read.sg :=
 meets (l:=r9_Read.env) (all_cons r9_Split.ok (all_cons r9_Exact.ok (all_cons r9_CmpDec.ok all_nil))) r9_Read.chk (by
   intro ins outs h
   unfold r9_Read.c at h
   split at h
   ·cases h;exact r9_Read.fit _ _
   ·exact h.elim)
theorem r9_Parse.fit (s:Str) (hp:(decide ((s).length≤1099511627776))=true):([.s s]:List TV).length=r9_Parse.d.np∧r9_Parse.d.run (envL nrGl r9_Parse.env) [.s s]=some (([(.u64 ((Nr.parse s).1)),(.i .i64 ((Nr.parse s).2))]:List TV)++r9_Parse.d.lent.map fun q=>([.s s]:List TV).getD q.1 .dead) :=
 ⟨by kernel_rfl,Eq.trans (b:=r9_Parse.F s) (by kernel_rfl) (Eq.trans (r9_Parse.goal s hp) (by kernel_rfl))⟩
theorem r9_Parse.ok:KO 12 (r9_Parse.c) r9_Parse.sg :=
 meets (l:=r9_Parse.env) (all_cons r9_Read.ok (all_cons r5_Lexeme.ok all_nil)) r9_Parse.chk (by
   intro ins outs h
   unfold r9_Parse.c at h
   split at h
   ·obtain ⟨hp,rfl⟩:=h;exact r9_Parse.fit _ hp
   ·exact h.elim)
end Go.Eng
namespace Go.Eng
open Go.Proofs
noncomputable section
def nr_ParseA.sg:FSig:={ nres:=2 }
def nr_ParseA.c:Ctr:=fun l=>match l with
 | [.s s] => .if_ (decide (s=[48,46,49])) [(.u64 ((4591870180066957722:UInt64))),(.i .i64 ((0:Int)))]
 | _ => .err
def nr_ReadA.sg:FSig:={ nres:=2 }
def nr_ReadA.c:Ctr:=fun l=>match l with
 | [.s d,.i .i64 x] => .if_ (decide (d=[53]∧x=0)) [(.u64 ((4602678819172646912:UInt64))),(.b (true))]
 | _ => .err
def nr_awake.sg:FSig:={}
def nr_awake.c:Ctr:=fun l=>match l with
 | [] => .ok [(.b (true))]
 | _ => .err
def nr_awake.env:EV:=[(9,(nr_ReadA.c,nr_ReadA.sg)),(11,(nr_ParseA.c,nr_ParseA.sg))]
def nr_awake.E:TEnv:=envL nrGl nr_awake.env
def nr_awake.m:TM:=oS [oW (.b false) 0] (oS [oX (.k (.call 11 (.plain 1 2))) [.c (.s ([48,46,49]:Str))] [6],oV 6 5,oE 0 5 7,oE 1 5 8,oV 7 1,oV 8 2] (oS [oX (.k (.call 9 (.plain 2 2))) [.c (.s ([53]:Str)),.c (.i .i64 0)] [10],oV 10 9,oE 0 9 11,oE 1 9 12,oV 11 3,oV 12 4] (oS [oV 2 13,oI .eql 13 (.i .i64 0) 14,oV 14 15,oG 15 true (oV 1 16),oG 15 true (oI .eql 16 (.u64 4591870180066957722) 17),oP 15 17 false 18,oV 18 19,oG 19 true (oV 4 20),oP 19 20 false 21,oV 21 22,oG 22 true (oV 3 23),oG 22 true (oI .eql 23 (.u64 4602678819172646912) 24),oP 22 24 false 25,oV 25 0] .ret)))
def nr_awake.d:TFD:=D0 0 nr_awake.m [.t 0]
def nr_awake.F  : OT:=nr_awake.d.run nr_awake.E []
theorem nr_awake.F_in  {ρ:OT} (K:∀(v1:UInt64) (h1:v1=((4591870180066957722:UInt64))) (v2:UInt64) (h2:v2=((4602678819172646912:UInt64))) (v3:Bool) (h3:v3=(cond (decide (((0:Int))=(0:Int))) (decide (v1=(4591870180066957722:UInt64))) false)) (v4:Bool) (h4:v4=(cond (cond v3 (true) false) (decide (v2=(4602678819172646912:UInt64))) false)),ck (decide ((([48,46,49]:Str))=[48,46,49])) (ck (decide ((([53]:Str))=[53]∧((0:Int))=0)) (ck (!(decide (((0:Int))=(0:Int))) || (decide (((0:Int))=(0:Int)))) (ck (!(decide (((0:Int))=(0:Int))) || (decide (((0:Int))=(0:Int)))) (ck (!v3 || v3) (ck (!(cond v3 (true) false) || (cond v3 (true) false)) (ck (!(cond v3 (true) false) || (cond v3 (true) false)) (some [(.b v4)])))))))=ρ):nr_awake.F  = ρ:=Eq.trans (by kernel_rfl) (K _ rfl _ rfl _ rfl _ rfl)
theorem nr_awake.chk:CK 8 nr_awake.env nr_awake.d:=ckOf (by kernel_rfl)
end
end Go.Eng
namespace Go.Eng
open Go.Proofs
theorem Nr.read_five:Nr.read [53] 0=some 4602678819172646912:=by
 unfold Nr.read
 rw [if_pos (by decide),show Nr.num [53]=5 by decide]
 unfold Nr.rd
 rw [show ((0:Int) - (([53]:Str).length:Int)).toNat=0 by decide,show (-((0:Int) - (([53]:Str).length:Int))).toNat=1 by decide]
 refine Nr.near_some (by decide) (by decide) ?_ (.inr ?_)
 ·unfold Nr.Above;decide +kernel
 ·unfold Nr.Above;decide +kernel
theorem Nr.read_tenth:Nr.read [48,49] 1=some 4591870180066957722:=by
 unfold Nr.read
 rw [if_pos (by decide),show Nr.num [48,49]=1 by decide]
 unfold Nr.rd
 rw [show ((1:Int) - (([48,49]:Str).length:Int)).toNat=0 by decide,show (-((1:Int) - (([48,49]:Str).length:Int))).toNat=1 by decide]
 refine Nr.near_some (by decide) (by decide) ?_ (.inr ?_)
 ·unfold Nr.Above;decide +kernel
 ·unfold Nr.Above;decide +kernel
theorem Nr.parse_tenth:Nr.parse [48,46,49]=(4591870180066957722,0):=by
 have h1:Nr.ahead [48,46,49]++Nr.behind [48,46,49]=[48,49]:=by decide
 have h2:((Nr.ahead [48,46,49]).length:Int)+Nr.expo (Nr.tail [48,46,49])=1:=by decide
 rw [Nr.parse_eq];unfold Nr.parse0
 rw [if_neg (by decide),if_neg (by decide),h1,h2,Nr.read_tenth]
 simp
theorem nr_ReadA.ok:KO 9 (nr_ReadA.c) nr_ReadA.sg :=
 spec_sub fun ti to_ h=>⟨nr_Read.c,nr_Read.ok,by
  unfold nr_ReadA.c at h
  split at h
  ·obtain ⟨h1,h2⟩:=h
   obtain ⟨rfl,rfl⟩:=of_decide_eq_true h1
   subst h2
   unfold nr_Read.c
   show _=_
   rw [Nr.read_five];rfl
  ·exact h.elim⟩
theorem nr_ParseA.ok:KO 11 (nr_ParseA.c) nr_ParseA.sg :=
 spec_sub fun ti to_ h=>⟨nr_Parse.c,nr_Parse.ok,by
  unfold nr_ParseA.c at h
  split at h
  ·obtain ⟨h1,h2⟩:=h
   obtain rfl:=of_decide_eq_true h1
   subst h2
   unfold nr_Parse.c
   refine ⟨by decide,?_⟩
   rw [Nr.parse_tenth]
  ·exact h.elim⟩
theorem nr_awake.goal:nr_awake.F=some [.b true]:=by
 refine nr_awake.F_in ?_
 intro v1 h1 v2 h2 v3 h3 v4 h4
 subst h1 h2 h3
 rw [h4];rfl
end Go.Eng
namespace Go.Eng
open Go.Proofs
theorem nr_awake.fit:([]:List TV).length=nr_awake.d.np∧nr_awake.d.run (envL nrGl nr_awake.env) []=some (([(.b (true))]:List TV)++nr_awake.d.lent.map fun q=>([]:List TV).getD q.1 .dead) :=
 ⟨by kernel_rfl,Eq.trans (b:=nr_awake.F ) (by kernel_rfl) (Eq.trans (nr_awake.goal ) (by kernel_rfl))⟩
theorem nr_awake.ok:KO 8 (nr_awake.c) nr_awake.sg :=
 meets (l:=nr_awake.env) (all_cons nr_ReadA.ok (all_cons nr_ParseA.ok all_nil)) nr_awake.chk (by
   intro ins outs h
   unfold nr_awake.c at h
   split at h
   ·cases h;exact nr_awake.fit
   ·exact h.elim)
end Go.Eng
set_option maxRecDepth 100000
namespace Go.Eng
open Go.Proofs
noncomputable section
def nr_NearParses.sg:FSig:={}
def nr_NearParses.c:Ctr:=fun l=>match l with
 | [.s s] => .ok [(.b (true))]
 | _ => .err
def nr_NearParses.env:EV:=[(8,(nr_awake.c,nr_awake.sg)),(11,(nr_Parse.c,nr_Parse.sg)),(12,(r9_Parse.c,r9_Parse.sg))]
def nr_NearParses.E:TEnv:=envL nrGl nr_NearParses.env
def nr_NearParses.m:TM:=oS [oW (.b false) 2] (.seq (oS [oC 8 0 1 [] 7,oK (.k (.un .not)) [7] [8]] (.cond (.s 8) [] (oS [oW (.b false) 2] .ret) .skip)) none (.seq (oS [oV 0 9,oK (.k .lns) [9] [10],oI .gtr 10 (.i .i64 400) 11] (.cond (.s 11) [] (oS [oW (.b true) 2] .ret) .skip)) none (oS [oV 0 13,oC 11 1 2 [13] 14,oV 14 12,oE 0 12 15,oE 1 12 16,oV 15 3,oV 16 4] (oS [oV 0 18,oC 12 1 2 [18] 19,oV 19 17,oE 0 17 20,oE 1 17 21,oV 20 5,oV 21 6] (oS [oV 3 22,oV 5 23,oB .eql 22 23 24,oV 24 25,oG 25 true (oV 4 26),oG 25 true (oV 6 27),oG 25 true (oB .eql 26 27 28),oP 25 28 false 29,oV 29 2] .ret)))))
def nr_NearParses.d:TFD:=D0 1 nr_NearParses.m [.t 2]
def nr_NearParses.F (s:Str):OT:=nr_NearParses.d.run nr_NearParses.E [(.s s)]
theorem nr_NearParses.F_in (s:Str) {ρ:OT} (K:∀(v1:Bool) (h1:v1=(cond (decide (((Nr.parse s).1)=((Nr.parse s).1))) (decide (((Nr.parse s).2)=((Nr.parse s).2))) false)),cond (!(true))
  (some [(.b false)])
  (cond (decide ((400:Int)<((s).length:Int)))
  (some [(.b true)])
  (ck (decide ((s).length≤1099511627776)) (ck (decide ((s).length≤1099511627776)) (ck (!(decide (((Nr.parse s).1)=((Nr.parse s).1))) || ((decide (((Nr.parse s).1)=((Nr.parse s).1)))&&(decide (((Nr.parse s).1)=((Nr.parse s).1))))) (ck (!(decide (((Nr.parse s).1)=((Nr.parse s).1))) || (decide (((Nr.parse s).1)=((Nr.parse s).1)))) (some [(.b v1)]))))))=ρ):nr_NearParses.F s=ρ:=Eq.trans (by kernel_rfl) (K _ rfl)
theorem nr_NearParses.chk:CK 4 nr_NearParses.env nr_NearParses.d:=ckOf (by kernel_rfl)
end
end Go.Eng
namespace Go.Eng
theorem nr_NearParses.goal (s:Str):nr_NearParses.F s=some [.b true]:=by
 refine nr_NearParses.F_in s ?_
 intro v1 h1
 have e1:v1=true:=by
  rw [h1,decide_eq_true (rfl:(Nr.parse s).1=(Nr.parse s).1),decide_eq_true (rfl:(Nr.parse s).2=(Nr.parse s).2)];rfl
 rw [e1,decide_eq_true (rfl:(Nr.parse s).1=(Nr.parse s).1)]
 by_cases c:(400:Int)<(s.length:Int)
 ·rw [decide_eq_true c];rfl
 ·rw [decide_eq_false c,decide_eq_true (show s.length≤1099511627776 by omega)];rfl
end Go.Eng
namespace Go.Eng
open Go.Proofs
theorem nr_NearParses.fit (s:Str):([.s s]:List TV).length=nr_NearParses.d.np∧nr_NearParses.d.run (envL nrGl nr_NearParses.env) [.s s]=some (([(.b (true))]:List TV)++nr_NearParses.d.lent.map fun q=>([.s s]:List TV).getD q.1 .dead) :=
 ⟨by kernel_rfl,Eq.trans (b:=nr_NearParses.F s) (by kernel_rfl) (Eq.trans (nr_NearParses.goal s) (by kernel_rfl))⟩
theorem nr_NearParses.ok:KO 4 (nr_NearParses.c) nr_NearParses.sg :=
 meets (l:=nr_NearParses.env) (all_cons nr_awake.ok (all_cons nr_Parse.ok (all_cons r9_Parse.ok all_nil))) nr_NearParses.chk (by
   intro ins outs h
   unfold nr_NearParses.c at h
   split at h
   ·cases h;exact nr_NearParses.fit _
   ·exact h.elim)
end Go.Eng
