/- Texts of my own, one behind the other: DbP8, DbP9, DbP, DbOK, DbR1, DbR2, DbR3, DbR4, DbR5, DbR6, DbLJust, DbQJust, DbOKJust. -/
import Derived.Test.YthdgdfjnkgpegaaDoorT5
set_option linter.unusedVariables false
set_option linter.unusedSimpArgs false
namespace Go.Eng
open Go.IntWalk
theorem Cb.own0 (it:Itv) (h:Cb.own (Itm.of it)=0):(1≤it.kind∧it.kind≤9)∧(it.kind=3∨it.kind=4∨it.kind=5∨it.kind=6→it.n=0)∧(it.kind≠3→it.bytes=[])∧(it.kind≠4→it.text=[])∧(it.kind≠5→it.kind≠6→it.kind≠7→it.kids=[]) ∧
  (it.kind=8→20≤it.n∧it.n≤23)∧(it.kind=6→it.kids.length % 2=0)∧(it.kind=7→it.kids.length=1)∧Utf.whole it.text=true:=by
 obtain ⟨k,n,b,t,ks⟩:=it
 simp only [Cb.own,Itm.of] at h
 simp only
 by_cases h1:k<1∨9<k
 ·rw [if_pos h1] at h;cases h
 rw [if_neg h1] at h
 split at h
 ·cases h
 rename_i h2
 split at h
 ·cases h
 rename_i h3
 split at h
 ·cases h
 rename_i h4
 split at h
 ·rename_i h6
  refine ⟨by omega,?_,?_,?_,?_,?_,?_,?_,h6⟩ <;> grind
 ·cases h
theorem Cb.chk0 (it:Itv) (h:Cb.chk (Itm.of it)=0):Cb.own (Itm.of it)=0∧Cb.chks it.kids=0:=by
 rw [Cb.chk_of] at h
 by_cases a:Cb.own (Itm.of it)=0
 ·rw [if_pos a] at h;exact ⟨a,h⟩
 ·rw [if_neg a] at h;exact (a h).elim
theorem Cb.chks_cons {k:Itm} {r:List Itm} (h:Cb.chks (k :: r)=0):Cb.chk k=0∧Cb.chks r=0:=by
 rw [Cb.chks] at h
 by_cases a:Cb.chk k=0
 ·rw [if_pos a] at h;exact ⟨a,h⟩
 ·rw [if_neg a] at h;exact (a h).elim
theorem Cb.chks_drop:∀(l:List Itm) (i:Nat),Cb.chks l=0→Cb.chks (l.drop i)=0
 | [],i,_=>by simp [Cb.chks]
 | k :: r,0,h=>by simpa using h
 | k :: r,i+1,h=>by simpa using Cb.chks_drop r i (Cb.chks_cons h).2
theorem Itm.bulks_drop : ∀ (l : List Itm) (i : Nat), Itm.bulks (l.drop i) ≤ Itm.bulks l
  | [], i => by simp
  | k :: r, 0 => by simp
  | k :: r, i + 1 => by
    have := Itm.bulks_drop r i
    simp only [List.drop_succ_cons, Itm.bulks]; omega
theorem Cb.chk_val (x:Itm) (h:Cb.chk x=0):Cb.own x=0∧Cb.chks x.kids=0:=by
 have:=Cb.chk0 x.val (by rw [Itm.of_val];exact h)
 rw [Itm.of_val] at this;exact this
theorem Itm.bulk_val (x:Itm):Itm.bulk x=1+x.bytes.length+x.text.length+Itm.bulks x.kids:=by cases x;simp only [Itm.bulk,Itm.bytes,Itm.text,Itm.kids]
namespace Db
def Got.tvs (g:Got) (p:List Int):List TV:=[.ag (Val.cells g.val),.ag (Flt.cells g.flt),.sl .is p]
def Gots.app (acc:List Fld):Gots→Gots
 | .ok r => .ok (acc++r)
 | .bad p => .bad p
theorem Gots.app_nil (g:Gots):g.app []=g:=by cases g <;> simp [Gots.app]
theorem fields_step (k x:Itm) (r:List Itm) (i:Nat) (p:List Int):fields (k :: x :: r) i p=if k.kind≠4∨Utf.zero k.text=true then .bad (p++[(i:Int)])
  else match value x (p++[((i+1:Nat):Int)]) with
   | .bad q => .bad q
   | .ok v=>(fields r (i+2) p).app [Fld.of k.text v]:=by
 rw [fields]
 split
 ·rfl
 ·split
  ·rename_i q hq;rw [hq]
  ·rename_i v hv
   rw [hv]
   simp only
   split
   ·rename_i q hq;rw [hq];rfl
   ·rename_i l hl;rw [hl];rfl
theorem elems_step (x:Itm) (r:List Itm) (i:Nat) (p:List Int):elems (x :: r) i p=match value x (p++[(i:Int)]) with
   | .bad q => .bad q
   | .ok v=>(elems r (i+1) p).app [Fld.of (digs i) v]:=by
 rw [elems]
 split
 ·rename_i q hq;rw [hq]
 ·rename_i v hv
  rw [hv]
  simp only
  split
  ·rename_i q hq;rw [hq];rfl
  ·rename_i l hl;rw [hl];rfl
theorem Gots.app_app (a b:List Fld) (g:Gots):(g.app b).app a=g.app (a++b):=by cases g <;> simp [Gots.app]
theorem value_of (it:Itv) (p:List Int):value (Itm.of it) p=if it.kind=6 then (fields it.kids 0 p).got (doc 3 []) else if it.kind=5 then (elems it.kids 0 p).got (doc 4 []) else if it.kind=7 then tags it.n it.kids p else opt (leaf it.kind it.n it.bytes it.text) p:=by
 rw [Itm.of,value]
theorem tagv_of (n:UInt64) (x:Itm) (p:List Int):tagv n x p=if n=1004 then (if x.kind=6∧¬regular x.kids=true then (fields x.kids 0 (p++[0])).got (doc 4 []) else .bad p)
  else if n=1015 then (if kinds x 4 6=true then pairv x.kids p else .bad p) else opt (small n x) p:=by
 cases x;rw [tagv];rfl
theorem pairv_of (l:List Itm) (p:List Int) (h:l.length=2):pairv l p=(fields (l.getD 1 Mp.zero).kids 0 (p++[0,1])).got (doc 15 (l.getD 0 Mp.zero).text):=by
 match l,h with
 | [a,m],_=>rw [pairv];cases m;rw [pairIn];rfl
end Db
theorem db_with.l1_ok (n : Nat) (l : List Itm) (path : List Int) (x2 : Int) (x3 x4 x5 : UInt64) (x6 x7 : Str) (x8 : Int) (x10 : Val) (x11 : Flt) (hb : Itm.bulks l + path.length ≤ 1073741824) (hn : 2 * Itm.bulks l + 1 < n) (hc : Cb.chks l = 0) : ∀ (m i : Nat) (acc : List Fld), i + 2 * m = l.length → acc.length + m ≤ 2147483648 →
    db_with.l1 n l i x2 x3 x4 x5 x6 x7 x8 acc x10 x11 path = some (Db.Got.tvs (((Db.fields (l.drop i) i path).app acc).got ⟨x2, x3, x4, x5, x6, x7, x8, [], []⟩) path) := by
  have hlen := Itm.bulk_kids l
  intro m
  induction m with
  | zero =>
    intro i acc hi ha
    refine db_with.l1_in _ _ _ _ _ _ _ _ _ _ _ _ _ _ ?_
    intro v1 h1 v2 h2 v3 h3 v4 h4 v5 h5 v6 h6 v7 h7 v8 h8 v9 h9 v10 h10
    rw [decide_eq_false (by omega), cond_false, List.drop_of_length_le (by omega), Db.fields]
    simp only [Db.Gots.app, List.append_nil, Db.Gots.got]; rfl
  | succ m ih =>
    intro i acc hi ha
    refine db_with.l1_in _ _ _ _ _ _ _ _ _ _ _ _ _ _ ?_
    intro v1 h1 v2 h2 v3 h3 v4 h4 v5 h5 v6 h6 v7 h7 v8 h8 v9 h9 v10 h10
    have e6 : v6 = ((i + 1 : Nat) : Int) := by rw [h6, i64_in _ (by omega)]; omega
    rw [e6] at h7 h8
    rw [Int.toNat_natCast] at h1 h3
    rw [Int.toNat_natCast, Itm.of_val] at h7 h8
    have hd : l.drop i = l.getD i (STy.dflt .il) :: l.getD (i + 1) (STy.dflt .il) :: l.drop (i + 2) := by
      rw [drop_cons (show i < l.length by omega) (STy.dflt .il), drop_cons (show i + 1 < l.length by omega) (STy.dflt .il)]
    have hbd := Itm.bulks_drop l i
    have hcd := Cb.chks_drop l i hc
    rw [hd] at hbd hcd
    simp only [Itm.bulks] at hbd
    have hk1 := Itm.bulk_pos (l.getD i (STy.dflt .il))
    obtain ⟨_, hcd⟩ := Cb.chks_cons hcd
    obtain ⟨hcx, _⟩ := Cb.chks_cons hcd
    have hz : decide (0 ≤ Lib.indexByte v3 (([0] : Str).getD 0 0)) = Utf.zero v3 := indexByte_contains 0 v3
    have e2 : v2 = decide (v1 = 4) := by rw [h2, Bool.not_not]
    rw [hz] at h4
    have i0 : idxOK (i : Int) l.length = true := idx_ok (by omega) (by omega)
    rw [hd, Db.fields_step, ← h1, ← h3]
    rw [e6, Int.toNat_natCast, Itm.of_val]
    generalize l.getD (i + 1) (STy.dflt .il) = x at h7 h8 hbd hcx
    simp only [i0, show decide ((([0] : Str)).length = 1) = true from rfl, Bool.and_true, Bool.and_self, Bool.not_or_self, ck_true]
    rw [decide_eq_true (by omega), cond_true, ck_of (by rw [e2]; cases decide (v1 = 4) <;> rfl)]
    by_cases bad : v1 ≠ 4 ∨ Utf.zero v3 = true
    · have e4 : v4 = true := by
        rw [h4]
        by_cases x : v1 = 4
        · rw [decide_eq_true x, bad.resolve_left (fun h => h x)]; rfl
        · rw [decide_eq_false x]; rfl
      rw [e4, cond_true, if_pos bad, ck_of (big_ap (by simp only [List.length_singleton]; omega) (by simp only [List.length_singleton]; omega)), ck_of (decide_eq_true (by simp only [List.length_append, List.length_singleton]; omega)), h5]; rfl
    · have e4 : v4 = false := by
        simp only [not_or, Classical.not_not, ne_eq] at bad
        rw [h4, decide_eq_true bad.1, Bool.eq_false_iff.2 bad.2]; rfl
      rw [e4, cond_false, if_neg bad, ck_of (idx_ok (by omega) (by omega)), ck_of (big_ap (by simp only [List.length_singleton]; omega) (by simp only [List.length_singleton]; omega)), ck_of (by
        rw [decide_eq_true (show Itm.bulk x + (path ++ [((i + 1 : Nat) : Int)]).length ≤ 1073741824 by simp only [List.length_append, List.length_singleton]; omega), decide_eq_true hcx, decide_eq_true (show 2 * Itm.bulk x + 1 < n by omega)]; rfl)]
      cases hv : Db.value x (path ++ [((i + 1 : Nat) : Int)]) with
      | bad q =>
        rw [hv] at h8
        rw [h8]; rfl
      | ok v =>
        rw [hv] at h7 h8
        have h7' : v7 = v := h7
        have h8' : v8 = ⟨0, 0, []⟩ := h8
        rw [h8', show (!decide ((Flt.mk 0 0 []).err = 0)) = false from rfl, cond_false, ck_of (big_ap (by rw [h9]; simp only [List.length_singleton]; omega) (by rw [h9]; simp only [List.length_singleton]; omega)), h10, i64_in _ (by omega), show (i : Int) + 2 = ((i + 2 : Nat) : Int) by omega, ih (i + 2) _ (by omega) (by rw [h9]; simp only [List.length_append, List.length_singleton]; omega), h9, h7']
        simp only
        rw [Db.Gots.app_app]; rfl
theorem db_with.goal (n:Nat) (v:Val) (l:List Itm) (path:List Int) (hp:((decide (Itm.bulks l+path.length≤1073741824)&&decide (Cb.chks l=0∧l.length % 2=0))&&decide ((2 * Itm.bulks l+2)<n+1))=true) :
  db_with.F n v l path=some (Db.Got.tvs ((Db.fields l 0 path).got ⟨v.kind,v.bits,v.high,v.low,v.text,v.more,v.sub,[],[]⟩) path):=by
 simp only [Bool.and_eq_true,decide_eq_true_eq] at hp
 obtain ⟨⟨hb,hc,he⟩,hn⟩:=hp
 have hlen:=Itm.bulk_kids l
 rw [db_with.F_eq]
 have:=db_with.l1_ok n l path v.kind v.bits v.high v.low v.text v.more v.sub Db.zero ⟨0,0,[]⟩ hb (by omega) hc (l.length / 2) 0 [] (by omega) (by simp only [List.length_nil];omega)
 rw [List.drop_zero,Db.Gots.app_nil] at this
 exact this
theorem db_value.l3_ok (n : Nat) (l : List Itm) (path : List Int) (x3 : Val) (x4 : Flt) (x5 : Int) (x6 x7 x8 : UInt64) (x9 x10 : Str) (x11 : Int) (hb : Itm.bulks l + 1 + path.length ≤ 1073741824) (hn : 2 * Itm.bulks l + 1 < n) (hc : Cb.chks l = 0) : ∀ (m i : Nat) (acc : List Fld), i + m = l.length → acc.length + m ≤ 2147483648 →
    db_value.l3 n l (l.length : Int) i x3 x4 x5 x6 x7 x8 x9 x10 x11 acc path = some (Db.Got.tvs (((Db.elems (l.drop i) i path).app acc).got ⟨x5, x6, x7, x8, x9, x10, x11, [], []⟩) path) := by
  have hlen := Itm.bulk_kids l
  intro m
  induction m with
  | zero =>
    intro i acc hi ha
    refine db_value.l3_in _ _ _ _ _ _ _ _ _ _ _ _ _ _ _ ?_
    intro v1 h1 v2 h2 v3 h3 v4 h4
    rw [decide_eq_false (by omega), cond_false, List.drop_of_length_le (by omega), Db.elems]
    simp only [Db.Gots.app, List.append_nil, Db.Gots.got]; rfl
  | succ m ih =>
    intro i acc hi ha
    refine db_value.l3_in _ _ _ _ _ _ _ _ _ _ _ _ _ _ _ ?_
    intro v1 h1 v2 h2 v3 h3 v4 h4
    rw [Int.toNat_natCast, Itm.of_val] at h1 h2
    have hd : l.drop i = l.getD i (STy.dflt .il) :: l.drop (i + 1) := drop_cons (show i < l.length by omega) (STy.dflt .il)
    have hbd := Itm.bulks_at l i (by omega)
    have hcd := Cb.chks_drop l i hc
    rw [hd] at hcd
    obtain ⟨hcx, _⟩ := Cb.chks_cons hcd
    rw [hd, Db.elems_step, Int.toNat_natCast, Itm.of_val]
    generalize l.getD i (STy.dflt .il) = x at h1 h2 hbd hcx
    rw [decide_eq_true (by omega), cond_true, ck_of (idx_ok (by omega) (by omega)), ck_of (big_ap (by simp only [List.length_singleton]; omega) (by simp only [List.length_singleton]; omega)), ck_of (by
        rw [decide_eq_true (show Itm.bulk x + (path ++ [(i : Int)]).length ≤ 1073741824 by simp only [List.length_append, List.length_singleton]; omega), decide_eq_true hcx, decide_eq_true (show 2 * Itm.bulk x + 1 < n by omega)]; rfl)]
    cases hv : Db.value x (path ++ [(i : Int)]) with
    | bad q =>
      rw [hv] at h2
      rw [h2]; rfl
    | ok v =>
      rw [hv] at h1 h2
      have h1' : v1 = v := h1
      have h2' : v2 = ⟨0, 0, []⟩ := h2
      rw [h2', show (!decide ((Flt.mk 0 0 []).err = 0)) = false from rfl, cond_false, ck_of (decide_eq_true (by omega)), ck_of (big_ap (by rw [h3]; simp only [List.length_singleton]; omega) (by rw [h3]; simp only [List.length_singleton]; omega)), h4, i64_in _ (by omega), show (i : Int) + 1 = ((i + 1 : Nat) : Int) by omega, ih (i + 1) _ (by omega) (by rw [h3]; simp only [List.length_append, List.length_singleton]; omega), h3, h1', itoa_nat]
      simp only
      rw [Db.Gots.app_app]; rfl
theorem db_value.j2_ok (n:Nat) (x0:Val) (x1:Flt) (p:List Int) (h:p.length≤1099511627776):db_value.j2 n x0 x1 p=some (Db.Got.tvs (.bad p) p):=by
 rw [db_value.j2_eq,ck_of (decide_eq_true h)];rfl
theorem Db.half_of (it:Itv):Db.leaf it.kind it.n it.bytes it.text=if it.kind=9 then some ⟨1,it.n,0,0,[],[],0,[],[]⟩ else if it.kind=4 then some ⟨2,0,0,0,it.text,[],0,[],[]⟩ else if it.kind=3 then some ⟨5,0,0,0,[],[],0,it.bytes,[]⟩
  else if it.kind=8 then some (if it.n=22 then ⟨10,0,0,0,[],[],0,[],[]⟩ else if it.n=23 then ⟨6,0,0,0,[],[],0,[],[]⟩ else ⟨8,it.n - 20,0,0,[],[],0,[],[]⟩)
  else if (Db.half (Itm.of it)).2 then some (Db.half (Itm.of it)).1 else none:=rfl
theorem i32_self (x:Int):(x=IntKind.i64.wrap (IntKind.i32.wrap x)) ↔ (-2147483648≤x∧x<2147483648):=by
 rw [i64_i32]
 constructor
 ·intro h
  have:=i32_rng x
  omega
 ·intro h
  have h1:=i32_rng x
  have h2:(IntKind.i32.wrap x - x) % 4294967296=0:=by
   simp only [IntKind.wrap,IntKind.bits,IntKind.signed]
   simp
   omega
  omega
theorem db_value.j1_ok (n : Nat) (x1 : Bool) (it : Itv) (x3 : Val) (x4 : Flt) (p : List Int) (hb : Itm.bulk (Itm.of it) + p.length ≤ 1073741824) (hn : 2 * Itm.bulk (Itm.of it) < n) (hc : Cb.chk (Itm.of it) = 0) (h1 : x1 = decide (it.kind = 1 ∨ it.kind = 2)) (hk : it.kind ≠ 9 ∧ it.kind ≠ 4 ∧ it.kind ≠ 3 ∧ it.kind ≠ 8) :
    db_value.j1 n it.kind x1 it x3 x4 p = some (Db.Got.tvs (Db.value (Itm.of it) p) p) := by
  obtain ⟨k9, k4, k3, k8⟩ := hk
  obtain ⟨ho, hcs⟩ := Cb.chk0 it hc
  obtain ⟨c1, c2, c3, c4, c5, c6, c7, c8, c9⟩ := Cb.own0 it ho
  have hbo := hb
  rw [Itm.bulk_of] at hb hn
  have hlen := Itm.bulk_kids it.kids
  have J2 := db_value.j2_ok n x3 x4 p (by omega)
  refine db_value.j1_in _ _ _ _ _ _ _ ?_
  intro v1 e1 v2 e2 v3 e3 v4 e4 v5 e5 v6 e6 v7 e7 v8 e8 v9 e9 v10 e10
  simp only [Bool.not_or_self, Bool.and_self, ck_true]
  by_cases k12 : it.kind = 1 ∨ it.kind = 2
  · rw [h1, decide_eq_true k12, cond_true, Db.value_of, if_neg (by omega), if_neg (by omega), if_neg (by omega), Db.half_of, if_neg k9, if_neg k4, if_neg k3, if_neg k8]
    have e4' : v4 = (Db.half (Itm.of it)).2 := by
      rw [e4, e2]
      show _ = ((Db.number (Itm.of it)).isSome && decide (-2147483648 ≤ Db.numberI (Itm.of it) ∧ Db.numberI (Itm.of it) < 2147483648))
      cases hs : (Db.number (Itm.of it)).isSome with
      | false => rfl
      | true =>
        rw [Db.numberI_eq _ hs, ← e1, e3, cond_true, Bool.true_and]
        exact decide_eq_decide.2 (i32_self v1)
    cases hh : (Db.half (Itm.of it)).2 with
    | false => rw [e4', hh, cond_false, J2]; rfl
    | true =>
      have hs : (Db.number (Itm.of it)).isSome = true := by
        have : ((Db.number (Itm.of it)).isSome && decide (-2147483648 ≤ Db.numberI (Itm.of it) ∧ Db.numberI (Itm.of it) < 2147483648)) = true := hh
        simp only [Bool.and_eq_true] at this; exact this.1
      have e5' : v5 = UInt64.ofInt (Db.numberI (Itm.of it) % 4294967296) := by
        rw [e5, Db.numberI_eq _ hs, ← e1]
        congr 1
        have := u32_ofInt v1
        rw [wrap_u32'] at this
        exact this
      rw [e4', hh, cond_true, e5']; rfl
  rw [h1, decide_eq_false k12, cond_false]
  by_cases k6 : it.kind = 6
  · rw [decide_eq_true k6, cond_true, ck_of (by rw [decide_eq_true (show Itm.bulks it.kids + p.length ≤ 1073741824 by omega), decide_eq_true (show Cb.chks it.kids = 0 ∧ it.kids.length % 2 = 0 from ⟨hcs, c7 k6⟩), decide_eq_true (show 2 * Itm.bulks it.kids + 2 < n by omega)]; rfl), e6, e7, Db.value_of, if_pos k6]; rfl
  rw [decide_eq_false k6, cond_false]
  by_cases k5 : it.kind = 5
  · rw [decide_eq_true k5, cond_true, e8, Db.value_of, if_neg k6, if_pos k5]
    have := db_value.l3_ok n it.kids p x3 x4 4 0 0 0 [] [] 0 (by omega) (by omega) hcs it.kids.length 0 [] (by omega) (by simp only [List.length_nil]; omega)
    rw [List.drop_zero, Db.Gots.app_nil] at this
    exact this
  rw [decide_eq_false k5, cond_false]
  have k7 : it.kind = 7 := by omega
  rw [decide_eq_true k7, cond_true, ck_of (by rw [decide_eq_true hbo, decide_eq_true (show Cb.chk (Itm.of it) = 0 ∧ it.kind = 7 from ⟨hc, k7⟩), decide_eq_true (show 2 * Itm.bulk (Itm.of it) < n by rw [Itm.bulk_of]; exact hn)]; rfl), e9, e10]; rfl
theorem db_value.goal (n:Nat) (it:Itv) (path:List Int) (hp:((decide (Itm.bulk (Itm.of it)+path.length≤1073741824)&&decide (Cb.chk (Itm.of it)=0))&&decide ((2 * Itm.bulk (Itm.of it)+1)<n+1))=true):db_value.F n it path=some (Db.Got.tvs (Db.value (Itm.of it) path) path):=by
 simp only [Bool.and_eq_true,decide_eq_true_eq] at hp
 obtain ⟨⟨hb,hc⟩,hn⟩:=hp
 obtain ⟨ho,hcs⟩:=Cb.chk0 it hc
 obtain ⟨c1,c2,c3,c4,c5,c6,c7,c8,c9⟩:=Cb.own0 it ho
 refine db_value.F_in _ _ _ ?_
 intro v1 e1 v2 e2 v3 e3 v4 e4 v5 e5 v6 e6 v7 e7
 have L:∀g:Val,it.kind≠6→it.kind≠5→it.kind≠7→Db.leaf it.kind it.n it.bytes it.text=some g→Db.value (Itm.of it) path = .ok g:=by
  intro g h6 h5 h7 hg
  rw [Db.value_of,if_neg h6,if_neg h5,if_neg h7,hg];rfl
 by_cases k9:it.kind=9
 ·rw [decide_eq_true k9,cond_true,L _ (by omega) (by omega) (by omega) (by rw [Db.half_of,if_pos k9])];rfl
 rw [decide_eq_false k9,cond_false]
 by_cases k4:it.kind=4
 ·rw [decide_eq_true k4,cond_true,L _ (by omega) (by omega) (by omega) (by rw [Db.half_of,if_neg k9,if_pos k4])];rfl
 rw [decide_eq_false k4,cond_false]
 by_cases k3:it.kind=3
 ·have hl:it.bytes.length≤1073741824:=by rw [Itm.bulk_of] at hb;omega
  rw [decide_eq_true k3,cond_true,ck_of (big_ap (n:=it.bytes.length) (b:=1) (by omega) (by omega)),L _ (by omega) (by omega) (by omega) (by rw [Db.half_of,if_neg k9,if_neg k4,if_pos k3])];rfl
 rw [decide_eq_false k3,cond_false]
 by_cases k8:it.kind=8
 ·have hu:it.n=20∨it.n=21∨it.n=22∨it.n=23:=by
   have a:=UInt64.le_iff_toNat_le.1 (c6 k8).1
   have b:=UInt64.le_iff_toNat_le.1 (c6 k8).2
   simp at a b
   have:it.n.toNat=20∨it.n.toNat=21∨it.n.toNat=22∨it.n.toNat=23:=by omega
   rcases this with h | h | h | h
   ·exact .inl (UInt64.toNat_inj.1 h)
   ·exact .inr (.inl (UInt64.toNat_inj.1 h))
   ·exact .inr (.inr (.inl (UInt64.toNat_inj.1 h)))
   ·exact .inr (.inr (.inr (UInt64.toNat_inj.1 h)))
  rw [decide_eq_true k8,cond_true,L _ (by omega) (by omega) (by omega) (by rw [Db.half_of,if_neg k9,if_neg k4,if_neg k3,if_pos k8])]
  subst e1 e2 e3 e4 e5 e6 e7
  rcases hu with h | h | h | h <;> rw [h] <;> rfl
 rw [decide_eq_false k8,cond_false]
 have J:=fun b hb'=>db_value.j1_ok n b it Db.zero ⟨0,0,[]⟩ path hb (by omega) hc hb' ⟨k9,k4,k3,k8⟩
 by_cases k1:it.kind=1
 ·rw [decide_eq_true k1,cond_true];exact J _ (by rw [decide_eq_true (.inl k1)])
 ·rw [decide_eq_false k1,cond_false];exact J _ (by simp [k1])
theorem db_tag.j1_ok (n:Nat) (x0:Val) (x1:Flt) (p:List Int) (h:p.length≤1099511627776):db_tag.j1 n x0 x1 p=some (Db.Got.tvs (.bad p) p):=by
 rw [db_tag.j1_eq,ck_of (decide_eq_true h)];rfl
theorem db_tag.goal (n:Nat) (it:Itv) (path:List Int) (hp:((decide (Itm.bulk (Itm.of it)+path.length≤1073741824)&&decide (Cb.chk (Itm.of it)=0∧it.kind=7))&&decide ((2 * Itm.bulk (Itm.of it))<n+1))=true):db_tag.F n it path=some (Db.Got.tvs (Db.value (Itm.of it) path) path):=by
 simp only [Bool.and_eq_true,decide_eq_true_eq] at hp
 obtain ⟨⟨hb,hc,k7⟩,hn⟩:=hp
 obtain ⟨ho,hcs⟩:=Cb.chk0 it hc
 have c8:=(Cb.own0 it ho).2.2.2.2.2.2.2.1 k7
 obtain ⟨x,hx⟩:∃x,it.kids=[x]:=by
  match h:it.kids,c8 with
  | [x],_=>exact ⟨x,rfl⟩
 rw [Itm.bulk_of,hx] at hb hn
 simp only [Itm.bulks] at hb hn
 rw [hx] at hcs
 obtain ⟨hcx,_⟩:=Cb.chks_cons hcs
 obtain ⟨hox,hcsx⟩:=Cb.chk_val x hcx
 have ox:=Cb.own0 x.val (by rw [Itm.of_val];exact hox)
 have hbx:=Itm.bulk_val x
 have hlx:=Itm.bulk_kids x.kids
 have J:=db_tag.j1_ok n Db.zero ⟨0,0,[]⟩ path (by omega)
 have ev:Db.value (Itm.of it) path=Db.tagv it.n x path:=by
  rw [Db.value_of,if_neg (by omega),if_neg (by omega),if_pos k7,hx,Db.tags]
 rw [ev,Db.tagv_of]
 refine db_tag.F_in _ _ _ ?_
 intro v1 e1 v2 e2 v3 e3 v4 e4 v5 e5 v6 e6 v7 e7 v8 e8 v9 e9 v10 e10 v11 e11 v12 e12 v13 e13 v14 e14
 have hg:it.kids.getD (0:Int).toNat (STy.dflt .il)=x:=by rw [hx];rfl
 rw [hg] at e1 e2
 rw [hg,Itm.of_val] at e7 e13 e14
 rw [hg,Itm.of_val]
 rw [ck_of (idx_ok (by omega) (by omega))]
 have l2:v2.length≤1099511627776:=by rw [e2];omega
 simp only [decide_eq_true l2,Bool.and_true,Bool.not_or_self,ck_true]
 by_cases a4:it.n=1004
 ·rw [decide_eq_true a4,cond_true,if_pos a4]
  by_cases c:x.kind=6∧¬Db.regular x.kids=true
  ·have e3':v3=true:=by rw [e3,e1,e2,decide_eq_true c.1,Bool.eq_false_iff.2 c.2];rfl
   have he:x.kids.length % 2=0:=ox.2.2.2.2.2.2.1 c.1
   rw [e3',cond_true,if_pos c,ck_of (big_ap (by simp only [List.length_singleton];omega) (by simp only [List.length_singleton];omega)),e2,e4,ck_of (by
    rw [decide_eq_true (show Itm.bulks x.kids+(path++[(0:Int)]).length≤1073741824 by simp only [List.length_append,List.length_singleton];omega),decide_eq_true (show Cb.chks x.kids=0∧x.kids.length % 2=0 from ⟨hcsx,he⟩),decide_eq_true (show 2 * Itm.bulks x.kids+2<n by omega)];rfl),e5,e6,e2,e4];rfl
  ·have e3':v3=false:=by
    rw [e3,e1,e2]
    by_cases q:x.kind=6
    ·rw [decide_eq_true q]
     have:Db.regular x.kids=true:=Classical.byContradiction fun h=>c ⟨q,h⟩
     rw [this];rfl
    ·rw [decide_eq_false q];rfl
   rw [e3',cond_false,if_neg c];exact J
 rw [decide_eq_false a4,cond_false,if_neg a4]
 by_cases a15:it.n=1015
 ·rw [decide_eq_true a15,cond_true,if_pos a15]
  by_cases c:Db.kinds x 4 6=true
  ·have hk:=of_decide_eq_true c
   have hlen2:x.kids.length=2:=hk.2.1
   obtain ⟨a,m,hkids⟩:∃a m,x.kids=[a,m]:=by
    match h:x.kids,hlen2 with
    | [a,m],_=>exact ⟨a,m,rfl⟩
   have hm6:m.kind=6:=by have:=hk.2.2.2;rw [Db.snd,hkids] at this;exact this
   have hcm:Cb.chk m=0:=by
    rw [hkids] at hcsx
    exact (Cb.chks_cons (Cb.chks_cons hcsx).2).1
   obtain ⟨hom,hcsm⟩:=Cb.chk_val m hcm
   have om:=Cb.own0 m.val (by rw [Itm.of_val];exact hom)
   have he:m.kids.length % 2=0:=om.2.2.2.2.2.2.1 hm6
   have hbm:=Itm.bulk_val m
   have hb2:Itm.bulks x.kids=Itm.bulk a+(Itm.bulk m+0):=by rw [hkids];rfl
   have ha1:=Itm.bulk_pos a
   have e9':v9=m.kids:=by rw [e9,e2,hkids];rfl
   have e8':v8=a.text:=by rw [e8,e2,hkids];rfl
   have i0:idxOK (0:Int) v2.length=true:=by rw [e2];exact idx_ok (by omega) (by omega)
   have i1:idxOK (1:Int) v2.length=true:=by rw [e2];exact idx_ok (by omega) (by omega)
   rw [e7,show Db.kinds x ((4:Int)) ((6:Int))=true from c,cond_true,if_pos rfl,Db.pairv_of _ _ hlen2,ck_of i0,ck_of i1,ck_of (big_ap (by rw [e10];simp only [List.length_cons,List.length_nil];omega) (by rw [e10];simp only [List.length_cons,List.length_nil];omega)),e9',e10,ck_of (by
    rw [decide_eq_true (show Itm.bulks m.kids+(path++[(0:Int),(1:Int)]).length≤1073741824 by simp only [List.length_append,List.length_cons,List.length_nil];omega),decide_eq_true (show Cb.chks m.kids=0∧m.kids.length % 2=0 from ⟨hcsm,he⟩),decide_eq_true (show 2 * Itm.bulks m.kids+2<n by omega)];rfl),e11,e12,e9',e8',e10,hkids];rfl
  ·rw [e7,show Db.kinds x ((4:Int)) ((6:Int))=false from Bool.eq_false_iff.2 c,cond_false,if_neg (by decide)];exact J
 rw [decide_eq_false a15,cond_false,if_neg a15,ck_of (decide_eq_true (by omega)),Db.small,e13,e14]
 cases (Db.smallV it.n x).2 with
 | true=>rw [cond_true];rfl
 | false=>rw [cond_false];exact J
theorem db_Value.goal (it:Itv) (hp:decide (Itm.bulk (Itm.of it)≤1073741824)=true):db_Value.F it=some [.ag (Val.cells (Db.dec (Itm.of it)).1),.ag (Flt.cells (Db.dec (Itm.of it)).2)]:=by
 have hb:=of_decide_eq_true hp
 refine db_Value.F_in _ ?_
 intro v1 e1 v2 e2 v3 e3
 rw [ck_of (decide_eq_true (by omega)),Db.dec]
 by_cases a:Cb.chk (Itm.of it)=0
 ·rw [decide_eq_true a,Bool.not_true,cond_false,if_neg (fun h=>h a)]
  obtain ⟨ho,hcs⟩:=Cb.chk0 it a
  by_cases k6:it.kind=6
  ·have he:=(Cb.own0 it ho).2.2.2.2.2.2.1 k6
   rw [Itm.bulk_of] at hb
   rw [decide_eq_true k6,Bool.not_true,cond_false,if_neg (show ¬(Itm.of it).kind≠6 from fun h=>h k6),ck_of (by rw [decide_eq_true (show Itm.bulks it.kids+([]:List Int).length≤1073741824 by simp only [List.length_nil];omega),decide_eq_true (show Cb.chks it.kids=0∧it.kids.length % 2=0 from ⟨hcs,he⟩)];rfl),e2,e3,Db.value_of,if_pos k6];rfl
  ·rw [decide_eq_false k6,Bool.not_false,cond_true,if_pos (show (Itm.of it).kind≠6 from k6),e1];rfl
 ·rw [decide_eq_false a,Bool.not_false,cond_true,if_pos a];rfl
end Go.Eng
namespace Go.Eng
open Go.IntWalk
theorem law30_awake.goal:law30_awake.F=some [.b true]:=by
 refine law30_awake.F_in ?_
 intro v1 h1 v2 h2 v3 h3 v4 h4 v5 h5 v6 h6 v7 h7 v8 h8 v9 h9 v10 h10 v11 h11 v12 h12 v13 h13 v14 h14 v15 h15
 subst h1
 have e2:v2.err=0:=by rw [h2];decide +kernel
 have e4:v4.err=12:=by rw [h4];decide +kernel
 have e5:v5=6:=by rw [h5];decide +kernel
 have e7:v7.length=2:=by rw [h7];decide +kernel
 have e9:v9=[97]:=by rw [h9,h7];decide +kernel
 have e11:v11=7:=by rw [h11,h7];decide +kernel
 have e13:v13=1018:=by rw [h13,h7];decide +kernel
 have t6:v6=true:=by rw [h6,e2,e5];rfl
 have t8:v8=true:=by rw [h8,t6,e7];rfl
 have t10:v10=true:=by rw [h10,t8,e9];rfl
 have t12:v12=true:=by rw [h12,t10,e11];rfl
 have t14:v14=true:=by rw [h14,t12,e13];rfl
 have t15:v15=true:=by rw [h15,t14,e4];rfl
 have i0:idxOK (0:Int) v7.length=true:=by rw [e7];rfl
 have i1:idxOK (1:Int) v7.length=true:=by rw [e7];rfl
 rw [ck_of (by decide +kernel),ck_of (by decide +kernel)]
 simp only [i0,i1,t15,Bool.and_true,Bool.not_or_self,ck_true]
end Go.Eng
namespace Go.Eng
theorem utf_is.fit (r:Int):([.i .i64 r]:List TV).length=utf_is.d.np∧utf_is.d.run (envL trydbGl utf_is.env) [.i .i64 r]=some (([(.b (Utf.isRune r))]:List TV)++utf_is.d.ps.toList.map fun q=>([.i .i64 r]:List TV).getD q.1 .dead) :=
 ⟨by kernel_rfl,Eq.trans (b:=utf_is.F r) (by kernel_rfl) (Eq.trans (utf_is.goal r) (by kernel_rfl))⟩
theorem utf_is.ok:SpecOK Go.Proofs.Tryd.prog (fun n=>(trydbGl n).av) 94 (Ctr.fs (utf_is.c,utf_is.sg)) :=
 meets (l:=utf_is.env) all_nil utf_is.chk (by
   intro ins outs h
   unfold utf_is.c at h
   split at h
   ·cases h;exact utf_is.fit _
   ·exact h.elim)
theorem utf_Rune.fit (b:List UInt8) (at_:Int) (hp:(decide (b.length≤1099511627776))=true):([.sl .bs b,.i .i64 at_]:List TV).length=utf_Rune.d.np∧utf_Rune.d.run (envL trydbGl utf_Rune.env) [.sl .bs b,.i .i64 at_]=some (([(.i .i64 ((Utf.runeAt b at_).1)),(.i .i64 ((Utf.runeAt b at_).2))]:List TV)++utf_Rune.d.ps.toList.map fun q=>([.sl .bs b,.i .i64 at_]:List TV).getD q.1 .dead) :=
 ⟨by kernel_rfl,Eq.trans (b:=utf_Rune.F b at_) (by kernel_rfl) (Eq.trans (utf_Rune.goal b at_ hp) (by kernel_rfl))⟩
theorem utf_Rune.ok:SpecOK Go.Proofs.Tryd.prog (fun n=>(trydbGl n).av) 84 (Ctr.fs (utf_Rune.c,utf_Rune.sg)) :=
 meets (l:=utf_Rune.env) (all_cons utf_is.ok all_nil) utf_Rune.chk (by
   intro ins outs h
   unfold utf_Rune.c at h
   split at h
   ·obtain ⟨hp,rfl⟩:=h;exact utf_Rune.fit _ _ hp
   ·exact h.elim)
theorem utf_look.fit (b:List UInt8) (hp:(decide (b.length≤1099511627776))=true):([.sl .bs b]:List TV).length=utf_look.d.np∧utf_look.d.run (envL trydbGl utf_look.env) [.sl .bs b]=some (([(.i .i64 (((Utf.look b).1:Int))),(.i .i64 (((Utf.look b).2:Int)))]:List TV)++utf_look.d.ps.toList.map fun q=>([.sl .bs b]:List TV).getD q.1 .dead) :=
 ⟨by kernel_rfl,Eq.trans (b:=utf_look.F b) (by kernel_rfl) (Eq.trans (utf_look.goal b hp) (by kernel_rfl))⟩
theorem utf_look.ok:SpecOK Go.Proofs.Tryd.prog (fun n=>(trydbGl n).av) 67 (Ctr.fs (utf_look.c,utf_look.sg)) :=
 meets (l:=utf_look.env) (all_cons utf_Rune.ok all_nil) utf_look.chk (by
   intro ins outs h
   unfold utf_look.c at h
   split at h
   ·obtain ⟨hp,rfl⟩:=h;exact utf_look.fit _ hp
   ·exact h.elim)
theorem utf_Check.fit (b:List UInt8) (hp:(decide (b.length≤1099511627776))=true):([.sl .bs b]:List TV).length=utf_Check.d.np∧utf_Check.d.run (envL trydbGl utf_Check.env) [.sl .bs b]=some (([(.i .i64 (((Utf.look b).1:Int))),(.b (Utf.whole b))]:List TV)++utf_Check.d.ps.toList.map fun q=>([.sl .bs b]:List TV).getD q.1 .dead) :=
 ⟨by kernel_rfl,Eq.trans (b:=utf_Check.F b) (by kernel_rfl) (Eq.trans (utf_Check.goal b hp) (by kernel_rfl))⟩
theorem utf_Check.ok:SpecOK Go.Proofs.Tryd.prog (fun n=>(trydbGl n).av) 41 (Ctr.fs (utf_Check.c,utf_Check.sg)) :=
 meets (l:=utf_Check.env) (all_cons utf_look.ok all_nil) utf_Check.chk (by
   intro ins outs h
   unfold utf_Check.c at h
   split at h
   ·obtain ⟨hp,rfl⟩:=h;exact utf_Check.fit _ hp
   ·exact h.elim)
theorem ref2_Rune.fit (b:List UInt8) (at_:Int) (hp:(decide (b.length≤1099511627776))=true):([.sl .bs b,.i .i64 at_]:List TV).length=ref2_Rune.d.np∧ref2_Rune.d.run (envL trydbGl ref2_Rune.env) [.sl .bs b,.i .i64 at_]=some (([(.i .i64 ((Utf.runeAt b at_).1)),(.i .i64 ((Utf.runeAt b at_).2))]:List TV)++ref2_Rune.d.ps.toList.map fun q=>([.sl .bs b,.i .i64 at_]:List TV).getD q.1 .dead) :=
 ⟨by kernel_rfl,Eq.trans (b:=ref2_Rune.F b at_) (by kernel_rfl) (Eq.trans (ref2_Rune.goal b at_ hp) (by kernel_rfl))⟩
theorem ref2_Rune.ok:SpecOK Go.Proofs.Tryd.prog (fun n=>(trydbGl n).av) 92 (Ctr.fs (ref2_Rune.c,ref2_Rune.sg)) :=
 meets (l:=ref2_Rune.env) all_nil ref2_Rune.chk (by
   intro ins outs h
   unfold ref2_Rune.c at h
   split at h
   ·obtain ⟨hp,rfl⟩:=h;exact ref2_Rune.fit _ _ hp
   ·exact h.elim)
theorem ref2_Check.fit (b:List UInt8) (hp:(decide (b.length≤1099511627776))=true):([.sl .bs b]:List TV).length=ref2_Check.d.np∧ref2_Check.d.run (envL trydbGl ref2_Check.env) [.sl .bs b]=some (([(.i .i64 (((Utf.look b).1:Int))),(.b (Utf.whole b))]:List TV)++ref2_Check.d.ps.toList.map fun q=>([.sl .bs b]:List TV).getD q.1 .dead) :=
 ⟨by kernel_rfl,Eq.trans (b:=ref2_Check.F b) (by kernel_rfl) (Eq.trans (ref2_Check.goal b hp) (by kernel_rfl))⟩
theorem ref2_Check.ok:SpecOK Go.Proofs.Tryd.prog (fun n=>(trydbGl n).av) 78 (Ctr.fs (ref2_Check.c,ref2_Check.sg)) :=
 meets (l:=ref2_Check.env) (all_cons ref2_Rune.ok all_nil) ref2_Check.chk (by
   intro ins outs h
   unfold ref2_Check.c at h
   split at h
   ·obtain ⟨hp,rfl⟩:=h;exact ref2_Check.fit _ hp
   ·exact h.elim)
theorem ref2_Whole.fit (s:Str) (hp:(decide (s.length≤1099511627776))=true):([.s s]:List TV).length=ref2_Whole.d.np∧ref2_Whole.d.run (envL trydbGl ref2_Whole.env) [.s s]=some (([(.b (Utf.whole s))]:List TV)++ref2_Whole.d.ps.toList.map fun q=>([.s s]:List TV).getD q.1 .dead) :=
 ⟨by kernel_rfl,Eq.trans (b:=ref2_Whole.F s) (by kernel_rfl) (Eq.trans (ref2_Whole.goal s hp) (by kernel_rfl))⟩
theorem ref2_Whole.ok:SpecOK Go.Proofs.Tryd.prog (fun n=>(trydbGl n).av) 48 (Ctr.fs (ref2_Whole.c,ref2_Whole.sg)) :=
 meets (l:=ref2_Whole.env) (all_cons ref2_Check.ok all_nil) ref2_Whole.chk (by
   intro ins outs h
   unfold ref2_Whole.c at h
   split at h
   ·obtain ⟨hp,rfl⟩:=h;exact ref2_Whole.fit _ hp
   ·exact h.elim)
theorem ref2_Zero.fit (s:Str) (hp:(decide (s.length≤1099511627776))=true):([.s s]:List TV).length=ref2_Zero.d.np∧ref2_Zero.d.run (envL trydbGl ref2_Zero.env) [.s s]=some (([(.b (Utf.zero s))]:List TV)++ref2_Zero.d.ps.toList.map fun q=>([.s s]:List TV).getD q.1 .dead) :=
 ⟨by kernel_rfl,Eq.trans (b:=ref2_Zero.F s) (by kernel_rfl) (Eq.trans (ref2_Zero.goal s hp) (by kernel_rfl))⟩
theorem ref2_Zero.ok:SpecOK Go.Proofs.Tryd.prog (fun n=>(trydbGl n).av) 45 (Ctr.fs (ref2_Zero.c,ref2_Zero.sg)) :=
 meets (l:=ref2_Zero.env) all_nil ref2_Zero.chk (by
   intro ins outs h
   unfold ref2_Zero.c at h
   split at h
   ·obtain ⟨hp,rfl⟩:=h;exact ref2_Zero.fit _ hp
   ·exact h.elim)
theorem sl_IndexByte.fit (s:Str) (c:UInt8):([.s s,.u8 c]:List TV).length=sl_IndexByte.d.np∧sl_IndexByte.d.run (envL trydbGl sl_IndexByte.env) [.s s,.u8 c]=some (([(.i .i64 (Lib.indexByte s c))]:List TV)++sl_IndexByte.d.ps.toList.map fun q=>([.s s,.u8 c]:List TV).getD q.1 .dead) :=
 ⟨by kernel_rfl,Eq.trans (b:=sl_IndexByte.F s c) (by kernel_rfl) (Eq.trans (sl_IndexByte.goal s c) (by kernel_rfl))⟩
theorem sl_IndexByte.ok:SpecOK Go.Proofs.Tryd.prog (fun n=>(trydbGl n).av) 95 (Ctr.fs (sl_IndexByte.c,sl_IndexByte.sg)) :=
 meets (l:=sl_IndexByte.env) all_nil sl_IndexByte.chk (by
   intro ins outs h
   unfold sl_IndexByte.c at h
   split at h
   ·cases h;exact sl_IndexByte.fit _ _
   ·exact h.elim)
theorem sl_Index.fit (s:Str) (t:Str) (hp:(decide (t.length=1))=true):([.s s,.s t]:List TV).length=sl_Index.d.np∧sl_Index.d.run (envL trydbGl sl_Index.env) [.s s,.s t]=some (([(.i .i64 (Lib.indexByte s (t.getD 0 0)))]:List TV)++sl_Index.d.ps.toList.map fun q=>([.s s,.s t]:List TV).getD q.1 .dead) :=
 ⟨by kernel_rfl,Eq.trans (b:=sl_Index.F s t) (by kernel_rfl) (Eq.trans (sl_Index.goal s t hp) (by kernel_rfl))⟩
theorem sl_Index.ok:SpecOK Go.Proofs.Tryd.prog (fun n=>(trydbGl n).av) 85 (Ctr.fs (sl_Index.c,sl_Index.sg)) :=
 meets (l:=sl_Index.env) (all_cons sl_IndexByte.ok all_nil) sl_Index.chk (by
   intro ins outs h
   unfold sl_Index.c at h
   split at h
   ·obtain ⟨hp,rfl⟩:=h;exact sl_Index.fit _ _ hp
   ·exact h.elim)
theorem st_Index.fit (s:Str) (t:Str) (hp:(decide (t.length=1))=true):([.s s,.s t]:List TV).length=st_Index.d.np∧st_Index.d.run (envL trydbGl st_Index.env) [.s s,.s t]=some (([(.i .i64 (Lib.indexByte s (t.getD 0 0)))]:List TV)++st_Index.d.ps.toList.map fun q=>([.s s,.s t]:List TV).getD q.1 .dead) :=
 ⟨by kernel_rfl,Eq.trans (b:=st_Index.F s t) (by kernel_rfl) (Eq.trans (st_Index.goal s t hp) (by kernel_rfl))⟩
theorem st_Index.ok:SpecOK Go.Proofs.Tryd.prog (fun n=>(trydbGl n).av) 68 (Ctr.fs (st_Index.c,st_Index.sg)) :=
 meets (l:=st_Index.env) (all_cons sl_Index.ok all_nil) st_Index.chk (by
   intro ins outs h
   unfold st_Index.c at h
   split at h
   ·obtain ⟨hp,rfl⟩:=h;exact st_Index.fit _ _ hp
   ·exact h.elim)
theorem st_Contains.fit (s:Str) (t:Str) (hp:(decide (t.length=1))=true):([.s s,.s t]:List TV).length=st_Contains.d.np∧st_Contains.d.run (envL trydbGl st_Contains.env) [.s s,.s t]=some (([(.b (decide (0≤Lib.indexByte s (t.getD 0 0))))]:List TV)++st_Contains.d.ps.toList.map fun q=>([.s s,.s t]:List TV).getD q.1 .dead) :=
 ⟨by kernel_rfl,Eq.trans (b:=st_Contains.F s t) (by kernel_rfl) (Eq.trans (st_Contains.goal s t hp) (by kernel_rfl))⟩
theorem st_Contains.ok:SpecOK Go.Proofs.Tryd.prog (fun n=>(trydbGl n).av) 43 (Ctr.fs (st_Contains.c,st_Contains.sg)) :=
 meets (l:=st_Contains.env) (all_cons st_Index.ok all_nil) st_Contains.chk (by
   intro ins outs h
   unfold st_Contains.c at h
   split at h
   ·obtain ⟨hp,rfl⟩:=h;exact st_Contains.fit _ _ hp
   ·exact h.elim)
theorem tree_Name.fit (k:Int):([.i .i64 k]:List TV).length=tree_Name.d.np∧tree_Name.d.run (envL trydbGl tree_Name.env) [.i .i64 k]=some (([(.s (Tree.name k))]:List TV)++tree_Name.d.ps.toList.map fun q=>([.i .i64 k]:List TV).getD q.1 .dead) :=
 ⟨by kernel_rfl,Eq.trans (b:=tree_Name.F k) (by kernel_rfl) (Eq.trans (tree_Name.goal k) (by kernel_rfl))⟩
theorem tree_Name.ok:SpecOK Go.Proofs.Tryd.prog (fun n=>(trydbGl n).av) 52 (Ctr.fs (tree_Name.c,tree_Name.sg)) :=
 meets (l:=tree_Name.env) all_nil tree_Name.chk (by
   intro ins outs h
   unfold tree_Name.c at h
   split at h
   ·cases h;exact tree_Name.fit _
   ·exact h.elim)
theorem tree_fields.fit (v_kind:Int) (v_bits:UInt64) (v_high:UInt64) (v_low:UInt64) (v_text:Str) (v_more:Str) (v_sub:Int) (v_bytes:List UInt8) (v_kids:List Fld):([.ag [.i .i64 v_kind,.u64 v_bits,.u64 v_high,.u64 v_low,.s v_text,.s v_more,.i .i64 v_sub,.sl .bs v_bytes,.sl .fl v_kids]]:List TV).length=tree_fields.d.np∧tree_fields.d.run (envL trydbGl tree_fields.env) [.ag [.i .i64 v_kind,.u64 v_bits,.u64 v_high,.u64 v_low,.s v_text,.s v_more,.i .i64 v_sub,.sl .bs v_bytes,.sl .fl v_kids]]=some (([(.b (Tree.fieldsOK (Val.mk v_kind v_bits v_high v_low v_text v_more v_sub v_bytes v_kids)))]:List TV)++tree_fields.d.ps.toList.map fun q=>([.ag [.i .i64 v_kind,.u64 v_bits,.u64 v_high,.u64 v_low,.s v_text,.s v_more,.i .i64 v_sub,.sl .bs v_bytes,.sl .fl v_kids]]:List TV).getD q.1 .dead) :=
 ⟨by kernel_rfl,Eq.trans (b:=tree_fields.F (Val.mk v_kind v_bits v_high v_low v_text v_more v_sub v_bytes v_kids)) (by kernel_rfl) (Eq.trans (tree_fields.goal (Val.mk v_kind v_bits v_high v_low v_text v_more v_sub v_bytes v_kids)) (by kernel_rfl))⟩
theorem tree_fields.ok:SpecOK Go.Proofs.Tryd.prog (fun n=>(trydbGl n).av) 53 (Ctr.fs (tree_fields.c,tree_fields.sg)) :=
 meets (l:=tree_fields.env) all_nil tree_fields.chk (by
   intro ins outs h
   unfold tree_fields.c at h
   split at h
   ·cases h;exact tree_fields.fit _ _ _ _ _ _ _ _ _
   ·exact h.elim)
theorem tree_whole.fit (s:Str) (plain:Bool) (hp:(decide (s.length≤1099511627776))=true):([.s s,.b plain]:List TV).length=tree_whole.d.np∧tree_whole.d.run (envL trydbGl tree_whole.env) [.s s,.b plain]=some (([(.b (Tree.wholeT s plain))]:List TV)++tree_whole.d.ps.toList.map fun q=>([.s s,.b plain]:List TV).getD q.1 .dead) :=
 ⟨by kernel_rfl,Eq.trans (b:=tree_whole.F s plain) (by kernel_rfl) (Eq.trans (tree_whole.goal s plain hp) (by kernel_rfl))⟩
theorem tree_whole.ok:SpecOK Go.Proofs.Tryd.prog (fun n=>(trydbGl n).av) 54 (Ctr.fs (tree_whole.c,tree_whole.sg)) :=
 meets (l:=tree_whole.env) (all_cons utf_Check.ok (all_cons st_Contains.ok all_nil)) tree_whole.chk (by
   intro ins outs h
   unfold tree_whole.c at h
   split at h
   ·obtain ⟨hp,rfl⟩:=h;exact tree_whole.fit _ _ hp
   ·exact h.elim)
theorem tree_check.fit (n:Nat) (v_kind:Int) (v_bits:UInt64) (v_high:UInt64) (v_low:UInt64) (v_text:Str) (v_more:Str) (v_sub:Int) (v_bytes:List UInt8) (v_kids:List Fld) (name:Str) (path:List Int) (hp:((decide (Fld.bulk (Fld.of name (Val.mk v_kind v_bits v_high v_low v_text v_more v_sub v_bytes v_kids))+path.length≤1099511627776))&&decide ((Fld.bulk (Fld.of name (Val.mk v_kind v_bits v_high v_low v_text v_more v_sub v_bytes v_kids)))<n+1))=true):([.ag [.i .i64 v_kind,.u64 v_bits,.u64 v_high,.u64 v_low,.s v_text,.s v_more,.i .i64 v_sub,.sl .bs v_bytes,.sl .fl v_kids],.s name,.sl .is path]:List TV).length=tree_check.d.np∧tree_check.d.run (envL trydbGl (tree_check.env n)) [.ag [.i .i64 v_kind,.u64 v_bits,.u64 v_high,.u64 v_low,.s v_text,.s v_more,.i .i64 v_sub,.sl .bs v_bytes,.sl .fl v_kids],.s name,.sl .is path]=some (([(.sl .is ((Tree.chkF (Fld.of name (Val.mk v_kind v_bits v_high v_low v_text v_more v_sub v_bytes v_kids)) path).1)),(.i .i64 ((Tree.chkF (Fld.of name (Val.mk v_kind v_bits v_high v_low v_text v_more v_sub v_bytes v_kids)) path).2))]:List TV)++tree_check.d.ps.toList.map fun q=>([.ag [.i .i64 v_kind,.u64 v_bits,.u64 v_high,.u64 v_low,.s v_text,.s v_more,.i .i64 v_sub,.sl .bs v_bytes,.sl .fl v_kids],.s name,.sl .is path]:List TV).getD q.1 .dead) :=
 ⟨by kernel_rfl,Eq.trans (b:=tree_check.F n (Val.mk v_kind v_bits v_high v_low v_text v_more v_sub v_bytes v_kids) name path) (by kernel_rfl) (Eq.trans (tree_check.goal n (Val.mk v_kind v_bits v_high v_low v_text v_more v_sub v_bytes v_kids) name path hp) (by kernel_rfl))⟩
theorem tcheck.oks : ∀ n : Nat, (SpecOK Go.Proofs.Tryd.prog (fun n => (trydbGl n).av) 35 (Ctr.fs (tree_check.cn n, tree_check.sg))) := by
  intro n
  induction n with
  | zero => exact spec_zero (by
      intro ti to_ h
      unfold tree_check.cn at h
      split at h
      · obtain ⟨h, _⟩ := h; simp at h
      · exact h.elim)
  | succ n ih =>
    have ih0 := ih
    exact meets (l := tree_check.env n) (all_cons ih0 (all_cons clone_is.ok (all_cons tree_Name.ok (all_cons tree_fields.ok (all_cons tree_whole.ok all_nil))))) (tree_check.chk n) (by
      intro ins outs h
      unfold tree_check.cn at h
      split at h
      · obtain ⟨hp, rfl⟩ := h; exact tree_check.fit n _ _ _ _ _ _ _ _ _ _ _ hp
      · exact h.elim)
theorem tree_check.ok:SpecOK Go.Proofs.Tryd.prog (fun n=>(trydbGl n).av) 35 (Ctr.fs (tree_check.c,tree_check.sg)):=spec_sub fun ti to_ h=>by
 unfold tree_check.c at h
 split at h
 ·obtain ⟨hp,rfl⟩:=h;exact ⟨tree_check.cn (_+1),(tcheck.oks _),Bool.and_eq_true_iff.2 ⟨hp,decide_eq_true (Nat.lt_succ_self _)⟩,rfl⟩
 ·exact h.elim
theorem tree_Check.fit (v_kind:Int) (v_bits:UInt64) (v_high:UInt64) (v_low:UInt64) (v_text:Str) (v_more:Str) (v_sub:Int) (v_bytes:List UInt8) (v_kids:List Fld) (hp:(decide (Fld.bulk (Fld.of [] (Val.mk v_kind v_bits v_high v_low v_text v_more v_sub v_bytes v_kids))≤1099511627776))=true):([.ag [.i .i64 v_kind,.u64 v_bits,.u64 v_high,.u64 v_low,.s v_text,.s v_more,.i .i64 v_sub,.sl .bs v_bytes,.sl .fl v_kids]]:List TV).length=tree_Check.d.np∧tree_Check.d.run (envL trydbGl tree_Check.env) [.ag [.i .i64 v_kind,.u64 v_bits,.u64 v_high,.u64 v_low,.s v_text,.s v_more,.i .i64 v_sub,.sl .bs v_bytes,.sl .fl v_kids]]=some (([(.sl .is ((Tree.chkF (Fld.of [] (Val.mk v_kind v_bits v_high v_low v_text v_more v_sub v_bytes v_kids)) []).1)),(.i .i64 ((Tree.chkF (Fld.of [] (Val.mk v_kind v_bits v_high v_low v_text v_more v_sub v_bytes v_kids)) []).2))]:List TV)++tree_Check.d.ps.toList.map fun q=>([.ag [.i .i64 v_kind,.u64 v_bits,.u64 v_high,.u64 v_low,.s v_text,.s v_more,.i .i64 v_sub,.sl .bs v_bytes,.sl .fl v_kids]]:List TV).getD q.1 .dead) :=
 ⟨by kernel_rfl,Eq.trans (b:=tree_Check.F (Val.mk v_kind v_bits v_high v_low v_text v_more v_sub v_bytes v_kids)) (by kernel_rfl) (Eq.trans (tree_Check.goal (Val.mk v_kind v_bits v_high v_low v_text v_more v_sub v_bytes v_kids) hp) (by kernel_rfl))⟩
theorem tree_Check.ok:SpecOK Go.Proofs.Tryd.prog (fun n=>(trydbGl n).av) 21 (Ctr.fs (tree_Check.c,tree_Check.sg)) :=
 meets (l:=tree_Check.env) (all_cons tree_check.ok all_nil) tree_Check.chk (by
   intro ins outs h
   unfold tree_Check.c at h
   split at h
   ·obtain ⟨hp,rfl⟩:=h;exact tree_Check.fit _ _ _ _ _ _ _ _ _ hp
   ·exact h.elim)
theorem ref17_kinds.fit:([]:List TV).length=ref17_kinds.d.np∧ref17_kinds.d.run (envL trydbGl ref17_kinds.env) []=some (([(.sl .is (Tree.kinds))]:List TV)++ref17_kinds.d.ps.toList.map fun q=>([]:List TV).getD q.1 .dead) :=
 ⟨by kernel_rfl,Eq.trans (b:=ref17_kinds.F ) (by kernel_rfl) (Eq.trans (ref17_kinds.goal ) (by kernel_rfl))⟩
theorem ref17_kinds.ok:SpecOK Go.Proofs.Tryd.prog (fun n=>(trydbGl n).av) 93 (Ctr.fs (ref17_kinds.c,ref17_kinds.sg)) :=
 meets (l:=ref17_kinds.env) all_nil ref17_kinds.chk (by
   intro ins outs h
   unfold ref17_kinds.c at h
   split at h
   ·cases h;exact ref17_kinds.fit
   ·exact h.elim)
theorem ref17_Name.fit (k:Int):([.i .i64 k]:List TV).length=ref17_Name.d.np∧ref17_Name.d.run (envL trydbGl ref17_Name.env) [.i .i64 k]=some (([(.s (Tree.name k))]:List TV)++ref17_Name.d.ps.toList.map fun q=>([.i .i64 k]:List TV).getD q.1 .dead) :=
 ⟨by kernel_rfl,Eq.trans (b:=ref17_Name.F k) (by kernel_rfl) (Eq.trans (ref17_Name.goal k) (by kernel_rfl))⟩
theorem ref17_Name.ok:SpecOK Go.Proofs.Tryd.prog (fun n=>(trydbGl n).av) 79 (Ctr.fs (ref17_Name.c,ref17_Name.sg)) :=
 meets (l:=ref17_Name.env) (all_cons ref17_kinds.ok all_nil) ref17_Name.chk (by
   intro ins outs h
   unfold ref17_Name.c at h
   split at h
   ·cases h;exact ref17_Name.fit _
   ·exact h.elim)
theorem ref17_has.fit (k:Int):([.i .i64 k]:List TV).length=ref17_has.d.np∧ref17_has.d.run (envL trydbGl ref17_has.env) [.i .i64 k]=some (([(.b (Tree.hasN 0 k)),(.b (Tree.hasN 1 k)),(.b (Tree.hasN 2 k)),(.b (Tree.hasN 3 k)),(.b (Tree.hasN 4 k)),(.b (Tree.hasN 5 k)),(.b (Tree.hasN 6 k))]:List TV)++ref17_has.d.ps.toList.map fun q=>([.i .i64 k]:List TV).getD q.1 .dead) :=
 ⟨by kernel_rfl,Eq.trans (b:=ref17_has.F k) (by kernel_rfl) (Eq.trans (ref17_has.goal k) (by kernel_rfl))⟩
theorem ref17_has.ok:SpecOK Go.Proofs.Tryd.prog (fun n=>(trydbGl n).av) 80 (Ctr.fs (ref17_has.c,ref17_has.sg)) :=
 meets (l:=ref17_has.env) all_nil ref17_has.chk (by
   intro ins outs h
   unfold ref17_has.c at h
   split at h
   ·cases h;exact ref17_has.fit _
   ·exact h.elim)
theorem ref17_own.fit (v_kind:Int) (v_bits:UInt64) (v_high:UInt64) (v_low:UInt64) (v_text:Str) (v_more:Str) (v_sub:Int) (v_bytes:List UInt8) (v_kids:List Fld) (hp:(decide (Fld.bulk (Fld.of [] (Val.mk v_kind v_bits v_high v_low v_text v_more v_sub v_bytes v_kids))≤1099511627776))=true):([.ag [.i .i64 v_kind,.u64 v_bits,.u64 v_high,.u64 v_low,.s v_text,.s v_more,.i .i64 v_sub,.sl .bs v_bytes,.sl .fl v_kids]]:List TV).length=ref17_own.d.np∧ref17_own.d.run (envL trydbGl ref17_own.env) [.ag [.i .i64 v_kind,.u64 v_bits,.u64 v_high,.u64 v_low,.s v_text,.s v_more,.i .i64 v_sub,.sl .bs v_bytes,.sl .fl v_kids]]=some (([(.i .i64 (Tree.own (Val.mk v_kind v_bits v_high v_low v_text v_more v_sub v_bytes v_kids)))]:List TV)++ref17_own.d.ps.toList.map fun q=>([.ag [.i .i64 v_kind,.u64 v_bits,.u64 v_high,.u64 v_low,.s v_text,.s v_more,.i .i64 v_sub,.sl .bs v_bytes,.sl .fl v_kids]]:List TV).getD q.1 .dead) :=
 ⟨by kernel_rfl,Eq.trans (b:=ref17_own.F (Val.mk v_kind v_bits v_high v_low v_text v_more v_sub v_bytes v_kids)) (by kernel_rfl) (Eq.trans (ref17_own.goal (Val.mk v_kind v_bits v_high v_low v_text v_more v_sub v_bytes v_kids) hp) (by kernel_rfl))⟩
theorem ref17_own.ok:SpecOK Go.Proofs.Tryd.prog (fun n=>(trydbGl n).av) 49 (Ctr.fs (ref17_own.c,ref17_own.sg)) :=
 meets (l:=ref17_own.env) (all_cons ref2_Zero.ok (all_cons ref2_Whole.ok (all_cons ref17_Name.ok (all_cons ref17_has.ok all_nil)))) ref17_own.chk (by
   intro ins outs h
   unfold ref17_own.c at h
   split at h
   ·obtain ⟨hp,rfl⟩:=h;exact ref17_own.fit _ _ _ _ _ _ _ _ _ hp
   ·exact h.elim)
theorem ref17_Named.fit (s:Str) (hp:(decide (s.length≤1099511627776))=true):([.s s]:List TV).length=ref17_Named.d.np∧ref17_Named.d.run (envL trydbGl ref17_Named.env) [.s s]=some (([(.b (Tree.wholeT s true))]:List TV)++ref17_Named.d.ps.toList.map fun q=>([.s s]:List TV).getD q.1 .dead) :=
 ⟨by kernel_rfl,Eq.trans (b:=ref17_Named.F s) (by kernel_rfl) (Eq.trans (ref17_Named.goal s hp) (by kernel_rfl))⟩
theorem ref17_Named.ok:SpecOK Go.Proofs.Tryd.prog (fun n=>(trydbGl n).av) 50 (Ctr.fs (ref17_Named.c,ref17_Named.sg)) :=
 meets (l:=ref17_Named.env) (all_cons ref2_Zero.ok (all_cons ref2_Whole.ok all_nil)) ref17_Named.chk (by
   intro ins outs h
   unfold ref17_Named.c at h
   split at h
   ·obtain ⟨hp,rfl⟩:=h;exact ref17_Named.fit _ hp
   ·exact h.elim)
theorem ref17_longer.fit (p:List Int) (k:Int) (hp:(decide (p.length≤1099511627776))=true):([.sl .is p,.i .i64 k]:List TV).length=ref17_longer.d.np∧ref17_longer.d.run (envL trydbGl ref17_longer.env) [.sl .is p,.i .i64 k]=some (([(.sl .is ((p++[k])))]:List TV)++ref17_longer.d.ps.toList.map fun q=>([.sl .is p,.i .i64 k]:List TV).getD q.1 .dead) :=
 ⟨by kernel_rfl,Eq.trans (b:=ref17_longer.F p k) (by kernel_rfl) (Eq.trans (ref17_longer.goal p k hp) (by kernel_rfl))⟩
theorem ref17_longer.ok:SpecOK Go.Proofs.Tryd.prog (fun n=>(trydbGl n).av) 51 (Ctr.fs (ref17_longer.c,ref17_longer.sg)) :=
 meets (l:=ref17_longer.env) all_nil ref17_longer.chk (by
   intro ins outs h
   unfold ref17_longer.c at h
   split at h
   ·obtain ⟨hp,rfl⟩:=h;exact ref17_longer.fit _ _ hp
   ·exact h.elim)
theorem ref17_check.fit (n:Nat) (v_kind:Int) (v_bits:UInt64) (v_high:UInt64) (v_low:UInt64) (v_text:Str) (v_more:Str) (v_sub:Int) (v_bytes:List UInt8) (v_kids:List Fld) (name:Str) (p:List Int) (hp:((decide (Fld.bulk (Fld.of name (Val.mk v_kind v_bits v_high v_low v_text v_more v_sub v_bytes v_kids))+p.length≤1099511627776))&&decide ((Fld.bulk (Fld.of name (Val.mk v_kind v_bits v_high v_low v_text v_more v_sub v_bytes v_kids)))<n+1))=true):([.ag [.i .i64 v_kind,.u64 v_bits,.u64 v_high,.u64 v_low,.s v_text,.s v_more,.i .i64 v_sub,.sl .bs v_bytes,.sl .fl v_kids],.s name,.sl .is p]:List TV).length=ref17_check.d.np∧ref17_check.d.run (envL trydbGl (ref17_check.env n)) [.ag [.i .i64 v_kind,.u64 v_bits,.u64 v_high,.u64 v_low,.s v_text,.s v_more,.i .i64 v_sub,.sl .bs v_bytes,.sl .fl v_kids],.s name,.sl .is p]=some (([(.sl .is ((Tree.chkF (Fld.of name (Val.mk v_kind v_bits v_high v_low v_text v_more v_sub v_bytes v_kids)) p).1)),(.i .i64 ((Tree.chkF (Fld.of name (Val.mk v_kind v_bits v_high v_low v_text v_more v_sub v_bytes v_kids)) p).2))]:List TV)++ref17_check.d.ps.toList.map fun q=>([.ag [.i .i64 v_kind,.u64 v_bits,.u64 v_high,.u64 v_low,.s v_text,.s v_more,.i .i64 v_sub,.sl .bs v_bytes,.sl .fl v_kids],.s name,.sl .is p]:List TV).getD q.1 .dead) :=
 ⟨by kernel_rfl,Eq.trans (b:=ref17_check.F n (Val.mk v_kind v_bits v_high v_low v_text v_more v_sub v_bytes v_kids) name p) (by kernel_rfl) (Eq.trans (ref17_check.goal n (Val.mk v_kind v_bits v_high v_low v_text v_more v_sub v_bytes v_kids) name p hp) (by kernel_rfl))⟩
theorem rcheck.oks : ∀ n : Nat, (SpecOK Go.Proofs.Tryd.prog (fun n => (trydbGl n).av) 33 (Ctr.fs (ref17_check.cn n, ref17_check.sg))) := by
  intro n
  induction n with
  | zero => exact spec_zero (by
      intro ti to_ h
      unfold ref17_check.cn at h
      split at h
      · obtain ⟨h, _⟩ := h; simp at h
      · exact h.elim)
  | succ n ih =>
    have ih0 := ih
    exact meets (l := ref17_check.env n) (all_cons ih0 (all_cons ref17_own.ok (all_cons ref17_Named.ok (all_cons ref17_longer.ok all_nil)))) (ref17_check.chk n) (by
      intro ins outs h
      unfold ref17_check.cn at h
      split at h
      · obtain ⟨hp, rfl⟩ := h; exact ref17_check.fit n _ _ _ _ _ _ _ _ _ _ _ hp
      · exact h.elim)
theorem ref17_check.ok:SpecOK Go.Proofs.Tryd.prog (fun n=>(trydbGl n).av) 33 (Ctr.fs (ref17_check.c,ref17_check.sg)):=spec_sub fun ti to_ h=>by
 unfold ref17_check.c at h
 split at h
 ·obtain ⟨hp,rfl⟩:=h;exact ⟨ref17_check.cn (_+1),(rcheck.oks _),Bool.and_eq_true_iff.2 ⟨hp,decide_eq_true (Nat.lt_succ_self _)⟩,rfl⟩
 ·exact h.elim
theorem ref17_Check.fit (v_kind:Int) (v_bits:UInt64) (v_high:UInt64) (v_low:UInt64) (v_text:Str) (v_more:Str) (v_sub:Int) (v_bytes:List UInt8) (v_kids:List Fld) (hp:(decide (Fld.bulk (Fld.of [] (Val.mk v_kind v_bits v_high v_low v_text v_more v_sub v_bytes v_kids))≤1099511627776))=true):([.ag [.i .i64 v_kind,.u64 v_bits,.u64 v_high,.u64 v_low,.s v_text,.s v_more,.i .i64 v_sub,.sl .bs v_bytes,.sl .fl v_kids]]:List TV).length=ref17_Check.d.np∧ref17_Check.d.run (envL trydbGl ref17_Check.env) [.ag [.i .i64 v_kind,.u64 v_bits,.u64 v_high,.u64 v_low,.s v_text,.s v_more,.i .i64 v_sub,.sl .bs v_bytes,.sl .fl v_kids]]=some (([(.sl .is ((Tree.chkF (Fld.of [] (Val.mk v_kind v_bits v_high v_low v_text v_more v_sub v_bytes v_kids)) []).1)),(.i .i64 ((Tree.chkF (Fld.of [] (Val.mk v_kind v_bits v_high v_low v_text v_more v_sub v_bytes v_kids)) []).2))]:List TV)++ref17_Check.d.ps.toList.map fun q=>([.ag [.i .i64 v_kind,.u64 v_bits,.u64 v_high,.u64 v_low,.s v_text,.s v_more,.i .i64 v_sub,.sl .bs v_bytes,.sl .fl v_kids]]:List TV).getD q.1 .dead) :=
 ⟨by kernel_rfl,Eq.trans (b:=ref17_Check.F (Val.mk v_kind v_bits v_high v_low v_text v_more v_sub v_bytes v_kids)) (by kernel_rfl) (Eq.trans (ref17_Check.goal (Val.mk v_kind v_bits v_high v_low v_text v_more v_sub v_bytes v_kids) hp) (by kernel_rfl))⟩
theorem ref17_Check.ok:SpecOK Go.Proofs.Tryd.prog (fun n=>(trydbGl n).av) 19 (Ctr.fs (ref17_Check.c,ref17_Check.sg)) :=
 meets (l:=ref17_Check.env) (all_cons ref17_check.ok all_nil) ref17_Check.chk (by
   intro ins outs h
   unfold ref17_Check.c at h
   split at h
   ·obtain ⟨hp,rfl⟩:=h;exact ref17_Check.fit _ _ _ _ _ _ _ _ _ hp
   ·exact h.elim)
theorem ref17_Own.fit (a_kind:Int) (a_bits:UInt64) (a_high:UInt64) (a_low:UInt64) (a_text:Str) (a_more:Str) (a_sub:Int) (a_bytes:List UInt8) (a_kids:List Fld) (b_kind:Int) (b_bits:UInt64) (b_high:UInt64) (b_low:UInt64) (b_text:Str) (b_more:Str) (b_sub:Int) (b_bytes:List UInt8) (b_kids:List Fld):([.ag [.i .i64 a_kind,.u64 a_bits,.u64 a_high,.u64 a_low,.s a_text,.s a_more,.i .i64 a_sub,.sl .bs a_bytes,.sl .fl a_kids],.ag [.i .i64 b_kind,.u64 b_bits,.u64 b_high,.u64 b_low,.s b_text,.s b_more,.i .i64 b_sub,.sl .bs b_bytes,.sl .fl b_kids]]:List TV).length=ref17_Own.d.np∧ref17_Own.d.run (envL trydbGl ref17_Own.env) [.ag [.i .i64 a_kind,.u64 a_bits,.u64 a_high,.u64 a_low,.s a_text,.s a_more,.i .i64 a_sub,.sl .bs a_bytes,.sl .fl a_kids],.ag [.i .i64 b_kind,.u64 b_bits,.u64 b_high,.u64 b_low,.s b_text,.s b_more,.i .i64 b_sub,.sl .bs b_bytes,.sl .fl b_kids]]=some (([(.b (Tree.ownSame (Val.mk a_kind a_bits a_high a_low a_text a_more a_sub a_bytes a_kids) (Val.mk b_kind b_bits b_high b_low b_text b_more b_sub b_bytes b_kids)))]:List TV)++ref17_Own.d.ps.toList.map fun q=>([.ag [.i .i64 a_kind,.u64 a_bits,.u64 a_high,.u64 a_low,.s a_text,.s a_more,.i .i64 a_sub,.sl .bs a_bytes,.sl .fl a_kids],.ag [.i .i64 b_kind,.u64 b_bits,.u64 b_high,.u64 b_low,.s b_text,.s b_more,.i .i64 b_sub,.sl .bs b_bytes,.sl .fl b_kids]]:List TV).getD q.1 .dead) :=
 ⟨by kernel_rfl,Eq.trans (b:=ref17_Own.F (Val.mk a_kind a_bits a_high a_low a_text a_more a_sub a_bytes a_kids) (Val.mk b_kind b_bits b_high b_low b_text b_more b_sub b_bytes b_kids)) (by kernel_rfl) (Eq.trans (ref17_Own.goal (Val.mk a_kind a_bits a_high a_low a_text a_more a_sub a_bytes a_kids) (Val.mk b_kind b_bits b_high b_low b_text b_more b_sub b_bytes b_kids)) (by kernel_rfl))⟩
theorem ref17_Own.ok:SpecOK Go.Proofs.Tryd.prog (fun n=>(trydbGl n).av) 31 (Ctr.fs (ref17_Own.c,ref17_Own.sg)) :=
 meets (l:=ref17_Own.env) all_nil ref17_Own.chk (by
   intro ins outs h
   unfold ref17_Own.c at h
   split at h
   ·cases h;exact ref17_Own.fit _ _ _ _ _ _ _ _ _ _ _ _ _ _ _ _ _ _
   ·exact h.elim)
theorem ref17_Same.fit (n:Nat) (a_kind:Int) (a_bits:UInt64) (a_high:UInt64) (a_low:UInt64) (a_text:Str) (a_more:Str) (a_sub:Int) (a_bytes:List UInt8) (a_kids:List Fld) (b_kind:Int) (b_bits:UInt64) (b_high:UInt64) (b_low:UInt64) (b_text:Str) (b_more:Str) (b_sub:Int) (b_bytes:List UInt8) (b_kids:List Fld) (hp:((decide (Fld.bulk (Fld.of [] (Val.mk a_kind a_bits a_high a_low a_text a_more a_sub a_bytes a_kids))≤1099511627776))&&decide ((Fld.bulk (Fld.of [] (Val.mk a_kind a_bits a_high a_low a_text a_more a_sub a_bytes a_kids)))<n+1))=true):([.ag [.i .i64 a_kind,.u64 a_bits,.u64 a_high,.u64 a_low,.s a_text,.s a_more,.i .i64 a_sub,.sl .bs a_bytes,.sl .fl a_kids],.ag [.i .i64 b_kind,.u64 b_bits,.u64 b_high,.u64 b_low,.s b_text,.s b_more,.i .i64 b_sub,.sl .bs b_bytes,.sl .fl b_kids]]:List TV).length=ref17_Same.d.np∧ref17_Same.d.run (envL trydbGl (ref17_Same.env n)) [.ag [.i .i64 a_kind,.u64 a_bits,.u64 a_high,.u64 a_low,.s a_text,.s a_more,.i .i64 a_sub,.sl .bs a_bytes,.sl .fl a_kids],.ag [.i .i64 b_kind,.u64 b_bits,.u64 b_high,.u64 b_low,.s b_text,.s b_more,.i .i64 b_sub,.sl .bs b_bytes,.sl .fl b_kids]]=some (([(.b (Tree.same (Val.mk a_kind a_bits a_high a_low a_text a_more a_sub a_bytes a_kids) (Val.mk b_kind b_bits b_high b_low b_text b_more b_sub b_bytes b_kids)))]:List TV)++ref17_Same.d.ps.toList.map fun q=>([.ag [.i .i64 a_kind,.u64 a_bits,.u64 a_high,.u64 a_low,.s a_text,.s a_more,.i .i64 a_sub,.sl .bs a_bytes,.sl .fl a_kids],.ag [.i .i64 b_kind,.u64 b_bits,.u64 b_high,.u64 b_low,.s b_text,.s b_more,.i .i64 b_sub,.sl .bs b_bytes,.sl .fl b_kids]]:List TV).getD q.1 .dead) :=
 ⟨by kernel_rfl,Eq.trans (b:=ref17_Same.F n (Val.mk a_kind a_bits a_high a_low a_text a_more a_sub a_bytes a_kids) (Val.mk b_kind b_bits b_high b_low b_text b_more b_sub b_bytes b_kids)) (by kernel_rfl) (Eq.trans (ref17_Same.goal n (Val.mk a_kind a_bits a_high a_low a_text a_more a_sub a_bytes a_kids) (Val.mk b_kind b_bits b_high b_low b_text b_more b_sub b_bytes b_kids) hp) (by kernel_rfl))⟩
theorem rsame.oks : ∀ n : Nat, (SpecOK Go.Proofs.Tryd.prog (fun n => (trydbGl n).av) 17 (Ctr.fs (ref17_Same.cn n, ref17_Same.sg))) := by
  intro n
  induction n with
  | zero => exact spec_zero (by
      intro ti to_ h
      unfold ref17_Same.cn at h
      split at h
      · obtain ⟨h, _⟩ := h; simp at h
      · exact h.elim)
  | succ n ih =>
    have ih0 := ih
    exact meets (l := ref17_Same.env n) (all_cons ih0 (all_cons ref17_Own.ok all_nil)) (ref17_Same.chk n) (by
      intro ins outs h
      unfold ref17_Same.cn at h
      split at h
      · obtain ⟨hp, rfl⟩ := h; exact ref17_Same.fit n _ _ _ _ _ _ _ _ _ _ _ _ _ _ _ _ _ _ hp
      · exact h.elim)
theorem ref17_Same.ok:SpecOK Go.Proofs.Tryd.prog (fun n=>(trydbGl n).av) 17 (Ctr.fs (ref17_Same.c,ref17_Same.sg)):=spec_sub fun ti to_ h=>by
 unfold ref17_Same.c at h
 split at h
 ·obtain ⟨hp,rfl⟩:=h;exact ⟨ref17_Same.cn (_+1),(rsame.oks _),Bool.and_eq_true_iff.2 ⟨hp,decide_eq_true (Nat.lt_succ_self _)⟩,rfl⟩
 ·exact h.elim
theorem book_Room.fit (left:Int) (sizes:List Int) (hp:(decide (left≤10000∧sizes.length≤10)&&sizes.all (fun s=>decide (0≤s)))=true):([.i .i64 left,.sl .is sizes]:List TV).length=book_Room.d.np∧book_Room.d.run (envL trydbGl book_Room.env) [.i .i64 left,.sl .is sizes]=some (([(.i .i64 (Book.room left sizes))]:List TV)++book_Room.d.ps.toList.map fun q=>([.i .i64 left,.sl .is sizes]:List TV).getD q.1 .dead) :=
 ⟨by kernel_rfl,Eq.trans (b:=book_Room.F left sizes) (by kernel_rfl) (Eq.trans (book_Room.goal left sizes hp) (by kernel_rfl))⟩
theorem book_Room.ok:SpecOK Go.Proofs.Tryd.prog (fun n=>(trydbGl n).av) 34 (Ctr.fs (book_Room.c,book_Room.sg)) :=
 meets (l:=book_Room.env) all_nil book_Room.chk (by
   intro ins outs h
   unfold book_Room.c at h
   split at h
   ·obtain ⟨hp,rfl⟩:=h;exact book_Room.fit _ _ hp
   ·exact h.elim)
theorem ref28_Same.fit (n:Nat) (a_kind:Int) (a_n:UInt64) (a_bytes:List UInt8) (a_text:Str) (a_kids:List Itm) (b_kind:Int) (b_n:UInt64) (b_bytes:List UInt8) (b_text:Str) (b_kids:List Itm) (hp:((decide (Itm.bulk (Itm.of (Itv.mk a_kind a_n a_bytes a_text a_kids))≤1099511627776))&&decide ((Itm.bulk (Itm.of (Itv.mk a_kind a_n a_bytes a_text a_kids)))<n+1))=true):([.ag [.i .i64 a_kind,.u64 a_n,.sl .bs a_bytes,.s a_text,.sl .il a_kids],.ag [.i .i64 b_kind,.u64 b_n,.sl .bs b_bytes,.s b_text,.sl .il b_kids]]:List TV).length=ref28_Same.d.np∧ref28_Same.d.run (envL trydbGl (ref28_Same.env n)) [.ag [.i .i64 a_kind,.u64 a_n,.sl .bs a_bytes,.s a_text,.sl .il a_kids],.ag [.i .i64 b_kind,.u64 b_n,.sl .bs b_bytes,.s b_text,.sl .il b_kids]]=some (([(.b (Itm.same (Itm.of (Itv.mk a_kind a_n a_bytes a_text a_kids)) (Itm.of (Itv.mk b_kind b_n b_bytes b_text b_kids))))]:List TV)++ref28_Same.d.ps.toList.map fun q=>([.ag [.i .i64 a_kind,.u64 a_n,.sl .bs a_bytes,.s a_text,.sl .il a_kids],.ag [.i .i64 b_kind,.u64 b_n,.sl .bs b_bytes,.s b_text,.sl .il b_kids]]:List TV).getD q.1 .dead) :=
 ⟨by kernel_rfl,Eq.trans (b:=ref28_Same.F n (Itv.mk a_kind a_n a_bytes a_text a_kids) (Itv.mk b_kind b_n b_bytes b_text b_kids)) (by kernel_rfl) (Eq.trans (ref28_Same.goal n (Itv.mk a_kind a_n a_bytes a_text a_kids) (Itv.mk b_kind b_n b_bytes b_text b_kids) hp) (by kernel_rfl))⟩
theorem rsame28.oks : ∀ n : Nat, (SpecOK Go.Proofs.Tryd.prog (fun n => (trydbGl n).av) 13 (Ctr.fs (ref28_Same.cn n, ref28_Same.sg))) := by
  intro n
  induction n with
  | zero => exact spec_zero (by
      intro ti to_ h
      unfold ref28_Same.cn at h
      split at h
      · obtain ⟨h, _⟩ := h; simp at h
      · exact h.elim)
  | succ n ih =>
    have ih0 := ih
    exact meets (l := ref28_Same.env n) (all_cons ih0 all_nil) (ref28_Same.chk n) (by
      intro ins outs h
      unfold ref28_Same.cn at h
      split at h
      · obtain ⟨hp, rfl⟩ := h; exact ref28_Same.fit n _ _ _ _ _ _ _ _ _ _ hp
      · exact h.elim)
theorem ref28_Same.ok:SpecOK Go.Proofs.Tryd.prog (fun n=>(trydbGl n).av) 13 (Ctr.fs (ref28_Same.c,ref28_Same.sg)):=spec_sub fun ti to_ h=>by
 unfold ref28_Same.c at h
 split at h
 ·obtain ⟨hp,rfl⟩:=h;exact ⟨ref28_Same.cn (_+1),(rsame28.oks _),Bool.and_eq_true_iff.2 ⟨hp,decide_eq_true (Nat.lt_succ_self _)⟩,rfl⟩
 ·exact h.elim
theorem book_item.fit (n:Nat) (left:Int) (it_kind:Int) (it_n:UInt64) (it_bytes:List UInt8) (it_text:Str) (it_kids:List Itm) (hp:((decide (left≤10000))&&decide ((Itm.bulk (Itm.of (Itv.mk it_kind it_n it_bytes it_text it_kids)))<n+1))=true):([.i .i64 left,.ag [.i .i64 it_kind,.u64 it_n,.sl .bs it_bytes,.s it_text,.sl .il it_kids]]:List TV).length=book_item.d.np∧book_item.d.run (envL trydbGl (book_item.env n)) [.i .i64 left,.ag [.i .i64 it_kind,.u64 it_n,.sl .bs it_bytes,.s it_text,.sl .il it_kids]]=some (([(.i .i64 (Itm.room left (Itm.of (Itv.mk it_kind it_n it_bytes it_text it_kids))))]:List TV)++book_item.d.ps.toList.map fun q=>([.i .i64 left,.ag [.i .i64 it_kind,.u64 it_n,.sl .bs it_bytes,.s it_text,.sl .il it_kids]]:List TV).getD q.1 .dead) :=
 ⟨by kernel_rfl,Eq.trans (b:=book_item.F n left (Itv.mk it_kind it_n it_bytes it_text it_kids)) (by kernel_rfl) (Eq.trans (book_item.goal n left (Itv.mk it_kind it_n it_bytes it_text it_kids) hp) (by kernel_rfl))⟩
theorem bitem.oks : ∀ n : Nat, (SpecOK Go.Proofs.Tryd.prog (fun n => (trydbGl n).av) 25 (Ctr.fs (book_item.cn n, book_item.sg))) := by
  intro n
  induction n with
  | zero => exact spec_zero (by
      intro ti to_ h
      unfold book_item.cn at h
      split at h
      · obtain ⟨h, _⟩ := h; simp at h
      · exact h.elim)
  | succ n ih =>
    have ih0 := ih
    exact meets (l := book_item.env n) (all_cons ih0 (all_cons book_Room.ok all_nil)) (book_item.chk n) (by
      intro ins outs h
      unfold book_item.cn at h
      split at h
      · obtain ⟨hp, rfl⟩ := h; exact book_item.fit n _ _ _ _ _ _ hp
      · exact h.elim)
theorem book_item.ok:SpecOK Go.Proofs.Tryd.prog (fun n=>(trydbGl n).av) 25 (Ctr.fs (book_item.c,book_item.sg)):=spec_sub fun ti to_ h=>by
 unfold book_item.c at h
 split at h
 ·obtain ⟨hp,rfl⟩:=h;exact ⟨book_item.cn (_+1),(bitem.oks _),Bool.and_eq_true_iff.2 ⟨hp,decide_eq_true (Nat.lt_succ_self _)⟩,rfl⟩
 ·exact h.elim
theorem book_SmallItem.fit (it_kind:Int) (it_n:UInt64) (it_bytes:List UInt8) (it_text:Str) (it_kids:List Itm):([.ag [.i .i64 it_kind,.u64 it_n,.sl .bs it_bytes,.s it_text,.sl .il it_kids]]:List TV).length=book_SmallItem.d.np∧book_SmallItem.d.run (envL trydbGl book_SmallItem.env) [.ag [.i .i64 it_kind,.u64 it_n,.sl .bs it_bytes,.s it_text,.sl .il it_kids]]=some (([(.b (decide (0≤Itm.room 1500 (Itm.of (Itv.mk it_kind it_n it_bytes it_text it_kids)))))]:List TV)++book_SmallItem.d.ps.toList.map fun q=>([.ag [.i .i64 it_kind,.u64 it_n,.sl .bs it_bytes,.s it_text,.sl .il it_kids]]:List TV).getD q.1 .dead) :=
 ⟨by kernel_rfl,Eq.trans (b:=book_SmallItem.F (Itv.mk it_kind it_n it_bytes it_text it_kids)) (by kernel_rfl) (Eq.trans (book_SmallItem.goal (Itv.mk it_kind it_n it_bytes it_text it_kids)) (by kernel_rfl))⟩
theorem book_SmallItem.ok:SpecOK Go.Proofs.Tryd.prog (fun n=>(trydbGl n).av) 14 (Ctr.fs (book_SmallItem.c,book_SmallItem.sg)) :=
 meets (l:=book_SmallItem.env) (all_cons book_item.ok all_nil) book_SmallItem.chk (by
   intro ins outs h
   unfold book_SmallItem.c at h
   split at h
   ·cases h;exact book_SmallItem.fit _ _ _ _ _
   ·exact h.elim)
theorem tree_Regular.fit (l:List Fld) (hp:(decide (l.length≤1099511627776))=true):([.sl .fl l]:List TV).length=tree_Regular.d.np∧tree_Regular.d.run (envL trydbGl tree_Regular.env) [.sl .fl l]=some (([(.b (Tree.regular l))]:List TV)++tree_Regular.d.ps.toList.map fun q=>([.sl .fl l]:List TV).getD q.1 .dead) :=
 ⟨by kernel_rfl,Eq.trans (b:=tree_Regular.F l) (by kernel_rfl) (Eq.trans (tree_Regular.goal l hp) (by kernel_rfl))⟩
theorem tree_Regular.ok:SpecOK Go.Proofs.Tryd.prog (fun n=>(trydbGl n).av) 55 (Ctr.fs (tree_Regular.c,tree_Regular.sg)) :=
 meets (l:=tree_Regular.env) (all_cons sc_Itoa.ok all_nil) tree_Regular.chk (by
   intro ins outs h
   unfold tree_Regular.c at h
   split at h
   ·obtain ⟨hp,rfl⟩:=h;exact tree_Regular.fit _ hp
   ·exact h.elim)
theorem cb_fields.fit (it_kind:Int) (it_n:UInt64) (it_bytes:List UInt8) (it_text:Str) (it_kids:List Itm) (hp:(decide (Itm.bulk (Itm.of (Itv.mk it_kind it_n it_bytes it_text it_kids))≤1099511627776))=true):([.ag [.i .i64 it_kind,.u64 it_n,.sl .bs it_bytes,.s it_text,.sl .il it_kids]]:List TV).length=cb_fields.d.np∧cb_fields.d.run (envL trydbGl cb_fields.env) [.ag [.i .i64 it_kind,.u64 it_n,.sl .bs it_bytes,.s it_text,.sl .il it_kids]]=some (([(.b (Cb.fieldsOK (Itm.of (Itv.mk it_kind it_n it_bytes it_text it_kids))))]:List TV)++cb_fields.d.ps.toList.map fun q=>([.ag [.i .i64 it_kind,.u64 it_n,.sl .bs it_bytes,.s it_text,.sl .il it_kids]]:List TV).getD q.1 .dead) :=
 ⟨by kernel_rfl,Eq.trans (b:=cb_fields.F (Itv.mk it_kind it_n it_bytes it_text it_kids)) (by kernel_rfl) (Eq.trans (cb_fields.goal (Itv.mk it_kind it_n it_bytes it_text it_kids) hp) (by kernel_rfl))⟩
theorem cb_fields.ok:SpecOK Go.Proofs.Tryd.prog (fun n=>(trydbGl n).av) 40 (Ctr.fs (cb_fields.c,cb_fields.sg)) :=
 meets (l:=cb_fields.env) all_nil cb_fields.chk (by
   intro ins outs h
   unfold cb_fields.c at h
   split at h
   ·obtain ⟨hp,rfl⟩:=h;exact cb_fields.fit _ _ _ _ _ hp
   ·exact h.elim)
theorem cb_Check.fit (n:Nat) (it_kind:Int) (it_n:UInt64) (it_bytes:List UInt8) (it_text:Str) (it_kids:List Itm) (hp:((decide (Itm.bulk (Itm.of (Itv.mk it_kind it_n it_bytes it_text it_kids))≤1099511627776))&&decide ((Itm.bulk (Itm.of (Itv.mk it_kind it_n it_bytes it_text it_kids)))<n+1))=true):([.ag [.i .i64 it_kind,.u64 it_n,.sl .bs it_bytes,.s it_text,.sl .il it_kids]]:List TV).length=cb_Check.d.np∧cb_Check.d.run (envL trydbGl (cb_Check.env n)) [.ag [.i .i64 it_kind,.u64 it_n,.sl .bs it_bytes,.s it_text,.sl .il it_kids]]=some (([(.i .i64 (Cb.chk (Itm.of (Itv.mk it_kind it_n it_bytes it_text it_kids))))]:List TV)++cb_Check.d.ps.toList.map fun q=>([.ag [.i .i64 it_kind,.u64 it_n,.sl .bs it_bytes,.s it_text,.sl .il it_kids]]:List TV).getD q.1 .dead) :=
 ⟨by kernel_rfl,Eq.trans (b:=cb_Check.F n (Itv.mk it_kind it_n it_bytes it_text it_kids)) (by kernel_rfl) (Eq.trans (cb_Check.goal n (Itv.mk it_kind it_n it_bytes it_text it_kids) hp) (by kernel_rfl))⟩
theorem ccheck.oks : ∀ n : Nat, (SpecOK Go.Proofs.Tryd.prog (fun n => (trydbGl n).av) 26 (Ctr.fs (cb_Check.cn n, cb_Check.sg))) := by
  intro n
  induction n with
  | zero => exact spec_zero (by
      intro ti to_ h
      unfold cb_Check.cn at h
      split at h
      · obtain ⟨h, _⟩ := h; simp at h
      · exact h.elim)
  | succ n ih =>
    have ih0 := ih
    exact meets (l := cb_Check.env n) (all_cons ih0 (all_cons cb_fields.ok (all_cons utf_Check.ok all_nil))) (cb_Check.chk n) (by
      intro ins outs h
      unfold cb_Check.cn at h
      split at h
      · obtain ⟨hp, rfl⟩ := h; exact cb_Check.fit n _ _ _ _ _ hp
      · exact h.elim)
theorem cb_Check.ok:SpecOK Go.Proofs.Tryd.prog (fun n=>(trydbGl n).av) 26 (Ctr.fs (cb_Check.c,cb_Check.sg)):=spec_sub fun ti to_ h=>by
 unfold cb_Check.c at h
 split at h
 ·obtain ⟨hp,rfl⟩:=h;exact ⟨cb_Check.cn (_+1),(ccheck.oks _),Bool.and_eq_true_iff.2 ⟨hp,decide_eq_true (Nat.lt_succ_self _)⟩,rfl⟩
 ·exact h.elim
theorem db_text.fit (s:Str):([.s s]:List TV).length=db_text.d.np∧db_text.d.run (envL trydbGl db_text.env) [.s s]=some (([(.ag (Itv.cells (Itm.val (Db.text s))))]:List TV)++db_text.d.ps.toList.map fun q=>([.s s]:List TV).getD q.1 .dead) :=
 ⟨by kernel_rfl,Eq.trans (b:=db_text.F s) (by kernel_rfl) (Eq.trans (db_text.goal s) (by kernel_rfl))⟩
theorem db_text.ok:SpecOK Go.Proofs.Tryd.prog (fun n=>(trydbGl n).av) 36 (Ctr.fs (db_text.c,db_text.sg)) :=
 meets (l:=db_text.env) all_nil db_text.chk (by
   intro ins outs h
   unfold db_text.c at h
   split at h
   ·cases h;exact db_text.fit _
   ·exact h.elim)
theorem db_raw.fit (b:List UInt8) (hp:(decide ((b).length≤1099511627776))=true):([.sl .bs b]:List TV).length=db_raw.d.np∧db_raw.d.run (envL trydbGl db_raw.env) [.sl .bs b]=some (([(.ag (Itv.cells (Itm.val (Db.raw b))))]:List TV)++db_raw.d.ps.toList.map fun q=>([.sl .bs b]:List TV).getD q.1 .dead) :=
 ⟨by kernel_rfl,Eq.trans (b:=db_raw.F b) (by kernel_rfl) (Eq.trans (db_raw.goal b hp) (by kernel_rfl))⟩
theorem db_raw.ok:SpecOK Go.Proofs.Tryd.prog (fun n=>(trydbGl n).av) 57 (Ctr.fs (db_raw.c,db_raw.sg)) :=
 meets (l:=db_raw.env) (all_cons clone_bs.ok all_nil) db_raw.chk (by
   intro ins outs h
   unfold db_raw.c at h
   split at h
   ·obtain ⟨hp,rfl⟩:=h;exact db_raw.fit _ hp
   ·exact h.elim)
theorem db_plus.fit (n:UInt64):([.u64 n]:List TV).length=db_plus.d.np∧db_plus.d.run (envL trydbGl db_plus.env) [.u64 n]=some (([(.ag (Itv.cells (Itm.val (Db.plus n))))]:List TV)++db_plus.d.ps.toList.map fun q=>([.u64 n]:List TV).getD q.1 .dead) :=
 ⟨by kernel_rfl,Eq.trans (b:=db_plus.F n) (by kernel_rfl) (Eq.trans (db_plus.goal n) (by kernel_rfl))⟩
theorem db_plus.ok:SpecOK Go.Proofs.Tryd.prog (fun n=>(trydbGl n).av) 81 (Ctr.fs (db_plus.c,db_plus.sg)) :=
 meets (l:=db_plus.env) all_nil db_plus.chk (by
   intro ins outs h
   unfold db_plus.c at h
   split at h
   ·cases h;exact db_plus.fit _
   ·exact h.elim)
theorem db_simple.fit (n:UInt64):([.u64 n]:List TV).length=db_simple.d.np∧db_simple.d.run (envL trydbGl db_simple.env) [.u64 n]=some (([(.ag (Itv.cells (Itm.val (Db.simple n))))]:List TV)++db_simple.d.ps.toList.map fun q=>([.u64 n]:List TV).getD q.1 .dead) :=
 ⟨by kernel_rfl,Eq.trans (b:=db_simple.F n) (by kernel_rfl) (Eq.trans (db_simple.goal n) (by kernel_rfl))⟩
theorem db_simple.ok:SpecOK Go.Proofs.Tryd.prog (fun n=>(trydbGl n).av) 58 (Ctr.fs (db_simple.c,db_simple.sg)) :=
 meets (l:=db_simple.env) all_nil db_simple.chk (by
   intro ins outs h
   unfold db_simple.c at h
   split at h
   ·cases h;exact db_simple.fit _
   ·exact h.elim)
theorem db_list.fit (l:List Itm):([.sl .il l]:List TV).length=db_list.d.np∧db_list.d.run (envL trydbGl db_list.env) [.sl .il l]=some (([(.ag (Itv.cells (Itm.val (Db.list l))))]:List TV)++db_list.d.ps.toList.map fun q=>([.sl .il l]:List TV).getD q.1 .dead) :=
 ⟨by kernel_rfl,Eq.trans (b:=db_list.F l) (by kernel_rfl) (Eq.trans (db_list.goal l) (by kernel_rfl))⟩
theorem db_list.ok:SpecOK Go.Proofs.Tryd.prog (fun n=>(trydbGl n).av) 56 (Ctr.fs (db_list.c,db_list.sg)) :=
 meets (l:=db_list.env) all_nil db_list.chk (by
   intro ins outs h
   unfold db_list.c at h
   split at h
   ·cases h;exact ⟨by kernel_rfl,by kernel_rfl⟩
   ·cases h;exact db_list.fit _
   ·exact h.elim)
theorem db_integer.fit (v:Int) (hp:(decide (-9223372036854775808≤v∧v≤9223372036854775807))=true):([.i .i64 v]:List TV).length=db_integer.d.np∧db_integer.d.run (envL trydbGl db_integer.env) [.i .i64 v]=some (([(.ag (Itv.cells (Itm.val (Db.integer v))))]:List TV)++db_integer.d.ps.toList.map fun q=>([.i .i64 v]:List TV).getD q.1 .dead) :=
 ⟨by kernel_rfl,Eq.trans (b:=db_integer.F v) (by kernel_rfl) (Eq.trans (db_integer.goal v hp) (by kernel_rfl))⟩
theorem db_integer.ok:SpecOK Go.Proofs.Tryd.prog (fun n=>(trydbGl n).av) 59 (Ctr.fs (db_integer.c,db_integer.sg)) :=
 meets (l:=db_integer.env) (all_cons db_plus.ok all_nil) db_integer.chk (by
   intro ins outs h
   unfold db_integer.c at h
   split at h
   ·obtain ⟨hp,rfl⟩:=h;exact db_integer.fit _ hp
   ·exact h.elim)
theorem db_words.fit (v_kind:Int) (v_bits:UInt64) (v_high:UInt64) (v_low:UInt64) (v_text:Str) (v_more:Str) (v_sub:Int) (v_bytes:List UInt8) (v_kids:List Fld):([.ag [.i .i64 v_kind,.u64 v_bits,.u64 v_high,.u64 v_low,.s v_text,.s v_more,.i .i64 v_sub,.sl .bs v_bytes,.sl .fl v_kids]]:List TV).length=db_words.d.np∧db_words.d.run (envL trydbGl db_words.env) [.ag [.i .i64 v_kind,.u64 v_bits,.u64 v_high,.u64 v_low,.s v_text,.s v_more,.i .i64 v_sub,.sl .bs v_bytes,.sl .fl v_kids]]=some (([(.ag (Itv.cells (Itm.val (Db.raw (Db.words ((Val.mk v_kind v_bits v_high v_low v_text v_more v_sub v_bytes v_kids)).high ((Val.mk v_kind v_bits v_high v_low v_text v_more v_sub v_bytes v_kids)).low)))))]:List TV)++db_words.d.ps.toList.map fun q=>([.ag [.i .i64 v_kind,.u64 v_bits,.u64 v_high,.u64 v_low,.s v_text,.s v_more,.i .i64 v_sub,.sl .bs v_bytes,.sl .fl v_kids]]:List TV).getD q.1 .dead) :=
 ⟨by kernel_rfl,Eq.trans (b:=db_words.F (Val.mk v_kind v_bits v_high v_low v_text v_more v_sub v_bytes v_kids)) (by kernel_rfl) (Eq.trans (db_words.goal (Val.mk v_kind v_bits v_high v_low v_text v_more v_sub v_bytes v_kids)) (by kernel_rfl))⟩
theorem db_words.ok:SpecOK Go.Proofs.Tryd.prog (fun n=>(trydbGl n).av) 82 (Ctr.fs (db_words.c,db_words.sg)) :=
 meets (l:=db_words.env) (all_cons db_raw.ok all_nil) db_words.chk (by
   intro ins outs h
   unfold db_words.c at h
   split at h
   ·cases h;exact db_words.fit _ _ _ _ _ _ _ _ _
   ·exact h.elim)
theorem db_mapped.fit (n:Nat) (l:List Fld) (hp:((decide (Fld.bulks l≤1073741824))&&decide ((3 * Fld.bulks l+3)<n+1))=true):([.sl .fl l]:List TV).length=db_mapped.d.np∧db_mapped.d.run (envL trydbGl (db_mapped.env n)) [.sl .fl l]=some (([(.ag (Itv.cells (Itm.val (Db.map (Db.mapped l)))))]:List TV)++db_mapped.d.ps.toList.map fun q=>([.sl .fl l]:List TV).getD q.1 .dead) :=
 ⟨by kernel_rfl,Eq.trans (b:=db_mapped.F n l) (by kernel_rfl) (Eq.trans (db_mapped.goal n l hp) (by kernel_rfl))⟩
theorem db_item.fit (n:Nat) (v_kind:Int) (v_bits:UInt64) (v_high:UInt64) (v_low:UInt64) (v_text:Str) (v_more:Str) (v_sub:Int) (v_bytes:List UInt8) (v_kids:List Fld) (hp:((decide (Fld.bulk (Fld.of [] (Val.mk v_kind v_bits v_high v_low v_text v_more v_sub v_bytes v_kids))≤1073741824))&&decide ((3 * Fld.bulk (Fld.of [] (Val.mk v_kind v_bits v_high v_low v_text v_more v_sub v_bytes v_kids))+2)<n+1))=true):([.ag [.i .i64 v_kind,.u64 v_bits,.u64 v_high,.u64 v_low,.s v_text,.s v_more,.i .i64 v_sub,.sl .bs v_bytes,.sl .fl v_kids]]:List TV).length=db_item.d.np∧db_item.d.run (envL trydbGl (db_item.env n)) [.ag [.i .i64 v_kind,.u64 v_bits,.u64 v_high,.u64 v_low,.s v_text,.s v_more,.i .i64 v_sub,.sl .bs v_bytes,.sl .fl v_kids]]=some (([(.ag (Itv.cells (Itm.val (Db.item (Fld.of [] (Val.mk v_kind v_bits v_high v_low v_text v_more v_sub v_bytes v_kids))))))]:List TV)++db_item.d.ps.toList.map fun q=>([.ag [.i .i64 v_kind,.u64 v_bits,.u64 v_high,.u64 v_low,.s v_text,.s v_more,.i .i64 v_sub,.sl .bs v_bytes,.sl .fl v_kids]]:List TV).getD q.1 .dead) :=
 ⟨by kernel_rfl,Eq.trans (b:=db_item.F n (Val.mk v_kind v_bits v_high v_low v_text v_more v_sub v_bytes v_kids)) (by kernel_rfl) (Eq.trans (db_item.goal n (Val.mk v_kind v_bits v_high v_low v_text v_more v_sub v_bytes v_kids) hp) (by kernel_rfl))⟩
theorem db_tagged.fit (n:Nat) (v_kind:Int) (v_bits:UInt64) (v_high:UInt64) (v_low:UInt64) (v_text:Str) (v_more:Str) (v_sub:Int) (v_bytes:List UInt8) (v_kids:List Fld) (hp:((decide (Fld.bulk (Fld.of [] (Val.mk v_kind v_bits v_high v_low v_text v_more v_sub v_bytes v_kids))≤1073741824))&&decide ((3 * Fld.bulk (Fld.of [] (Val.mk v_kind v_bits v_high v_low v_text v_more v_sub v_bytes v_kids))+1)<n+1))=true):([.ag [.i .i64 v_kind,.u64 v_bits,.u64 v_high,.u64 v_low,.s v_text,.s v_more,.i .i64 v_sub,.sl .bs v_bytes,.sl .fl v_kids]]:List TV).length=db_tagged.d.np∧db_tagged.d.run (envL trydbGl (db_tagged.env n)) [.ag [.i .i64 v_kind,.u64 v_bits,.u64 v_high,.u64 v_low,.s v_text,.s v_more,.i .i64 v_sub,.sl .bs v_bytes,.sl .fl v_kids]]=some (([(.ag (Itv.cells (Itm.val (Db.tagged (Val.mk v_kind v_bits v_high v_low v_text v_more v_sub v_bytes v_kids) (Db.mapped ((Val.mk v_kind v_bits v_high v_low v_text v_more v_sub v_bytes v_kids)).kids)))))]:List TV)++db_tagged.d.ps.toList.map fun q=>([.ag [.i .i64 v_kind,.u64 v_bits,.u64 v_high,.u64 v_low,.s v_text,.s v_more,.i .i64 v_sub,.sl .bs v_bytes,.sl .fl v_kids]]:List TV).getD q.1 .dead) :=
 ⟨by kernel_rfl,Eq.trans (b:=db_tagged.F n (Val.mk v_kind v_bits v_high v_low v_text v_more v_sub v_bytes v_kids)) (by kernel_rfl) (Eq.trans (db_tagged.goal n (Val.mk v_kind v_bits v_high v_low v_text v_more v_sub v_bytes v_kids) hp) (by kernel_rfl))⟩
theorem dbitem.oks : ∀ n : Nat, (SpecOK Go.Proofs.Tryd.prog (fun n => (trydbGl n).av) 22 (Ctr.fs (db_mapped.cn n, db_mapped.sg))) ∧ (SpecOK Go.Proofs.Tryd.prog (fun n => (trydbGl n).av) 37 (Ctr.fs (db_item.cn n, db_item.sg))) ∧ (SpecOK Go.Proofs.Tryd.prog (fun n => (trydbGl n).av) 60 (Ctr.fs (db_tagged.cn n, db_tagged.sg))) := by
  intro n
  induction n with
  | zero => exact ⟨spec_zero (by
      intro ti to_ h
      unfold db_mapped.cn at h
      split at h
      · obtain ⟨h, _⟩ := h; simp at h
      · exact h.elim), spec_zero (by
      intro ti to_ h
      unfold db_item.cn at h
      split at h
      · obtain ⟨h, _⟩ := h; simp at h
      · exact h.elim), spec_zero (by
      intro ti to_ h
      unfold db_tagged.cn at h
      split at h
      · obtain ⟨h, _⟩ := h; simp at h
      · exact h.elim)⟩
  | succ n ih =>
    obtain ⟨ih0, ih1, ih2⟩ := ih
    exact ⟨meets (l := db_mapped.env n) (all_cons db_text.ok (all_cons ih1 all_nil)) (db_mapped.chk n) (by
      intro ins outs h
      unfold db_mapped.cn at h
      split at h
      · obtain ⟨hp, rfl⟩ := h; exact db_mapped.fit n _ hp
      · exact h.elim), meets (l := db_item.env n) (all_cons ih0 (all_cons db_text.ok (all_cons ih1 (all_cons tree_Regular.ok (all_cons db_list.ok (all_cons db_raw.ok (all_cons db_simple.ok (all_cons db_integer.ok (all_cons ih2 all_nil))))))))) (db_item.chk n) (by
      intro ins outs h
      unfold db_item.cn at h
      split at h
      · obtain ⟨hp, rfl⟩ := h; exact db_item.fit n _ _ _ _ _ _ _ _ _ hp
      · exact h.elim), meets (l := db_tagged.env n) (all_cons ih0 (all_cons db_text.ok (all_cons db_list.ok (all_cons db_raw.ok (all_cons db_simple.ok (all_cons db_integer.ok (all_cons db_plus.ok (all_cons db_words.ok all_nil)))))))) (db_tagged.chk n) (by
      intro ins outs h
      unfold db_tagged.cn at h
      split at h
      · obtain ⟨hp, rfl⟩ := h; exact db_tagged.fit n _ _ _ _ _ _ _ _ _ hp
      · exact h.elim)⟩
theorem db_mapped.ok:SpecOK Go.Proofs.Tryd.prog (fun n=>(trydbGl n).av) 22 (Ctr.fs (db_mapped.c,db_mapped.sg)):=spec_sub fun ti to_ h=>by
 unfold db_mapped.c at h
 split at h
 ·obtain ⟨hp,rfl⟩:=h;exact ⟨db_mapped.cn (_+1),(dbitem.oks _).1,Bool.and_eq_true_iff.2 ⟨hp,decide_eq_true (Nat.lt_succ_self _)⟩,rfl⟩
 ·exact h.elim
theorem db_Item.fit (v_kind:Int) (v_bits:UInt64) (v_high:UInt64) (v_low:UInt64) (v_text:Str) (v_more:Str) (v_sub:Int) (v_bytes:List UInt8) (v_kids:List Fld) (hp:(decide (Fld.bulk (Fld.of [] (Val.mk v_kind v_bits v_high v_low v_text v_more v_sub v_bytes v_kids))≤1073741824))=true):([.ag [.i .i64 v_kind,.u64 v_bits,.u64 v_high,.u64 v_low,.s v_text,.s v_more,.i .i64 v_sub,.sl .bs v_bytes,.sl .fl v_kids]]:List TV).length=db_Item.d.np∧db_Item.d.run (envL trydbGl db_Item.env) [.ag [.i .i64 v_kind,.u64 v_bits,.u64 v_high,.u64 v_low,.s v_text,.s v_more,.i .i64 v_sub,.sl .bs v_bytes,.sl .fl v_kids]]=some (([(.ag (Itv.cells (Itm.val ((Db.enc (Val.mk v_kind v_bits v_high v_low v_text v_more v_sub v_bytes v_kids)).1)))),(.ag (Flt.cells ((Db.enc (Val.mk v_kind v_bits v_high v_low v_text v_more v_sub v_bytes v_kids)).2)))]:List TV)++db_Item.d.ps.toList.map fun q=>([.ag [.i .i64 v_kind,.u64 v_bits,.u64 v_high,.u64 v_low,.s v_text,.s v_more,.i .i64 v_sub,.sl .bs v_bytes,.sl .fl v_kids]]:List TV).getD q.1 .dead) :=
 ⟨by kernel_rfl,Eq.trans (b:=db_Item.F (Val.mk v_kind v_bits v_high v_low v_text v_more v_sub v_bytes v_kids)) (by kernel_rfl) (Eq.trans (db_Item.goal (Val.mk v_kind v_bits v_high v_low v_text v_more v_sub v_bytes v_kids) hp) (by kernel_rfl))⟩
theorem db_Item.ok:SpecOK Go.Proofs.Tryd.prog (fun n=>(trydbGl n).av) 10 (Ctr.fs (db_Item.c,db_Item.sg)) :=
 meets (l:=db_Item.env) (all_cons tree_Check.ok (all_cons db_mapped.ok all_nil)) db_Item.chk (by
   intro ins outs h
   unfold db_Item.c at h
   split at h
   ·obtain ⟨hp,rfl⟩:=h;exact db_Item.fit _ _ _ _ _ _ _ _ _ hp
   ·exact h.elim)
theorem db_none.fit (path:List Int) (hp:(decide ((path).length≤1099511627776))=true):([.sl .is path]:List TV).length=db_none.d.np∧db_none.d.run (envL trydbGl db_none.env) [.sl .is path]=some (([(.ag (Flt.cells ((Flt.mk 12 0 path))))]:List TV)++db_none.d.ps.toList.map fun q=>([.sl .is path]:List TV).getD q.1 .dead) :=
 ⟨by kernel_rfl,Eq.trans (b:=db_none.F path) (by kernel_rfl) (Eq.trans (db_none.goal path hp) (by kernel_rfl))⟩
theorem db_none.ok:SpecOK Go.Proofs.Tryd.prog (fun n=>(trydbGl n).av) 27 (Ctr.fs (db_none.c,db_none.sg)) :=
 meets (l:=db_none.env) (all_cons clone_is.ok all_nil) db_none.chk (by
   intro ins outs h
   unfold db_none.c at h
   split at h
   ·obtain ⟨hp,rfl⟩:=h;exact db_none.fit _ hp
   ·exact h.elim)
theorem db_number.fit (it_kind:Int) (it_n:UInt64) (it_bytes:List UInt8) (it_text:Str) (it_kids:List Itm):([.ag [.i .i64 it_kind,.u64 it_n,.sl .bs it_bytes,.s it_text,.sl .il it_kids]]:List TV).length=db_number.d.np∧db_number.d.run (envL trydbGl db_number.env) [.ag [.i .i64 it_kind,.u64 it_n,.sl .bs it_bytes,.s it_text,.sl .il it_kids]]=some (([(.i .i64 ((Db.number (Itm.of (Itv.mk it_kind it_n it_bytes it_text it_kids))).getD 0)),(.b ((Db.number (Itm.of (Itv.mk it_kind it_n it_bytes it_text it_kids))).isSome))]:List TV)++db_number.d.ps.toList.map fun q=>([.ag [.i .i64 it_kind,.u64 it_n,.sl .bs it_bytes,.s it_text,.sl .il it_kids]]:List TV).getD q.1 .dead) :=
 ⟨by kernel_rfl,Eq.trans (b:=db_number.F (Itv.mk it_kind it_n it_bytes it_text it_kids)) (by kernel_rfl) (Eq.trans (db_number.goal (Itv.mk it_kind it_n it_bytes it_text it_kids)) (by kernel_rfl))⟩
theorem db_number.ok:SpecOK Go.Proofs.Tryd.prog (fun n=>(trydbGl n).av) 70 (Ctr.fs (db_number.c,db_number.sg)) :=
 meets (l:=db_number.env) all_nil db_number.chk (by
   intro ins outs h
   unfold db_number.c at h
   split at h
   ·cases h;exact db_number.fit _ _ _ _ _
   ·exact h.elim)
theorem db_regular.fit (l:List Itm) (hp:(decide ((l).length≤1099511627776))=true):([.sl .il l]:List TV).length=db_regular.d.np∧db_regular.d.run (envL trydbGl db_regular.env) [.sl .il l]=some (([(.b (Db.regular l))]:List TV)++db_regular.d.ps.toList.map fun q=>([.sl .il l]:List TV).getD q.1 .dead) :=
 ⟨by kernel_rfl,Eq.trans (b:=db_regular.F l) (by kernel_rfl) (Eq.trans (db_regular.goal l hp) (by kernel_rfl))⟩
theorem db_regular.ok:SpecOK Go.Proofs.Tryd.prog (fun n=>(trydbGl n).av) 87 (Ctr.fs (db_regular.c,db_regular.sg)) :=
 meets (l:=db_regular.env) (all_cons sc_Itoa.ok all_nil) db_regular.chk (by
   intro ins outs h
   unfold db_regular.c at h
   split at h
   ·obtain ⟨hp,rfl⟩:=h;exact db_regular.fit _ hp
   ·exact h.elim)
theorem db_kinds.fit (it_kind:Int) (it_n:UInt64) (it_bytes:List UInt8) (it_text:Str) (it_kids:List Itm) (a:Int) (b:Int):([.ag [.i .i64 it_kind,.u64 it_n,.sl .bs it_bytes,.s it_text,.sl .il it_kids],.i .i64 a,.i .i64 b]:List TV).length=db_kinds.d.np∧db_kinds.d.run (envL trydbGl db_kinds.env) [.ag [.i .i64 it_kind,.u64 it_n,.sl .bs it_bytes,.s it_text,.sl .il it_kids],.i .i64 a,.i .i64 b]=some (([(.b (Db.kinds (Itm.of (Itv.mk it_kind it_n it_bytes it_text it_kids)) a b))]:List TV)++db_kinds.d.ps.toList.map fun q=>([.ag [.i .i64 it_kind,.u64 it_n,.sl .bs it_bytes,.s it_text,.sl .il it_kids],.i .i64 a,.i .i64 b]:List TV).getD q.1 .dead) :=
 ⟨by kernel_rfl,Eq.trans (b:=db_kinds.F (Itv.mk it_kind it_n it_bytes it_text it_kids) a b) (by kernel_rfl) (Eq.trans (db_kinds.goal (Itv.mk it_kind it_n it_bytes it_text it_kids) a b) (by kernel_rfl))⟩
theorem db_kinds.ok:SpecOK Go.Proofs.Tryd.prog (fun n=>(trydbGl n).av) 88 (Ctr.fs (db_kinds.c,db_kinds.sg)) :=
 meets (l:=db_kinds.env) all_nil db_kinds.chk (by
   intro ins outs h
   unfold db_kinds.c at h
   split at h
   ·cases h;exact db_kinds.fit _ _ _ _ _ _ _
   ·exact h.elim)
theorem db_small.fit (n:UInt64) (it_kind:Int) (it_n:UInt64) (it_bytes:List UInt8) (it_text:Str) (it_kids:List Itm) (hp:(decide (Itm.bulk (Itm.of (Itv.mk it_kind it_n it_bytes it_text it_kids))≤1099511627776))=true):([.u64 n,.ag [.i .i64 it_kind,.u64 it_n,.sl .bs it_bytes,.s it_text,.sl .il it_kids]]:List TV).length=db_small.d.np∧db_small.d.run (envL trydbGl db_small.env) [.u64 n,.ag [.i .i64 it_kind,.u64 it_n,.sl .bs it_bytes,.s it_text,.sl .il it_kids]]=some (([(.ag (Val.cells ((Db.smallV n (Itm.of (Itv.mk it_kind it_n it_bytes it_text it_kids))).1))),(.b ((Db.smallV n (Itm.of (Itv.mk it_kind it_n it_bytes it_text it_kids))).2))]:List TV)++db_small.d.ps.toList.map fun q=>([.u64 n,.ag [.i .i64 it_kind,.u64 it_n,.sl .bs it_bytes,.s it_text,.sl .il it_kids]]:List TV).getD q.1 .dead) :=
 ⟨by kernel_rfl,Eq.trans (b:=db_small.F n (Itv.mk it_kind it_n it_bytes it_text it_kids)) (by kernel_rfl) (Eq.trans (db_small.goal n (Itv.mk it_kind it_n it_bytes it_text it_kids) hp) (by kernel_rfl))⟩
theorem db_small.ok:SpecOK Go.Proofs.Tryd.prog (fun n=>(trydbGl n).av) 89 (Ctr.fs (db_small.c,db_small.sg)) :=
 meets (l:=db_small.env) (all_cons st_Contains.ok (all_cons clone_bs.ok (all_cons db_number.ok (all_cons db_kinds.ok all_nil)))) db_small.chk (by
   intro ins outs h
   unfold db_small.c at h
   split at h
   ·obtain ⟨hp,rfl⟩:=h;exact db_small.fit _ _ _ _ _ _ hp
   ·exact h.elim)
theorem db_with.fit (n:Nat) (v_kind:Int) (v_bits:UInt64) (v_high:UInt64) (v_low:UInt64) (v_text:Str) (v_more:Str) (v_sub:Int) (l:List Itm) (path:List Int) (hp:((decide (Itm.bulks l+(path).length≤1073741824)&&decide (Cb.chks l=0∧(l).length % 2=0))&&decide ((2 * Itm.bulks l+2)<n+1))=true):([.ag [.i .i64 v_kind,.u64 v_bits,.u64 v_high,.u64 v_low,.s v_text,.s v_more,.i .i64 v_sub,.c (.slice none 0 0),.c (.slice none 0 0)],.sl .il l,.sl .is path]:List TV).length=db_with.d.np∧db_with.d.run (envL trydbGl (db_with.env n)) [.ag [.i .i64 v_kind,.u64 v_bits,.u64 v_high,.u64 v_low,.s v_text,.s v_more,.i .i64 v_sub,.c (.slice none 0 0),.c (.slice none 0 0)],.sl .il l,.sl .is path]=some (([(.ag (Val.cells (Db.Got.val (Db.Gots.got (Val.mk v_kind v_bits v_high v_low v_text v_more v_sub [] []) (Db.fields l 0 path))))),(.ag (Flt.cells (Db.Got.flt (Db.Gots.got (Val.mk v_kind v_bits v_high v_low v_text v_more v_sub [] []) (Db.fields l 0 path)))))]:List TV)++db_with.d.ps.toList.map fun q=>([.ag [.i .i64 v_kind,.u64 v_bits,.u64 v_high,.u64 v_low,.s v_text,.s v_more,.i .i64 v_sub,.c (.slice none 0 0),.c (.slice none 0 0)],.sl .il l,.sl .is path]:List TV).getD q.1 .dead) :=
 ⟨by kernel_rfl,Eq.trans (b:=db_with.F n (Val.mk v_kind v_bits v_high v_low v_text v_more v_sub [] []) l path) (by kernel_rfl) (Eq.trans (db_with.goal n (Val.mk v_kind v_bits v_high v_low v_text v_more v_sub [] []) l path hp) (by kernel_rfl))⟩
theorem db_value.fit (n:Nat) (it_kind:Int) (it_n:UInt64) (it_bytes:List UInt8) (it_text:Str) (it_kids:List Itm) (path:List Int) (hp:((decide (Itm.bulk (Itm.of (Itv.mk it_kind it_n it_bytes it_text it_kids))+(path).length≤1073741824)&&decide (Cb.chk (Itm.of (Itv.mk it_kind it_n it_bytes it_text it_kids))=0))&&decide ((2 * Itm.bulk (Itm.of (Itv.mk it_kind it_n it_bytes it_text it_kids))+1)<n+1))=true):([.ag [.i .i64 it_kind,.u64 it_n,.sl .bs it_bytes,.s it_text,.sl .il it_kids],.sl .is path]:List TV).length=db_value.d.np∧db_value.d.run (envL trydbGl (db_value.env n)) [.ag [.i .i64 it_kind,.u64 it_n,.sl .bs it_bytes,.s it_text,.sl .il it_kids],.sl .is path]=some (([(.ag (Val.cells (Db.Got.val (Db.value (Itm.of (Itv.mk it_kind it_n it_bytes it_text it_kids)) path)))),(.ag (Flt.cells (Db.Got.flt (Db.value (Itm.of (Itv.mk it_kind it_n it_bytes it_text it_kids)) path))))]:List TV)++db_value.d.ps.toList.map fun q=>([.ag [.i .i64 it_kind,.u64 it_n,.sl .bs it_bytes,.s it_text,.sl .il it_kids],.sl .is path]:List TV).getD q.1 .dead) :=
 ⟨by kernel_rfl,Eq.trans (b:=db_value.F n (Itv.mk it_kind it_n it_bytes it_text it_kids) path) (by kernel_rfl) (Eq.trans (db_value.goal n (Itv.mk it_kind it_n it_bytes it_text it_kids) path hp) (by kernel_rfl))⟩
theorem db_tag.fit (n:Nat) (it_kind:Int) (it_n:UInt64) (it_bytes:List UInt8) (it_text:Str) (it_kids:List Itm) (path:List Int) (hp:((decide (Itm.bulk (Itm.of (Itv.mk it_kind it_n it_bytes it_text it_kids))+(path).length≤1073741824)&&decide (Cb.chk (Itm.of (Itv.mk it_kind it_n it_bytes it_text it_kids))=0∧((Itv.mk it_kind it_n it_bytes it_text it_kids)).kind=7))&&decide ((2 * Itm.bulk (Itm.of (Itv.mk it_kind it_n it_bytes it_text it_kids)))<n+1))=true):([.ag [.i .i64 it_kind,.u64 it_n,.sl .bs it_bytes,.s it_text,.sl .il it_kids],.sl .is path]:List TV).length=db_tag.d.np∧db_tag.d.run (envL trydbGl (db_tag.env n)) [.ag [.i .i64 it_kind,.u64 it_n,.sl .bs it_bytes,.s it_text,.sl .il it_kids],.sl .is path]=some (([(.ag (Val.cells (Db.Got.val (Db.value (Itm.of (Itv.mk it_kind it_n it_bytes it_text it_kids)) path)))),(.ag (Flt.cells (Db.Got.flt (Db.value (Itm.of (Itv.mk it_kind it_n it_bytes it_text it_kids)) path))))]:List TV)++db_tag.d.ps.toList.map fun q=>([.ag [.i .i64 it_kind,.u64 it_n,.sl .bs it_bytes,.s it_text,.sl .il it_kids],.sl .is path]:List TV).getD q.1 .dead) :=
 ⟨by kernel_rfl,Eq.trans (b:=db_tag.F n (Itv.mk it_kind it_n it_bytes it_text it_kids) path) (by kernel_rfl) (Eq.trans (db_tag.goal n (Itv.mk it_kind it_n it_bytes it_text it_kids) path hp) (by kernel_rfl))⟩
theorem dbvalue.oks : ∀ n : Nat, (SpecOK Go.Proofs.Tryd.prog (fun n => (trydbGl n).av) 28 (Ctr.fs (db_with.cn n, db_with.sg))) ∧ (SpecOK Go.Proofs.Tryd.prog (fun n => (trydbGl n).av) 44 (Ctr.fs (db_value.cn n, db_value.sg))) ∧ (SpecOK Go.Proofs.Tryd.prog (fun n => (trydbGl n).av) 72 (Ctr.fs (db_tag.cn n, db_tag.sg))) := by
  intro n
  induction n with
  | zero => exact ⟨spec_zero (by
      intro ti to_ h
      unfold db_with.cn at h
      split at h
      · obtain ⟨h, _⟩ := h; simp at h
      · exact h.elim), spec_zero (by
      intro ti to_ h
      unfold db_value.cn at h
      split at h
      · obtain ⟨h, _⟩ := h; simp at h
      · exact h.elim), spec_zero (by
      intro ti to_ h
      unfold db_tag.cn at h
      split at h
      · obtain ⟨h, _⟩ := h; simp at h
      · exact h.elim)⟩
  | succ n ih =>
    obtain ⟨ih0, ih1, ih2⟩ := ih
    exact ⟨meets (l := db_with.env n) (all_cons db_none.ok (all_cons st_Contains.ok (all_cons ih1 all_nil))) (db_with.chk n) (by
      intro ins outs h
      unfold db_with.cn at h
      split at h
      · obtain ⟨hp, rfl⟩ := h; exact db_with.fit n _ _ _ _ _ _ _ _ _ hp
      · exact h.elim), meets (l := db_value.env n) (all_cons db_none.ok (all_cons ih0 (all_cons ih1 (all_cons clone_bs.ok (all_cons db_number.ok (all_cons sc_Itoa.ok (all_cons ih2 all_nil))))))) (db_value.chk n) (by
      intro ins outs h
      unfold db_value.cn at h
      split at h
      · obtain ⟨hp, rfl⟩ := h; exact db_value.fit n _ _ _ _ _ _ hp
      · exact h.elim), meets (l := db_tag.env n) (all_cons db_none.ok (all_cons ih0 (all_cons db_regular.ok (all_cons db_kinds.ok (all_cons db_small.ok all_nil))))) (db_tag.chk n) (by
      intro ins outs h
      unfold db_tag.cn at h
      split at h
      · obtain ⟨hp, rfl⟩ := h; exact db_tag.fit n _ _ _ _ _ _ hp
      · exact h.elim)⟩
theorem db_with.ok:SpecOK Go.Proofs.Tryd.prog (fun n=>(trydbGl n).av) 28 (Ctr.fs (db_with.c,db_with.sg)):=spec_sub fun ti to_ h=>by
 unfold db_with.c at h
 split at h
 ·obtain ⟨hp,rfl⟩:=h;exact ⟨db_with.cn (_+1),(dbvalue.oks _).1,Bool.and_eq_true_iff.2 ⟨hp,decide_eq_true (Nat.lt_succ_self _)⟩,rfl⟩
 ·exact h.elim
theorem db_Value.fit (it_kind:Int) (it_n:UInt64) (it_bytes:List UInt8) (it_text:Str) (it_kids:List Itm) (hp:(decide (Itm.bulk (Itm.of (Itv.mk it_kind it_n it_bytes it_text it_kids))≤1073741824))=true):([.ag [.i .i64 it_kind,.u64 it_n,.sl .bs it_bytes,.s it_text,.sl .il it_kids]]:List TV).length=db_Value.d.np∧db_Value.d.run (envL trydbGl db_Value.env) [.ag [.i .i64 it_kind,.u64 it_n,.sl .bs it_bytes,.s it_text,.sl .il it_kids]]=some (([(.ag (Val.cells ((Db.dec (Itm.of (Itv.mk it_kind it_n it_bytes it_text it_kids))).1))),(.ag (Flt.cells ((Db.dec (Itm.of (Itv.mk it_kind it_n it_bytes it_text it_kids))).2)))]:List TV)++db_Value.d.ps.toList.map fun q=>([.ag [.i .i64 it_kind,.u64 it_n,.sl .bs it_bytes,.s it_text,.sl .il it_kids]]:List TV).getD q.1 .dead) :=
 ⟨by kernel_rfl,Eq.trans (b:=db_Value.F (Itv.mk it_kind it_n it_bytes it_text it_kids)) (by kernel_rfl) (Eq.trans (db_Value.goal (Itv.mk it_kind it_n it_bytes it_text it_kids) hp) (by kernel_rfl))⟩
theorem db_Value.ok:SpecOK Go.Proofs.Tryd.prog (fun n=>(trydbGl n).av) 15 (Ctr.fs (db_Value.c,db_Value.sg)) :=
 meets (l:=db_Value.env) (all_cons cb_Check.ok (all_cons db_none.ok (all_cons db_with.ok all_nil))) db_Value.chk (by
   intro ins outs h
   unfold db_Value.c at h
   split at h
   ·obtain ⟨hp,rfl⟩:=h;exact db_Value.fit _ _ _ _ _ hp
   ·exact h.elim)
theorem law30_awake.fit:([]:List TV).length=law30_awake.d.np∧law30_awake.d.run (envL trydbGl law30_awake.env) []=some (([(.b (true))]:List TV)++law30_awake.d.ps.toList.map fun q=>([]:List TV).getD q.1 .dead) :=
 ⟨by kernel_rfl,Eq.trans (b:=law30_awake.F ) (by kernel_rfl) (Eq.trans (law30_awake.goal ) (by kernel_rfl))⟩
theorem law30_awake.ok:SpecOK Go.Proofs.Tryd.prog (fun n=>(trydbGl n).av) 8 (Ctr.fs (law30_awake.c,law30_awake.sg)) :=
 meets (l:=law30_awake.env) (all_cons db_Item.ok (all_cons db_Value.ok all_nil)) law30_awake.chk (by
   intro ins outs h
   unfold law30_awake.c at h
   split at h
   ·cases h;exact law30_awake.fit
   ·exact h.elim)
end Go.Eng
namespace Go.Eng
open Go.IntWalk
theorem digs_len : ∀ (k n : Nat), n < 10 ^ (k + 1) → (digs n).length ≤ k + 1
  | 0, n, h => by rw [digs_lt (by simpa using h)]; simp
  | k + 1, n, h => by
    by_cases a : n < 10
    · rw [digs_lt a]; simp
    · have := digs_len k (n / 10) (by rw [Nat.pow_succ] at h; omega)
      rw [digs_ge a, List.length_append, List.length_singleton]; omega
namespace Db
def bulkV (v:Val):Nat:=Fld.bulk (Fld.of [] v)
theorem bulk_named (n:Str) (v:Val):Fld.bulk (Fld.of n v)=n.length+bulkV v:=by
 simp only [bulkV,Fld.of,Fld.bulk,List.length_nil];omega
theorem fst_bulk (it : Itm) : (fst it).text.length + (snd it).text.length + (fst it).bytes.length + (snd it).bytes.length ≤ Itm.bulk it := by
  obtain ⟨k, n, b, t, ks⟩ := it
  match ks with
  | [] => simp [fst, snd, Itm.kids, Mp.zero, Itm.text, Itm.bytes]
  | [x] =>
    have := Itm.bulk_val x
    show x.text.length + (Mp.zero).text.length + x.bytes.length + Mp.zero.bytes.length ≤ _
    simp only [Mp.zero, Itm.text, Itm.bytes, List.length_nil, Itm.bulk, Itm.bulks] at *; omega
  | x :: y :: r =>
    have h1 := Itm.bulk_val x
    have h2 := Itm.bulk_val y
    show x.text.length + y.text.length + x.bytes.length + y.bytes.length ≤ _
    simp only [Itm.bulk, Itm.bulks]; omega
theorem smallV_bulk (n:UInt64) (it:Itm):bulkV (smallV n it).1≤1+Itm.bulk it:=by
 have h:=fst_bulk it
 have h2:=Itm.bulk_val it
 unfold smallV
 by_cases a:n<1000∨1255<n
 ·rw [if_pos a];(simp only [bulkV,zero,doc,Fld.of,Fld.bulk,Fld.bulks,List.length_nil];omega)
 rw [if_neg a]
 by_cases a:n=1005
 ·rw [if_pos a];split <;> (simp only [bulkV,zero,doc,Fld.of,Fld.bulk,Fld.bulks,List.length_nil];omega)
 rw [if_neg a]
 by_cases a:n=1007
 ·rw [if_pos a];(simp only [bulkV,zero,doc,Fld.of,Fld.bulk,Fld.bulks,List.length_nil];omega)
 rw [if_neg a]
 by_cases a:n=1009∨n=1018
 ·rw [if_pos a];(simp only [bulkV,zero,doc,Fld.of,Fld.bulk,Fld.bulks,List.length_nil];omega)
 rw [if_neg a]
 by_cases a:n=1011
 ·rw [if_pos a];split <;> (simp only [bulkV,zero,doc,Fld.of,Fld.bulk,Fld.bulks,List.length_nil];omega)
 rw [if_neg a]
 by_cases a:n=1012
 ·rw [if_pos a];split <;> (simp only [bulkV,zero,doc,Fld.of,Fld.bulk,Fld.bulks,List.length_nil];omega)
 rw [if_neg a]
 by_cases a:n=1013∨n=1014
 ·rw [if_pos a];(simp only [bulkV,zero,doc,Fld.of,Fld.bulk,Fld.bulks,List.length_nil];omega)
 rw [if_neg a]
 by_cases a:n=1017
 ·rw [if_pos a];(simp only [bulkV,zero,doc,Fld.of,Fld.bulk,Fld.bulks,List.length_nil];omega)
 rw [if_neg a]
 by_cases a:n=1019
 ·rw [if_pos a];split <;> (simp only [bulkV,zero,doc,Fld.of,Fld.bulk,Fld.bulks,List.length_nil];omega)
 rw [if_neg a]
 by_cases a:n=1127∨n=1255
 ·rw [if_pos a];(simp only [bulkV,zero,doc,Fld.of,Fld.bulk,Fld.bulks,List.length_nil];omega)
 rw [if_neg a]
 (simp only [bulkV,zero,doc,Fld.of,Fld.bulk,Fld.bulks,List.length_nil];omega)
theorem leaf_bulk (k:Int) (n:UInt64) (b t:Str) (v:Val) (h:leaf k n b t=some v):bulkV v≤1+b.length+t.length:=by
 unfold leaf at h
 split at h
 ·cases h;simp only [bulkV,Fld.of,Fld.bulk,Fld.bulks,List.length_nil];omega
 split at h
 ·cases h;simp only [bulkV,Fld.of,Fld.bulk,Fld.bulks,List.length_nil];omega
 split at h
 ·cases h;simp only [bulkV,Fld.of,Fld.bulk,Fld.bulks,List.length_nil];omega
 split at h
 ·cases h
  repeat' split
  all_goals simp only [bulkV,Fld.of,Fld.bulk,Fld.bulks,List.length_nil]
  all_goals omega
 split at h
 ·cases h;simp only [bulkV,half,Fld.of,Fld.bulk,Fld.bulks,List.length_nil];omega
 ·cases h
theorem got_ok {g:Gots} {w v:Val} (h:g.got w = .ok v):∃l,g = .ok l∧v={ w with kids:=l }:=by
 cases g with
 | ok l=>exact ⟨l,rfl,by injection h with h;exact h.symm⟩
 | bad p=>cases h
theorem doc_bulk (k:Int) (t:Str) (l:List Fld):bulkV { doc k t with kids:=l }=1+t.length+Fld.bulks l:=by
 simp only [bulkV,doc,Fld.of,Fld.bulk,List.length_nil];omega
mutual
theorem value_bulk : ∀ (x : Itm) (p : List Int) (v : Val), value x p = .ok v → Itm.bulk x ≤ 1000000000 → bulkV v + 20 ≤ 24 * Itm.bulk x
  | .mk k n b t ks, p, v, h, hb => by
    simp only [Itm.bulk] at hb ⊢
    rw [value] at h
    split at h
    · obtain ⟨l, hl, rfl⟩ := got_ok h
      have := fields_bulk ks 0 p l hl (by omega)
      rw [doc_bulk]; simp only [List.length_nil]; omega
    split at h
    · obtain ⟨l, hl, rfl⟩ := got_ok h
      have := elems_bulk ks 0 p l hl (by omega) (by have := Itm.bulk_kids ks; omega)
      rw [doc_bulk]; simp only [List.length_nil]; omega
    split at h
    · have := tags_bulk n ks p v h (by omega); omega
    · cases hl : leaf k n b t with
      | none => rw [hl] at h; cases h
      | some w =>
        rw [hl] at h; injection h with h; subst h
        have := leaf_bulk k n b t _ hl; omega
theorem tags_bulk : ∀ (n : UInt64) (ks : List Itm) (p : List Int) (v : Val), tags n ks p = .ok v → Itm.bulks ks ≤ 1000000000 → bulkV v + 20 ≤ 24 * Itm.bulks ks + 24
  | n, [], p, v, h, _ => by rw [tags] at h; cases h
  | n, x :: r, p, v, h, hb => by
    rw [tags] at h
    simp only [Itm.bulks] at hb ⊢
    have := tagv_bulk n x p v h (by omega); omega
theorem tagv_bulk : ∀ (n : UInt64) (x : Itm) (p : List Int) (v : Val), tagv n x p = .ok v → Itm.bulk x ≤ 1000000000 → bulkV v + 20 ≤ 24 * Itm.bulk x + 24
  | n, .mk k m b t ks, p, v, h, hb => by
    have hs := smallV_bulk n (.mk k m b t ks)
    simp only [Itm.bulk] at hb hs ⊢
    rw [tagv] at h
    split at h
    · split at h
      · obtain ⟨l, hl, rfl⟩ := got_ok h
        have := fields_bulk ks 0 _ l hl (by omega)
        rw [doc_bulk]; simp only [List.length_nil]; omega
      · cases h
    split at h
    · split at h
      · have := pairv_bulk ks p v h (by omega); omega
      · cases h
    · unfold small at h
      split at h
      · injection h with h; subst h; omega
      · cases h
theorem pairv_bulk : ∀ (ks : List Itm) (p : List Int) (v : Val), pairv ks p = .ok v → Itm.bulks ks ≤ 1000000000 → bulkV v ≤ 24 * Itm.bulks ks
  | [], p, v, h, _ => by rw [pairv] at h; cases h
  | [_], p, v, h, _ => by rw [pairv] at h; cases h
  | a :: m :: r, p, v, h, hb => by
    rw [pairv] at h
    simp only [Itm.bulks] at hb ⊢
    have h1 := pairIn_bulk a.text m p v h (by omega)
    have h2 := Itm.bulk_val a
    omega
theorem pairIn_bulk : ∀ (t : Str) (m : Itm) (p : List Int) (v : Val), pairIn t m p = .ok v → Itm.bulk m ≤ 1000000000 → bulkV v ≤ t.length + 24 * Itm.bulk m
  | t, .mk _ _ b s ks, p, v, h, hb => by
    rw [pairIn] at h
    simp only [Itm.bulk] at hb ⊢
    obtain ⟨l, hl, rfl⟩ := got_ok h
    have := fields_bulk ks 0 _ l hl (by omega)
    rw [doc_bulk]; omega
theorem fields_bulk : ∀ (l : List Itm) (i : Nat) (p : List Int) (ks : List Fld), fields l i p = .ok ks → Itm.bulks l ≤ 1000000000 → Fld.bulks ks ≤ 24 * Itm.bulks l
  | [], i, p, ks, h, _ => by rw [fields] at h; injection h with h; subst h; exact Nat.zero_le _
  | [_], i, p, ks, h, _ => by rw [fields] at h; cases h
  | k :: x :: r, i, p, ks, h, hb => by
    rw [fields] at h
    simp only [Itm.bulks] at hb ⊢
    split at h
    · cases h
    split at h
    · cases h
    rename_i v hv
    split at h
    · cases h
    rename_i l hl
    injection h with h; subst h
    have h1 := value_bulk x _ v hv (by omega)
    have h2 := fields_bulk r _ p l hl (by omega)
    have h3 := Itm.bulk_val k
    simp only [Fld.bulks, bulk_named]; omega
theorem elems_bulk : ∀ (l : List Itm) (i : Nat) (p : List Int) (ks : List Fld), elems l i p = .ok ks → Itm.bulks l ≤ 1000000000 → i + l.length ≤ 1000000000 → Fld.bulks ks ≤ 24 * Itm.bulks l
  | [], i, p, ks, h, _, _ => by rw [elems] at h; injection h with h; subst h; exact Nat.zero_le _
  | x :: r, i, p, ks, h, hb, hi => by
    rw [elems] at h
    simp only [Itm.bulks] at hb ⊢
    simp only [List.length_cons] at hi
    split at h
    · cases h
    rename_i v hv
    split at h
    · cases h
    rename_i l hl
    injection h with h; subst h
    have h1 := value_bulk x _ v hv (by omega)
    have h2 := elems_bulk r _ p l hl (by omega) (by omega)
    have h3 := digs_len 19 i (by omega)
    simp only [Fld.bulks, bulk_named]; omega
end
def Leads (p q:List Int) (m:Nat):Prop:=∃r,q=p++r∧r.length≤m
theorem Leads.mono {p q:List Int} {a b:Nat} (h:Leads p q a) (hab:a≤b):Leads p q b:=by
 obtain ⟨r,hr,hl⟩:=h;exact ⟨r,hr,by omega⟩
theorem Leads.one (p:List Int) (x:Int):Leads p (p++[x]) 1:=⟨[x],rfl,Nat.le_refl _⟩
theorem dec_bulk (it:Itm) (hb:Itm.bulk it≤1000000000):bulkV (dec it).1≤24 * Itm.bulk it+1:=by
 unfold dec
 split
 ·simp only [bulkV,zero,Fld.of,Fld.bulk,Fld.bulks,List.length_nil];omega
 split
 ·simp only [bulkV,zero,Fld.of,Fld.bulk,Fld.bulks,List.length_nil];omega
 ·cases hv:value it [] with
  | ok v=>have:=value_bulk it [] v hv hb;show bulkV v≤_;omega
  | bad q=>show bulkV zero≤_;simp only [bulkV,zero,Fld.of,Fld.bulk,Fld.bulks,List.length_nil];omega
end Db
end Go.Eng
namespace Go.Eng
open Go.IntWalk
namespace Db
theorem ofInt_bits (n:UInt64):UInt64.ofInt (n.toNat:Int)=n:=by
 apply UInt64.toNat_inj.1
 have:=n.toNat_lt
 rw [u64_nat];omega
end Db
end Go.Eng
namespace Go.Eng
open Go.IntWalk
namespace Db
theorem regular_mapped : ∀ (l : List Fld) (i : Nat), regularFrom i (mapped l) = Tree.regularFrom i l
  | [], _ => rfl
  | f :: r, i => by
    rw [mapped, regularFrom, Tree.regularFrom, regular_mapped r (i + 1)]
    congr 1
    exact decide_eq_decide.2 ⟨fun h => h.2, fun h => ⟨rfl, h⟩⟩
end Db
end Go.Eng
namespace Go.Eng
open Go.IntWalk
theorem digs_small : ∀ (n : Nat), ∀ c ∈ digs n, 48 ≤ c.toNat ∧ c.toNat < 58 := by
  intro n
  induction n using Nat.strongRecOn with
  | ind n ih =>
    have one : ∀ m, m < 10 → 48 ≤ (UInt8.ofNat (48 + m)).toNat ∧ (UInt8.ofNat (48 + m)).toNat < 58 := by
      intro m hm
      rw [UInt8.toNat_ofNat']; omega
    intro c hc
    by_cases a : n < 10
    · rw [digs_lt a, List.mem_singleton] at hc
      rw [hc]; exact one n a
    · rw [digs_ge a, List.mem_append, List.mem_singleton] at hc
      rcases hc with h | h
      · exact ih (n / 10) (by omega) c h
      · rw [h]; exact one _ (by omega)
theorem Utf.lookN_ascii : ∀ (n : Nat) (l : Str), l.length ≤ n → (∀ c ∈ l, c.toNat < 128) → (Utf.lookN n l).1 = l.length
  | 0, l, h, _ => by cases l with | nil => rfl | cons a r => simp at h
  | n + 1, [], _, _ => by rw [Utf.lookN, Utf.rune, if_pos rfl]; rfl
  | n + 1, c :: l, h, hc => by
    have e : Utf.rune (c :: l) = ((c.toNat : Int), 1) := by rw [Utf.rune, if_pos (hc c (by simp))]
    rw [Utf.lookN, e, if_neg (show ¬ (1 : Int) = 0 by decide)]
    have := Utf.lookN_ascii n l (by simpa using h) (fun x hx => hc x (by simp [hx]))
    show (Utf.lookN n l).1 + 1 = l.length + 1
    rw [this]
theorem digs_name (n:Nat):Utf.whole (digs n)=true∧Utf.zero (digs n)=false:=by
 constructor
 ·unfold Utf.whole Utf.look
  exact decide_eq_true (Utf.lookN_ascii _ _ (Nat.le_refl _) fun c hc=>by have:=digs_small n c hc;omega)
 ·unfold Utf.zero
  apply Bool.eq_false_iff.2
  intro h
  have:=digs_small n 0 (by simpa using h)
  exact absurd this.1 (by decide)
namespace Db
theorem own_ok {k:Int} {b h l:UInt64} {t m:Str} {s:Int} {y:List UInt8} {ks:List Fld} (hn:Tree.name k≠[]) (hf:Tree.fieldsOK ⟨k,b,h,l,t,m,s,y,ks⟩=true) (ht:Tree.wholeT t (decide (k=11))=true) (hm:Tree.wholeT m (decide (k=11))=true):Tree.own ⟨k,b,h,l,t,m,s,y,ks⟩=0:=by
 unfold Tree.own
 rw [if_neg hn,if_neg (by rw [hf];decide),if_neg (by simp only [ht,hm];decide)]
theorem wholeT_of {s:Str} (h:Utf.whole s=true):Tree.wholeT s false=true:=by unfold Tree.wholeT;rw [h];rfl
theorem chk_split {k:Int} {n:UInt64} {b t:Str} {ks:List Itm} (h:Cb.chk (.mk k n b t ks)=0):Cb.own (.mk k n b t ks)=0∧Cb.chks ks=0:=by
 rw [Cb.chk] at h
 by_cases a:Cb.own (.mk k n b t ks)=0
 ·rw [if_pos a] at h;exact ⟨a,h⟩
 ·rw [if_neg a] at h;exact absurd h a
theorem chks_cons {x:Itm} {r:List Itm} (h:Cb.chks (x :: r)=0):Cb.chk x=0∧Cb.chks r=0:=by
 rw [Cb.chks] at h
 by_cases a:Cb.chk x=0
 ·rw [if_pos a] at h;exact ⟨a,h⟩
 ·rw [if_neg a] at h;exact absurd h a
inductive Shape:Itm→Prop where
 | plus (n:UInt64):Shape (.mk 1 n [] [] [])
 | neg (n:UInt64):Shape (.mk 2 n [] [] [])
 | raw (b:Str):Shape (.mk 3 0 b [] [])
 | text (t:Str) (h:Utf.whole t=true):Shape (.mk 4 0 [] t [])
 | list (l:List Itm) (h:Cb.chks l=0):Shape (.mk 5 0 [] [] l)
 | map (l:List Itm) (h:Cb.chks l=0) (he:l.length % 2=0):Shape (.mk 6 0 [] [] l)
 | tag (n:UInt64) (y:Itm) (h:Cb.chk y=0):Shape (.mk 7 n [] [] [y])
 | simple (n:UInt64) (h:¬(n<20∨23<n)):Shape (.mk 8 n [] [] [])
 | float (n:UInt64):Shape (.mk 9 n [] [] [])
theorem shape (x:Itm) (h:Cb.chk x=0):Shape x:=by
 obtain ⟨k,n,b,t,ks⟩:=x
 obtain ⟨ho,hc⟩:=chk_split h
 rw [Cb.own] at ho
 by_cases a:k<1∨9<k
 ·rw [if_pos a] at ho;cases ho
 rw [if_neg a] at ho
 by_cases b1:((k=3∨k=4∨k=5∨k=6)∧n≠0)∨(k≠3∧b≠[])∨(k≠4∧t≠[])
 ·rw [if_pos b1] at ho;cases ho
 rw [if_neg b1] at ho
 by_cases c:k≠5∧k≠6∧k≠7∧ks≠[]
 ·rw [if_pos c] at ho;cases ho
 rw [if_neg c] at ho
 by_cases d:(k=8∧(n<20∨23<n))∨(k=6∧ks.length % 2≠0)∨(k=7∧ks.length≠1)
 ·rw [if_pos d] at ho;cases ho
 rw [if_neg d] at ho
 by_cases e:Utf.whole t=true
 ·clear ho h
  have hk:k=1∨k=2∨k=3∨k=4∨k=5∨k=6∨k=7∨k=8∨k=9:=by omega
  clear a
  rcases hk with rfl | rfl | rfl | rfl | rfl | rfl | rfl | rfl | rfl <;> simp at b1 c d
  ·obtain ⟨rfl,rfl⟩:=b1;subst c;exact .plus n
  ·obtain ⟨rfl,rfl⟩:=b1;subst c;exact .neg n
  ·obtain ⟨rfl,rfl⟩:=b1;subst c;exact .raw b
  ·obtain ⟨rfl,rfl⟩:=b1;subst c;exact .text t e
  ·obtain ⟨rfl,rfl,rfl⟩:=b1;exact .list ks hc
  ·obtain ⟨rfl,rfl,rfl⟩:=b1;exact .map ks hc d
  ·obtain ⟨rfl,rfl⟩:=b1
   match ks,d with
   | [y],_=>exact .tag n y (chks_cons hc).1
  ·obtain ⟨rfl,rfl⟩:=b1;subst c;exact .simple n (by rintro (h | h);exact absurd h (by simpa using d.1);exact absurd h (by simpa using d.2))
  ·obtain ⟨rfl,rfl⟩:=b1;subst c;exact .float n
 ·rw [if_neg e] at ho;cases ho
theorem text_of {x:Itm} (h:Cb.chk x=0) (hk:x.kind=4):x=text x.text∧Utf.whole x.text=true:=by
 cases shape x h with
 | text t ht=>exact ⟨rfl,ht⟩
 | _=>exact absurd hk (by simp [Itm.kind])
theorem raw_of {x:Itm} (h:Cb.chk x=0) (hk:x.kind=3):x=raw x.bytes:=by
 cases shape x h with
 | raw b=>rfl
 | _=>exact absurd hk (by simp [Itm.kind])
theorem plus_of {x:Itm} (h:Cb.chk x=0) (hk:x.kind=1):x=plus x.n:=by
 cases shape x h with
 | plus b=>rfl
 | _=>exact absurd hk (by simp [Itm.kind])
theorem neg_of {x:Itm} (h:Cb.chk x=0) (hk:x.kind=2):x = .mk 2 x.n [] [] []:=by
 cases shape x h with
 | neg b=>rfl
 | _=>exact absurd hk (by simp [Itm.kind])
theorem simple_of {x:Itm} (h:Cb.chk x=0) (hk:x.kind=8):x=simple x.n:=by
 cases shape x h with
 | simple b=>rfl
 | _=>exact absurd hk (by simp [Itm.kind])
theorem list_of {x:Itm} (h:Cb.chk x=0) (hk:x.kind=5):x=list x.kids∧Cb.chks x.kids=0:=by
 cases shape x h with
 | list b hl=>exact ⟨rfl,hl⟩
 | _=>exact absurd hk (by simp [Itm.kind])
theorem map_of {x:Itm} (h:Cb.chk x=0) (hk:x.kind=6):x=map x.kids∧Cb.chks x.kids=0:=by
 cases shape x h with
 | map b hl=>exact ⟨rfl,hl⟩
 | _=>exact absurd hk (by simp [Itm.kind])
theorem two_of {x : Itm} {a b : Int} (h : Cb.chk x = 0) (hk : kinds x a b = true) : x = list [fst x, snd x] ∧ Cb.chk (fst x) = 0 ∧ Cb.chk (snd x) = 0 ∧ (fst x).kind = a ∧ (snd x).kind = b := by
  unfold kinds at hk
  obtain ⟨h5, h2, ha, hb⟩ := of_decide_eq_true hk
  obtain ⟨e, hc⟩ := list_of h h5
  obtain ⟨k, n, bb, t, ks⟩ := x
  match ks, h2 with
  | [p, q], _ =>
    have h1 := chks_cons hc
    exact ⟨e, h1.1, (chks_cons h1.2).1, ha, hb⟩
end Db
end Go.Eng
namespace Go.Eng
open Go.IntWalk
namespace Db
def Just (v:Val) (x:Itm):Prop:=Tree.own v=0∧(∀i p,(Tree.chkL v.kids i p).2=0)∧itemOf v (mapped v.kids) (items v.kids)=x
theorem no_kids (i:Nat) (p:List Int):(Tree.chkL [] i p).2=0:=by rw [Tree.chkL]
theorem number_back {x:Itm} {z:Int} (h:number x=some z) (hx:Cb.chk x=0):integer z=x∧-9223372036854775808≤z∧z≤9223372036854775807:=by
 unfold number at h
 by_cases a:9223372036854775808≤x.n
 ·rw [if_pos a] at h;cases h
 rw [if_neg a] at h
 have hb:x.n.toNat<9223372036854775808:=by
  have:¬(9223372036854775808:UInt64).toNat≤x.n.toNat:=fun h=>a (UInt64.le_iff_toNat_le.2 h)
  have e:(9223372036854775808:UInt64).toNat=9223372036854775808:=rfl
  omega
 by_cases b:x.kind=1
 ·rw [if_pos b] at h;injection h with h
  have e:=plus_of hx b
  refine ⟨?_,by omega,by omega⟩
  rw [integer,if_neg (by omega),←h,ofInt_bits];exact e.symm
 ·rw [if_neg b] at h
  by_cases c:x.kind=2
  ·rw [if_pos c] at h;injection h with h
   have e:=neg_of hx c
   refine ⟨?_,by omega,by omega⟩
   rw [integer,if_pos (by omega),←h,show -(-1 - (x.n.toNat:Int)+1)=(x.n.toNat:Int) by omega,ofInt_bits];exact e.symm
  ·rw [if_neg c] at h;cases h
theorem i64_ofInt (z:Int) (h : -9223372036854775808≤z∧z≤9223372036854775807):i64 (UInt64.ofInt z)=z:=by
 have e:=u64_ofInt z
 rw [wrap_u64'] at e
 unfold i64
 rw [e]
 simp only [IntKind.wrap,IntKind.bits,IntKind.signed]
 simp
 omega
theorem i32_ofInt (z:Int) (h : -2147483648≤z∧z<2147483648):i32 (UInt64.ofInt (z % 4294967296))=z∧(UInt64.ofInt (z % 4294967296)).toNat<4294967296:=by
 have e:=u64_ofInt (z % 4294967296)
 rw [wrap_u64'] at e
 refine ⟨?_,by omega⟩
 unfold i32
 rw [e]
 simp only [IntKind.wrap,IntKind.bits,IntKind.signed]
 simp
 omega
theorem just_half {x:Itm} (hx:Cb.chk x=0) (hh:(half x).2=true):Just (half x).1 x:=by
 have hh':((number x).isSome&&decide (-2147483648≤numberI x∧numberI x<2147483648))=true:=hh
 rw [Bool.and_eq_true] at hh'
 obtain ⟨z,hz⟩:=Option.isSome_iff_exists.1 hh'.1
 have hi:numberI x=z:=by rw [numberI_eq x hh'.1,hz];rfl
 have hr:=of_decide_eq_true hh'.2
 rw [hi] at hr
 obtain ⟨he,_⟩:=number_back hz hx
 have hb:=i32_ofInt z hr
 have e:(half x).1=⟨16,UInt64.ofInt (z % 4294967296),0,0,[],[],0,[],[]⟩:=by rw [half,hi]
 rw [e]
 refine ⟨own_ok (by decide) ?_ (by decide) (by decide),no_kids,?_⟩
 ·simp [Tree.fieldsOK,Tree.hasN]
  exact UInt64.lt_iff_toNat_lt.2 hb.2
 ·rw [show itemOf ⟨16,UInt64.ofInt (z % 4294967296),0,0,[],[],0,[],[]⟩ (mapped []) (items [])=integer (i32 (UInt64.ofInt (z % 4294967296))) from rfl,hb.1,he]
theorem just_leaf {k : Int} {n : UInt64} {b t : Str} {ks : List Itm} {v : Val} (h : leaf k n b t = some v) (hx : Cb.chk (.mk k n b t ks) = 0) (h5 : k ≠ 5) (h6 : k ≠ 6) (h7 : k ≠ 7) : Just v (.mk k n b t ks) := by
  have hs := shape _ hx
  cases hs with
  | list => exact absurd rfl h5
  | map => exact absurd rfl h6
  | tag => exact absurd rfl h7
  | plus n =>
    unfold leaf at h
    rw [if_neg (by decide), if_neg (by decide), if_neg (by decide), if_neg (by decide)] at h
    by_cases a : (half (.mk 1 n [] [] [])).2 = true
    · rw [if_pos a] at h; injection h with h; subst h; exact just_half hx a
    · rw [if_neg a] at h; cases h
  | neg n =>
    unfold leaf at h
    rw [if_neg (by decide), if_neg (by decide), if_neg (by decide), if_neg (by decide)] at h
    by_cases a : (half (.mk 2 n [] [] [])).2 = true
    · rw [if_pos a] at h; injection h with h; subst h; exact just_half hx a
    · rw [if_neg a] at h; cases h
  | raw b =>
    rw [leaf, if_neg (by decide), if_neg (by decide), if_pos rfl] at h; injection h with h; subst h
    exact ⟨own_ok (by decide) (by simp [Tree.fieldsOK, Tree.hasN]) (by decide) (by decide), no_kids, rfl⟩
  | text t ht =>
    rw [leaf, if_neg (by decide), if_pos rfl] at h; injection h with h; subst h
    exact ⟨own_ok (by decide) (by simp [Tree.fieldsOK, Tree.hasN]) (wholeT_of ht) (by decide), no_kids, rfl⟩
  | float n =>
    rw [leaf, if_pos rfl] at h; injection h with h; subst h
    exact ⟨own_ok (by decide) (by simp [Tree.fieldsOK, Tree.hasN]) (by decide) (by decide), no_kids, rfl⟩
  | simple n hn =>
    rw [leaf, if_neg (by decide), if_neg (by decide), if_neg (by decide), if_pos rfl] at h; injection h with h
    by_cases a : n = 22
    · rw [if_pos a] at h; subst h; subst a
      exact ⟨own_ok (by decide) (by decide) (by decide) (by decide), no_kids, rfl⟩
    rw [if_neg a] at h
    by_cases b : n = 23
    · rw [if_pos b] at h; subst h; subst b
      exact ⟨own_ok (by decide) (by decide) (by decide) (by decide), no_kids, rfl⟩
    rw [if_neg b] at h; subst h
    have hn' : n = 20 ∨ n = 21 := by
      simp only [not_or, UInt64.lt_iff_toNat_lt] at hn
      have e1 : (20 : UInt64).toNat = 20 := rfl
      have e2 : (23 : UInt64).toNat = 23 := rfl
      have a' : n.toNat ≠ 22 := fun h => a (UInt64.toNat_inj.1 h)
      have b' : n.toNat ≠ 23 := fun h => b (UInt64.toNat_inj.1 h)
      rcases (by omega : n.toNat = 20 ∨ n.toNat = 21) with e | e
      · exact .inl (UInt64.toNat_inj.1 e)
      · exact .inr (UInt64.toNat_inj.1 e)
    rcases hn' with rfl | rfl
    · exact ⟨own_ok (by decide) (by decide) (by decide) (by decide), no_kids, by kernel_rfl⟩
    · exact ⟨own_ok (by decide) (by decide) (by decide) (by decide), no_kids, by kernel_rfl⟩
theorem fit64 {z:Int} (k:Int) (hk:k=9∨k=18) (hz : -9223372036854775808≤z∧z≤9223372036854775807) {y:Itm} (he:integer z=y):Just ⟨k,UInt64.ofInt z,0,0,[],[],0,[],[]⟩ (.mk 7 (UInt64.ofInt (1000+k)) [] [] [y]):=by
 rcases hk with rfl | rfl
 ·refine ⟨own_ok (by decide) (by simp [Tree.fieldsOK,Tree.hasN]) (by decide) (by decide),no_kids,?_⟩
  rw [show itemOf ⟨9,UInt64.ofInt z,0,0,[],[],0,[],[]⟩ (mapped []) (items []) = .mk 7 (UInt64.ofInt (1000+9)) [] [] [integer (i64 (UInt64.ofInt z))] from rfl,i64_ofInt z hz,he]
 ·refine ⟨own_ok (by decide) (by simp [Tree.fieldsOK,Tree.hasN]) (by decide) (by decide),no_kids,?_⟩
  rw [show itemOf ⟨18,UInt64.ofInt z,0,0,[],[],0,[],[]⟩ (mapped []) (items []) = .mk 7 (UInt64.ofInt (1000+18)) [] [] [integer (i64 (UInt64.ofInt z))] from rfl,i64_ofInt z hz,he]
theorem just_small {n:UInt64} {y:Itm} {v:Val} (h:small n y=some v) (hy:Cb.chk y=0):Just v (.mk 7 n [] [] [y]):=by
 unfold small at h
 by_cases a:(smallV n y).2=true
 ·rw [if_pos a] at h;injection h with h;subst h
  by_cases r:n<1000∨1255<n
  ·have e:smallV n y=(zero,false):=by rw [smallV,if_pos r]
   rw [e] at a;cases a
  by_cases n5:n=1005
  ·subst n5
   by_cases c:kinds y 1 3=true∧1≤(fst y).n∧(fst y).n≤255
   ·have e:smallV 1005 y=(⟨5,0,0,0,[],[],((fst y).n.toNat:Int),(snd y).bytes,[]⟩,true):=by rw [smallV,if_neg r,if_pos rfl,if_pos c]
    rw [e]
    obtain ⟨ey,h1,h2,k1,k2⟩:=two_of hy c.1
    have c1:1≤(fst y).n.toNat:=UInt64.le_iff_toNat_le.1 c.2.1
    have c2:(fst y).n.toNat≤255:=UInt64.le_iff_toNat_le.1 c.2.2
    refine ⟨own_ok (show Tree.name 5≠[] by decide) ?_ (by decide) (by decide),no_kids,?_⟩
    ·simp [Tree.fieldsOK,Tree.hasN];omega
    ·show itemOf ⟨5,0,0,0,[],[],((fst y).n.toNat:Int),(snd y).bytes,[]⟩ [] []=_
     have hs:¬((fst y).n.toNat:Int)=0:=by omega
     have e2:itemOf ⟨5,0,0,0,[],[],((fst y).n.toNat:Int),(snd y).bytes,[]⟩ [] [] = .mk 7 1005 [] [] [list [plus (UInt64.ofInt ((fst y).n.toNat:Int)),raw (snd y).bytes]]:=by
      generalize ((fst y).n.toNat:Int)=s at hs
      simp [itemOf,hs];exact ⟨by kernel_rfl,by kernel_rfl⟩
     rw [e2,ofInt_bits,←plus_of h1 k1,←raw_of h2 k2,←ey]
   ·have e:smallV 1005 y=(doc 5 [],false):=by rw [smallV,if_neg r,if_pos rfl,if_neg c]
    rw [e] at a;cases a
  by_cases n7:n=1007
  ·subst n7
   have e:smallV 1007 y=(⟨7,0,0,0,[],[],0,y.bytes,[]⟩,decide (y.kind=3∧y.bytes.length=12)):=by rw [smallV,if_neg r,if_neg n5,if_pos rfl]
   rw [e] at a ⊢
   have c:=of_decide_eq_true a
   have ey:=raw_of hy c.1
   refine ⟨own_ok (show Tree.name 7≠[] by decide) ?_ (by decide) (by decide),no_kids,?_⟩
   ·simp [Tree.fieldsOK,Tree.hasN,c.2]
   ·show Itm.mk 7 1007 [] [] [raw y.bytes]=_
    rw [←ey]
  by_cases n9:n=1009∨n=1018
  ·have e:smallV n y=(⟨(n.toNat:Int) - 1000,UInt64.ofInt ((number y).getD 0),0,0,[],[],0,[],[]⟩,(number y).isSome):=by rw [smallV,if_neg r,if_neg n5,if_neg n7,if_pos n9]
   rw [e] at a ⊢
   obtain ⟨z,hz⟩:=Option.isSome_iff_exists.1 a
   obtain ⟨he,hr⟩:=number_back hz hy
   rw [hz]
   rcases n9 with rfl | rfl
   ·exact fit64 9 (.inl rfl) hr he
   ·exact fit64 18 (.inr rfl) hr he
  by_cases n11:n=1011
  ·subst n11
   by_cases c:kinds y 4 4=true∧¬Utf.zero (fst y).text=true∧¬Utf.zero (snd y).text=true
   ·have e:smallV 1011 y=(⟨11,0,0,0,(fst y).text,(snd y).text,0,[],[]⟩,true):=by rw [smallV,if_neg r,if_neg n5,if_neg n7,if_neg n9,if_pos rfl,if_pos c]
    rw [e]
    obtain ⟨ey,h1,h2,k1,k2⟩:=two_of hy c.1
    obtain ⟨t1,w1⟩:=text_of h1 k1
    obtain ⟨t2,w2⟩:=text_of h2 k2
    refine ⟨own_ok (show Tree.name 11≠[] by decide) ?_ ?_ ?_,no_kids,?_⟩
    ·simp [Tree.fieldsOK,Tree.hasN]
    ·have:=c.2.1;simp at this;simp [Tree.wholeT,w1,this]
    ·have:=c.2.2;simp at this;simp [Tree.wholeT,w2,this]
    ·show Itm.mk 7 1011 [] [] [list [text (fst y).text,text (snd y).text]]=_
     rw [←t1,←t2,←ey]
   ·have e:smallV 1011 y=(doc 11 [],false):=by rw [smallV,if_neg r,if_neg n5,if_neg n7,if_neg n9,if_pos rfl,if_neg c]
    rw [e] at a;cases a
  by_cases n12:n=1012
  ·subst n12
   by_cases c:kinds y 4 3=true∧(snd y).bytes.length=12
   ·have e:smallV 1012 y=(⟨12,0,0,0,(fst y).text,[],0,(snd y).bytes,[]⟩,true):=by rw [smallV,if_neg r,if_neg n5,if_neg n7,if_neg n9,if_neg n11,if_pos rfl,if_pos c]
    rw [e]
    obtain ⟨ey,h1,h2,k1,k2⟩:=two_of hy c.1
    obtain ⟨t1,w1⟩:=text_of h1 k1
    have t2:=raw_of h2 k2
    refine ⟨own_ok (show Tree.name 12≠[] by decide) ?_ (wholeT_of w1) (by decide),no_kids,?_⟩
    ·simp [Tree.fieldsOK,Tree.hasN,c.2]
    ·show Itm.mk 7 1012 [] [] [list [text (fst y).text,raw (snd y).bytes]]=_
     rw [←t1,←t2,←ey]
   ·have e:smallV 1012 y=(doc 12 [],false):=by rw [smallV,if_neg r,if_neg n5,if_neg n7,if_neg n9,if_neg n11,if_pos rfl,if_neg c]
    rw [e] at a;cases a
  by_cases n13:n=1013∨n=1014
  ·have e:smallV n y=(doc ((n.toNat:Int) - 1000) y.text,decide (y.kind=4)):=by rw [smallV,if_neg r,if_neg n5,if_neg n7,if_neg n9,if_neg n11,if_neg n12,if_pos n13]
   rw [e] at a ⊢
   obtain ⟨t1,w1⟩:=text_of hy (of_decide_eq_true a)
   rcases n13 with rfl | rfl
   ·refine ⟨own_ok (show Tree.name 13≠[] by decide) (by simp [Tree.fieldsOK,Tree.hasN,doc]) (wholeT_of w1) (by decide),no_kids,?_⟩
    show Itm.mk 7 1013 [] [] [text y.text]=_
    rw [←t1]
   ·refine ⟨own_ok (show Tree.name 14≠[] by decide) (by simp [Tree.fieldsOK,Tree.hasN,doc]) (wholeT_of w1) (by decide),no_kids,?_⟩
    show Itm.mk 7 1014 [] [] [text y.text]=_
    rw [←t1]
  by_cases n17:n=1017
  ·subst n17
   have e:smallV 1017 y=(⟨17,y.n,0,0,[],[],0,[],[]⟩,decide (y.kind=1)):=by rw [smallV,if_neg r,if_neg n5,if_neg n7,if_neg n9,if_neg n11,if_neg n12,if_neg n13,if_pos rfl]
   rw [e] at a ⊢
   have t1:=plus_of hy (of_decide_eq_true a)
   refine ⟨own_ok (show Tree.name 17≠[] by decide) (by simp [Tree.fieldsOK,Tree.hasN]) (by decide) (by decide),no_kids,?_⟩
   show Itm.mk 7 1017 [] [] [plus y.n]=_
   rw [←t1]
  by_cases n19:n=1019
  ·subst n19
   by_cases c:y.kind=3∧y.bytes.length=16
   ·have e:smallV 1019 y=(⟨19,0,Cur.be (y.bytes.take 8),Cur.be (y.bytes.drop 8),[],[],0,[],[]⟩,true):=by rw [smallV,if_neg r,if_neg n5,if_neg n7,if_neg n9,if_neg n11,if_neg n12,if_neg n13,if_neg n17,if_pos rfl,if_pos c]
    rw [e]
    have t1:=raw_of hy c.1
    refine ⟨own_ok (show Tree.name 19≠[] by decide) (by simp [Tree.fieldsOK,Tree.hasN]) (by decide) (by decide),no_kids,?_⟩
    show Itm.mk 7 1019 [] [] [raw (words (Cur.be (y.bytes.take 8)) (Cur.be (y.bytes.drop 8)))]=_
    rw [words,Cur.put_be 8 _ (by rw [List.length_take];omega) (by omega),Cur.put_be 8 _ (by rw [List.length_drop];omega) (by omega),List.take_append_drop,←t1]
   ·have e:smallV 1019 y=(doc 19 [],false):=by rw [smallV,if_neg r,if_neg n5,if_neg n7,if_neg n9,if_neg n11,if_neg n12,if_neg n13,if_neg n17,if_pos rfl,if_neg c]
    rw [e] at a;cases a
  by_cases n27:n=1127∨n=1255
  ·have e:smallV n y=(doc ((n.toNat:Int) - 1000) [],decide (y.kind=8∧y.n=22)):=by rw [smallV,if_neg r,if_neg n5,if_neg n7,if_neg n9,if_neg n11,if_neg n12,if_neg n13,if_neg n17,if_neg n19,if_pos n27]
   rw [e] at a ⊢
   have c:=of_decide_eq_true a
   have t1:=simple_of hy c.1
   rw [c.2] at t1
   rcases n27 with rfl | rfl
   ·exact ⟨own_ok (show Tree.name 127≠[] by decide) (by decide) (by decide) (by decide),no_kids,by rw [t1];rfl⟩
   ·exact ⟨own_ok (show Tree.name 255≠[] by decide) (by decide) (by decide) (by decide),no_kids,by rw [t1];rfl⟩
  ·have e:smallV n y=(doc ((n.toNat:Int) - 1000) [],false):=by rw [smallV,if_neg r,if_neg n5,if_neg n7,if_neg n9,if_neg n11,if_neg n12,if_neg n13,if_neg n17,if_neg n19,if_neg n27]
   rw [e] at a;cases a
 ·rw [if_neg a] at h;cases h
end Db
end Go.Eng
namespace Go.Eng
open Go.IntWalk
namespace Db
theorem item_fld (n:Str) (v:Val):item (Fld.of n v)=itemOf v (mapped v.kids) (items v.kids):=by cases v;rw [Fld.of,item]
theorem chkF_ok {n:Str} {v:Val} (p:List Int) (hn:Utf.whole n=true∧Utf.zero n=false) (h:Tree.own v=0) (hk:∀i p,(Tree.chkL v.kids i p).2=0):(Tree.chkF (Fld.of n v) p).2=0:=by
 obtain ⟨k,b,hh,l,t,m,s,y,ks⟩:=v
 have e:Tree.ownN ⟨k,b,hh,l,t,m,s,y,ks⟩ n=0:=by
  unfold Tree.ownN
  rw [if_neg (by simpa using h),if_neg (by unfold Tree.wholeT;rw [hn.1,hn.2];decide)]
 rw [Fld.of,Tree.chkF,if_neg (by simpa using e)]
 exact hk 0 p
theorem chkL_cons {f:Fld} {r:List Fld} (hf:∀p,(Tree.chkF f p).2=0) (hr:∀i p,(Tree.chkL r i p).2=0):∀i p,(Tree.chkL (f :: r) i p).2=0:=fun i p=>by
 rw [Tree.chkL,if_neg (by simpa using hf _)];exact hr _ _
theorem just_map {ks:List Itm} {l:List Fld} (hm:mapped l=ks) (hl:∀i p,(Tree.chkL l i p).2=0):Just ⟨3,0,0,0,[],[],0,[],l⟩ (map ks) :=
 ⟨own_ok (by decide) (by simp [Tree.fieldsOK,Tree.hasN]) (by decide) (by decide),hl,by rw [←hm];rfl⟩
theorem just_list {ks:List Itm} {l:List Fld} (hm:items l=ks) (hr:Tree.regular l=true) (hl:∀i p,(Tree.chkL l i p).2=0):Just ⟨4,0,0,0,[],[],0,[],l⟩ (list ks):=by
 refine ⟨own_ok (by decide) (by simp [Tree.fieldsOK,Tree.hasN]) (by decide) (by decide),hl,?_⟩
 show itemOf ⟨4,0,0,0,[],[],0,[],l⟩ (mapped l) (items l)=_
 rw [←hm];simp [itemOf,hr]
theorem just_odd {ks:List Itm} {l:List Fld} (hm:mapped l=ks) (hr:¬regular ks=true) (hl:∀i p,(Tree.chkL l i p).2=0):Just ⟨4,0,0,0,[],[],0,[],l⟩ (.mk 7 1004 [] [] [map ks]):=by
 refine ⟨own_ok (by decide) (by simp [Tree.fieldsOK,Tree.hasN]) (by decide) (by decide),hl,?_⟩
 show itemOf ⟨4,0,0,0,[],[],0,[],l⟩ (mapped l) (items l)=_
 have hr':¬Tree.regular l=true:=by rw [←hm,regular,regular_mapped] at hr;exact hr
 rw [←hm];simp [itemOf,hr'];exact ⟨by kernel_rfl,by kernel_rfl⟩
theorem just_code {ks:List Itm} {l:List Fld} {t:Str} (hm:mapped l=ks) (ht:Utf.whole t=true) (hl:∀i p,(Tree.chkL l i p).2=0):Just ⟨15,0,0,0,t,[],0,[],l⟩ (.mk 7 1015 [] [] [list [text t,map ks]]) :=
 ⟨own_ok (by decide) (by simp [Tree.fieldsOK,Tree.hasN]) (wholeT_of ht) (by decide),hl,by rw [←hm];rfl⟩
mutual
theorem just_value : ∀ (x : Itm) (p : List Int) (v : Val), value x p = .ok v → Cb.chk x = 0 → Just v x
  | .mk k n b t ks, p, v, h, hx => by
    have hc := (chk_split hx).2
    rw [value] at h
    by_cases h6 : k = 6
    · subst h6
      rw [if_pos rfl] at h
      obtain ⟨l, hl, rfl⟩ := got_ok h
      have := just_fields ks 0 p l hl hc
      have e := (map_of hx rfl).1
      rw [e]
      exact just_map this.1 this.2
    rw [if_neg h6] at h
    by_cases h5 : k = 5
    · subst h5
      rw [if_pos rfl] at h
      obtain ⟨l, hl, rfl⟩ := got_ok h
      have := just_elems ks 0 p l hl hc
      have e := (list_of hx rfl).1
      rw [e]
      exact just_list this.1 this.2.1 this.2.2
    rw [if_neg h5] at h
    by_cases h7 : k = 7
    · subst h7
      rw [if_pos rfl] at h
      have := just_tags n ks p v h hc
      have hs := shape _ hx
      cases hs with
      | tag n y hy => exact this y [] rfl
    · rw [if_neg h7] at h
      cases hl : leaf k n b t with
      | none => rw [hl] at h; cases h
      | some w =>
        rw [hl] at h
        have h : w = v := by injection h
        subst h
        exact just_leaf hl hx h5 h6 h7
termination_by structural x => x
theorem just_tags : ∀ (n : UInt64) (ks : List Itm) (p : List Int) (v : Val), tags n ks p = .ok v → Cb.chks ks = 0 → ∀ y r, ks = y :: r → Just v (.mk 7 n [] [] [y])
  | n, [], p, v, h, hc, _, _, hk => by cases hk
  | n, x :: r, p, v, h, hc, y, _, hk => by
    rw [tags] at h
    injection hk with hk _
    subst hk
    exact just_tagv n x p v h (chks_cons hc).1
termination_by structural _ ks => ks
theorem just_tagv : ∀ (n : UInt64) (x : Itm) (p : List Int) (v : Val), tagv n x p = .ok v → Cb.chk x = 0 → Just v (.mk 7 n [] [] [x])
  | n, .mk k m b t ks, p, v, h, hx => by
    have hc := (chk_split hx).2
    rw [tagv] at h
    by_cases h4 : n = 1004
    · subst h4
      rw [if_pos rfl] at h
      by_cases a : k = 6 ∧ ¬ regular ks = true
      · rw [if_pos a] at h
        obtain ⟨l, hl, rfl⟩ := got_ok h
        have := just_fields ks 0 _ l hl hc
        have e := (map_of hx a.1).1
        rw [e]
        exact just_odd this.1 a.2 this.2
      · rw [if_neg a] at h; cases h
    rw [if_neg h4] at h
    by_cases h15 : n = 1015
    · subst h15
      rw [if_pos rfl] at h
      by_cases a : kinds (.mk k m b t ks) 4 6 = true
      · rw [if_pos a] at h
        have := just_pairv ks p v h hc
        obtain ⟨e, h1, h2, k1, k2⟩ := two_of hx a
        rw [e]
        match ks, e with
        | [a1, m1], e => exact this a1 m1 [] rfl k1 k2
        | [], e => cases e
        | [_], e => cases e
        | _ :: _ :: _ :: _, e => cases e
      · rw [if_neg a] at h; cases h
    rw [if_neg h15] at h
    cases hl : small n (.mk k m b t ks) with
    | none => rw [hl] at h; cases h
    | some w =>
      rw [hl] at h
      have h : w = v := by injection h
      subst h
      exact just_small hl hx
termination_by structural _ x => x
theorem just_pairv : ∀ (ks : List Itm) (p : List Int) (v : Val), pairv ks p = .ok v → Cb.chks ks = 0 → ∀ a m r, ks = a :: m :: r → a.kind = 4 → m.kind = 6 → Just v (.mk 7 1015 [] [] [list [a, m]])
  | [], p, v, h, hc, _, _, _, hk, _, _ => by cases hk
  | [_], p, v, h, hc, _, _, _, hk, _, _ => by cases hk
  | a :: m :: r, p, v, h, hc, a', m', r', hk, k1, k2 => by
    rw [pairv] at h
    injection hk with ha hk
    injection hk with hm _
    subst ha hm
    have h1 := chks_cons hc
    have h2 := (chks_cons h1.2).1
    obtain ⟨t1, w1⟩ := text_of h1.1 k1
    have := just_pairIn a.text m p v h h2 k2 w1
    rw [← t1] at this
    exact this
termination_by structural ks => ks
theorem just_pairIn : ∀ (t : Str) (m : Itm) (p : List Int) (v : Val), pairIn t m p = .ok v → Cb.chk m = 0 → m.kind = 6 → Utf.whole t = true → Just v (.mk 7 1015 [] [] [list [text t, m]])
  | t, .mk k n b s ks, p, v, h, hx, hk, ht => by
    rw [pairIn] at h
    obtain ⟨l, hl, rfl⟩ := got_ok h
    have := just_fields ks 0 _ l hl (chk_split hx).2
    have e := (map_of hx hk).1
    rw [e]
    exact just_code this.1 ht this.2
termination_by structural _ m => m
theorem just_fields : ∀ (l : List Itm) (i : Nat) (p : List Int) (ks : List Fld), fields l i p = .ok ks → Cb.chks l = 0 → mapped ks = l ∧ ∀ i p, (Tree.chkL ks i p).2 = 0
  | [], i, p, ks, h, _ => by rw [fields] at h; injection h with h; subst h; exact ⟨rfl, no_kids⟩
  | [_], i, p, ks, h, _ => by rw [fields] at h; cases h
  | k :: x :: r, i, p, ks, h, hc => by
    rw [fields] at h
    by_cases a : k.kind ≠ 4 ∨ Utf.zero k.text = true
    · rw [if_pos a] at h; cases h
    rw [if_neg a] at h
    simp only [not_or, Classical.not_not, Bool.not_eq_true] at a
    have c1 := chks_cons hc
    have c2 := chks_cons c1.2
    obtain ⟨t1, w1⟩ := text_of c1.1 a.1
    cases hv : value x (p ++ [((i + 1 : Nat) : Int)]) with
    | bad q => rw [hv] at h; cases h
    | ok v =>
      rw [hv] at h
      cases hl : fields r (i + 2) p with
      | bad q => simp only [hl] at h; cases h
      | ok l =>
        simp only [hl] at h
        injection h with h; subst h
        have h1 := just_value x _ v hv c2.1
        have h2 := just_fields r _ p l hl c2.2
        refine ⟨?_, chkL_cons (fun p => chkF_ok p ⟨w1, a.2⟩ h1.1 h1.2.1) h2.2⟩
        rw [mapped, item_fld, h1.2.2, h2.1]
        congr 1
        rw [t1]; cases v; rfl
termination_by structural l => l
theorem just_elems : ∀ (l : List Itm) (i : Nat) (p : List Int) (ks : List Fld), elems l i p = .ok ks → Cb.chks l = 0 → items ks = l ∧ Tree.regularFrom i ks = true ∧ ∀ i p, (Tree.chkL ks i p).2 = 0
  | [], i, p, ks, h, _ => by rw [elems] at h; injection h with h; subst h; exact ⟨rfl, rfl, no_kids⟩
  | x :: r, i, p, ks, h, hc => by
    rw [elems] at h
    have c1 := chks_cons hc
    cases hv : value x (p ++ [(i : Int)]) with
    | bad q => rw [hv] at h; cases h
    | ok v =>
      rw [hv] at h
      cases hl : elems r (i + 1) p with
      | bad q => simp only [hl] at h; cases h
      | ok l =>
        simp only [hl] at h
        injection h with h; subst h
        have h1 := just_value x _ v hv c1.1
        have h2 := just_elems r _ p l hl c1.2
        refine ⟨?_, ?_, chkL_cons (fun p => chkF_ok p (digs_name i) h1.1 h1.2.1) h2.2.2⟩
        · rw [items, item_fld, h1.2.2, h2.1]
        · rw [Tree.regularFrom, h2.2.1, Bool.and_true]
          exact decide_eq_true (by cases v; rfl)
termination_by structural l => l
end
end Db
end Go.Eng
namespace Go.Eng
noncomputable section
def DocborJust.sg:FSig:={}
def DocborJust.c:Ctr:=fun l=>match l with
 | [.ag [.i .i64 it_kind,.u64 it_n,.sl .bs it_bytes,.s it_text,.sl .il it_kids]] => .ok [(.b (true))]
 | _ => .err
end
noncomputable section
def DocborJust.env:List (Nat × (Ctr × FSig)):=[(8,(law30_awake.c,law30_awake.sg)),(10,(db_Item.c,db_Item.sg)),(13,(ref28_Same.c,ref28_Same.sg)),(14,(book_SmallItem.c,book_SmallItem.sg)),(15,(db_Value.c,db_Value.sg)),(17,(ref17_Same.c,ref17_Same.sg)),(19,(ref17_Check.c,ref17_Check.sg))]
def DocborJust.E:TEnv:=envL trydbGl DocborJust.env
def DocborJust.m:TM := .seq (.reg [
  ⟨.k (.bx 1047),[.s 0,.s 1047],[1,1047],none⟩,
  ⟨.k .mv,[.c (.b false)],[2],none⟩]) none (.seq (.seq (.reg [
  ⟨.k (.call 8 (.plain 0 1)),[],[9],none⟩,
  ⟨.k (.un .not),[.s 9],[10],none⟩]) none (.cond (.s 10) [] (.seq (.reg [
  ⟨.k .mv,[.c (.b false)],[2],none⟩]) none .ret) .skip)) none (.seq (.seq (.reg [
  ⟨.k (.ld 1047 0 5 true),[.s 1,.s 1047],[11],none⟩,
  ⟨.k (.call 14 (.plain 1 1)),[.s 11],[12],none⟩,
  ⟨.k (.un .not),[.s 12],[13],none⟩]) none (.cond (.s 13) [] (.seq (.reg [
  ⟨.k .mv,[.c (.b true)],[2],none⟩]) none .ret) .skip)) none (.seq (.reg [
  ⟨.k (.ld 1047 0 5 true),[.s 1,.s 1047],[15],none⟩,
  ⟨.k (.call 15 (.plain 1 2)),[.s 15],[16],none⟩,
  ⟨.k .mv,[.s 16],[14],none⟩,
  ⟨.k (.ex 0),[.s 14],[17],none⟩,
  ⟨.k (.ex 1),[.s 14],[18],none⟩,
  ⟨.al 1048 [(.i .i64 (0:Int)),(.u64 (0:UInt64)),(.u64 (0:UInt64)),(.u64 (0:UInt64)),(.s ([]:Str)),(.s ([]:Str)),(.i .i64 (0:Int)),(.sl .bs ([]:List UInt8)),(.sl .fl ([]:List Fld))] [],[.s 1048],[3,1048],none⟩,
  ⟨.al 1049 [(.i .i64 (0:Int)),(.i .i64 (0:Int)),(.sl .is ([]:List Int))] [],[.s 1049],[4,1049],none⟩,
  ⟨.k (.st 1048 0 9),[.s 3,.s 1048,.s 17],[1048],none⟩,
  ⟨.k (.st 1049 0 3),[.s 4,.s 1049,.s 18],[1049],none⟩]) none (.seq (.seq (.reg [
  ⟨.k (.fa 1049 0 0),[.s 4],[19],none⟩,
  ⟨.k (.ld 1049 0 1 false),[.s 19,.s 1049],[20],none⟩,
  ⟨.k (.bin .neq),[.s 20,.c (.i .i64 (0:Int))],[21],none⟩]) none (.cond (.s 21) [] (.seq (.reg [
  ⟨.k (.ld 1048 0 9 true),[.s 3,.s 1048],[22],none⟩,
  ⟨.bd [(.i .i64 (0:Int)),(.u64 (0:UInt64)),(.u64 (0:UInt64)),(.u64 (0:UInt64)),(.s ([]:Str)),(.s ([]:Str)),(.i .i64 (0:Int)),(.sl .bs ([]:List UInt8)),(.sl .fl ([]:List Fld))] [],[],[23],none⟩,
  ⟨.k (.call 17 (.plain 2 1)),[.s 22,.s 23],[24],none⟩,
  ⟨.k .mv,[.s 24],[2],none⟩]) none .ret) .skip)) none (.seq (.reg [
  ⟨.k (.ld 1048 0 9 true),[.s 3,.s 1048],[26],none⟩,
  ⟨.k (.call 10 (.plain 1 2)),[.s 26],[27],none⟩,
  ⟨.k .mv,[.s 27],[25],none⟩,
  ⟨.k (.ex 0),[.s 25],[28],none⟩,
  ⟨.k (.ex 1),[.s 25],[29],none⟩,
  ⟨.al 1050 [(.i .i64 (0:Int)),(.u64 (0:UInt64)),(.sl .bs ([]:List UInt8)),(.s ([]:Str)),(.sl .il ([]:List Itm))] [],[.s 1050],[5,1050],none⟩,
  ⟨.al 1051 [(.i .i64 (0:Int)),(.i .i64 (0:Int)),(.sl .is ([]:List Int))] [],[.s 1051],[6,1051],none⟩,
  ⟨.k (.st 1050 0 5),[.s 5,.s 1050,.s 28],[1050],none⟩,
  ⟨.k (.st 1051 0 3),[.s 6,.s 1051,.s 29],[1051],none⟩]) none (.seq (.reg [
  ⟨.k (.ld 1048 0 9 true),[.s 3,.s 1048],[31],none⟩,
  ⟨.k (.call 19 (.plain 1 2)),[.s 31],[32],none⟩,
  ⟨.k .mv,[.s 32],[30],none⟩,
  ⟨.k (.ex 0),[.s 30],[33],none⟩,
  ⟨.k (.ex 1),[.s 30],[34],none⟩,
  ⟨.k .mv,[.s 33],[7],none⟩,
  ⟨.k .mv,[.s 34],[8],none⟩]) none (.seq (.reg [
  ⟨.k .mv,[.s 8],[35],none⟩,
  ⟨.k (.bin .eql),[.s 35,.c (.i .i64 (0:Int))],[36],none⟩,
  ⟨.k .mv,[.s 36],[37],none⟩,
  ⟨.k (.fa 1051 0 0),[.s 6],[38],some (37,true)⟩,
  ⟨.k (.ld 1051 0 1 false),[.s 38,.s 1051],[39],some (37,true)⟩,
  ⟨.k (.bin .eql),[.s 39,.c (.i .i64 (0:Int))],[40],some (37,true)⟩,
  ⟨.k .pick,[.s 37,.s 40,.c (.b false)],[41],none⟩,
  ⟨.k .mv,[.s 41],[42],none⟩,
  ⟨.k (.ld 1050 0 5 true),[.s 5,.s 1050],[43],some (42,true)⟩,
  ⟨.k (.ld 1047 0 5 true),[.s 1,.s 1047],[44],some (42,true)⟩,
  ⟨.k (.call 13 (.plain 2 1)),[.s 43,.s 44],[45],some (42,true)⟩,
  ⟨.k .pick,[.s 42,.s 45,.c (.b false)],[46],none⟩,
  ⟨.k .mv,[.s 46],[2],none⟩]) none .ret)))))))
def DocborJust.d:TFD:={ np:=1,m:=DocborJust.m,ref:=none,tips:=[],res:=[.t 2],own:=[],new:=none,tnew:=[] }
noncomputable def DocborJust.F (it:Itv):Option (List TV):=DocborJust.d.run DocborJust.E [(.ag (Itv.cells it))]
theorem DocborJust.F_in (it:Itv) {ρ:Option (List TV)} (K:∀(v1:Int) (h1:v1=(Flt.err ((Db.dec (Itm.of it)).2))) (v2:Bool) (h2:v2=(Tree.same ((Db.dec (Itm.of it)).1) (Val.mk (0:Int) (0:UInt64) (0:UInt64) (0:UInt64) ([]:Str) ([]:Str) (0:Int) ([]:List UInt8) ([]:List Fld)))) (v3:Flt) (h3:v3=((Db.enc ((Db.dec (Itm.of it)).1)).2)) (v4:List Int) (h4:v4=((Tree.chkF (Fld.of [] ((Db.dec (Itm.of it)).1)) []).1)) (v5:Int) (h5:v5=((Tree.chkF (Fld.of [] ((Db.dec (Itm.of it)).1)) []).2)) (v6:Bool) (h6:v6=(cond (decide (v5=(0:Int))) (decide ((Flt.err v3)=(0:Int))) false)) (v7:Bool) (h7:v7=(Itm.same (Itm.of (Itm.val ((Db.enc ((Db.dec (Itm.of it)).1)).1))) (Itm.of it))),cond (!(true))
  (some [(.b false)])
  (cond (!(decide (0≤Itm.room 1500 (Itm.of it))))
  (some [(.b true)])
  (ck (decide (Itm.bulk (Itm.of it)≤1073741824)) (cond (!decide (v1=(0:Int)))
  (ck (decide (Fld.bulk (Fld.of [] ((Db.dec (Itm.of it)).1))≤1099511627776)) (some [(.b v2)]))
  (ck (decide (Fld.bulk (Fld.of [] ((Db.dec (Itm.of it)).1))≤1073741824)) (ck (decide (Fld.bulk (Fld.of [] ((Db.dec (Itm.of it)).1))≤1099511627776)) (ck (!(decide (v5=(0:Int))) || (decide (v5=(0:Int)))) (ck (!(decide (v5=(0:Int))) || (decide (v5=(0:Int)))) (ck (!(decide (v5=(0:Int))) || (decide (v5=(0:Int)))) (ck (!v6 || ((v6&&v6)&&(decide (Itm.bulk (Itm.of (Itm.val ((Db.enc ((Db.dec (Itm.of it)).1)).1)))≤1099511627776)))) (ck (!v6 || v6) (some [(.b (cond v6 v7 false))])))))))))))=ρ):DocborJust.F it=ρ:=Eq.trans (by kernel_rfl) (K _ rfl _ rfl _ rfl _ rfl _ rfl _ rfl _ rfl)
theorem DocborJust.chk:((Go.Proofs.Tryd.prog.funcs[6]?).any fun fn=>chkF Go.Proofs.Tryd.prog (fun k=>((envL trydbGl DocborJust.env).fs k).2) fn DocborJust.d.erase)=true:=by kernel_rfl
end
end Go.Eng
namespace Go.Eng
open Go.IntWalk
theorem Db.dec_just (x : Itm) (h : (Db.dec x).2.err = 0) : (Tree.chkF (Fld.of [] (Db.dec x).1) []).2 = 0 ∧ Db.enc (Db.dec x).1 = (x, ⟨0, 0, []⟩) := by
  by_cases a : Cb.chk x = 0
  · by_cases b : x.kind = 6
    · have e : Db.dec x = ((Db.value x []).val, (Db.value x []).flt) := by unfold Db.dec; rw [if_neg (by simpa using a), if_neg (by simpa using b)]
      rw [e] at h ⊢
      cases hv : Db.value x [] with
      | bad q => rw [hv] at h; exact absurd h (by show ¬ (12 : Int) = 0; decide)
      | ok v =>
        have hj := Db.just_value x [] v hv a
        show (Tree.chkF (Fld.of [] v) []).2 = 0 ∧ Db.enc v = (x, ⟨0, 0, []⟩)
        have hc : (Tree.chkF (Fld.of [] v) []).2 = 0 := Db.chkF_ok [] ⟨by decide, by decide⟩ hj.1 hj.2.1
        refine ⟨hc, ?_⟩
        have hk : v.kind = 3 := by
          obtain ⟨k, n, bb, t, ks⟩ := x
          have b : k = 6 := b
          subst b
          rw [Db.value, if_pos rfl] at hv
          obtain ⟨l, _, rfl⟩ := Db.got_ok hv
          rfl
        unfold Db.enc
        rw [if_neg (by simpa using hc), if_neg (by simpa using hk)]
        have h2 := hj.2.2
        rw [← h2]
        unfold Db.itemOf
        rw [if_neg (by omega), if_neg (by omega), if_pos hk]
    · exact absurd h (by unfold Db.dec; rw [if_neg (by simpa using a), if_pos b]; decide)
  · exact absurd h (by unfold Db.dec; rw [if_pos a]; exact a)
theorem Db.dec_bad (x:Itm) (h:(Db.dec x).2.err≠0):(Db.dec x).1=Db.zero:=by
 unfold Db.dec at h ⊢
 by_cases a:Cb.chk x=0
 ·rw [if_neg (by simpa using a)] at h ⊢
  by_cases b:x.kind=6
  ·rw [if_neg (by simpa using b)] at h ⊢
   cases hv:Db.value x [] with
   | bad q=>rfl
   | ok v=>rw [hv] at h;exact absurd rfl h
  ·rw [if_pos b]
 ·rw [if_pos a]
theorem DocborJust.goal (it:Itv):DocborJust.F it=some [.b true]:=by
 refine DocborJust.F_in it ?_
 intro v1 h1 v2 h2 v3 h3 v4 h4 v5 h5 v6 h6 v7 h7
 rw [Bool.not_true,cond_false]
 by_cases a:0≤Itm.room 1500 (Itm.of it)
 ·have hb:=Itm.small_bulk _ a
  have h8:Fld.bulk (Fld.of [] (Db.dec (Itm.of it)).1)≤_:=Db.dec_bulk (Itm.of it) (by omega)
  rw [decide_eq_true a,Bool.not_true,cond_false,ck_of (decide_eq_true (by omega))]
  have h1':v1=(Db.dec (Itm.of it)).2.err:=h1
  by_cases e:(Db.dec (Itm.of it)).2.err=0
  ·obtain ⟨g1,g2⟩:=Db.dec_just _ e
   rw [g2,Itm.of_val,Itm.same_refl] at h7
   have h3':v3.err=0:=by rw [h3,g2]
   have h5':v5=0:=by rw [h5,g1]
   have h6':v6=true:=by rw [h6,h5',h3'];rfl
   rw [decide_eq_true (show v1=0 by rw [h1',e]),Bool.not_true,cond_false,ck_of (decide_eq_true (by omega)),ck_of (decide_eq_true (by omega)),h5',h6',h7,ck_of (by rfl),ck_of (by rfl),ck_of (by rfl),g2,
    Itm.of_val,ck_of (by rw [decide_eq_true (show Itm.bulk (Itm.of it)≤1099511627776 by omega)];rfl)]
   rfl
  ·have h2':v2=true:=by rw [h2,Db.dec_bad _ e];exact (Tree.same_iff _ _).2 rfl
   rw [decide_eq_false (show ¬v1=0 by rw [h1'];exact e),Bool.not_false,cond_true,ck_of (decide_eq_true (by omega)),h2']
 ·rw [decide_eq_false a];rfl
end Go.Eng
namespace Go.Eng
theorem DocborJust.fit (it_kind:Int) (it_n:UInt64) (it_bytes:List UInt8) (it_text:Str) (it_kids:List Itm):([.ag [.i .i64 it_kind,.u64 it_n,.sl .bs it_bytes,.s it_text,.sl .il it_kids]]:List TV).length=DocborJust.d.np∧DocborJust.d.run (envL trydbGl DocborJust.env) [.ag [.i .i64 it_kind,.u64 it_n,.sl .bs it_bytes,.s it_text,.sl .il it_kids]]=some (([(.b (true))]:List TV)++DocborJust.d.ps.toList.map fun q=>([.ag [.i .i64 it_kind,.u64 it_n,.sl .bs it_bytes,.s it_text,.sl .il it_kids]]:List TV).getD q.1 .dead) :=
 ⟨by kernel_rfl,Eq.trans (b:=DocborJust.F (Itv.mk it_kind it_n it_bytes it_text it_kids)) (by kernel_rfl) (Eq.trans (DocborJust.goal (Itv.mk it_kind it_n it_bytes it_text it_kids)) (by kernel_rfl))⟩
theorem DocborJust.ok:SpecOK Go.Proofs.Tryd.prog (fun n=>(trydbGl n).av) 6 (Ctr.fs (DocborJust.c,DocborJust.sg)) :=
 meets (l:=DocborJust.env) (all_cons law30_awake.ok (all_cons db_Item.ok (all_cons ref28_Same.ok (all_cons book_SmallItem.ok (all_cons db_Value.ok (all_cons ref17_Same.ok (all_cons ref17_Check.ok all_nil))))))) DocborJust.chk (by
   intro ins outs h
   unfold DocborJust.c at h
   split at h
   ·cases h;exact DocborJust.fit _ _ _ _ _
   ·exact h.elim)
end Go.Eng
