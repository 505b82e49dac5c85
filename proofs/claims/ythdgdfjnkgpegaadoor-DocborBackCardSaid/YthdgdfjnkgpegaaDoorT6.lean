/- Texts of my own, one behind the other: DbP8, DbP9, DbP, DbOK, DbR1, DbR2, DbR3, DbLBack, DbQBack, DbOKBack. -/
import Derived.Test.YthdgdfjnkgpegaaDoorT5
set_option linter.unusedVariables false
set_option linter.unusedSimpArgs false
namespace Go.Eng
open Go.IntWalk
theorem Cb.own0 (it:Itv) (h:Cb.own (Itm.of it)=0):(1≤it.kind∧it.kind≤9)∧(it.kind=3∨it.kind=4∨it.kind=5∨it.kind=6→it.n=0)∧(it.kind≠3→it.bytes=[])∧(it.kind≠4→it.text=[])∧(it.kind≠5→it.kind≠6→it.kind≠7→it.kids=[]) ∧
  (it.kind=8→20≤it.n∧it.n≤23)∧(it.kind=6→it.kids.length % 2=0)∧(it.kind=7→it.kids.length=1)∧Utf.whole it.text=true:=by
 obtain ⟨k,n,b,t,ks⟩:=it
 simp only [Cb.own,Itm.of] at h
 simp only
 by_cases h1:k<1∨9<k
 ·rw [if_pos h1] at h;cases h
 rw [if_neg h1] at h
 split at h
 ·cases h
 rename_i h2
 split at h
 ·cases h
 rename_i h3
 split at h
 ·cases h
 rename_i h4
 split at h
 ·rename_i h6
  refine ⟨by omega,?_,?_,?_,?_,?_,?_,?_,h6⟩ <;> grind
 ·cases h
theorem Cb.chk0 (it:Itv) (h:Cb.chk (Itm.of it)=0):Cb.own (Itm.of it)=0∧Cb.chks it.kids=0:=by
 rw [Cb.chk_of] at h
 by_cases a:Cb.own (Itm.of it)=0
 ·rw [if_pos a] at h;exact ⟨a,h⟩
 ·rw [if_neg a] at h;exact (a h).elim
theorem Cb.chks_cons {k:Itm} {r:List Itm} (h:Cb.chks (k :: r)=0):Cb.chk k=0∧Cb.chks r=0:=by
 rw [Cb.chks] at h
 by_cases a:Cb.chk k=0
 ·rw [if_pos a] at h;exact ⟨a,h⟩
 ·rw [if_neg a] at h;exact (a h).elim
theorem Cb.chks_drop:∀(l:List Itm) (i:Nat),Cb.chks l=0→Cb.chks (l.drop i)=0
 | [],i,_=>by simp [Cb.chks]
 | k :: r,0,h=>by simpa using h
 | k :: r,i+1,h=>by simpa using Cb.chks_drop r i (Cb.chks_cons h).2
theorem Itm.bulks_drop : ∀ (l : List Itm) (i : Nat), Itm.bulks (l.drop i) ≤ Itm.bulks l
  | [], i => by simp
  | k :: r, 0 => by simp
  | k :: r, i + 1 => by
    have := Itm.bulks_drop r i
    simp only [List.drop_succ_cons, Itm.bulks]; omega
theorem Cb.chk_val (x:Itm) (h:Cb.chk x=0):Cb.own x=0∧Cb.chks x.kids=0:=by
 have:=Cb.chk0 x.val (by rw [Itm.of_val];exact h)
 rw [Itm.of_val] at this;exact this
theorem Itm.bulk_val (x:Itm):Itm.bulk x=1+x.bytes.length+x.text.length+Itm.bulks x.kids:=by cases x;simp only [Itm.bulk,Itm.bytes,Itm.text,Itm.kids]
namespace Db
def Got.tvs (g:Got) (p:List Int):List TV:=[.ag (Val.cells g.val),.ag (Flt.cells g.flt),.sl .is p]
def Gots.app (acc:List Fld):Gots→Gots
 | .ok r => .ok (acc++r)
 | .bad p => .bad p
theorem Gots.app_nil (g:Gots):g.app []=g:=by cases g <;> simp [Gots.app]
theorem fields_step (k x:Itm) (r:List Itm) (i:Nat) (p:List Int):fields (k :: x :: r) i p=if k.kind≠4∨Utf.zero k.text=true then .bad (p++[(i:Int)])
  else match value x (p++[((i+1:Nat):Int)]) with
   | .bad q => .bad q
   | .ok v=>(fields r (i+2) p).app [Fld.of k.text v]:=by
 rw [fields]
 split
 ·rfl
 ·split
  ·rename_i q hq;rw [hq]
  ·rename_i v hv
   rw [hv]
   simp only
   split
   ·rename_i q hq;rw [hq];rfl
   ·rename_i l hl;rw [hl];rfl
theorem elems_step (x:Itm) (r:List Itm) (i:Nat) (p:List Int):elems (x :: r) i p=match value x (p++[(i:Int)]) with
   | .bad q => .bad q
   | .ok v=>(elems r (i+1) p).app [Fld.of (digs i) v]:=by
 rw [elems]
 split
 ·rename_i q hq;rw [hq]
 ·rename_i v hv
  rw [hv]
  simp only
  split
  ·rename_i q hq;rw [hq];rfl
  ·rename_i l hl;rw [hl];rfl
theorem Gots.app_app (a b:List Fld) (g:Gots):(g.app b).app a=g.app (a++b):=by cases g <;> simp [Gots.app]
theorem value_of (it:Itv) (p:List Int):value (Itm.of it) p=if it.kind=6 then (fields it.kids 0 p).got (doc 3 []) else if it.kind=5 then (elems it.kids 0 p).got (doc 4 []) else if it.kind=7 then tags it.n it.kids p else opt (leaf it.kind it.n it.bytes it.text) p:=by
 rw [Itm.of,value]
theorem tagv_of (n:UInt64) (x:Itm) (p:List Int):tagv n x p=if n=1004 then (if x.kind=6∧¬regular x.kids=true then (fields x.kids 0 (p++[0])).got (doc 4 []) else .bad p)
  else if n=1015 then (if kinds x 4 6=true then pairv x.kids p else .bad p) else opt (small n x) p:=by
 cases x;rw [tagv];rfl
theorem pairv_of (l:List Itm) (p:List Int) (h:l.length=2):pairv l p=(fields (l.getD 1 Mp.zero).kids 0 (p++[0,1])).got (doc 15 (l.getD 0 Mp.zero).text):=by
 match l,h with
 | [a,m],_=>rw [pairv];cases m;rw [pairIn];rfl
end Db
theorem db_with.l1_ok (n : Nat) (l : List Itm) (path : List Int) (x2 : Int) (x3 x4 x5 : UInt64) (x6 x7 : Str) (x8 : Int) (x10 : Val) (x11 : Flt) (hb : Itm.bulks l + path.length ≤ 1073741824) (hn : 2 * Itm.bulks l + 1 < n) (hc : Cb.chks l = 0) : ∀ (m i : Nat) (acc : List Fld), i + 2 * m = l.length → acc.length + m ≤ 2147483648 →
    db_with.l1 n l i x2 x3 x4 x5 x6 x7 x8 acc x10 x11 path = some (Db.Got.tvs (((Db.fields (l.drop i) i path).app acc).got ⟨x2, x3, x4, x5, x6, x7, x8, [], []⟩) path) := by
  have hlen := Itm.bulk_kids l
  intro m
  induction m with
  | zero =>
    intro i acc hi ha
    refine db_with.l1_in _ _ _ _ _ _ _ _ _ _ _ _ _ _ ?_
    intro v1 h1 v2 h2 v3 h3 v4 h4 v5 h5 v6 h6 v7 h7 v8 h8 v9 h9 v10 h10
    rw [decide_eq_false (by omega), cond_false, List.drop_of_length_le (by omega), Db.fields]
    simp only [Db.Gots.app, List.append_nil, Db.Gots.got]; rfl
  | succ m ih =>
    intro i acc hi ha
    refine db_with.l1_in _ _ _ _ _ _ _ _ _ _ _ _ _ _ ?_
    intro v1 h1 v2 h2 v3 h3 v4 h4 v5 h5 v6 h6 v7 h7 v8 h8 v9 h9 v10 h10
    have e6 : v6 = ((i + 1 : Nat) : Int) := by rw [h6, i64_in _ (by omega)]; omega
    rw [e6] at h7 h8
    rw [Int.toNat_natCast] at h1 h3
    rw [Int.toNat_natCast, Itm.of_val] at h7 h8
    have hd : l.drop i = l.getD i (STy.dflt .il) :: l.getD (i + 1) (STy.dflt .il) :: l.drop (i + 2) := by
      rw [drop_cons (show i < l.length by omega) (STy.dflt .il), drop_cons (show i + 1 < l.length by omega) (STy.dflt .il)]
    have hbd := Itm.bulks_drop l i
    have hcd := Cb.chks_drop l i hc
    rw [hd] at hbd hcd
    simp only [Itm.bulks] at hbd
    have hk1 := Itm.bulk_pos (l.getD i (STy.dflt .il))
    obtain ⟨_, hcd⟩ := Cb.chks_cons hcd
    obtain ⟨hcx, _⟩ := Cb.chks_cons hcd
    have hz : decide (0 ≤ Lib.indexByte v3 (([0] : Str).getD 0 0)) = Utf.zero v3 := indexByte_contains 0 v3
    have e2 : v2 = decide (v1 = 4) := by rw [h2, Bool.not_not]
    rw [hz] at h4
    have i0 : idxOK (i : Int) l.length = true := idx_ok (by omega) (by omega)
    rw [hd, Db.fields_step, ← h1, ← h3]
    rw [e6, Int.toNat_natCast, Itm.of_val]
    generalize l.getD (i + 1) (STy.dflt .il) = x at h7 h8 hbd hcx
    simp only [i0, show decide ((([0] : Str)).length = 1) = true from rfl, Bool.and_true, Bool.and_self, Bool.not_or_self, ck_true]
    rw [decide_eq_true (by omega), cond_true, ck_of (by rw [e2]; cases decide (v1 = 4) <;> rfl)]
    by_cases bad : v1 ≠ 4 ∨ Utf.zero v3 = true
    · have e4 : v4 = true := by
        rw [h4]
        by_cases x : v1 = 4
        · rw [decide_eq_true x, bad.resolve_left (fun h => h x)]; rfl
        · rw [decide_eq_false x]; rfl
      rw [e4, cond_true, if_pos bad, ck_of (big_ap (by simp only [List.length_singleton]; omega) (by simp only [List.length_singleton]; omega)), ck_of (decide_eq_true (by simp only [List.length_append, List.length_singleton]; omega)), h5]; rfl
    · have e4 : v4 = false := by
        simp only [not_or, Classical.not_not, ne_eq] at bad
        rw [h4, decide_eq_true bad.1, Bool.eq_false_iff.2 bad.2]; rfl
      rw [e4, cond_false, if_neg bad, ck_of (idx_ok (by omega) (by omega)), ck_of (big_ap (by simp only [List.length_singleton]; omega) (by simp only [List.length_singleton]; omega)), ck_of (by
        rw [decide_eq_true (show Itm.bulk x + (path ++ [((i + 1 : Nat) : Int)]).length ≤ 1073741824 by simp only [List.length_append, List.length_singleton]; omega), decide_eq_true hcx, decide_eq_true (show 2 * Itm.bulk x + 1 < n by omega)]; rfl)]
      cases hv : Db.value x (path ++ [((i + 1 : Nat) : Int)]) with
      | bad q =>
        rw [hv] at h8
        rw [h8]; rfl
      | ok v =>
        rw [hv] at h7 h8
        have h7' : v7 = v := h7
        have h8' : v8 = ⟨0, 0, []⟩ := h8
        rw [h8', show (!decide ((Flt.mk 0 0 []).err = 0)) = false from rfl, cond_false, ck_of (big_ap (by rw [h9]; simp only [List.length_singleton]; omega) (by rw [h9]; simp only [List.length_singleton]; omega)), h10, i64_in _ (by omega), show (i : Int) + 2 = ((i + 2 : Nat) : Int) by omega, ih (i + 2) _ (by omega) (by rw [h9]; simp only [List.length_append, List.length_singleton]; omega), h9, h7']
        simp only
        rw [Db.Gots.app_app]; rfl
theorem db_with.goal (n:Nat) (v:Val) (l:List Itm) (path:List Int) (hp:((decide (Itm.bulks l+path.length≤1073741824)&&decide (Cb.chks l=0∧l.length % 2=0))&&decide ((2 * Itm.bulks l+2)<n+1))=true) :
  db_with.F n v l path=some (Db.Got.tvs ((Db.fields l 0 path).got ⟨v.kind,v.bits,v.high,v.low,v.text,v.more,v.sub,[],[]⟩) path):=by
 simp only [Bool.and_eq_true,decide_eq_true_eq] at hp
 obtain ⟨⟨hb,hc,he⟩,hn⟩:=hp
 have hlen:=Itm.bulk_kids l
 rw [db_with.F_eq]
 have:=db_with.l1_ok n l path v.kind v.bits v.high v.low v.text v.more v.sub Db.zero ⟨0,0,[]⟩ hb (by omega) hc (l.length / 2) 0 [] (by omega) (by simp only [List.length_nil];omega)
 rw [List.drop_zero,Db.Gots.app_nil] at this
 exact this
theorem db_value.l3_ok (n : Nat) (l : List Itm) (path : List Int) (x3 : Val) (x4 : Flt) (x5 : Int) (x6 x7 x8 : UInt64) (x9 x10 : Str) (x11 : Int) (hb : Itm.bulks l + 1 + path.length ≤ 1073741824) (hn : 2 * Itm.bulks l + 1 < n) (hc : Cb.chks l = 0) : ∀ (m i : Nat) (acc : List Fld), i + m = l.length → acc.length + m ≤ 2147483648 →
    db_value.l3 n l (l.length : Int) i x3 x4 x5 x6 x7 x8 x9 x10 x11 acc path = some (Db.Got.tvs (((Db.elems (l.drop i) i path).app acc).got ⟨x5, x6, x7, x8, x9, x10, x11, [], []⟩) path) := by
  have hlen := Itm.bulk_kids l
  intro m
  induction m with
  | zero =>
    intro i acc hi ha
    refine db_value.l3_in _ _ _ _ _ _ _ _ _ _ _ _ _ _ _ ?_
    intro v1 h1 v2 h2 v3 h3 v4 h4
    rw [decide_eq_false (by omega), cond_false, List.drop_of_length_le (by omega), Db.elems]
    simp only [Db.Gots.app, List.append_nil, Db.Gots.got]; rfl
  | succ m ih =>
    intro i acc hi ha
    refine db_value.l3_in _ _ _ _ _ _ _ _ _ _ _ _ _ _ _ ?_
    intro v1 h1 v2 h2 v3 h3 v4 h4
    rw [Int.toNat_natCast, Itm.of_val] at h1 h2
    have hd : l.drop i = l.getD i (STy.dflt .il) :: l.drop (i + 1) := drop_cons (show i < l.length by omega) (STy.dflt .il)
    have hbd := Itm.bulks_at l i (by omega)
    have hcd := Cb.chks_drop l i hc
    rw [hd] at hcd
    obtain ⟨hcx, _⟩ := Cb.chks_cons hcd
    rw [hd, Db.elems_step, Int.toNat_natCast, Itm.of_val]
    generalize l.getD i (STy.dflt .il) = x at h1 h2 hbd hcx
    rw [decide_eq_true (by omega), cond_true, ck_of (idx_ok (by omega) (by omega)), ck_of (big_ap (by simp only [List.length_singleton]; omega) (by simp only [List.length_singleton]; omega)), ck_of (by
        rw [decide_eq_true (show Itm.bulk x + (path ++ [(i : Int)]).length ≤ 1073741824 by simp only [List.length_append, List.length_singleton]; omega), decide_eq_true hcx, decide_eq_true (show 2 * Itm.bulk x + 1 < n by omega)]; rfl)]
    cases hv : Db.value x (path ++ [(i : Int)]) with
    | bad q =>
      rw [hv] at h2
      rw [h2]; rfl
    | ok v =>
      rw [hv] at h1 h2
      have h1' : v1 = v := h1
      have h2' : v2 = ⟨0, 0, []⟩ := h2
      rw [h2', show (!decide ((Flt.mk 0 0 []).err = 0)) = false from rfl, cond_false, ck_of (decide_eq_true (by omega)), ck_of (big_ap (by rw [h3]; simp only [List.length_singleton]; omega) (by rw [h3]; simp only [List.length_singleton]; omega)), h4, i64_in _ (by omega), show (i : Int) + 1 = ((i + 1 : Nat) : Int) by omega, ih (i + 1) _ (by omega) (by rw [h3]; simp only [List.length_append, List.length_singleton]; omega), h3, h1', itoa_nat]
      simp only
      rw [Db.Gots.app_app]; rfl
theorem db_value.j2_ok (n:Nat) (x0:Val) (x1:Flt) (p:List Int) (h:p.length≤1099511627776):db_value.j2 n x0 x1 p=some (Db.Got.tvs (.bad p) p):=by
 rw [db_value.j2_eq,ck_of (decide_eq_true h)];rfl
theorem Db.half_of (it:Itv):Db.leaf it.kind it.n it.bytes it.text=if it.kind=9 then some ⟨1,it.n,0,0,[],[],0,[],[]⟩ else if it.kind=4 then some ⟨2,0,0,0,it.text,[],0,[],[]⟩ else if it.kind=3 then some ⟨5,0,0,0,[],[],0,it.bytes,[]⟩
  else if it.kind=8 then some (if it.n=22 then ⟨10,0,0,0,[],[],0,[],[]⟩ else if it.n=23 then ⟨6,0,0,0,[],[],0,[],[]⟩ else ⟨8,it.n - 20,0,0,[],[],0,[],[]⟩)
  else if (Db.half (Itm.of it)).2 then some (Db.half (Itm.of it)).1 else none:=rfl
theorem i32_self (x:Int):(x=IntKind.i64.wrap (IntKind.i32.wrap x)) ↔ (-2147483648≤x∧x<2147483648):=by
 rw [i64_i32]
 constructor
 ·intro h
  have:=i32_rng x
  omega
 ·intro h
  have h1:=i32_rng x
  have h2:(IntKind.i32.wrap x - x) % 4294967296=0:=by
   simp only [IntKind.wrap,IntKind.bits,IntKind.signed]
   simp
   omega
  omega
theorem db_value.j1_ok (n : Nat) (x1 : Bool) (it : Itv) (x3 : Val) (x4 : Flt) (p : List Int) (hb : Itm.bulk (Itm.of it) + p.length ≤ 1073741824) (hn : 2 * Itm.bulk (Itm.of it) < n) (hc : Cb.chk (Itm.of it) = 0) (h1 : x1 = decide (it.kind = 1 ∨ it.kind = 2)) (hk : it.kind ≠ 9 ∧ it.kind ≠ 4 ∧ it.kind ≠ 3 ∧ it.kind ≠ 8) :
    db_value.j1 n it.kind x1 it x3 x4 p = some (Db.Got.tvs (Db.value (Itm.of it) p) p) := by
  obtain ⟨k9, k4, k3, k8⟩ := hk
  obtain ⟨ho, hcs⟩ := Cb.chk0 it hc
  obtain ⟨c1, c2, c3, c4, c5, c6, c7, c8, c9⟩ := Cb.own0 it ho
  have hbo := hb
  rw [Itm.bulk_of] at hb hn
  have hlen := Itm.bulk_kids it.kids
  have J2 := db_value.j2_ok n x3 x4 p (by omega)
  refine db_value.j1_in _ _ _ _ _ _ _ ?_
  intro v1 e1 v2 e2 v3 e3 v4 e4 v5 e5 v6 e6 v7 e7 v8 e8 v9 e9 v10 e10
  simp only [Bool.not_or_self, Bool.and_self, ck_true]
  by_cases k12 : it.kind = 1 ∨ it.kind = 2
  · rw [h1, decide_eq_true k12, cond_true, Db.value_of, if_neg (by omega), if_neg (by omega), if_neg (by omega), Db.half_of, if_neg k9, if_neg k4, if_neg k3, if_neg k8]
    have e4' : v4 = (Db.half (Itm.of it)).2 := by
      rw [e4, e2]
      show _ = ((Db.number (Itm.of it)).isSome && decide (-2147483648 ≤ Db.numberI (Itm.of it) ∧ Db.numberI (Itm.of it) < 2147483648))
      cases hs : (Db.number (Itm.of it)).isSome with
      | false => rfl
      | true =>
        rw [Db.numberI_eq _ hs, ← e1, e3, cond_true, Bool.true_and]
        exact decide_eq_decide.2 (i32_self v1)
    cases hh : (Db.half (Itm.of it)).2 with
    | false => rw [e4', hh, cond_false, J2]; rfl
    | true =>
      have hs : (Db.number (Itm.of it)).isSome = true := by
        have : ((Db.number (Itm.of it)).isSome && decide (-2147483648 ≤ Db.numberI (Itm.of it) ∧ Db.numberI (Itm.of it) < 2147483648)) = true := hh
        simp only [Bool.and_eq_true] at this; exact this.1
      have e5' : v5 = UInt64.ofInt (Db.numberI (Itm.of it) % 4294967296) := by
        rw [e5, Db.numberI_eq _ hs, ← e1]
        congr 1
        have := u32_ofInt v1
        rw [wrap_u32'] at this
        exact this
      rw [e4', hh, cond_true, e5']; rfl
  rw [h1, decide_eq_false k12, cond_false]
  by_cases k6 : it.kind = 6
  · rw [decide_eq_true k6, cond_true, ck_of (by rw [decide_eq_true (show Itm.bulks it.kids + p.length ≤ 1073741824 by omega), decide_eq_true (show Cb.chks it.kids = 0 ∧ it.kids.length % 2 = 0 from ⟨hcs, c7 k6⟩), decide_eq_true (show 2 * Itm.bulks it.kids + 2 < n by omega)]; rfl), e6, e7, Db.value_of, if_pos k6]; rfl
  rw [decide_eq_false k6, cond_false]
  by_cases k5 : it.kind = 5
  · rw [decide_eq_true k5, cond_true, e8, Db.value_of, if_neg k6, if_pos k5]
    have := db_value.l3_ok n it.kids p x3 x4 4 0 0 0 [] [] 0 (by omega) (by omega) hcs it.kids.length 0 [] (by omega) (by simp only [List.length_nil]; omega)
    rw [List.drop_zero, Db.Gots.app_nil] at this
    exact this
  rw [decide_eq_false k5, cond_false]
  have k7 : it.kind = 7 := by omega
  rw [decide_eq_true k7, cond_true, ck_of (by rw [decide_eq_true hbo, decide_eq_true (show Cb.chk (Itm.of it) = 0 ∧ it.kind = 7 from ⟨hc, k7⟩), decide_eq_true (show 2 * Itm.bulk (Itm.of it) < n by rw [Itm.bulk_of]; exact hn)]; rfl), e9, e10]; rfl
theorem db_value.goal (n:Nat) (it:Itv) (path:List Int) (hp:((decide (Itm.bulk (Itm.of it)+path.length≤1073741824)&&decide (Cb.chk (Itm.of it)=0))&&decide ((2 * Itm.bulk (Itm.of it)+1)<n+1))=true):db_value.F n it path=some (Db.Got.tvs (Db.value (Itm.of it) path) path):=by
 simp only [Bool.and_eq_true,decide_eq_true_eq] at hp
 obtain ⟨⟨hb,hc⟩,hn⟩:=hp
 obtain ⟨ho,hcs⟩:=Cb.chk0 it hc
 obtain ⟨c1,c2,c3,c4,c5,c6,c7,c8,c9⟩:=Cb.own0 it ho
 refine db_value.F_in _ _ _ ?_
 intro v1 e1 v2 e2 v3 e3 v4 e4 v5 e5 v6 e6 v7 e7
 have L:∀g:Val,it.kind≠6→it.kind≠5→it.kind≠7→Db.leaf it.kind it.n it.bytes it.text=some g→Db.value (Itm.of it) path = .ok g:=by
  intro g h6 h5 h7 hg
  rw [Db.value_of,if_neg h6,if_neg h5,if_neg h7,hg];rfl
 by_cases k9:it.kind=9
 ·rw [decide_eq_true k9,cond_true,L _ (by omega) (by omega) (by omega) (by rw [Db.half_of,if_pos k9])];rfl
 rw [decide_eq_false k9,cond_false]
 by_cases k4:it.kind=4
 ·rw [decide_eq_true k4,cond_true,L _ (by omega) (by omega) (by omega) (by rw [Db.half_of,if_neg k9,if_pos k4])];rfl
 rw [decide_eq_false k4,cond_false]
 by_cases k3:it.kind=3
 ·have hl:it.bytes.length≤1073741824:=by rw [Itm.bulk_of] at hb;omega
  rw [decide_eq_true k3,cond_true,ck_of (big_ap (n:=it.bytes.length) (b:=1) (by omega) (by omega)),L _ (by omega) (by omega) (by omega) (by rw [Db.half_of,if_neg k9,if_neg k4,if_pos k3])];rfl
 rw [decide_eq_false k3,cond_false]
 by_cases k8:it.kind=8
 ·have hu:it.n=20∨it.n=21∨it.n=22∨it.n=23:=by
   have a:=UInt64.le_iff_toNat_le.1 (c6 k8).1
   have b:=UInt64.le_iff_toNat_le.1 (c6 k8).2
   simp at a b
   have:it.n.toNat=20∨it.n.toNat=21∨it.n.toNat=22∨it.n.toNat=23:=by omega
   rcases this with h | h | h | h
   ·exact .inl (UInt64.toNat_inj.1 h)
   ·exact .inr (.inl (UInt64.toNat_inj.1 h))
   ·exact .inr (.inr (.inl (UInt64.toNat_inj.1 h)))
   ·exact .inr (.inr (.inr (UInt64.toNat_inj.1 h)))
  rw [decide_eq_true k8,cond_true,L _ (by omega) (by omega) (by omega) (by rw [Db.half_of,if_neg k9,if_neg k4,if_neg k3,if_pos k8])]
  subst e1 e2 e3 e4 e5 e6 e7
  rcases hu with h | h | h | h <;> rw [h] <;> rfl
 rw [decide_eq_false k8,cond_false]
 have J:=fun b hb'=>db_value.j1_ok n b it Db.zero ⟨0,0,[]⟩ path hb (by omega) hc hb' ⟨k9,k4,k3,k8⟩
 by_cases k1:it.kind=1
 ·rw [decide_eq_true k1,cond_true];exact J _ (by rw [decide_eq_true (.inl k1)])
 ·rw [decide_eq_false k1,cond_false];exact J _ (by simp [k1])
theorem db_tag.j1_ok (n:Nat) (x0:Val) (x1:Flt) (p:List Int) (h:p.length≤1099511627776):db_tag.j1 n x0 x1 p=some (Db.Got.tvs (.bad p) p):=by
 rw [db_tag.j1_eq,ck_of (decide_eq_true h)];rfl
theorem db_tag.goal (n:Nat) (it:Itv) (path:List Int) (hp:((decide (Itm.bulk (Itm.of it)+path.length≤1073741824)&&decide (Cb.chk (Itm.of it)=0∧it.kind=7))&&decide ((2 * Itm.bulk (Itm.of it))<n+1))=true):db_tag.F n it path=some (Db.Got.tvs (Db.value (Itm.of it) path) path):=by
 simp only [Bool.and_eq_true,decide_eq_true_eq] at hp
 obtain ⟨⟨hb,hc,k7⟩,hn⟩:=hp
 obtain ⟨ho,hcs⟩:=Cb.chk0 it hc
 have c8:=(Cb.own0 it ho).2.2.2.2.2.2.2.1 k7
 obtain ⟨x,hx⟩:∃x,it.kids=[x]:=by
  match h:it.kids,c8 with
  | [x],_=>exact ⟨x,rfl⟩
 rw [Itm.bulk_of,hx] at hb hn
 simp only [Itm.bulks] at hb hn
 rw [hx] at hcs
 obtain ⟨hcx,_⟩:=Cb.chks_cons hcs
 obtain ⟨hox,hcsx⟩:=Cb.chk_val x hcx
 have ox:=Cb.own0 x.val (by rw [Itm.of_val];exact hox)
 have hbx:=Itm.bulk_val x
 have hlx:=Itm.bulk_kids x.kids
 have J:=db_tag.j1_ok n Db.zero ⟨0,0,[]⟩ path (by omega)
 have ev:Db.value (Itm.of it) path=Db.tagv it.n x path:=by
  rw [Db.value_of,if_neg (by omega),if_neg (by omega),if_pos k7,hx,Db.tags]
 rw [ev,Db.tagv_of]
 refine db_tag.F_in _ _ _ ?_
 intro v1 e1 v2 e2 v3 e3 v4 e4 v5 e5 v6 e6 v7 e7 v8 e8 v9 e9 v10 e10 v11 e11 v12 e12 v13 e13 v14 e14
 have hg:it.kids.getD (0:Int).toNat (STy.dflt .il)=x:=by rw [hx];rfl
 rw [hg] at e1 e2
 rw [hg,Itm.of_val] at e7 e13 e14
 rw [hg,Itm.of_val]
 rw [ck_of (idx_ok (by omega) (by omega))]
 have l2:v2.length≤1099511627776:=by rw [e2];omega
 simp only [decide_eq_true l2,Bool.and_true,Bool.not_or_self,ck_true]
 by_cases a4:it.n=1004
 ·rw [decide_eq_true a4,cond_true,if_pos a4]
  by_cases c:x.kind=6∧¬Db.regular x.kids=true
  ·have e3':v3=true:=by rw [e3,e1,e2,decide_eq_true c.1,Bool.eq_false_iff.2 c.2];rfl
   have he:x.kids.length % 2=0:=ox.2.2.2.2.2.2.1 c.1
   rw [e3',cond_true,if_pos c,ck_of (big_ap (by simp only [List.length_singleton];omega) (by simp only [List.length_singleton];omega)),e2,e4,ck_of (by
    rw [decide_eq_true (show Itm.bulks x.kids+(path++[(0:Int)]).length≤1073741824 by simp only [List.length_append,List.length_singleton];omega),decide_eq_true (show Cb.chks x.kids=0∧x.kids.length % 2=0 from ⟨hcsx,he⟩),decide_eq_true (show 2 * Itm.bulks x.kids+2<n by omega)];rfl),e5,e6,e2,e4];rfl
  ·have e3':v3=false:=by
    rw [e3,e1,e2]
    by_cases q:x.kind=6
    ·rw [decide_eq_true q]
     have:Db.regular x.kids=true:=Classical.byContradiction fun h=>c ⟨q,h⟩
     rw [this];rfl
    ·rw [decide_eq_false q];rfl
   rw [e3',cond_false,if_neg c];exact J
 rw [decide_eq_false a4,cond_false,if_neg a4]
 by_cases a15:it.n=1015
 ·rw [decide_eq_true a15,cond_true,if_pos a15]
  by_cases c:Db.kinds x 4 6=true
  ·have hk:=of_decide_eq_true c
   have hlen2:x.kids.length=2:=hk.2.1
   obtain ⟨a,m,hkids⟩:∃a m,x.kids=[a,m]:=by
    match h:x.kids,hlen2 with
    | [a,m],_=>exact ⟨a,m,rfl⟩
   have hm6:m.kind=6:=by have:=hk.2.2.2;rw [Db.snd,hkids] at this;exact this
   have hcm:Cb.chk m=0:=by
    rw [hkids] at hcsx
    exact (Cb.chks_cons (Cb.chks_cons hcsx).2).1
   obtain ⟨hom,hcsm⟩:=Cb.chk_val m hcm
   have om:=Cb.own0 m.val (by rw [Itm.of_val];exact hom)
   have he:m.kids.length % 2=0:=om.2.2.2.2.2.2.1 hm6
   have hbm:=Itm.bulk_val m
   have hb2:Itm.bulks x.kids=Itm.bulk a+(Itm.bulk m+0):=by rw [hkids];rfl
   have ha1:=Itm.bulk_pos a
   have e9':v9=m.kids:=by rw [e9,e2,hkids];rfl
   have e8':v8=a.text:=by rw [e8,e2,hkids];rfl
   have i0:idxOK (0:Int) v2.length=true:=by rw [e2];exact idx_ok (by omega) (by omega)
   have i1:idxOK (1:Int) v2.length=true:=by rw [e2];exact idx_ok (by omega) (by omega)
   rw [e7,show Db.kinds x ((4:Int)) ((6:Int))=true from c,cond_true,if_pos rfl,Db.pairv_of _ _ hlen2,ck_of i0,ck_of i1,ck_of (big_ap (by rw [e10];simp only [List.length_cons,List.length_nil];omega) (by rw [e10];simp only [List.length_cons,List.length_nil];omega)),e9',e10,ck_of (by
    rw [decide_eq_true (show Itm.bulks m.kids+(path++[(0:Int),(1:Int)]).length≤1073741824 by simp only [List.length_append,List.length_cons,List.length_nil];omega),decide_eq_true (show Cb.chks m.kids=0∧m.kids.length % 2=0 from ⟨hcsm,he⟩),decide_eq_true (show 2 * Itm.bulks m.kids+2<n by omega)];rfl),e11,e12,e9',e8',e10,hkids];rfl
  ·rw [e7,show Db.kinds x ((4:Int)) ((6:Int))=false from Bool.eq_false_iff.2 c,cond_false,if_neg (by decide)];exact J
 rw [decide_eq_false a15,cond_false,if_neg a15,ck_of (decide_eq_true (by omega)),Db.small,e13,e14]
 cases (Db.smallV it.n x).2 with
 | true=>rw [cond_true];rfl
 | false=>rw [cond_false];exact J
theorem db_Value.goal (it:Itv) (hp:decide (Itm.bulk (Itm.of it)≤1073741824)=true):db_Value.F it=some [.ag (Val.cells (Db.dec (Itm.of it)).1),.ag (Flt.cells (Db.dec (Itm.of it)).2)]:=by
 have hb:=of_decide_eq_true hp
 refine db_Value.F_in _ ?_
 intro v1 e1 v2 e2 v3 e3
 rw [ck_of (decide_eq_true (by omega)),Db.dec]
 by_cases a:Cb.chk (Itm.of it)=0
 ·rw [decide_eq_true a,Bool.not_true,cond_false,if_neg (fun h=>h a)]
  obtain ⟨ho,hcs⟩:=Cb.chk0 it a
  by_cases k6:it.kind=6
  ·have he:=(Cb.own0 it ho).2.2.2.2.2.2.1 k6
   rw [Itm.bulk_of] at hb
   rw [decide_eq_true k6,Bool.not_true,cond_false,if_neg (show ¬(Itm.of it).kind≠6 from fun h=>h k6),ck_of (by rw [decide_eq_true (show Itm.bulks it.kids+([]:List Int).length≤1073741824 by simp only [List.length_nil];omega),decide_eq_true (show Cb.chks it.kids=0∧it.kids.length % 2=0 from ⟨hcs,he⟩)];rfl),e2,e3,Db.value_of,if_pos k6];rfl
  ·rw [decide_eq_false k6,Bool.not_false,cond_true,if_pos (show (Itm.of it).kind≠6 from k6),e1];rfl
 ·rw [decide_eq_false a,Bool.not_false,cond_true,if_pos a];rfl
end Go.Eng
namespace Go.Eng
open Go.IntWalk
theorem law30_awake.goal:law30_awake.F=some [.b true]:=by
 refine law30_awake.F_in ?_
 intro v1 h1 v2 h2 v3 h3 v4 h4 v5 h5 v6 h6 v7 h7 v8 h8 v9 h9 v10 h10 v11 h11 v12 h12 v13 h13 v14 h14 v15 h15
 subst h1
 have e2:v2.err=0:=by rw [h2];decide +kernel
 have e4:v4.err=12:=by rw [h4];decide +kernel
 have e5:v5=6:=by rw [h5];decide +kernel
 have e7:v7.length=2:=by rw [h7];decide +kernel
 have e9:v9=[97]:=by rw [h9,h7];decide +kernel
 have e11:v11=7:=by rw [h11,h7];decide +kernel
 have e13:v13=1018:=by rw [h13,h7];decide +kernel
 have t6:v6=true:=by rw [h6,e2,e5];rfl
 have t8:v8=true:=by rw [h8,t6,e7];rfl
 have t10:v10=true:=by rw [h10,t8,e9];rfl
 have t12:v12=true:=by rw [h12,t10,e11];rfl
 have t14:v14=true:=by rw [h14,t12,e13];rfl
 have t15:v15=true:=by rw [h15,t14,e4];rfl
 have i0:idxOK (0:Int) v7.length=true:=by rw [e7];rfl
 have i1:idxOK (1:Int) v7.length=true:=by rw [e7];rfl
 rw [ck_of (by decide +kernel),ck_of (by decide +kernel)]
 simp only [i0,i1,t15,Bool.and_true,Bool.not_or_self,ck_true]
end Go.Eng
namespace Go.Eng
theorem utf_is.fit (r:Int):([.i .i64 r]:List TV).length=utf_is.d.np∧utf_is.d.run (envL trydbGl utf_is.env) [.i .i64 r]=some (([(.b (Utf.isRune r))]:List TV)++utf_is.d.ps.toList.map fun q=>([.i .i64 r]:List TV).getD q.1 .dead) :=
 ⟨by kernel_rfl,Eq.trans (b:=utf_is.F r) (by kernel_rfl) (Eq.trans (utf_is.goal r) (by kernel_rfl))⟩
theorem utf_is.ok:SpecOK Go.Proofs.Tryd.prog (fun n=>(trydbGl n).av) 94 (Ctr.fs (utf_is.c,utf_is.sg)) :=
 meets (l:=utf_is.env) all_nil utf_is.chk (by
   intro ins outs h
   unfold utf_is.c at h
   split at h
   ·cases h;exact utf_is.fit _
   ·exact h.elim)
theorem utf_Rune.fit (b:List UInt8) (at_:Int) (hp:(decide (b.length≤1099511627776))=true):([.sl .bs b,.i .i64 at_]:List TV).length=utf_Rune.d.np∧utf_Rune.d.run (envL trydbGl utf_Rune.env) [.sl .bs b,.i .i64 at_]=some (([(.i .i64 ((Utf.runeAt b at_).1)),(.i .i64 ((Utf.runeAt b at_).2))]:List TV)++utf_Rune.d.ps.toList.map fun q=>([.sl .bs b,.i .i64 at_]:List TV).getD q.1 .dead) :=
 ⟨by kernel_rfl,Eq.trans (b:=utf_Rune.F b at_) (by kernel_rfl) (Eq.trans (utf_Rune.goal b at_ hp) (by kernel_rfl))⟩
theorem utf_Rune.ok:SpecOK Go.Proofs.Tryd.prog (fun n=>(trydbGl n).av) 84 (Ctr.fs (utf_Rune.c,utf_Rune.sg)) :=
 meets (l:=utf_Rune.env) (all_cons utf_is.ok all_nil) utf_Rune.chk (by
   intro ins outs h
   unfold utf_Rune.c at h
   split at h
   ·obtain ⟨hp,rfl⟩:=h;exact utf_Rune.fit _ _ hp
   ·exact h.elim)
theorem utf_look.fit (b:List UInt8) (hp:(decide (b.length≤1099511627776))=true):([.sl .bs b]:List TV).length=utf_look.d.np∧utf_look.d.run (envL trydbGl utf_look.env) [.sl .bs b]=some (([(.i .i64 (((Utf.look b).1:Int))),(.i .i64 (((Utf.look b).2:Int)))]:List TV)++utf_look.d.ps.toList.map fun q=>([.sl .bs b]:List TV).getD q.1 .dead) :=
 ⟨by kernel_rfl,Eq.trans (b:=utf_look.F b) (by kernel_rfl) (Eq.trans (utf_look.goal b hp) (by kernel_rfl))⟩
theorem utf_look.ok:SpecOK Go.Proofs.Tryd.prog (fun n=>(trydbGl n).av) 67 (Ctr.fs (utf_look.c,utf_look.sg)) :=
 meets (l:=utf_look.env) (all_cons utf_Rune.ok all_nil) utf_look.chk (by
   intro ins outs h
   unfold utf_look.c at h
   split at h
   ·obtain ⟨hp,rfl⟩:=h;exact utf_look.fit _ hp
   ·exact h.elim)
theorem utf_Check.fit (b:List UInt8) (hp:(decide (b.length≤1099511627776))=true):([.sl .bs b]:List TV).length=utf_Check.d.np∧utf_Check.d.run (envL trydbGl utf_Check.env) [.sl .bs b]=some (([(.i .i64 (((Utf.look b).1:Int))),(.b (Utf.whole b))]:List TV)++utf_Check.d.ps.toList.map fun q=>([.sl .bs b]:List TV).getD q.1 .dead) :=
 ⟨by kernel_rfl,Eq.trans (b:=utf_Check.F b) (by kernel_rfl) (Eq.trans (utf_Check.goal b hp) (by kernel_rfl))⟩
theorem utf_Check.ok:SpecOK Go.Proofs.Tryd.prog (fun n=>(trydbGl n).av) 41 (Ctr.fs (utf_Check.c,utf_Check.sg)) :=
 meets (l:=utf_Check.env) (all_cons utf_look.ok all_nil) utf_Check.chk (by
   intro ins outs h
   unfold utf_Check.c at h
   split at h
   ·obtain ⟨hp,rfl⟩:=h;exact utf_Check.fit _ hp
   ·exact h.elim)
theorem ref2_Rune.fit (b:List UInt8) (at_:Int) (hp:(decide (b.length≤1099511627776))=true):([.sl .bs b,.i .i64 at_]:List TV).length=ref2_Rune.d.np∧ref2_Rune.d.run (envL trydbGl ref2_Rune.env) [.sl .bs b,.i .i64 at_]=some (([(.i .i64 ((Utf.runeAt b at_).1)),(.i .i64 ((Utf.runeAt b at_).2))]:List TV)++ref2_Rune.d.ps.toList.map fun q=>([.sl .bs b,.i .i64 at_]:List TV).getD q.1 .dead) :=
 ⟨by kernel_rfl,Eq.trans (b:=ref2_Rune.F b at_) (by kernel_rfl) (Eq.trans (ref2_Rune.goal b at_ hp) (by kernel_rfl))⟩
theorem ref2_Rune.ok:SpecOK Go.Proofs.Tryd.prog (fun n=>(trydbGl n).av) 92 (Ctr.fs (ref2_Rune.c,ref2_Rune.sg)) :=
 meets (l:=ref2_Rune.env) all_nil ref2_Rune.chk (by
   intro ins outs h
   unfold ref2_Rune.c at h
   split at h
   ·obtain ⟨hp,rfl⟩:=h;exact ref2_Rune.fit _ _ hp
   ·exact h.elim)
theorem ref2_Check.fit (b:List UInt8) (hp:(decide (b.length≤1099511627776))=true):([.sl .bs b]:List TV).length=ref2_Check.d.np∧ref2_Check.d.run (envL trydbGl ref2_Check.env) [.sl .bs b]=some (([(.i .i64 (((Utf.look b).1:Int))),(.b (Utf.whole b))]:List TV)++ref2_Check.d.ps.toList.map fun q=>([.sl .bs b]:List TV).getD q.1 .dead) :=
 ⟨by kernel_rfl,Eq.trans (b:=ref2_Check.F b) (by kernel_rfl) (Eq.trans (ref2_Check.goal b hp) (by kernel_rfl))⟩
theorem ref2_Check.ok:SpecOK Go.Proofs.Tryd.prog (fun n=>(trydbGl n).av) 78 (Ctr.fs (ref2_Check.c,ref2_Check.sg)) :=
 meets (l:=ref2_Check.env) (all_cons ref2_Rune.ok all_nil) ref2_Check.chk (by
   intro ins outs h
   unfold ref2_Check.c at h
   split at h
   ·obtain ⟨hp,rfl⟩:=h;exact ref2_Check.fit _ hp
   ·exact h.elim)
theorem ref2_Whole.fit (s:Str) (hp:(decide (s.length≤1099511627776))=true):([.s s]:List TV).length=ref2_Whole.d.np∧ref2_Whole.d.run (envL trydbGl ref2_Whole.env) [.s s]=some (([(.b (Utf.whole s))]:List TV)++ref2_Whole.d.ps.toList.map fun q=>([.s s]:List TV).getD q.1 .dead) :=
 ⟨by kernel_rfl,Eq.trans (b:=ref2_Whole.F s) (by kernel_rfl) (Eq.trans (ref2_Whole.goal s hp) (by kernel_rfl))⟩
theorem ref2_Whole.ok:SpecOK Go.Proofs.Tryd.prog (fun n=>(trydbGl n).av) 48 (Ctr.fs (ref2_Whole.c,ref2_Whole.sg)) :=
 meets (l:=ref2_Whole.env) (all_cons ref2_Check.ok all_nil) ref2_Whole.chk (by
   intro ins outs h
   unfold ref2_Whole.c at h
   split at h
   ·obtain ⟨hp,rfl⟩:=h;exact ref2_Whole.fit _ hp
   ·exact h.elim)
theorem sl_IndexByte.fit (s:Str) (c:UInt8):([.s s,.u8 c]:List TV).length=sl_IndexByte.d.np∧sl_IndexByte.d.run (envL trydbGl sl_IndexByte.env) [.s s,.u8 c]=some (([(.i .i64 (Lib.indexByte s c))]:List TV)++sl_IndexByte.d.ps.toList.map fun q=>([.s s,.u8 c]:List TV).getD q.1 .dead) :=
 ⟨by kernel_rfl,Eq.trans (b:=sl_IndexByte.F s c) (by kernel_rfl) (Eq.trans (sl_IndexByte.goal s c) (by kernel_rfl))⟩
theorem sl_IndexByte.ok:SpecOK Go.Proofs.Tryd.prog (fun n=>(trydbGl n).av) 95 (Ctr.fs (sl_IndexByte.c,sl_IndexByte.sg)) :=
 meets (l:=sl_IndexByte.env) all_nil sl_IndexByte.chk (by
   intro ins outs h
   unfold sl_IndexByte.c at h
   split at h
   ·cases h;exact sl_IndexByte.fit _ _
   ·exact h.elim)
theorem sl_Index.fit (s:Str) (t:Str) (hp:(decide (t.length=1))=true):([.s s,.s t]:List TV).length=sl_Index.d.np∧sl_Index.d.run (envL trydbGl sl_Index.env) [.s s,.s t]=some (([(.i .i64 (Lib.indexByte s (t.getD 0 0)))]:List TV)++sl_Index.d.ps.toList.map fun q=>([.s s,.s t]:List TV).getD q.1 .dead) :=
 ⟨by kernel_rfl,Eq.trans (b:=sl_Index.F s t) (by kernel_rfl) (Eq.trans (sl_Index.goal s t hp) (by kernel_rfl))⟩
theorem sl_Index.ok:SpecOK Go.Proofs.Tryd.prog (fun n=>(trydbGl n).av) 85 (Ctr.fs (sl_Index.c,sl_Index.sg)) :=
 meets (l:=sl_Index.env) (all_cons sl_IndexByte.ok all_nil) sl_Index.chk (by
   intro ins outs h
   unfold sl_Index.c at h
   split at h
   ·obtain ⟨hp,rfl⟩:=h;exact sl_Index.fit _ _ hp
   ·exact h.elim)
theorem st_Index.fit (s:Str) (t:Str) (hp:(decide (t.length=1))=true):([.s s,.s t]:List TV).length=st_Index.d.np∧st_Index.d.run (envL trydbGl st_Index.env) [.s s,.s t]=some (([(.i .i64 (Lib.indexByte s (t.getD 0 0)))]:List TV)++st_Index.d.ps.toList.map fun q=>([.s s,.s t]:List TV).getD q.1 .dead) :=
 ⟨by kernel_rfl,Eq.trans (b:=st_Index.F s t) (by kernel_rfl) (Eq.trans (st_Index.goal s t hp) (by kernel_rfl))⟩
theorem st_Index.ok:SpecOK Go.Proofs.Tryd.prog (fun n=>(trydbGl n).av) 68 (Ctr.fs (st_Index.c,st_Index.sg)) :=
 meets (l:=st_Index.env) (all_cons sl_Index.ok all_nil) st_Index.chk (by
   intro ins outs h
   unfold st_Index.c at h
   split at h
   ·obtain ⟨hp,rfl⟩:=h;exact st_Index.fit _ _ hp
   ·exact h.elim)
theorem st_Contains.fit (s:Str) (t:Str) (hp:(decide (t.length=1))=true):([.s s,.s t]:List TV).length=st_Contains.d.np∧st_Contains.d.run (envL trydbGl st_Contains.env) [.s s,.s t]=some (([(.b (decide (0≤Lib.indexByte s (t.getD 0 0))))]:List TV)++st_Contains.d.ps.toList.map fun q=>([.s s,.s t]:List TV).getD q.1 .dead) :=
 ⟨by kernel_rfl,Eq.trans (b:=st_Contains.F s t) (by kernel_rfl) (Eq.trans (st_Contains.goal s t hp) (by kernel_rfl))⟩
theorem st_Contains.ok:SpecOK Go.Proofs.Tryd.prog (fun n=>(trydbGl n).av) 43 (Ctr.fs (st_Contains.c,st_Contains.sg)) :=
 meets (l:=st_Contains.env) (all_cons st_Index.ok all_nil) st_Contains.chk (by
   intro ins outs h
   unfold st_Contains.c at h
   split at h
   ·obtain ⟨hp,rfl⟩:=h;exact st_Contains.fit _ _ hp
   ·exact h.elim)
theorem tree_Name.fit (k:Int):([.i .i64 k]:List TV).length=tree_Name.d.np∧tree_Name.d.run (envL trydbGl tree_Name.env) [.i .i64 k]=some (([(.s (Tree.name k))]:List TV)++tree_Name.d.ps.toList.map fun q=>([.i .i64 k]:List TV).getD q.1 .dead) :=
 ⟨by kernel_rfl,Eq.trans (b:=tree_Name.F k) (by kernel_rfl) (Eq.trans (tree_Name.goal k) (by kernel_rfl))⟩
theorem tree_Name.ok:SpecOK Go.Proofs.Tryd.prog (fun n=>(trydbGl n).av) 52 (Ctr.fs (tree_Name.c,tree_Name.sg)) :=
 meets (l:=tree_Name.env) all_nil tree_Name.chk (by
   intro ins outs h
   unfold tree_Name.c at h
   split at h
   ·cases h;exact tree_Name.fit _
   ·exact h.elim)
theorem tree_fields.fit (v_kind:Int) (v_bits:UInt64) (v_high:UInt64) (v_low:UInt64) (v_text:Str) (v_more:Str) (v_sub:Int) (v_bytes:List UInt8) (v_kids:List Fld):([.ag [.i .i64 v_kind,.u64 v_bits,.u64 v_high,.u64 v_low,.s v_text,.s v_more,.i .i64 v_sub,.sl .bs v_bytes,.sl .fl v_kids]]:List TV).length=tree_fields.d.np∧tree_fields.d.run (envL trydbGl tree_fields.env) [.ag [.i .i64 v_kind,.u64 v_bits,.u64 v_high,.u64 v_low,.s v_text,.s v_more,.i .i64 v_sub,.sl .bs v_bytes,.sl .fl v_kids]]=some (([(.b (Tree.fieldsOK (Val.mk v_kind v_bits v_high v_low v_text v_more v_sub v_bytes v_kids)))]:List TV)++tree_fields.d.ps.toList.map fun q=>([.ag [.i .i64 v_kind,.u64 v_bits,.u64 v_high,.u64 v_low,.s v_text,.s v_more,.i .i64 v_sub,.sl .bs v_bytes,.sl .fl v_kids]]:List TV).getD q.1 .dead) :=
 ⟨by kernel_rfl,Eq.trans (b:=tree_fields.F (Val.mk v_kind v_bits v_high v_low v_text v_more v_sub v_bytes v_kids)) (by kernel_rfl) (Eq.trans (tree_fields.goal (Val.mk v_kind v_bits v_high v_low v_text v_more v_sub v_bytes v_kids)) (by kernel_rfl))⟩
theorem tree_fields.ok:SpecOK Go.Proofs.Tryd.prog (fun n=>(trydbGl n).av) 53 (Ctr.fs (tree_fields.c,tree_fields.sg)) :=
 meets (l:=tree_fields.env) all_nil tree_fields.chk (by
   intro ins outs h
   unfold tree_fields.c at h
   split at h
   ·cases h;exact tree_fields.fit _ _ _ _ _ _ _ _ _
   ·exact h.elim)
theorem tree_whole.fit (s:Str) (plain:Bool) (hp:(decide (s.length≤1099511627776))=true):([.s s,.b plain]:List TV).length=tree_whole.d.np∧tree_whole.d.run (envL trydbGl tree_whole.env) [.s s,.b plain]=some (([(.b (Tree.wholeT s plain))]:List TV)++tree_whole.d.ps.toList.map fun q=>([.s s,.b plain]:List TV).getD q.1 .dead) :=
 ⟨by kernel_rfl,Eq.trans (b:=tree_whole.F s plain) (by kernel_rfl) (Eq.trans (tree_whole.goal s plain hp) (by kernel_rfl))⟩
theorem tree_whole.ok:SpecOK Go.Proofs.Tryd.prog (fun n=>(trydbGl n).av) 54 (Ctr.fs (tree_whole.c,tree_whole.sg)) :=
 meets (l:=tree_whole.env) (all_cons utf_Check.ok (all_cons st_Contains.ok all_nil)) tree_whole.chk (by
   intro ins outs h
   unfold tree_whole.c at h
   split at h
   ·obtain ⟨hp,rfl⟩:=h;exact tree_whole.fit _ _ hp
   ·exact h.elim)
theorem tree_check.fit (n:Nat) (v_kind:Int) (v_bits:UInt64) (v_high:UInt64) (v_low:UInt64) (v_text:Str) (v_more:Str) (v_sub:Int) (v_bytes:List UInt8) (v_kids:List Fld) (name:Str) (path:List Int) (hp:((decide (Fld.bulk (Fld.of name (Val.mk v_kind v_bits v_high v_low v_text v_more v_sub v_bytes v_kids))+path.length≤1099511627776))&&decide ((Fld.bulk (Fld.of name (Val.mk v_kind v_bits v_high v_low v_text v_more v_sub v_bytes v_kids)))<n+1))=true):([.ag [.i .i64 v_kind,.u64 v_bits,.u64 v_high,.u64 v_low,.s v_text,.s v_more,.i .i64 v_sub,.sl .bs v_bytes,.sl .fl v_kids],.s name,.sl .is path]:List TV).length=tree_check.d.np∧tree_check.d.run (envL trydbGl (tree_check.env n)) [.ag [.i .i64 v_kind,.u64 v_bits,.u64 v_high,.u64 v_low,.s v_text,.s v_more,.i .i64 v_sub,.sl .bs v_bytes,.sl .fl v_kids],.s name,.sl .is path]=some (([(.sl .is ((Tree.chkF (Fld.of name (Val.mk v_kind v_bits v_high v_low v_text v_more v_sub v_bytes v_kids)) path).1)),(.i .i64 ((Tree.chkF (Fld.of name (Val.mk v_kind v_bits v_high v_low v_text v_more v_sub v_bytes v_kids)) path).2))]:List TV)++tree_check.d.ps.toList.map fun q=>([.ag [.i .i64 v_kind,.u64 v_bits,.u64 v_high,.u64 v_low,.s v_text,.s v_more,.i .i64 v_sub,.sl .bs v_bytes,.sl .fl v_kids],.s name,.sl .is path]:List TV).getD q.1 .dead) :=
 ⟨by kernel_rfl,Eq.trans (b:=tree_check.F n (Val.mk v_kind v_bits v_high v_low v_text v_more v_sub v_bytes v_kids) name path) (by kernel_rfl) (Eq.trans (tree_check.goal n (Val.mk v_kind v_bits v_high v_low v_text v_more v_sub v_bytes v_kids) name path hp) (by kernel_rfl))⟩
theorem tcheck.oks : ∀ n : Nat, (SpecOK Go.Proofs.Tryd.prog (fun n => (trydbGl n).av) 35 (Ctr.fs (tree_check.cn n, tree_check.sg))) := by
  intro n
  induction n with
  | zero => exact spec_zero (by
      intro ti to_ h
      unfold tree_check.cn at h
      split at h
      · obtain ⟨h, _⟩ := h; simp at h
      · exact h.elim)
  | succ n ih =>
    have ih0 := ih
    exact meets (l := tree_check.env n) (all_cons ih0 (all_cons clone_is.ok (all_cons tree_Name.ok (all_cons tree_fields.ok (all_cons tree_whole.ok all_nil))))) (tree_check.chk n) (by
      intro ins outs h
      unfold tree_check.cn at h
      split at h
      · obtain ⟨hp, rfl⟩ := h; exact tree_check.fit n _ _ _ _ _ _ _ _ _ _ _ hp
      · exact h.elim)
theorem tree_check.ok:SpecOK Go.Proofs.Tryd.prog (fun n=>(trydbGl n).av) 35 (Ctr.fs (tree_check.c,tree_check.sg)):=spec_sub fun ti to_ h=>by
 unfold tree_check.c at h
 split at h
 ·obtain ⟨hp,rfl⟩:=h;exact ⟨tree_check.cn (_+1),(tcheck.oks _),Bool.and_eq_true_iff.2 ⟨hp,decide_eq_true (Nat.lt_succ_self _)⟩,rfl⟩
 ·exact h.elim
theorem tree_Check.fit (v_kind:Int) (v_bits:UInt64) (v_high:UInt64) (v_low:UInt64) (v_text:Str) (v_more:Str) (v_sub:Int) (v_bytes:List UInt8) (v_kids:List Fld) (hp:(decide (Fld.bulk (Fld.of [] (Val.mk v_kind v_bits v_high v_low v_text v_more v_sub v_bytes v_kids))≤1099511627776))=true):([.ag [.i .i64 v_kind,.u64 v_bits,.u64 v_high,.u64 v_low,.s v_text,.s v_more,.i .i64 v_sub,.sl .bs v_bytes,.sl .fl v_kids]]:List TV).length=tree_Check.d.np∧tree_Check.d.run (envL trydbGl tree_Check.env) [.ag [.i .i64 v_kind,.u64 v_bits,.u64 v_high,.u64 v_low,.s v_text,.s v_more,.i .i64 v_sub,.sl .bs v_bytes,.sl .fl v_kids]]=some (([(.sl .is ((Tree.chkF (Fld.of [] (Val.mk v_kind v_bits v_high v_low v_text v_more v_sub v_bytes v_kids)) []).1)),(.i .i64 ((Tree.chkF (Fld.of [] (Val.mk v_kind v_bits v_high v_low v_text v_more v_sub v_bytes v_kids)) []).2))]:List TV)++tree_Check.d.ps.toList.map fun q=>([.ag [.i .i64 v_kind,.u64 v_bits,.u64 v_high,.u64 v_low,.s v_text,.s v_more,.i .i64 v_sub,.sl .bs v_bytes,.sl .fl v_kids]]:List TV).getD q.1 .dead) :=
 ⟨by kernel_rfl,Eq.trans (b:=tree_Check.F (Val.mk v_kind v_bits v_high v_low v_text v_more v_sub v_bytes v_kids)) (by kernel_rfl) (Eq.trans (tree_Check.goal (Val.mk v_kind v_bits v_high v_low v_text v_more v_sub v_bytes v_kids) hp) (by kernel_rfl))⟩
theorem tree_Check.ok:SpecOK Go.Proofs.Tryd.prog (fun n=>(trydbGl n).av) 21 (Ctr.fs (tree_Check.c,tree_Check.sg)) :=
 meets (l:=tree_Check.env) (all_cons tree_check.ok all_nil) tree_Check.chk (by
   intro ins outs h
   unfold tree_Check.c at h
   split at h
   ·obtain ⟨hp,rfl⟩:=h;exact tree_Check.fit _ _ _ _ _ _ _ _ _ hp
   ·exact h.elim)
theorem ref17_Own.fit (a_kind:Int) (a_bits:UInt64) (a_high:UInt64) (a_low:UInt64) (a_text:Str) (a_more:Str) (a_sub:Int) (a_bytes:List UInt8) (a_kids:List Fld) (b_kind:Int) (b_bits:UInt64) (b_high:UInt64) (b_low:UInt64) (b_text:Str) (b_more:Str) (b_sub:Int) (b_bytes:List UInt8) (b_kids:List Fld):([.ag [.i .i64 a_kind,.u64 a_bits,.u64 a_high,.u64 a_low,.s a_text,.s a_more,.i .i64 a_sub,.sl .bs a_bytes,.sl .fl a_kids],.ag [.i .i64 b_kind,.u64 b_bits,.u64 b_high,.u64 b_low,.s b_text,.s b_more,.i .i64 b_sub,.sl .bs b_bytes,.sl .fl b_kids]]:List TV).length=ref17_Own.d.np∧ref17_Own.d.run (envL trydbGl ref17_Own.env) [.ag [.i .i64 a_kind,.u64 a_bits,.u64 a_high,.u64 a_low,.s a_text,.s a_more,.i .i64 a_sub,.sl .bs a_bytes,.sl .fl a_kids],.ag [.i .i64 b_kind,.u64 b_bits,.u64 b_high,.u64 b_low,.s b_text,.s b_more,.i .i64 b_sub,.sl .bs b_bytes,.sl .fl b_kids]]=some (([(.b (Tree.ownSame (Val.mk a_kind a_bits a_high a_low a_text a_more a_sub a_bytes a_kids) (Val.mk b_kind b_bits b_high b_low b_text b_more b_sub b_bytes b_kids)))]:List TV)++ref17_Own.d.ps.toList.map fun q=>([.ag [.i .i64 a_kind,.u64 a_bits,.u64 a_high,.u64 a_low,.s a_text,.s a_more,.i .i64 a_sub,.sl .bs a_bytes,.sl .fl a_kids],.ag [.i .i64 b_kind,.u64 b_bits,.u64 b_high,.u64 b_low,.s b_text,.s b_more,.i .i64 b_sub,.sl .bs b_bytes,.sl .fl b_kids]]:List TV).getD q.1 .dead) :=
 ⟨by kernel_rfl,Eq.trans (b:=ref17_Own.F (Val.mk a_kind a_bits a_high a_low a_text a_more a_sub a_bytes a_kids) (Val.mk b_kind b_bits b_high b_low b_text b_more b_sub b_bytes b_kids)) (by kernel_rfl) (Eq.trans (ref17_Own.goal (Val.mk a_kind a_bits a_high a_low a_text a_more a_sub a_bytes a_kids) (Val.mk b_kind b_bits b_high b_low b_text b_more b_sub b_bytes b_kids)) (by kernel_rfl))⟩
theorem ref17_Own.ok:SpecOK Go.Proofs.Tryd.prog (fun n=>(trydbGl n).av) 31 (Ctr.fs (ref17_Own.c,ref17_Own.sg)) :=
 meets (l:=ref17_Own.env) all_nil ref17_Own.chk (by
   intro ins outs h
   unfold ref17_Own.c at h
   split at h
   ·cases h;exact ref17_Own.fit _ _ _ _ _ _ _ _ _ _ _ _ _ _ _ _ _ _
   ·exact h.elim)
theorem ref17_Same.fit (n:Nat) (a_kind:Int) (a_bits:UInt64) (a_high:UInt64) (a_low:UInt64) (a_text:Str) (a_more:Str) (a_sub:Int) (a_bytes:List UInt8) (a_kids:List Fld) (b_kind:Int) (b_bits:UInt64) (b_high:UInt64) (b_low:UInt64) (b_text:Str) (b_more:Str) (b_sub:Int) (b_bytes:List UInt8) (b_kids:List Fld) (hp:((decide (Fld.bulk (Fld.of [] (Val.mk a_kind a_bits a_high a_low a_text a_more a_sub a_bytes a_kids))≤1099511627776))&&decide ((Fld.bulk (Fld.of [] (Val.mk a_kind a_bits a_high a_low a_text a_more a_sub a_bytes a_kids)))<n+1))=true):([.ag [.i .i64 a_kind,.u64 a_bits,.u64 a_high,.u64 a_low,.s a_text,.s a_more,.i .i64 a_sub,.sl .bs a_bytes,.sl .fl a_kids],.ag [.i .i64 b_kind,.u64 b_bits,.u64 b_high,.u64 b_low,.s b_text,.s b_more,.i .i64 b_sub,.sl .bs b_bytes,.sl .fl b_kids]]:List TV).length=ref17_Same.d.np∧ref17_Same.d.run (envL trydbGl (ref17_Same.env n)) [.ag [.i .i64 a_kind,.u64 a_bits,.u64 a_high,.u64 a_low,.s a_text,.s a_more,.i .i64 a_sub,.sl .bs a_bytes,.sl .fl a_kids],.ag [.i .i64 b_kind,.u64 b_bits,.u64 b_high,.u64 b_low,.s b_text,.s b_more,.i .i64 b_sub,.sl .bs b_bytes,.sl .fl b_kids]]=some (([(.b (Tree.same (Val.mk a_kind a_bits a_high a_low a_text a_more a_sub a_bytes a_kids) (Val.mk b_kind b_bits b_high b_low b_text b_more b_sub b_bytes b_kids)))]:List TV)++ref17_Same.d.ps.toList.map fun q=>([.ag [.i .i64 a_kind,.u64 a_bits,.u64 a_high,.u64 a_low,.s a_text,.s a_more,.i .i64 a_sub,.sl .bs a_bytes,.sl .fl a_kids],.ag [.i .i64 b_kind,.u64 b_bits,.u64 b_high,.u64 b_low,.s b_text,.s b_more,.i .i64 b_sub,.sl .bs b_bytes,.sl .fl b_kids]]:List TV).getD q.1 .dead) :=
 ⟨by kernel_rfl,Eq.trans (b:=ref17_Same.F n (Val.mk a_kind a_bits a_high a_low a_text a_more a_sub a_bytes a_kids) (Val.mk b_kind b_bits b_high b_low b_text b_more b_sub b_bytes b_kids)) (by kernel_rfl) (Eq.trans (ref17_Same.goal n (Val.mk a_kind a_bits a_high a_low a_text a_more a_sub a_bytes a_kids) (Val.mk b_kind b_bits b_high b_low b_text b_more b_sub b_bytes b_kids) hp) (by kernel_rfl))⟩
theorem rsame.oks : ∀ n : Nat, (SpecOK Go.Proofs.Tryd.prog (fun n => (trydbGl n).av) 17 (Ctr.fs (ref17_Same.cn n, ref17_Same.sg))) := by
  intro n
  induction n with
  | zero => exact spec_zero (by
      intro ti to_ h
      unfold ref17_Same.cn at h
      split at h
      · obtain ⟨h, _⟩ := h; simp at h
      · exact h.elim)
  | succ n ih =>
    have ih0 := ih
    exact meets (l := ref17_Same.env n) (all_cons ih0 (all_cons ref17_Own.ok all_nil)) (ref17_Same.chk n) (by
      intro ins outs h
      unfold ref17_Same.cn at h
      split at h
      · obtain ⟨hp, rfl⟩ := h; exact ref17_Same.fit n _ _ _ _ _ _ _ _ _ _ _ _ _ _ _ _ _ _ hp
      · exact h.elim)
theorem ref17_Same.ok:SpecOK Go.Proofs.Tryd.prog (fun n=>(trydbGl n).av) 17 (Ctr.fs (ref17_Same.c,ref17_Same.sg)):=spec_sub fun ti to_ h=>by
 unfold ref17_Same.c at h
 split at h
 ·obtain ⟨hp,rfl⟩:=h;exact ⟨ref17_Same.cn (_+1),(rsame.oks _),Bool.and_eq_true_iff.2 ⟨hp,decide_eq_true (Nat.lt_succ_self _)⟩,rfl⟩
 ·exact h.elim
theorem book_Room.fit (left:Int) (sizes:List Int) (hp:(decide (left≤10000∧sizes.length≤10)&&sizes.all (fun s=>decide (0≤s)))=true):([.i .i64 left,.sl .is sizes]:List TV).length=book_Room.d.np∧book_Room.d.run (envL trydbGl book_Room.env) [.i .i64 left,.sl .is sizes]=some (([(.i .i64 (Book.room left sizes))]:List TV)++book_Room.d.ps.toList.map fun q=>([.i .i64 left,.sl .is sizes]:List TV).getD q.1 .dead) :=
 ⟨by kernel_rfl,Eq.trans (b:=book_Room.F left sizes) (by kernel_rfl) (Eq.trans (book_Room.goal left sizes hp) (by kernel_rfl))⟩
theorem book_Room.ok:SpecOK Go.Proofs.Tryd.prog (fun n=>(trydbGl n).av) 34 (Ctr.fs (book_Room.c,book_Room.sg)) :=
 meets (l:=book_Room.env) all_nil book_Room.chk (by
   intro ins outs h
   unfold book_Room.c at h
   split at h
   ·obtain ⟨hp,rfl⟩:=h;exact book_Room.fit _ _ hp
   ·exact h.elim)
theorem book_Value.fit (n:Nat) (left:Int) (v_kind:Int) (v_bits:UInt64) (v_high:UInt64) (v_low:UInt64) (v_text:Str) (v_more:Str) (v_sub:Int) (v_bytes:List UInt8) (v_kids:List Fld) (hp:((decide (left≤10000))&&decide ((Fld.bulk (Fld.of [] (Val.mk v_kind v_bits v_high v_low v_text v_more v_sub v_bytes v_kids)))<n+1))=true):([.i .i64 left,.ag [.i .i64 v_kind,.u64 v_bits,.u64 v_high,.u64 v_low,.s v_text,.s v_more,.i .i64 v_sub,.sl .bs v_bytes,.sl .fl v_kids]]:List TV).length=book_Value.d.np∧book_Value.d.run (envL trydbGl (book_Value.env n)) [.i .i64 left,.ag [.i .i64 v_kind,.u64 v_bits,.u64 v_high,.u64 v_low,.s v_text,.s v_more,.i .i64 v_sub,.sl .bs v_bytes,.sl .fl v_kids]]=some (([(.i .i64 (Book.value left (Fld.of [] (Val.mk v_kind v_bits v_high v_low v_text v_more v_sub v_bytes v_kids))))]:List TV)++book_Value.d.ps.toList.map fun q=>([.i .i64 left,.ag [.i .i64 v_kind,.u64 v_bits,.u64 v_high,.u64 v_low,.s v_text,.s v_more,.i .i64 v_sub,.sl .bs v_bytes,.sl .fl v_kids]]:List TV).getD q.1 .dead) :=
 ⟨by kernel_rfl,Eq.trans (b:=book_Value.F n left (Val.mk v_kind v_bits v_high v_low v_text v_more v_sub v_bytes v_kids)) (by kernel_rfl) (Eq.trans (book_Value.goal n left (Val.mk v_kind v_bits v_high v_low v_text v_more v_sub v_bytes v_kids) hp) (by kernel_rfl))⟩
theorem bvalue.oks : ∀ n : Nat, (SpecOK Go.Proofs.Tryd.prog (fun n => (trydbGl n).av) 20 (Ctr.fs (book_Value.cn n, book_Value.sg))) := by
  intro n
  induction n with
  | zero => exact spec_zero (by
      intro ti to_ h
      unfold book_Value.cn at h
      split at h
      · obtain ⟨h, _⟩ := h; simp at h
      · exact h.elim)
  | succ n ih =>
    have ih0 := ih
    exact meets (l := book_Value.env n) (all_cons ih0 (all_cons book_Room.ok all_nil)) (book_Value.chk n) (by
      intro ins outs h
      unfold book_Value.cn at h
      split at h
      · obtain ⟨hp, rfl⟩ := h; exact book_Value.fit n _ _ _ _ _ _ _ _ _ _ hp
      · exact h.elim)
theorem book_Value.ok:SpecOK Go.Proofs.Tryd.prog (fun n=>(trydbGl n).av) 20 (Ctr.fs (book_Value.c,book_Value.sg)):=spec_sub fun ti to_ h=>by
 unfold book_Value.c at h
 split at h
 ·obtain ⟨hp,rfl⟩:=h;exact ⟨book_Value.cn (_+1),(bvalue.oks _),Bool.and_eq_true_iff.2 ⟨hp,decide_eq_true (Nat.lt_succ_self _)⟩,rfl⟩
 ·exact h.elim
theorem book_Small.fit (v_kind:Int) (v_bits:UInt64) (v_high:UInt64) (v_low:UInt64) (v_text:Str) (v_more:Str) (v_sub:Int) (v_bytes:List UInt8) (v_kids:List Fld):([.ag [.i .i64 v_kind,.u64 v_bits,.u64 v_high,.u64 v_low,.s v_text,.s v_more,.i .i64 v_sub,.sl .bs v_bytes,.sl .fl v_kids]]:List TV).length=book_Small.d.np∧book_Small.d.run (envL trydbGl book_Small.env) [.ag [.i .i64 v_kind,.u64 v_bits,.u64 v_high,.u64 v_low,.s v_text,.s v_more,.i .i64 v_sub,.sl .bs v_bytes,.sl .fl v_kids]]=some (([(.b (decide (0≤Book.value 1200 (Fld.of [] (Val.mk v_kind v_bits v_high v_low v_text v_more v_sub v_bytes v_kids)))))]:List TV)++book_Small.d.ps.toList.map fun q=>([.ag [.i .i64 v_kind,.u64 v_bits,.u64 v_high,.u64 v_low,.s v_text,.s v_more,.i .i64 v_sub,.sl .bs v_bytes,.sl .fl v_kids]]:List TV).getD q.1 .dead) :=
 ⟨by kernel_rfl,Eq.trans (b:=book_Small.F (Val.mk v_kind v_bits v_high v_low v_text v_more v_sub v_bytes v_kids)) (by kernel_rfl) (Eq.trans (book_Small.goal (Val.mk v_kind v_bits v_high v_low v_text v_more v_sub v_bytes v_kids)) (by kernel_rfl))⟩
theorem book_Small.ok:SpecOK Go.Proofs.Tryd.prog (fun n=>(trydbGl n).av) 9 (Ctr.fs (book_Small.c,book_Small.sg)) :=
 meets (l:=book_Small.env) (all_cons book_Value.ok all_nil) book_Small.chk (by
   intro ins outs h
   unfold book_Small.c at h
   split at h
   ·cases h;exact book_Small.fit _ _ _ _ _ _ _ _ _
   ·exact h.elim)
theorem ref28_Same.fit (n:Nat) (a_kind:Int) (a_n:UInt64) (a_bytes:List UInt8) (a_text:Str) (a_kids:List Itm) (b_kind:Int) (b_n:UInt64) (b_bytes:List UInt8) (b_text:Str) (b_kids:List Itm) (hp:((decide (Itm.bulk (Itm.of (Itv.mk a_kind a_n a_bytes a_text a_kids))≤1099511627776))&&decide ((Itm.bulk (Itm.of (Itv.mk a_kind a_n a_bytes a_text a_kids)))<n+1))=true):([.ag [.i .i64 a_kind,.u64 a_n,.sl .bs a_bytes,.s a_text,.sl .il a_kids],.ag [.i .i64 b_kind,.u64 b_n,.sl .bs b_bytes,.s b_text,.sl .il b_kids]]:List TV).length=ref28_Same.d.np∧ref28_Same.d.run (envL trydbGl (ref28_Same.env n)) [.ag [.i .i64 a_kind,.u64 a_n,.sl .bs a_bytes,.s a_text,.sl .il a_kids],.ag [.i .i64 b_kind,.u64 b_n,.sl .bs b_bytes,.s b_text,.sl .il b_kids]]=some (([(.b (Itm.same (Itm.of (Itv.mk a_kind a_n a_bytes a_text a_kids)) (Itm.of (Itv.mk b_kind b_n b_bytes b_text b_kids))))]:List TV)++ref28_Same.d.ps.toList.map fun q=>([.ag [.i .i64 a_kind,.u64 a_n,.sl .bs a_bytes,.s a_text,.sl .il a_kids],.ag [.i .i64 b_kind,.u64 b_n,.sl .bs b_bytes,.s b_text,.sl .il b_kids]]:List TV).getD q.1 .dead) :=
 ⟨by kernel_rfl,Eq.trans (b:=ref28_Same.F n (Itv.mk a_kind a_n a_bytes a_text a_kids) (Itv.mk b_kind b_n b_bytes b_text b_kids)) (by kernel_rfl) (Eq.trans (ref28_Same.goal n (Itv.mk a_kind a_n a_bytes a_text a_kids) (Itv.mk b_kind b_n b_bytes b_text b_kids) hp) (by kernel_rfl))⟩
theorem rsame28.oks : ∀ n : Nat, (SpecOK Go.Proofs.Tryd.prog (fun n => (trydbGl n).av) 13 (Ctr.fs (ref28_Same.cn n, ref28_Same.sg))) := by
  intro n
  induction n with
  | zero => exact spec_zero (by
      intro ti to_ h
      unfold ref28_Same.cn at h
      split at h
      · obtain ⟨h, _⟩ := h; simp at h
      · exact h.elim)
  | succ n ih =>
    have ih0 := ih
    exact meets (l := ref28_Same.env n) (all_cons ih0 all_nil) (ref28_Same.chk n) (by
      intro ins outs h
      unfold ref28_Same.cn at h
      split at h
      · obtain ⟨hp, rfl⟩ := h; exact ref28_Same.fit n _ _ _ _ _ _ _ _ _ _ hp
      · exact h.elim)
theorem ref28_Same.ok:SpecOK Go.Proofs.Tryd.prog (fun n=>(trydbGl n).av) 13 (Ctr.fs (ref28_Same.c,ref28_Same.sg)):=spec_sub fun ti to_ h=>by
 unfold ref28_Same.c at h
 split at h
 ·obtain ⟨hp,rfl⟩:=h;exact ⟨ref28_Same.cn (_+1),(rsame28.oks _),Bool.and_eq_true_iff.2 ⟨hp,decide_eq_true (Nat.lt_succ_self _)⟩,rfl⟩
 ·exact h.elim
theorem tree_Regular.fit (l:List Fld) (hp:(decide (l.length≤1099511627776))=true):([.sl .fl l]:List TV).length=tree_Regular.d.np∧tree_Regular.d.run (envL trydbGl tree_Regular.env) [.sl .fl l]=some (([(.b (Tree.regular l))]:List TV)++tree_Regular.d.ps.toList.map fun q=>([.sl .fl l]:List TV).getD q.1 .dead) :=
 ⟨by kernel_rfl,Eq.trans (b:=tree_Regular.F l) (by kernel_rfl) (Eq.trans (tree_Regular.goal l hp) (by kernel_rfl))⟩
theorem tree_Regular.ok:SpecOK Go.Proofs.Tryd.prog (fun n=>(trydbGl n).av) 55 (Ctr.fs (tree_Regular.c,tree_Regular.sg)) :=
 meets (l:=tree_Regular.env) (all_cons sc_Itoa.ok all_nil) tree_Regular.chk (by
   intro ins outs h
   unfold tree_Regular.c at h
   split at h
   ·obtain ⟨hp,rfl⟩:=h;exact tree_Regular.fit _ hp
   ·exact h.elim)
theorem cb_fields.fit (it_kind:Int) (it_n:UInt64) (it_bytes:List UInt8) (it_text:Str) (it_kids:List Itm) (hp:(decide (Itm.bulk (Itm.of (Itv.mk it_kind it_n it_bytes it_text it_kids))≤1099511627776))=true):([.ag [.i .i64 it_kind,.u64 it_n,.sl .bs it_bytes,.s it_text,.sl .il it_kids]]:List TV).length=cb_fields.d.np∧cb_fields.d.run (envL trydbGl cb_fields.env) [.ag [.i .i64 it_kind,.u64 it_n,.sl .bs it_bytes,.s it_text,.sl .il it_kids]]=some (([(.b (Cb.fieldsOK (Itm.of (Itv.mk it_kind it_n it_bytes it_text it_kids))))]:List TV)++cb_fields.d.ps.toList.map fun q=>([.ag [.i .i64 it_kind,.u64 it_n,.sl .bs it_bytes,.s it_text,.sl .il it_kids]]:List TV).getD q.1 .dead) :=
 ⟨by kernel_rfl,Eq.trans (b:=cb_fields.F (Itv.mk it_kind it_n it_bytes it_text it_kids)) (by kernel_rfl) (Eq.trans (cb_fields.goal (Itv.mk it_kind it_n it_bytes it_text it_kids) hp) (by kernel_rfl))⟩
theorem cb_fields.ok:SpecOK Go.Proofs.Tryd.prog (fun n=>(trydbGl n).av) 40 (Ctr.fs (cb_fields.c,cb_fields.sg)) :=
 meets (l:=cb_fields.env) all_nil cb_fields.chk (by
   intro ins outs h
   unfold cb_fields.c at h
   split at h
   ·obtain ⟨hp,rfl⟩:=h;exact cb_fields.fit _ _ _ _ _ hp
   ·exact h.elim)
theorem cb_Check.fit (n:Nat) (it_kind:Int) (it_n:UInt64) (it_bytes:List UInt8) (it_text:Str) (it_kids:List Itm) (hp:((decide (Itm.bulk (Itm.of (Itv.mk it_kind it_n it_bytes it_text it_kids))≤1099511627776))&&decide ((Itm.bulk (Itm.of (Itv.mk it_kind it_n it_bytes it_text it_kids)))<n+1))=true):([.ag [.i .i64 it_kind,.u64 it_n,.sl .bs it_bytes,.s it_text,.sl .il it_kids]]:List TV).length=cb_Check.d.np∧cb_Check.d.run (envL trydbGl (cb_Check.env n)) [.ag [.i .i64 it_kind,.u64 it_n,.sl .bs it_bytes,.s it_text,.sl .il it_kids]]=some (([(.i .i64 (Cb.chk (Itm.of (Itv.mk it_kind it_n it_bytes it_text it_kids))))]:List TV)++cb_Check.d.ps.toList.map fun q=>([.ag [.i .i64 it_kind,.u64 it_n,.sl .bs it_bytes,.s it_text,.sl .il it_kids]]:List TV).getD q.1 .dead) :=
 ⟨by kernel_rfl,Eq.trans (b:=cb_Check.F n (Itv.mk it_kind it_n it_bytes it_text it_kids)) (by kernel_rfl) (Eq.trans (cb_Check.goal n (Itv.mk it_kind it_n it_bytes it_text it_kids) hp) (by kernel_rfl))⟩
theorem ccheck.oks : ∀ n : Nat, (SpecOK Go.Proofs.Tryd.prog (fun n => (trydbGl n).av) 26 (Ctr.fs (cb_Check.cn n, cb_Check.sg))) := by
  intro n
  induction n with
  | zero => exact spec_zero (by
      intro ti to_ h
      unfold cb_Check.cn at h
      split at h
      · obtain ⟨h, _⟩ := h; simp at h
      · exact h.elim)
  | succ n ih =>
    have ih0 := ih
    exact meets (l := cb_Check.env n) (all_cons ih0 (all_cons cb_fields.ok (all_cons utf_Check.ok all_nil))) (cb_Check.chk n) (by
      intro ins outs h
      unfold cb_Check.cn at h
      split at h
      · obtain ⟨hp, rfl⟩ := h; exact cb_Check.fit n _ _ _ _ _ hp
      · exact h.elim)
theorem cb_Check.ok:SpecOK Go.Proofs.Tryd.prog (fun n=>(trydbGl n).av) 26 (Ctr.fs (cb_Check.c,cb_Check.sg)):=spec_sub fun ti to_ h=>by
 unfold cb_Check.c at h
 split at h
 ·obtain ⟨hp,rfl⟩:=h;exact ⟨cb_Check.cn (_+1),(ccheck.oks _),Bool.and_eq_true_iff.2 ⟨hp,decide_eq_true (Nat.lt_succ_self _)⟩,rfl⟩
 ·exact h.elim
theorem ref28_own.fit (it_kind:Int) (it_n:UInt64) (it_bytes:List UInt8) (it_text:Str) (it_kids:List Itm) (hp:(decide (Itm.bulk (Itm.of (Itv.mk it_kind it_n it_bytes it_text it_kids))≤1099511627776))=true):([.ag [.i .i64 it_kind,.u64 it_n,.sl .bs it_bytes,.s it_text,.sl .il it_kids]]:List TV).length=ref28_own.d.np∧ref28_own.d.run (envL trydbGl ref28_own.env) [.ag [.i .i64 it_kind,.u64 it_n,.sl .bs it_bytes,.s it_text,.sl .il it_kids]]=some (([(.i .i64 (Cb.own (Itm.of (Itv.mk it_kind it_n it_bytes it_text it_kids))))]:List TV)++ref28_own.d.ps.toList.map fun q=>([.ag [.i .i64 it_kind,.u64 it_n,.sl .bs it_bytes,.s it_text,.sl .il it_kids]]:List TV).getD q.1 .dead) :=
 ⟨by kernel_rfl,Eq.trans (b:=ref28_own.F (Itv.mk it_kind it_n it_bytes it_text it_kids)) (by kernel_rfl) (Eq.trans (ref28_own.goal (Itv.mk it_kind it_n it_bytes it_text it_kids) hp) (by kernel_rfl))⟩
theorem ref28_own.ok:SpecOK Go.Proofs.Tryd.prog (fun n=>(trydbGl n).av) 32 (Ctr.fs (ref28_own.c,ref28_own.sg)) :=
 meets (l:=ref28_own.env) (all_cons ref2_Whole.ok all_nil) ref28_own.chk (by
   intro ins outs h
   unfold ref28_own.c at h
   split at h
   ·obtain ⟨hp,rfl⟩:=h;exact ref28_own.fit _ _ _ _ _ hp
   ·exact h.elim)
theorem ref28_Check.fit (n:Nat) (it_kind:Int) (it_n:UInt64) (it_bytes:List UInt8) (it_text:Str) (it_kids:List Itm) (hp:((decide (Itm.bulk (Itm.of (Itv.mk it_kind it_n it_bytes it_text it_kids))≤1099511627776))&&decide ((Itm.bulk (Itm.of (Itv.mk it_kind it_n it_bytes it_text it_kids)))<n+1))=true):([.ag [.i .i64 it_kind,.u64 it_n,.sl .bs it_bytes,.s it_text,.sl .il it_kids]]:List TV).length=ref28_Check.d.np∧ref28_Check.d.run (envL trydbGl (ref28_Check.env n)) [.ag [.i .i64 it_kind,.u64 it_n,.sl .bs it_bytes,.s it_text,.sl .il it_kids]]=some (([(.i .i64 (Cb.chk (Itm.of (Itv.mk it_kind it_n it_bytes it_text it_kids))))]:List TV)++ref28_Check.d.ps.toList.map fun q=>([.ag [.i .i64 it_kind,.u64 it_n,.sl .bs it_bytes,.s it_text,.sl .il it_kids]]:List TV).getD q.1 .dead) :=
 ⟨by kernel_rfl,Eq.trans (b:=ref28_Check.F n (Itv.mk it_kind it_n it_bytes it_text it_kids)) (by kernel_rfl) (Eq.trans (ref28_Check.goal n (Itv.mk it_kind it_n it_bytes it_text it_kids) hp) (by kernel_rfl))⟩
theorem rcheck28.oks : ∀ n : Nat, (SpecOK Go.Proofs.Tryd.prog (fun n => (trydbGl n).av) 18 (Ctr.fs (ref28_Check.cn n, ref28_Check.sg))) := by
  intro n
  induction n with
  | zero => exact spec_zero (by
      intro ti to_ h
      unfold ref28_Check.cn at h
      split at h
      · obtain ⟨h, _⟩ := h; simp at h
      · exact h.elim)
  | succ n ih =>
    have ih0 := ih
    exact meets (l := ref28_Check.env n) (all_cons ih0 (all_cons ref28_own.ok all_nil)) (ref28_Check.chk n) (by
      intro ins outs h
      unfold ref28_Check.cn at h
      split at h
      · obtain ⟨hp, rfl⟩ := h; exact ref28_Check.fit n _ _ _ _ _ hp
      · exact h.elim)
theorem ref28_Check.ok:SpecOK Go.Proofs.Tryd.prog (fun n=>(trydbGl n).av) 18 (Ctr.fs (ref28_Check.c,ref28_Check.sg)):=spec_sub fun ti to_ h=>by
 unfold ref28_Check.c at h
 split at h
 ·obtain ⟨hp,rfl⟩:=h;exact ⟨ref28_Check.cn (_+1),(rcheck28.oks _),Bool.and_eq_true_iff.2 ⟨hp,decide_eq_true (Nat.lt_succ_self _)⟩,rfl⟩
 ·exact h.elim
theorem db_text.fit (s:Str):([.s s]:List TV).length=db_text.d.np∧db_text.d.run (envL trydbGl db_text.env) [.s s]=some (([(.ag (Itv.cells (Itm.val (Db.text s))))]:List TV)++db_text.d.ps.toList.map fun q=>([.s s]:List TV).getD q.1 .dead) :=
 ⟨by kernel_rfl,Eq.trans (b:=db_text.F s) (by kernel_rfl) (Eq.trans (db_text.goal s) (by kernel_rfl))⟩
theorem db_text.ok:SpecOK Go.Proofs.Tryd.prog (fun n=>(trydbGl n).av) 36 (Ctr.fs (db_text.c,db_text.sg)) :=
 meets (l:=db_text.env) all_nil db_text.chk (by
   intro ins outs h
   unfold db_text.c at h
   split at h
   ·cases h;exact db_text.fit _
   ·exact h.elim)
theorem db_raw.fit (b:List UInt8) (hp:(decide ((b).length≤1099511627776))=true):([.sl .bs b]:List TV).length=db_raw.d.np∧db_raw.d.run (envL trydbGl db_raw.env) [.sl .bs b]=some (([(.ag (Itv.cells (Itm.val (Db.raw b))))]:List TV)++db_raw.d.ps.toList.map fun q=>([.sl .bs b]:List TV).getD q.1 .dead) :=
 ⟨by kernel_rfl,Eq.trans (b:=db_raw.F b) (by kernel_rfl) (Eq.trans (db_raw.goal b hp) (by kernel_rfl))⟩
theorem db_raw.ok:SpecOK Go.Proofs.Tryd.prog (fun n=>(trydbGl n).av) 57 (Ctr.fs (db_raw.c,db_raw.sg)) :=
 meets (l:=db_raw.env) (all_cons clone_bs.ok all_nil) db_raw.chk (by
   intro ins outs h
   unfold db_raw.c at h
   split at h
   ·obtain ⟨hp,rfl⟩:=h;exact db_raw.fit _ hp
   ·exact h.elim)
theorem db_plus.fit (n:UInt64):([.u64 n]:List TV).length=db_plus.d.np∧db_plus.d.run (envL trydbGl db_plus.env) [.u64 n]=some (([(.ag (Itv.cells (Itm.val (Db.plus n))))]:List TV)++db_plus.d.ps.toList.map fun q=>([.u64 n]:List TV).getD q.1 .dead) :=
 ⟨by kernel_rfl,Eq.trans (b:=db_plus.F n) (by kernel_rfl) (Eq.trans (db_plus.goal n) (by kernel_rfl))⟩
theorem db_plus.ok:SpecOK Go.Proofs.Tryd.prog (fun n=>(trydbGl n).av) 81 (Ctr.fs (db_plus.c,db_plus.sg)) :=
 meets (l:=db_plus.env) all_nil db_plus.chk (by
   intro ins outs h
   unfold db_plus.c at h
   split at h
   ·cases h;exact db_plus.fit _
   ·exact h.elim)
theorem db_simple.fit (n:UInt64):([.u64 n]:List TV).length=db_simple.d.np∧db_simple.d.run (envL trydbGl db_simple.env) [.u64 n]=some (([(.ag (Itv.cells (Itm.val (Db.simple n))))]:List TV)++db_simple.d.ps.toList.map fun q=>([.u64 n]:List TV).getD q.1 .dead) :=
 ⟨by kernel_rfl,Eq.trans (b:=db_simple.F n) (by kernel_rfl) (Eq.trans (db_simple.goal n) (by kernel_rfl))⟩
theorem db_simple.ok:SpecOK Go.Proofs.Tryd.prog (fun n=>(trydbGl n).av) 58 (Ctr.fs (db_simple.c,db_simple.sg)) :=
 meets (l:=db_simple.env) all_nil db_simple.chk (by
   intro ins outs h
   unfold db_simple.c at h
   split at h
   ·cases h;exact db_simple.fit _
   ·exact h.elim)
theorem db_list.fit (l:List Itm):([.sl .il l]:List TV).length=db_list.d.np∧db_list.d.run (envL trydbGl db_list.env) [.sl .il l]=some (([(.ag (Itv.cells (Itm.val (Db.list l))))]:List TV)++db_list.d.ps.toList.map fun q=>([.sl .il l]:List TV).getD q.1 .dead) :=
 ⟨by kernel_rfl,Eq.trans (b:=db_list.F l) (by kernel_rfl) (Eq.trans (db_list.goal l) (by kernel_rfl))⟩
theorem db_list.ok:SpecOK Go.Proofs.Tryd.prog (fun n=>(trydbGl n).av) 56 (Ctr.fs (db_list.c,db_list.sg)) :=
 meets (l:=db_list.env) all_nil db_list.chk (by
   intro ins outs h
   unfold db_list.c at h
   split at h
   ·cases h;exact ⟨by kernel_rfl,by kernel_rfl⟩
   ·cases h;exact db_list.fit _
   ·exact h.elim)
theorem db_integer.fit (v:Int) (hp:(decide (-9223372036854775808≤v∧v≤9223372036854775807))=true):([.i .i64 v]:List TV).length=db_integer.d.np∧db_integer.d.run (envL trydbGl db_integer.env) [.i .i64 v]=some (([(.ag (Itv.cells (Itm.val (Db.integer v))))]:List TV)++db_integer.d.ps.toList.map fun q=>([.i .i64 v]:List TV).getD q.1 .dead) :=
 ⟨by kernel_rfl,Eq.trans (b:=db_integer.F v) (by kernel_rfl) (Eq.trans (db_integer.goal v hp) (by kernel_rfl))⟩
theorem db_integer.ok:SpecOK Go.Proofs.Tryd.prog (fun n=>(trydbGl n).av) 59 (Ctr.fs (db_integer.c,db_integer.sg)) :=
 meets (l:=db_integer.env) (all_cons db_plus.ok all_nil) db_integer.chk (by
   intro ins outs h
   unfold db_integer.c at h
   split at h
   ·obtain ⟨hp,rfl⟩:=h;exact db_integer.fit _ hp
   ·exact h.elim)
theorem db_words.fit (v_kind:Int) (v_bits:UInt64) (v_high:UInt64) (v_low:UInt64) (v_text:Str) (v_more:Str) (v_sub:Int) (v_bytes:List UInt8) (v_kids:List Fld):([.ag [.i .i64 v_kind,.u64 v_bits,.u64 v_high,.u64 v_low,.s v_text,.s v_more,.i .i64 v_sub,.sl .bs v_bytes,.sl .fl v_kids]]:List TV).length=db_words.d.np∧db_words.d.run (envL trydbGl db_words.env) [.ag [.i .i64 v_kind,.u64 v_bits,.u64 v_high,.u64 v_low,.s v_text,.s v_more,.i .i64 v_sub,.sl .bs v_bytes,.sl .fl v_kids]]=some (([(.ag (Itv.cells (Itm.val (Db.raw (Db.words ((Val.mk v_kind v_bits v_high v_low v_text v_more v_sub v_bytes v_kids)).high ((Val.mk v_kind v_bits v_high v_low v_text v_more v_sub v_bytes v_kids)).low)))))]:List TV)++db_words.d.ps.toList.map fun q=>([.ag [.i .i64 v_kind,.u64 v_bits,.u64 v_high,.u64 v_low,.s v_text,.s v_more,.i .i64 v_sub,.sl .bs v_bytes,.sl .fl v_kids]]:List TV).getD q.1 .dead) :=
 ⟨by kernel_rfl,Eq.trans (b:=db_words.F (Val.mk v_kind v_bits v_high v_low v_text v_more v_sub v_bytes v_kids)) (by kernel_rfl) (Eq.trans (db_words.goal (Val.mk v_kind v_bits v_high v_low v_text v_more v_sub v_bytes v_kids)) (by kernel_rfl))⟩
theorem db_words.ok:SpecOK Go.Proofs.Tryd.prog (fun n=>(trydbGl n).av) 82 (Ctr.fs (db_words.c,db_words.sg)) :=
 meets (l:=db_words.env) (all_cons db_raw.ok all_nil) db_words.chk (by
   intro ins outs h
   unfold db_words.c at h
   split at h
   ·cases h;exact db_words.fit _ _ _ _ _ _ _ _ _
   ·exact h.elim)
theorem db_mapped.fit (n:Nat) (l:List Fld) (hp:((decide (Fld.bulks l≤1073741824))&&decide ((3 * Fld.bulks l+3)<n+1))=true):([.sl .fl l]:List TV).length=db_mapped.d.np∧db_mapped.d.run (envL trydbGl (db_mapped.env n)) [.sl .fl l]=some (([(.ag (Itv.cells (Itm.val (Db.map (Db.mapped l)))))]:List TV)++db_mapped.d.ps.toList.map fun q=>([.sl .fl l]:List TV).getD q.1 .dead) :=
 ⟨by kernel_rfl,Eq.trans (b:=db_mapped.F n l) (by kernel_rfl) (Eq.trans (db_mapped.goal n l hp) (by kernel_rfl))⟩
theorem db_item.fit (n:Nat) (v_kind:Int) (v_bits:UInt64) (v_high:UInt64) (v_low:UInt64) (v_text:Str) (v_more:Str) (v_sub:Int) (v_bytes:List UInt8) (v_kids:List Fld) (hp:((decide (Fld.bulk (Fld.of [] (Val.mk v_kind v_bits v_high v_low v_text v_more v_sub v_bytes v_kids))≤1073741824))&&decide ((3 * Fld.bulk (Fld.of [] (Val.mk v_kind v_bits v_high v_low v_text v_more v_sub v_bytes v_kids))+2)<n+1))=true):([.ag [.i .i64 v_kind,.u64 v_bits,.u64 v_high,.u64 v_low,.s v_text,.s v_more,.i .i64 v_sub,.sl .bs v_bytes,.sl .fl v_kids]]:List TV).length=db_item.d.np∧db_item.d.run (envL trydbGl (db_item.env n)) [.ag [.i .i64 v_kind,.u64 v_bits,.u64 v_high,.u64 v_low,.s v_text,.s v_more,.i .i64 v_sub,.sl .bs v_bytes,.sl .fl v_kids]]=some (([(.ag (Itv.cells (Itm.val (Db.item (Fld.of [] (Val.mk v_kind v_bits v_high v_low v_text v_more v_sub v_bytes v_kids))))))]:List TV)++db_item.d.ps.toList.map fun q=>([.ag [.i .i64 v_kind,.u64 v_bits,.u64 v_high,.u64 v_low,.s v_text,.s v_more,.i .i64 v_sub,.sl .bs v_bytes,.sl .fl v_kids]]:List TV).getD q.1 .dead) :=
 ⟨by kernel_rfl,Eq.trans (b:=db_item.F n (Val.mk v_kind v_bits v_high v_low v_text v_more v_sub v_bytes v_kids)) (by kernel_rfl) (Eq.trans (db_item.goal n (Val.mk v_kind v_bits v_high v_low v_text v_more v_sub v_bytes v_kids) hp) (by kernel_rfl))⟩
theorem db_tagged.fit (n:Nat) (v_kind:Int) (v_bits:UInt64) (v_high:UInt64) (v_low:UInt64) (v_text:Str) (v_more:Str) (v_sub:Int) (v_bytes:List UInt8) (v_kids:List Fld) (hp:((decide (Fld.bulk (Fld.of [] (Val.mk v_kind v_bits v_high v_low v_text v_more v_sub v_bytes v_kids))≤1073741824))&&decide ((3 * Fld.bulk (Fld.of [] (Val.mk v_kind v_bits v_high v_low v_text v_more v_sub v_bytes v_kids))+1)<n+1))=true):([.ag [.i .i64 v_kind,.u64 v_bits,.u64 v_high,.u64 v_low,.s v_text,.s v_more,.i .i64 v_sub,.sl .bs v_bytes,.sl .fl v_kids]]:List TV).length=db_tagged.d.np∧db_tagged.d.run (envL trydbGl (db_tagged.env n)) [.ag [.i .i64 v_kind,.u64 v_bits,.u64 v_high,.u64 v_low,.s v_text,.s v_more,.i .i64 v_sub,.sl .bs v_bytes,.sl .fl v_kids]]=some (([(.ag (Itv.cells (Itm.val (Db.tagged (Val.mk v_kind v_bits v_high v_low v_text v_more v_sub v_bytes v_kids) (Db.mapped ((Val.mk v_kind v_bits v_high v_low v_text v_more v_sub v_bytes v_kids)).kids)))))]:List TV)++db_tagged.d.ps.toList.map fun q=>([.ag [.i .i64 v_kind,.u64 v_bits,.u64 v_high,.u64 v_low,.s v_text,.s v_more,.i .i64 v_sub,.sl .bs v_bytes,.sl .fl v_kids]]:List TV).getD q.1 .dead) :=
 ⟨by kernel_rfl,Eq.trans (b:=db_tagged.F n (Val.mk v_kind v_bits v_high v_low v_text v_more v_sub v_bytes v_kids)) (by kernel_rfl) (Eq.trans (db_tagged.goal n (Val.mk v_kind v_bits v_high v_low v_text v_more v_sub v_bytes v_kids) hp) (by kernel_rfl))⟩
theorem dbitem.oks : ∀ n : Nat, (SpecOK Go.Proofs.Tryd.prog (fun n => (trydbGl n).av) 22 (Ctr.fs (db_mapped.cn n, db_mapped.sg))) ∧ (SpecOK Go.Proofs.Tryd.prog (fun n => (trydbGl n).av) 37 (Ctr.fs (db_item.cn n, db_item.sg))) ∧ (SpecOK Go.Proofs.Tryd.prog (fun n => (trydbGl n).av) 60 (Ctr.fs (db_tagged.cn n, db_tagged.sg))) := by
  intro n
  induction n with
  | zero => exact ⟨spec_zero (by
      intro ti to_ h
      unfold db_mapped.cn at h
      split at h
      · obtain ⟨h, _⟩ := h; simp at h
      · exact h.elim), spec_zero (by
      intro ti to_ h
      unfold db_item.cn at h
      split at h
      · obtain ⟨h, _⟩ := h; simp at h
      · exact h.elim), spec_zero (by
      intro ti to_ h
      unfold db_tagged.cn at h
      split at h
      · obtain ⟨h, _⟩ := h; simp at h
      · exact h.elim)⟩
  | succ n ih =>
    obtain ⟨ih0, ih1, ih2⟩ := ih
    exact ⟨meets (l := db_mapped.env n) (all_cons db_text.ok (all_cons ih1 all_nil)) (db_mapped.chk n) (by
      intro ins outs h
      unfold db_mapped.cn at h
      split at h
      · obtain ⟨hp, rfl⟩ := h; exact db_mapped.fit n _ hp
      · exact h.elim), meets (l := db_item.env n) (all_cons ih0 (all_cons db_text.ok (all_cons ih1 (all_cons tree_Regular.ok (all_cons db_list.ok (all_cons db_raw.ok (all_cons db_simple.ok (all_cons db_integer.ok (all_cons ih2 all_nil))))))))) (db_item.chk n) (by
      intro ins outs h
      unfold db_item.cn at h
      split at h
      · obtain ⟨hp, rfl⟩ := h; exact db_item.fit n _ _ _ _ _ _ _ _ _ hp
      · exact h.elim), meets (l := db_tagged.env n) (all_cons ih0 (all_cons db_text.ok (all_cons db_list.ok (all_cons db_raw.ok (all_cons db_simple.ok (all_cons db_integer.ok (all_cons db_plus.ok (all_cons db_words.ok all_nil)))))))) (db_tagged.chk n) (by
      intro ins outs h
      unfold db_tagged.cn at h
      split at h
      · obtain ⟨hp, rfl⟩ := h; exact db_tagged.fit n _ _ _ _ _ _ _ _ _ hp
      · exact h.elim)⟩
theorem db_mapped.ok:SpecOK Go.Proofs.Tryd.prog (fun n=>(trydbGl n).av) 22 (Ctr.fs (db_mapped.c,db_mapped.sg)):=spec_sub fun ti to_ h=>by
 unfold db_mapped.c at h
 split at h
 ·obtain ⟨hp,rfl⟩:=h;exact ⟨db_mapped.cn (_+1),(dbitem.oks _).1,Bool.and_eq_true_iff.2 ⟨hp,decide_eq_true (Nat.lt_succ_self _)⟩,rfl⟩
 ·exact h.elim
theorem db_Item.fit (v_kind:Int) (v_bits:UInt64) (v_high:UInt64) (v_low:UInt64) (v_text:Str) (v_more:Str) (v_sub:Int) (v_bytes:List UInt8) (v_kids:List Fld) (hp:(decide (Fld.bulk (Fld.of [] (Val.mk v_kind v_bits v_high v_low v_text v_more v_sub v_bytes v_kids))≤1073741824))=true):([.ag [.i .i64 v_kind,.u64 v_bits,.u64 v_high,.u64 v_low,.s v_text,.s v_more,.i .i64 v_sub,.sl .bs v_bytes,.sl .fl v_kids]]:List TV).length=db_Item.d.np∧db_Item.d.run (envL trydbGl db_Item.env) [.ag [.i .i64 v_kind,.u64 v_bits,.u64 v_high,.u64 v_low,.s v_text,.s v_more,.i .i64 v_sub,.sl .bs v_bytes,.sl .fl v_kids]]=some (([(.ag (Itv.cells (Itm.val ((Db.enc (Val.mk v_kind v_bits v_high v_low v_text v_more v_sub v_bytes v_kids)).1)))),(.ag (Flt.cells ((Db.enc (Val.mk v_kind v_bits v_high v_low v_text v_more v_sub v_bytes v_kids)).2)))]:List TV)++db_Item.d.ps.toList.map fun q=>([.ag [.i .i64 v_kind,.u64 v_bits,.u64 v_high,.u64 v_low,.s v_text,.s v_more,.i .i64 v_sub,.sl .bs v_bytes,.sl .fl v_kids]]:List TV).getD q.1 .dead) :=
 ⟨by kernel_rfl,Eq.trans (b:=db_Item.F (Val.mk v_kind v_bits v_high v_low v_text v_more v_sub v_bytes v_kids)) (by kernel_rfl) (Eq.trans (db_Item.goal (Val.mk v_kind v_bits v_high v_low v_text v_more v_sub v_bytes v_kids) hp) (by kernel_rfl))⟩
theorem db_Item.ok:SpecOK Go.Proofs.Tryd.prog (fun n=>(trydbGl n).av) 10 (Ctr.fs (db_Item.c,db_Item.sg)) :=
 meets (l:=db_Item.env) (all_cons tree_Check.ok (all_cons db_mapped.ok all_nil)) db_Item.chk (by
   intro ins outs h
   unfold db_Item.c at h
   split at h
   ·obtain ⟨hp,rfl⟩:=h;exact db_Item.fit _ _ _ _ _ _ _ _ _ hp
   ·exact h.elim)
theorem db_none.fit (path:List Int) (hp:(decide ((path).length≤1099511627776))=true):([.sl .is path]:List TV).length=db_none.d.np∧db_none.d.run (envL trydbGl db_none.env) [.sl .is path]=some (([(.ag (Flt.cells ((Flt.mk 12 0 path))))]:List TV)++db_none.d.ps.toList.map fun q=>([.sl .is path]:List TV).getD q.1 .dead) :=
 ⟨by kernel_rfl,Eq.trans (b:=db_none.F path) (by kernel_rfl) (Eq.trans (db_none.goal path hp) (by kernel_rfl))⟩
theorem db_none.ok:SpecOK Go.Proofs.Tryd.prog (fun n=>(trydbGl n).av) 27 (Ctr.fs (db_none.c,db_none.sg)) :=
 meets (l:=db_none.env) (all_cons clone_is.ok all_nil) db_none.chk (by
   intro ins outs h
   unfold db_none.c at h
   split at h
   ·obtain ⟨hp,rfl⟩:=h;exact db_none.fit _ hp
   ·exact h.elim)
theorem db_number.fit (it_kind:Int) (it_n:UInt64) (it_bytes:List UInt8) (it_text:Str) (it_kids:List Itm):([.ag [.i .i64 it_kind,.u64 it_n,.sl .bs it_bytes,.s it_text,.sl .il it_kids]]:List TV).length=db_number.d.np∧db_number.d.run (envL trydbGl db_number.env) [.ag [.i .i64 it_kind,.u64 it_n,.sl .bs it_bytes,.s it_text,.sl .il it_kids]]=some (([(.i .i64 ((Db.number (Itm.of (Itv.mk it_kind it_n it_bytes it_text it_kids))).getD 0)),(.b ((Db.number (Itm.of (Itv.mk it_kind it_n it_bytes it_text it_kids))).isSome))]:List TV)++db_number.d.ps.toList.map fun q=>([.ag [.i .i64 it_kind,.u64 it_n,.sl .bs it_bytes,.s it_text,.sl .il it_kids]]:List TV).getD q.1 .dead) :=
 ⟨by kernel_rfl,Eq.trans (b:=db_number.F (Itv.mk it_kind it_n it_bytes it_text it_kids)) (by kernel_rfl) (Eq.trans (db_number.goal (Itv.mk it_kind it_n it_bytes it_text it_kids)) (by kernel_rfl))⟩
theorem db_number.ok:SpecOK Go.Proofs.Tryd.prog (fun n=>(trydbGl n).av) 70 (Ctr.fs (db_number.c,db_number.sg)) :=
 meets (l:=db_number.env) all_nil db_number.chk (by
   intro ins outs h
   unfold db_number.c at h
   split at h
   ·cases h;exact db_number.fit _ _ _ _ _
   ·exact h.elim)
theorem db_regular.fit (l:List Itm) (hp:(decide ((l).length≤1099511627776))=true):([.sl .il l]:List TV).length=db_regular.d.np∧db_regular.d.run (envL trydbGl db_regular.env) [.sl .il l]=some (([(.b (Db.regular l))]:List TV)++db_regular.d.ps.toList.map fun q=>([.sl .il l]:List TV).getD q.1 .dead) :=
 ⟨by kernel_rfl,Eq.trans (b:=db_regular.F l) (by kernel_rfl) (Eq.trans (db_regular.goal l hp) (by kernel_rfl))⟩
theorem db_regular.ok:SpecOK Go.Proofs.Tryd.prog (fun n=>(trydbGl n).av) 87 (Ctr.fs (db_regular.c,db_regular.sg)) :=
 meets (l:=db_regular.env) (all_cons sc_Itoa.ok all_nil) db_regular.chk (by
   intro ins outs h
   unfold db_regular.c at h
   split at h
   ·obtain ⟨hp,rfl⟩:=h;exact db_regular.fit _ hp
   ·exact h.elim)
theorem db_kinds.fit (it_kind:Int) (it_n:UInt64) (it_bytes:List UInt8) (it_text:Str) (it_kids:List Itm) (a:Int) (b:Int):([.ag [.i .i64 it_kind,.u64 it_n,.sl .bs it_bytes,.s it_text,.sl .il it_kids],.i .i64 a,.i .i64 b]:List TV).length=db_kinds.d.np∧db_kinds.d.run (envL trydbGl db_kinds.env) [.ag [.i .i64 it_kind,.u64 it_n,.sl .bs it_bytes,.s it_text,.sl .il it_kids],.i .i64 a,.i .i64 b]=some (([(.b (Db.kinds (Itm.of (Itv.mk it_kind it_n it_bytes it_text it_kids)) a b))]:List TV)++db_kinds.d.ps.toList.map fun q=>([.ag [.i .i64 it_kind,.u64 it_n,.sl .bs it_bytes,.s it_text,.sl .il it_kids],.i .i64 a,.i .i64 b]:List TV).getD q.1 .dead) :=
 ⟨by kernel_rfl,Eq.trans (b:=db_kinds.F (Itv.mk it_kind it_n it_bytes it_text it_kids) a b) (by kernel_rfl) (Eq.trans (db_kinds.goal (Itv.mk it_kind it_n it_bytes it_text it_kids) a b) (by kernel_rfl))⟩
theorem db_kinds.ok:SpecOK Go.Proofs.Tryd.prog (fun n=>(trydbGl n).av) 88 (Ctr.fs (db_kinds.c,db_kinds.sg)) :=
 meets (l:=db_kinds.env) all_nil db_kinds.chk (by
   intro ins outs h
   unfold db_kinds.c at h
   split at h
   ·cases h;exact db_kinds.fit _ _ _ _ _ _ _
   ·exact h.elim)
theorem db_small.fit (n:UInt64) (it_kind:Int) (it_n:UInt64) (it_bytes:List UInt8) (it_text:Str) (it_kids:List Itm) (hp:(decide (Itm.bulk (Itm.of (Itv.mk it_kind it_n it_bytes it_text it_kids))≤1099511627776))=true):([.u64 n,.ag [.i .i64 it_kind,.u64 it_n,.sl .bs it_bytes,.s it_text,.sl .il it_kids]]:List TV).length=db_small.d.np∧db_small.d.run (envL trydbGl db_small.env) [.u64 n,.ag [.i .i64 it_kind,.u64 it_n,.sl .bs it_bytes,.s it_text,.sl .il it_kids]]=some (([(.ag (Val.cells ((Db.smallV n (Itm.of (Itv.mk it_kind it_n it_bytes it_text it_kids))).1))),(.b ((Db.smallV n (Itm.of (Itv.mk it_kind it_n it_bytes it_text it_kids))).2))]:List TV)++db_small.d.ps.toList.map fun q=>([.u64 n,.ag [.i .i64 it_kind,.u64 it_n,.sl .bs it_bytes,.s it_text,.sl .il it_kids]]:List TV).getD q.1 .dead) :=
 ⟨by kernel_rfl,Eq.trans (b:=db_small.F n (Itv.mk it_kind it_n it_bytes it_text it_kids)) (by kernel_rfl) (Eq.trans (db_small.goal n (Itv.mk it_kind it_n it_bytes it_text it_kids) hp) (by kernel_rfl))⟩
theorem db_small.ok:SpecOK Go.Proofs.Tryd.prog (fun n=>(trydbGl n).av) 89 (Ctr.fs (db_small.c,db_small.sg)) :=
 meets (l:=db_small.env) (all_cons st_Contains.ok (all_cons clone_bs.ok (all_cons db_number.ok (all_cons db_kinds.ok all_nil)))) db_small.chk (by
   intro ins outs h
   unfold db_small.c at h
   split at h
   ·obtain ⟨hp,rfl⟩:=h;exact db_small.fit _ _ _ _ _ _ hp
   ·exact h.elim)
theorem db_with.fit (n:Nat) (v_kind:Int) (v_bits:UInt64) (v_high:UInt64) (v_low:UInt64) (v_text:Str) (v_more:Str) (v_sub:Int) (l:List Itm) (path:List Int) (hp:((decide (Itm.bulks l+(path).length≤1073741824)&&decide (Cb.chks l=0∧(l).length % 2=0))&&decide ((2 * Itm.bulks l+2)<n+1))=true):([.ag [.i .i64 v_kind,.u64 v_bits,.u64 v_high,.u64 v_low,.s v_text,.s v_more,.i .i64 v_sub,.c (.slice none 0 0),.c (.slice none 0 0)],.sl .il l,.sl .is path]:List TV).length=db_with.d.np∧db_with.d.run (envL trydbGl (db_with.env n)) [.ag [.i .i64 v_kind,.u64 v_bits,.u64 v_high,.u64 v_low,.s v_text,.s v_more,.i .i64 v_sub,.c (.slice none 0 0),.c (.slice none 0 0)],.sl .il l,.sl .is path]=some (([(.ag (Val.cells (Db.Got.val (Db.Gots.got (Val.mk v_kind v_bits v_high v_low v_text v_more v_sub [] []) (Db.fields l 0 path))))),(.ag (Flt.cells (Db.Got.flt (Db.Gots.got (Val.mk v_kind v_bits v_high v_low v_text v_more v_sub [] []) (Db.fields l 0 path)))))]:List TV)++db_with.d.ps.toList.map fun q=>([.ag [.i .i64 v_kind,.u64 v_bits,.u64 v_high,.u64 v_low,.s v_text,.s v_more,.i .i64 v_sub,.c (.slice none 0 0),.c (.slice none 0 0)],.sl .il l,.sl .is path]:List TV).getD q.1 .dead) :=
 ⟨by kernel_rfl,Eq.trans (b:=db_with.F n (Val.mk v_kind v_bits v_high v_low v_text v_more v_sub [] []) l path) (by kernel_rfl) (Eq.trans (db_with.goal n (Val.mk v_kind v_bits v_high v_low v_text v_more v_sub [] []) l path hp) (by kernel_rfl))⟩
theorem db_value.fit (n:Nat) (it_kind:Int) (it_n:UInt64) (it_bytes:List UInt8) (it_text:Str) (it_kids:List Itm) (path:List Int) (hp:((decide (Itm.bulk (Itm.of (Itv.mk it_kind it_n it_bytes it_text it_kids))+(path).length≤1073741824)&&decide (Cb.chk (Itm.of (Itv.mk it_kind it_n it_bytes it_text it_kids))=0))&&decide ((2 * Itm.bulk (Itm.of (Itv.mk it_kind it_n it_bytes it_text it_kids))+1)<n+1))=true):([.ag [.i .i64 it_kind,.u64 it_n,.sl .bs it_bytes,.s it_text,.sl .il it_kids],.sl .is path]:List TV).length=db_value.d.np∧db_value.d.run (envL trydbGl (db_value.env n)) [.ag [.i .i64 it_kind,.u64 it_n,.sl .bs it_bytes,.s it_text,.sl .il it_kids],.sl .is path]=some (([(.ag (Val.cells (Db.Got.val (Db.value (Itm.of (Itv.mk it_kind it_n it_bytes it_text it_kids)) path)))),(.ag (Flt.cells (Db.Got.flt (Db.value (Itm.of (Itv.mk it_kind it_n it_bytes it_text it_kids)) path))))]:List TV)++db_value.d.ps.toList.map fun q=>([.ag [.i .i64 it_kind,.u64 it_n,.sl .bs it_bytes,.s it_text,.sl .il it_kids],.sl .is path]:List TV).getD q.1 .dead) :=
 ⟨by kernel_rfl,Eq.trans (b:=db_value.F n (Itv.mk it_kind it_n it_bytes it_text it_kids) path) (by kernel_rfl) (Eq.trans (db_value.goal n (Itv.mk it_kind it_n it_bytes it_text it_kids) path hp) (by kernel_rfl))⟩
theorem db_tag.fit (n:Nat) (it_kind:Int) (it_n:UInt64) (it_bytes:List UInt8) (it_text:Str) (it_kids:List Itm) (path:List Int) (hp:((decide (Itm.bulk (Itm.of (Itv.mk it_kind it_n it_bytes it_text it_kids))+(path).length≤1073741824)&&decide (Cb.chk (Itm.of (Itv.mk it_kind it_n it_bytes it_text it_kids))=0∧((Itv.mk it_kind it_n it_bytes it_text it_kids)).kind=7))&&decide ((2 * Itm.bulk (Itm.of (Itv.mk it_kind it_n it_bytes it_text it_kids)))<n+1))=true):([.ag [.i .i64 it_kind,.u64 it_n,.sl .bs it_bytes,.s it_text,.sl .il it_kids],.sl .is path]:List TV).length=db_tag.d.np∧db_tag.d.run (envL trydbGl (db_tag.env n)) [.ag [.i .i64 it_kind,.u64 it_n,.sl .bs it_bytes,.s it_text,.sl .il it_kids],.sl .is path]=some (([(.ag (Val.cells (Db.Got.val (Db.value (Itm.of (Itv.mk it_kind it_n it_bytes it_text it_kids)) path)))),(.ag (Flt.cells (Db.Got.flt (Db.value (Itm.of (Itv.mk it_kind it_n it_bytes it_text it_kids)) path))))]:List TV)++db_tag.d.ps.toList.map fun q=>([.ag [.i .i64 it_kind,.u64 it_n,.sl .bs it_bytes,.s it_text,.sl .il it_kids],.sl .is path]:List TV).getD q.1 .dead) :=
 ⟨by kernel_rfl,Eq.trans (b:=db_tag.F n (Itv.mk it_kind it_n it_bytes it_text it_kids) path) (by kernel_rfl) (Eq.trans (db_tag.goal n (Itv.mk it_kind it_n it_bytes it_text it_kids) path hp) (by kernel_rfl))⟩
theorem dbvalue.oks : ∀ n : Nat, (SpecOK Go.Proofs.Tryd.prog (fun n => (trydbGl n).av) 28 (Ctr.fs (db_with.cn n, db_with.sg))) ∧ (SpecOK Go.Proofs.Tryd.prog (fun n => (trydbGl n).av) 44 (Ctr.fs (db_value.cn n, db_value.sg))) ∧ (SpecOK Go.Proofs.Tryd.prog (fun n => (trydbGl n).av) 72 (Ctr.fs (db_tag.cn n, db_tag.sg))) := by
  intro n
  induction n with
  | zero => exact ⟨spec_zero (by
      intro ti to_ h
      unfold db_with.cn at h
      split at h
      · obtain ⟨h, _⟩ := h; simp at h
      · exact h.elim), spec_zero (by
      intro ti to_ h
      unfold db_value.cn at h
      split at h
      · obtain ⟨h, _⟩ := h; simp at h
      · exact h.elim), spec_zero (by
      intro ti to_ h
      unfold db_tag.cn at h
      split at h
      · obtain ⟨h, _⟩ := h; simp at h
      · exact h.elim)⟩
  | succ n ih =>
    obtain ⟨ih0, ih1, ih2⟩ := ih
    exact ⟨meets (l := db_with.env n) (all_cons db_none.ok (all_cons st_Contains.ok (all_cons ih1 all_nil))) (db_with.chk n) (by
      intro ins outs h
      unfold db_with.cn at h
      split at h
      · obtain ⟨hp, rfl⟩ := h; exact db_with.fit n _ _ _ _ _ _ _ _ _ hp
      · exact h.elim), meets (l := db_value.env n) (all_cons db_none.ok (all_cons ih0 (all_cons ih1 (all_cons clone_bs.ok (all_cons db_number.ok (all_cons sc_Itoa.ok (all_cons ih2 all_nil))))))) (db_value.chk n) (by
      intro ins outs h
      unfold db_value.cn at h
      split at h
      · obtain ⟨hp, rfl⟩ := h; exact db_value.fit n _ _ _ _ _ _ hp
      · exact h.elim), meets (l := db_tag.env n) (all_cons db_none.ok (all_cons ih0 (all_cons db_regular.ok (all_cons db_kinds.ok (all_cons db_small.ok all_nil))))) (db_tag.chk n) (by
      intro ins outs h
      unfold db_tag.cn at h
      split at h
      · obtain ⟨hp, rfl⟩ := h; exact db_tag.fit n _ _ _ _ _ _ hp
      · exact h.elim)⟩
theorem db_with.ok:SpecOK Go.Proofs.Tryd.prog (fun n=>(trydbGl n).av) 28 (Ctr.fs (db_with.c,db_with.sg)):=spec_sub fun ti to_ h=>by
 unfold db_with.c at h
 split at h
 ·obtain ⟨hp,rfl⟩:=h;exact ⟨db_with.cn (_+1),(dbvalue.oks _).1,Bool.and_eq_true_iff.2 ⟨hp,decide_eq_true (Nat.lt_succ_self _)⟩,rfl⟩
 ·exact h.elim
theorem db_Value.fit (it_kind:Int) (it_n:UInt64) (it_bytes:List UInt8) (it_text:Str) (it_kids:List Itm) (hp:(decide (Itm.bulk (Itm.of (Itv.mk it_kind it_n it_bytes it_text it_kids))≤1073741824))=true):([.ag [.i .i64 it_kind,.u64 it_n,.sl .bs it_bytes,.s it_text,.sl .il it_kids]]:List TV).length=db_Value.d.np∧db_Value.d.run (envL trydbGl db_Value.env) [.ag [.i .i64 it_kind,.u64 it_n,.sl .bs it_bytes,.s it_text,.sl .il it_kids]]=some (([(.ag (Val.cells ((Db.dec (Itm.of (Itv.mk it_kind it_n it_bytes it_text it_kids))).1))),(.ag (Flt.cells ((Db.dec (Itm.of (Itv.mk it_kind it_n it_bytes it_text it_kids))).2)))]:List TV)++db_Value.d.ps.toList.map fun q=>([.ag [.i .i64 it_kind,.u64 it_n,.sl .bs it_bytes,.s it_text,.sl .il it_kids]]:List TV).getD q.1 .dead) :=
 ⟨by kernel_rfl,Eq.trans (b:=db_Value.F (Itv.mk it_kind it_n it_bytes it_text it_kids)) (by kernel_rfl) (Eq.trans (db_Value.goal (Itv.mk it_kind it_n it_bytes it_text it_kids) hp) (by kernel_rfl))⟩
theorem db_Value.ok:SpecOK Go.Proofs.Tryd.prog (fun n=>(trydbGl n).av) 15 (Ctr.fs (db_Value.c,db_Value.sg)) :=
 meets (l:=db_Value.env) (all_cons cb_Check.ok (all_cons db_none.ok (all_cons db_with.ok all_nil))) db_Value.chk (by
   intro ins outs h
   unfold db_Value.c at h
   split at h
   ·obtain ⟨hp,rfl⟩:=h;exact db_Value.fit _ _ _ _ _ hp
   ·exact h.elim)
theorem law30_awake.fit:([]:List TV).length=law30_awake.d.np∧law30_awake.d.run (envL trydbGl law30_awake.env) []=some (([(.b (true))]:List TV)++law30_awake.d.ps.toList.map fun q=>([]:List TV).getD q.1 .dead) :=
 ⟨by kernel_rfl,Eq.trans (b:=law30_awake.F ) (by kernel_rfl) (Eq.trans (law30_awake.goal ) (by kernel_rfl))⟩
theorem law30_awake.ok:SpecOK Go.Proofs.Tryd.prog (fun n=>(trydbGl n).av) 8 (Ctr.fs (law30_awake.c,law30_awake.sg)) :=
 meets (l:=law30_awake.env) (all_cons db_Item.ok (all_cons db_Value.ok all_nil)) law30_awake.chk (by
   intro ins outs h
   unfold law30_awake.c at h
   split at h
   ·cases h;exact law30_awake.fit
   ·exact h.elim)
end Go.Eng
namespace Go.Eng
open Go.IntWalk
namespace Db
theorem integer_bulk (x:Int):Itm.bulk (integer x)=1:=by unfold integer;split <;> simp [Itm.bulk,Itm.bulks]
theorem words_len (a b:UInt64):(words a b).length=16:=by rw [words,List.length_append,Cur.putHigh_len,Cur.putHigh_len]
theorem tagged_bulk (v:Val) (m:List Itm):Itm.bulk (tagged v m)≤20+v.text.length+v.more.length+v.bytes.length+Itm.bulks m:=by
 have h1:=words_len v.high v.low
 have h2:=integer_bulk (i64 v.bits)
 unfold tagged
 repeat' split
 all_goals first | omega | (simp only [map,list,plus,raw,text,simple,Itm.bulk,Itm.bulks,List.length_nil];omega)
theorem itemOf_bulk (v:Val) (m l:List Itm):Itm.bulk (itemOf v m l)≤25+v.text.length+v.more.length+v.bytes.length+max (Itm.bulks m) (Itm.bulks l):=by
 have h1:=tagged_bulk v m
 have h2:=integer_bulk (i32 v.bits)
 unfold itemOf
 repeat' split
 all_goals first | omega | (simp only [map,list,plus,raw,text,simple,Itm.bulk,Itm.bulks,List.length_nil];omega)
mutual
theorem item_bulk : ∀ f : Fld, Itm.bulk (item f) + 1 + f.name.length ≤ 32 * Fld.bulk f
  | .mk n k b h lo t m s y ks => by
    have h1 := mapped_bulk ks
    have h2 := items_bulk ks
    have h3 := itemOf_bulk ⟨k, b, h, lo, t, m, s, y, ks⟩ (mapped ks) (items ks)
    simp only [item, Fld.bulk, Fld.name] at h3 ⊢
    omega
theorem mapped_bulk : ∀ l : List Fld, Itm.bulks (mapped l) ≤ 32 * Fld.bulks l
  | [] => Nat.zero_le _
  | f :: r => by
    have h1 := item_bulk f
    have h2 := mapped_bulk r
    simp only [mapped, Itm.bulks, Fld.bulks, text, Itm.bulk, List.length_nil]; omega
theorem items_bulk : ∀ l : List Fld, Itm.bulks (items l) ≤ 32 * Fld.bulks l
  | [] => Nat.zero_le _
  | f :: r => by
    have h1 := item_bulk f
    have h2 := items_bulk r
    simp only [items, Itm.bulks, Fld.bulks]; omega
end
theorem enc_bulk (v:Val):Itm.bulk (enc v).1≤32 * Fld.bulk (Fld.of [] v):=by
 have h1:=mapped_bulk v.kids
 have h2:Fld.bulks v.kids<Fld.bulk (Fld.of [] v):=by simp only [Fld.of,Fld.bulk];omega
 unfold enc
 repeat' split
 all_goals simp only [map,Mp.zero,Itm.bulk,Itm.bulks,List.length_nil]
 all_goals omega
def Leads (p q:List Int) (m:Nat):Prop:=∃r,q=p++r∧r.length≤m
theorem Leads.mono {p q:List Int} {a b:Nat} (h:Leads p q a) (hab:a≤b):Leads p q b:=by
 obtain ⟨r,hr,hl⟩:=h;exact ⟨r,hr,by omega⟩
theorem Leads.one (p:List Int) (x:Int):Leads p (p++[x]) 1:=⟨[x],rfl,Nat.le_refl _⟩
end Db
end Go.Eng
namespace Go.Eng
open Go.IntWalk
theorem whole_nil:Utf.whole []=true:=by decide
namespace Db
theorem chk_text {s:Str} (h:Utf.whole s=true):Cb.chk (text s)=0:=by
 rw [text,Cb.chk,if_pos (show Cb.own (.mk 4 0 [] s [])=0 by simp [Cb.own,h])];rfl
theorem chk_raw (b:Str):Cb.chk (raw b)=0:=by
 rw [raw,Cb.chk,if_pos (show Cb.own (.mk 3 0 b [] [])=0 by simp [Cb.own,whole_nil])];rfl
theorem chk_plus (n:UInt64):Cb.chk (plus n)=0:=by
 rw [plus,Cb.chk,if_pos (show Cb.own (.mk 1 n [] [] [])=0 by simp [Cb.own,whole_nil])];rfl
theorem chk_float (n:UInt64):Cb.chk (.mk 9 n [] [] [])=0:=by
 rw [Cb.chk,if_pos (show Cb.own (.mk 9 n [] [] [])=0 by simp [Cb.own,whole_nil])];rfl
theorem chk_neg (n:UInt64):Cb.chk (.mk 2 n [] [] [])=0:=by
 rw [Cb.chk,if_pos (show Cb.own (.mk 2 n [] [] [])=0 by simp [Cb.own,whole_nil])];rfl
theorem chk_simple {n:UInt64} (h:¬(n<20∨23<n)):Cb.chk (simple n)=0:=by
 simp only [not_or] at h
 rw [simple,Cb.chk,if_pos (show Cb.own (.mk 8 n [] [] [])=0 by simp [Cb.own,whole_nil,h.1,h.2])];rfl
theorem chk_list {l:List Itm} (h:Cb.chks l=0):Cb.chk (list l)=0:=by
 rw [list,Cb.chk,if_pos (show Cb.own (.mk 5 0 [] [] l)=0 by simp [Cb.own,whole_nil])];exact h
theorem chk_map {l:List Itm} (h:Cb.chks l=0) (he:l.length % 2=0):Cb.chk (map l)=0:=by
 rw [map,Cb.chk,if_pos (show Cb.own (.mk 6 0 [] [] l)=0 by simp [Cb.own,whole_nil,he])];exact h
theorem chk_two {a b:Itm} (ha:Cb.chk a=0) (hb:Cb.chk b=0):Cb.chks [a,b]=0:=by
 rw [Cb.chks,if_pos ha,Cb.chks,if_pos hb];rfl
theorem chk_tag (n:UInt64) {x:Itm} (h:Cb.chk x=0):Cb.chk (.mk 7 n [] [] [x])=0:=by
 rw [Cb.chk,if_pos (show Cb.own (.mk 7 n [] [] [x])=0 by simp [Cb.own,whole_nil]),Cb.chks,if_pos h];rfl
theorem chk_integer (x:Int):Cb.chk (integer x)=0:=by
 unfold integer;split
 ·exact chk_neg _
 ·exact chk_plus _
theorem number_integer (x:Int) (h0 : -9223372036854775808≤x) (h1:x≤9223372036854775807):number (integer x)=some x:=by
 unfold integer
 by_cases a:x<0
 ·have hn:(UInt64.ofInt (-(x+1))).toNat=(-(x+1)).toNat:=by
   obtain ⟨m,hm⟩:∃m:Nat,-(x+1)=m:=⟨(-(x+1)).toNat,by omega⟩
   rw [hm,u64_nat];omega
  rw [if_pos a,number,if_neg (show ¬(9223372036854775808:UInt64)≤(Itm.mk 2 (UInt64.ofInt (-(x+1))) [] [] []).n from fun h=>by
   have:=UInt64.le_iff_toNat_le.1 h
   rw [show (Itm.mk 2 (UInt64.ofInt (-(x+1))) [] [] []).n=UInt64.ofInt (-(x+1)) from rfl,hn] at this
   simp at this;omega),if_neg (show ¬(Itm.mk 2 (UInt64.ofInt (-(x+1))) [] [] []).kind=1 from fun h=>absurd (show (2:Int)=1 from h) (by decide)),if_pos (show (Itm.mk 2 (UInt64.ofInt (-(x+1))) [] [] []).kind=2 from rfl),
   show (Itm.mk 2 (UInt64.ofInt (-(x+1))) [] [] []).n=UInt64.ofInt (-(x+1)) from rfl,hn]
  congr 1;omega
 ·have hn:(UInt64.ofInt x).toNat=x.toNat:=by
   obtain ⟨m,hm⟩:∃m:Nat,x=m:=⟨x.toNat,by omega⟩
   rw [hm,u64_nat];omega
  rw [if_neg a,number,if_neg (show ¬(9223372036854775808:UInt64)≤(Itm.mk 1 (UInt64.ofInt x) [] [] []).n from fun h=>by
   have:=UInt64.le_iff_toNat_le.1 h
   rw [show (Itm.mk 1 (UInt64.ofInt x) [] [] []).n=UInt64.ofInt x from rfl,hn] at this
   simp at this;omega),if_pos (show (Itm.mk 1 (UInt64.ofInt x) [] [] []).kind=1 from rfl),show (Itm.mk 1 (UInt64.ofInt x) [] [] []).n=UInt64.ofInt x from rfl,hn]
  congr 1;omega
theorem value_half (x:Itm) (h:x.kind=1∨x.kind=2) (hh:(half x).2=true) (q:List Int):value x q = .ok (half x).1:=by
 have e:=value_of x.val q
 rw [Itm.of_val] at e
 have k:x.val.kind=x.kind:=rfl
 rw [e,if_neg (by omega),if_neg (by omega),if_neg (by omega),Db.half_of,if_neg (by omega),if_neg (by omega),if_neg (by omega),if_neg (by omega),Itm.of_val,if_pos hh];rfl
theorem value_integer (x:Int) (h : -2147483648≤x∧x<2147483648) (q:List Int):value (integer x) q = .ok ⟨16,UInt64.ofInt (x % 4294967296),0,0,[],[],0,[],[]⟩:=by
 have hn:=number_integer x (by omega) (by omega)
 have hi:numberI (integer x)=x:=by
  rw [Db.numberI_eq _ (by rw [hn];rfl),hn];rfl
 have hk:(integer x).kind=1∨(integer x).kind=2:=by unfold integer;split;exact .inr rfl;exact .inl rfl
 have hh:half (integer x)=(⟨16,UInt64.ofInt (x % 4294967296),0,0,[],[],0,[],[]⟩,true):=by
  unfold half
  rw [hi,hn];simp only [Option.isSome_some,Bool.true_and]
  rw [decide_eq_true h]
 rw [value_half _ hk (by rw [hh]),hh]
theorem value_leaf (k:Int) (n:UInt64) (b t:Str) (q:List Int) (v:Val) (h6:k≠6) (h5:k≠5) (h7:k≠7) (h:leaf k n b t=some v):value (.mk k n b t []) q = .ok v:=by
 rw [value,if_neg h6,if_neg h5,if_neg h7,h];rfl
theorem value_tag (n:UInt64) (x:Itm) (q:List Int):value (.mk 7 n [] [] [x]) q=tagv n x q:=by
 rw [value,if_neg (by decide),if_neg (by decide),if_pos rfl,tags]
theorem value_small (n:UInt64) (x:Itm) (q:List Int) (v:Val) (h4:n≠1004) (h15:n≠1015) (h:smallV n x=(v,true)):value (.mk 7 n [] [] [x]) q = .ok v:=by
 rw [value_tag,tagv_of,if_neg h4,if_neg h15,small,h];rfl
theorem be8 (v:UInt64):Cur.be (Cur.putHigh v 8)=v:=by
 apply UInt64.toNat_inj.1
 rw [Cur.be_put 8 v (by omega)]
 have:=v.toNat_lt
 exact Nat.mod_eq_of_lt this
theorem ofInt_bits (n:UInt64):UInt64.ofInt (n.toNat:Int)=n:=by
 apply UInt64.toNat_inj.1
 have:=n.toNat_lt
 rw [u64_nat];omega
theorem i64_bits (n:UInt64):UInt64.ofInt (i64 n)=n:=by rw [i64,u64_ofInt_wrap,ofInt_bits]
theorem i32_bits (n:UInt64) (h:n.toNat<4294967296):UInt64.ofInt (i32 n % 4294967296)=n:=by
 have e:i32 n % 4294967296=(n.toNat:Int):=by
  unfold i32
  simp only [IntKind.wrap,IntKind.bits,IntKind.signed]
  simp
  omega
 rw [e,ofInt_bits]
theorem i64_range (n:UInt64) : -9223372036854775808≤i64 n∧i64 n≤9223372036854775807:=by
 unfold i64
 simp only [IntKind.wrap,IntKind.bits,IntKind.signed]
 simp
 omega
theorem i32_range (n:UInt64) : -2147483648≤i32 n∧i32 n<2147483648:=by
 unfold i32
 simp only [IntKind.wrap,IntKind.bits,IntKind.signed]
 simp
 omega
theorem itemOf_back (v:Val) (M L:List Itm) (ho:Tree.own v=0) (hM:Cb.chks M=0) (hE:M.length % 2=0) (hF:∀q,fields M 0 q = .ok v.kids) (hR:regular M=Tree.regular v.kids) (hL:Cb.chks L=0) (hG:Tree.regular v.kids=true→∀q,elems L 0 q = .ok v.kids) :
  Cb.chk (itemOf v M L)=0∧∀q,value (itemOf v M L) q = .ok v:=by
 unfold Tree.own at ho
 split at ho
 ·cases ho
 rename_i hname
 split at ho
 ·cases ho
 rename_i hfields
 split at ho
 ·cases ho
 rename_i htexts
 have hf:Tree.fieldsOK v=true:=by simpa using hfields
 have hk:v.kind∈Tree.kinds:=Classical.byContradiction fun h=>hname (Tree.name_none _ h)
 have ht:Tree.wholeT v.text (decide (v.kind=11))=true∧Tree.wholeT v.more (decide (v.kind=11))=true:=by
  constructor <;> apply Classical.byContradiction <;> intro h <;> exact htexts (by simp only [Bool.not_eq_true] at h;simp [h])
 clear hname hfields htexts ho
 obtain ⟨k,b,h,l,t,m,s,y,ks⟩:=v
 simp only at hk ht hF hR hG
 have wt:Utf.whole t=true:=by have:=ht.1;unfold Tree.wholeT at this;simp at this;exact this.1
 have wm:Utf.whole m=true:=by have:=ht.2;unfold Tree.wholeT at this;simp at this;exact this.1
 simp only [Tree.kinds,List.mem_cons,List.not_mem_nil,or_false] at hk
 rcases hk with rfl | rfl | rfl | rfl | rfl | rfl | rfl | rfl | rfl | rfl | rfl | rfl | rfl | rfl | rfl | rfl | rfl | rfl | rfl | rfl | rfl <;> simp [Tree.fieldsOK,Tree.hasN] at hf
 ·-- 1
  obtain ⟨⟨⟨⟨⟨⟨⟨rfl,rfl⟩,rfl⟩,rfl⟩,rfl⟩,rfl⟩,rfl⟩,_⟩:=hf
  rw [show itemOf ⟨1,b,0,0,[],[],0,[],[]⟩ M L = .mk 9 b [] [] [] by kernel_rfl]
  exact ⟨chk_float _,fun q=>value_leaf 9 b [] [] q _ (by decide) (by decide) (by decide) (by kernel_rfl)⟩
 ·-- 2
  obtain ⟨⟨⟨⟨⟨⟨rfl,rfl,rfl⟩,rfl⟩,rfl⟩,rfl⟩,rfl⟩,_⟩:=hf
  rw [show itemOf ⟨2,0,0,0,t,[],0,[],[]⟩ M L=text t by kernel_rfl]
  exact ⟨chk_text wt,fun q=>value_leaf 4 0 [] t q _ (by decide) (by decide) (by decide) (by kernel_rfl)⟩
 ·-- 3
  obtain ⟨⟨⟨⟨⟨⟨rfl,rfl,rfl⟩,rfl⟩,rfl⟩,rfl⟩,rfl⟩,_⟩:=hf
  rw [show itemOf ⟨3,0,0,0,[],[],0,[],ks⟩ M L=map M by kernel_rfl]
  exact ⟨chk_map hM hE,fun q=>by rw [map,value,if_pos rfl,hF];rfl⟩
 ·-- 4
  obtain ⟨⟨⟨⟨⟨⟨rfl,rfl,rfl⟩,rfl⟩,rfl⟩,rfl⟩,rfl⟩,_⟩:=hf
  by_cases hr:Tree.regular ks=true
  ·rw [show itemOf ⟨4,0,0,0,[],[],0,[],ks⟩ M L=list L by simp [itemOf,hr]]
   exact ⟨chk_list hL,fun q=>by rw [list,value,if_neg (by decide),if_pos rfl,hG hr];rfl⟩
  ·rw [show itemOf ⟨4,0,0,0,[],[],0,[],ks⟩ M L = .mk 7 1004 [] [] [map M] by simp [itemOf,hr];exact ⟨by kernel_rfl,by kernel_rfl⟩]
   refine ⟨chk_tag _ (chk_map hM hE),fun q=>?_⟩
   rw [value_tag,map,tagv,if_pos rfl,if_pos ⟨rfl,by rw [hR];exact hr⟩,hF];rfl
 ·-- 5
  obtain ⟨⟨⟨⟨⟨rfl,rfl,rfl⟩,rfl⟩,rfl⟩,rfl⟩,h0,h1⟩:=hf
  by_cases hs:s=0
  ·subst hs
   rw [show itemOf ⟨5,0,0,0,[],[],0,y,[]⟩ M L=raw y by kernel_rfl]
   exact ⟨chk_raw _,fun q=>value_leaf 3 0 y [] q _ (by decide) (by decide) (by decide) (by kernel_rfl)⟩
  ·rw [show itemOf ⟨5,0,0,0,[],[],s,y,[]⟩ M L = .mk 7 1005 [] [] [list [plus (UInt64.ofInt s),raw y]] by simp [itemOf,hs];exact ⟨by kernel_rfl,by kernel_rfl⟩]
   refine ⟨chk_tag _ (chk_list (chk_two (chk_plus _) (chk_raw _))),fun q=>value_small _ _ q _ (by decide) (by decide) ?_⟩
   have hn:(UInt64.ofInt s).toNat=s.toNat:=by
    obtain ⟨m,hm⟩:∃m:Nat,s=m:=⟨s.toNat,by omega⟩
    rw [hm,u64_nat];omega
   have hk:kinds (list [plus (UInt64.ofInt s),raw y]) 1 3=true:=by kernel_rfl
   have hf:fst (list [plus (UInt64.ofInt s),raw y])=plus (UInt64.ofInt s):=by kernel_rfl
   have hg:snd (list [plus (UInt64.ofInt s),raw y])=raw y:=by kernel_rfl
   have a1:(1:UInt64)≤UInt64.ofInt s:=by rw [UInt64.le_iff_toNat_le,hn];show 1≤s.toNat;omega
   have a2:UInt64.ofInt s≤(255:UInt64):=by rw [UInt64.le_iff_toNat_le,hn];show s.toNat≤255;omega
   rw [smallV,if_neg (by decide),if_pos rfl,hk,hf,hg,if_pos ⟨rfl,a1,a2⟩]
   show ((⟨5,0,0,0,[],[],((UInt64.ofInt s).toNat:Int),y,[]⟩:Val),true)=_
   rw [hn,Int.toNat_of_nonneg h0]
 ·-- 6
  obtain ⟨⟨⟨⟨⟨⟨⟨rfl,rfl,rfl⟩,rfl⟩,rfl⟩,rfl⟩,rfl⟩,rfl⟩,_⟩:=hf
  rw [show itemOf ⟨6,0,0,0,[],[],0,[],[]⟩ M L=simple 23 by kernel_rfl]
  exact ⟨chk_simple (by decide),fun q=>value_leaf 8 23 [] [] q _ (by decide) (by decide) (by decide) (by kernel_rfl)⟩
 ·-- 7
  obtain ⟨⟨⟨⟨⟨⟨⟨rfl,rfl,rfl⟩,rfl⟩,rfl⟩,rfl⟩,rfl⟩,_⟩,hy⟩:=hf
  rw [show itemOf ⟨7,0,0,0,[],[],0,y,[]⟩ M L = .mk 7 1007 [] [] [raw y] by kernel_rfl]
  exact ⟨chk_tag _ (chk_raw _),fun q=>value_small _ _ q _ (by decide) (by decide) (by rw [smallV,if_neg (by decide),if_neg (by decide),if_pos rfl];exact congrArg _ (decide_eq_true ⟨rfl,hy⟩))⟩
 ·-- 8
  obtain ⟨⟨⟨⟨⟨⟨⟨⟨rfl,rfl⟩,rfl⟩,rfl⟩,rfl⟩,rfl⟩,rfl⟩,hb⟩,_⟩:=hf
  have hb':b=0∨b=1:=by
   have h:=UInt64.lt_iff_toNat_lt.1 hb
   have h:b.toNat<2:=h
   rcases (by omega:b.toNat=0∨b.toNat=1) with e | e
   ·exact .inl (UInt64.toNat_inj.1 e)
   ·exact .inr (UInt64.toNat_inj.1 e)
  rcases hb' with rfl | rfl
  ·rw [show itemOf ⟨8,0,0,0,[],[],0,[],[]⟩ M L=simple 20 by kernel_rfl]
   exact ⟨chk_simple (by decide),fun q=>value_leaf 8 20 [] [] q _ (by decide) (by decide) (by decide) (by kernel_rfl)⟩
  ·rw [show itemOf ⟨8,1,0,0,[],[],0,[],[]⟩ M L=simple 21 by kernel_rfl]
   exact ⟨chk_simple (by decide),fun q=>value_leaf 8 21 [] [] q _ (by decide) (by decide) (by decide) (by kernel_rfl)⟩
 ·-- 9
  obtain ⟨⟨⟨⟨⟨⟨⟨rfl,rfl⟩,rfl⟩,rfl⟩,rfl⟩,rfl⟩,rfl⟩,_⟩:=hf
  have i0 : -9223372036854775808≤i64 b∧i64 b≤9223372036854775807:=i64_range b
  rw [show itemOf ⟨9,b,0,0,[],[],0,[],[]⟩ M L = .mk 7 1009 [] [] [integer (i64 b)] by kernel_rfl]
  exact ⟨chk_tag _ (chk_integer _),fun q=>value_small _ _ q _ (by decide) (by decide) (by rw [smallV,if_neg (by decide),if_neg (by decide),if_neg (by decide),if_pos (by decide),number_integer _ i0.1 i0.2];show ((⟨_,UInt64.ofInt (i64 b),0,0,[],[],0,[],[]⟩:Val),true)=_;rw [i64_bits];kernel_rfl)⟩
 ·-- 10
  obtain ⟨⟨⟨⟨⟨⟨⟨rfl,rfl,rfl⟩,rfl⟩,rfl⟩,rfl⟩,rfl⟩,rfl⟩,_⟩:=hf
  rw [show itemOf ⟨10,0,0,0,[],[],0,[],[]⟩ M L=simple 22 by kernel_rfl]
  exact ⟨chk_simple (by decide),fun q=>value_leaf 8 22 [] [] q _ (by decide) (by decide) (by decide) (by kernel_rfl)⟩
 ·-- 11
  obtain ⟨⟨⟨⟨⟨rfl,rfl,rfl⟩,rfl⟩,rfl⟩,rfl⟩,_⟩:=hf
  have zt:¬Utf.zero t=true:=by have:=ht.1;unfold Tree.wholeT at this;simp at this;simpa using this.2
  have zm:¬Utf.zero m=true:=by have:=ht.2;unfold Tree.wholeT at this;simp at this;simpa using this.2
  rw [show itemOf ⟨11,0,0,0,t,m,0,[],[]⟩ M L = .mk 7 1011 [] [] [list [text t,text m]] by kernel_rfl]
  exact ⟨chk_tag _ (chk_list (chk_two (chk_text wt) (chk_text wm))),fun q=>value_small _ _ q _ (by decide) (by decide) (by
   have hk:kinds (list [text t,text m]) 4 4=true:=by kernel_rfl
   have hf:fst (list [text t,text m])=text t:=by kernel_rfl
   have hg:snd (list [text t,text m])=text m:=by kernel_rfl
   rw [smallV,if_neg (by decide),if_neg (by decide),if_neg (by decide),if_neg (by decide),if_pos rfl,hk,hf,hg,if_pos ⟨rfl,zt,zm⟩];rfl)⟩
 ·-- 12
  obtain ⟨⟨⟨⟨⟨⟨rfl,rfl,rfl⟩,rfl⟩,rfl⟩,rfl⟩,_⟩,hy⟩:=hf
  rw [show itemOf ⟨12,0,0,0,t,[],0,y,[]⟩ M L = .mk 7 1012 [] [] [list [text t,raw y]] by kernel_rfl]
  exact ⟨chk_tag _ (chk_list (chk_two (chk_text wt) (chk_raw _))),fun q=>value_small _ _ q _ (by decide) (by decide) (by
   have hk:kinds (list [text t,raw y]) 4 3=true:=by kernel_rfl
   have hf:fst (list [text t,raw y])=text t:=by kernel_rfl
   have hg:snd (list [text t,raw y])=raw y:=by kernel_rfl
   rw [smallV,if_neg (by decide),if_neg (by decide),if_neg (by decide),if_neg (by decide),if_neg (by decide),if_pos rfl,hk,hf,hg,if_pos ⟨rfl,hy⟩];rfl)⟩
 ·-- 13
  obtain ⟨⟨⟨⟨⟨⟨rfl,rfl,rfl⟩,rfl⟩,rfl⟩,rfl⟩,rfl⟩,_⟩:=hf
  rw [show itemOf ⟨13,0,0,0,t,[],0,[],[]⟩ M L = .mk 7 1013 [] [] [text t] by kernel_rfl]
  exact ⟨chk_tag _ (chk_text wt),fun q=>value_small _ _ q _ (by decide) (by decide) (by kernel_rfl)⟩
 ·-- 14
  obtain ⟨⟨⟨⟨⟨⟨rfl,rfl,rfl⟩,rfl⟩,rfl⟩,rfl⟩,rfl⟩,_⟩:=hf
  rw [show itemOf ⟨14,0,0,0,t,[],0,[],[]⟩ M L = .mk 7 1014 [] [] [text t] by kernel_rfl]
  exact ⟨chk_tag _ (chk_text wt),fun q=>value_small _ _ q _ (by decide) (by decide) (by kernel_rfl)⟩
 ·-- 15
  obtain ⟨⟨⟨⟨⟨rfl,rfl,rfl⟩,rfl⟩,rfl⟩,rfl⟩,_⟩:=hf
  rw [show itemOf ⟨15,0,0,0,t,[],0,[],ks⟩ M L = .mk 7 1015 [] [] [list [text t,map M]] by kernel_rfl]
  refine ⟨chk_tag _ (chk_list (chk_two (chk_text wt) (chk_map hM hE))),fun q=>?_⟩
  rw [value_tag,list,tagv,if_neg (by decide),if_pos rfl,if_pos (show kinds (.mk 5 0 [] [] [text t,map M]) 4 6=true by kernel_rfl),pairv,map,pairIn,hF];rfl
 ·-- 16
  obtain ⟨⟨⟨⟨⟨⟨⟨⟨rfl,rfl⟩,rfl⟩,rfl⟩,rfl⟩,rfl⟩,rfl⟩,hb⟩,_⟩:=hf
  rw [show itemOf ⟨16,b,0,0,[],[],0,[],[]⟩ M L=integer (i32 b) by kernel_rfl]
  refine ⟨chk_integer _,fun q=>?_⟩
  rw [value_integer _ (i32_range b),i32_bits b (UInt64.lt_iff_toNat_lt.1 hb)]
 ·-- 17
  obtain ⟨⟨⟨⟨⟨⟨⟨rfl,rfl⟩,rfl⟩,rfl⟩,rfl⟩,rfl⟩,rfl⟩,_⟩:=hf
  rw [show itemOf ⟨17,b,0,0,[],[],0,[],[]⟩ M L = .mk 7 1017 [] [] [plus b] by kernel_rfl]
  exact ⟨chk_tag _ (chk_plus _),fun q=>value_small _ _ q _ (by decide) (by decide) (by kernel_rfl)⟩
 ·-- 18
  obtain ⟨⟨⟨⟨⟨⟨⟨rfl,rfl⟩,rfl⟩,rfl⟩,rfl⟩,rfl⟩,rfl⟩,_⟩:=hf
  have i0 : -9223372036854775808≤i64 b∧i64 b≤9223372036854775807:=i64_range b
  rw [show itemOf ⟨18,b,0,0,[],[],0,[],[]⟩ M L = .mk 7 1018 [] [] [integer (i64 b)] by kernel_rfl]
  exact ⟨chk_tag _ (chk_integer _),fun q=>value_small _ _ q _ (by decide) (by decide) (by rw [smallV,if_neg (by decide),if_neg (by decide),if_neg (by decide),if_pos (by decide),number_integer _ i0.1 i0.2];show ((⟨_,UInt64.ofInt (i64 b),0,0,[],[],0,[],[]⟩:Val),true)=_;rw [i64_bits];kernel_rfl)⟩
 ·-- 19
  obtain ⟨⟨⟨⟨⟨⟨rfl,rfl⟩,rfl⟩,rfl⟩,rfl⟩,rfl⟩,_⟩:=hf
  rw [show itemOf ⟨19,0,h,l,[],[],0,[],[]⟩ M L = .mk 7 1019 [] [] [raw (words h l)] by kernel_rfl]
  exact ⟨chk_tag _ (chk_raw _),fun q=>value_small _ _ q _ (by decide) (by decide) (by
   have ha:(words h l).take 8=Cur.putHigh h 8:=by rw [words,List.take_append_of_le_length (by rw [Cur.putHigh_len];omega),List.take_of_length_le (by rw [Cur.putHigh_len];omega)]
   have hb:(words h l).drop 8=Cur.putHigh l 8:=by rw [words,List.drop_append_of_le_length (by rw [Cur.putHigh_len];omega),List.drop_of_length_le (by rw [Cur.putHigh_len];omega)];rfl
   rw [smallV,if_neg (by decide),if_neg (by decide),if_neg (by decide),if_neg (by decide),if_neg (by decide),if_neg (by decide),if_neg (by decide),if_neg (by decide),if_pos rfl,if_pos ⟨rfl,words_len h l⟩]
   show ((⟨19,0,Cur.be ((words h l).take 8),Cur.be ((words h l).drop 8),[],[],0,[],[]⟩:Val),true)=_
   rw [ha,hb,be8,be8])⟩
 ·-- 127
  obtain ⟨⟨⟨⟨⟨⟨⟨rfl,rfl,rfl⟩,rfl⟩,rfl⟩,rfl⟩,rfl⟩,rfl⟩,_⟩:=hf
  rw [show itemOf ⟨127,0,0,0,[],[],0,[],[]⟩ M L = .mk 7 1127 [] [] [simple 22] by kernel_rfl]
  exact ⟨chk_tag _ (chk_simple (by decide)),fun q=>value_small _ _ q _ (by decide) (by decide) (by kernel_rfl)⟩
 ·-- 255
  obtain ⟨⟨⟨⟨⟨⟨⟨rfl,rfl,rfl⟩,rfl⟩,rfl⟩,rfl⟩,rfl⟩,rfl⟩,_⟩:=hf
  rw [show itemOf ⟨255,0,0,0,[],[],0,[],[]⟩ M L = .mk 7 1255 [] [] [simple 22] by kernel_rfl]
  exact ⟨chk_tag _ (chk_simple (by decide)),fun q=>value_small _ _ q _ (by decide) (by decide) (by kernel_rfl)⟩
end Db
end Go.Eng
namespace Go.Eng
open Go.IntWalk
namespace Db
theorem regular_mapped : ∀ (l : List Fld) (i : Nat), regularFrom i (mapped l) = Tree.regularFrom i l
  | [], _ => rfl
  | f :: r, i => by
    rw [mapped, regularFrom, Tree.regularFrom, regular_mapped r (i + 1)]
    congr 1
    exact decide_eq_decide.2 ⟨fun h => h.2, fun h => ⟨rfl, h⟩⟩
theorem ownN_split {v:Val} {n:Str} (h:Tree.ownN v n=0):Tree.own v=0∧Utf.whole n=true∧Utf.zero n=false:=by
 unfold Tree.ownN at h
 by_cases a:Tree.own v=0
 ·rw [if_neg (by simpa using a)] at h
  refine ⟨a,?_⟩
  by_cases b:Tree.wholeT n true=false
  ·rw [if_pos b] at h;cases h
  ·simp only [Bool.not_eq_false] at b
   unfold Tree.wholeT at b
   simpa using b
 ·rw [if_pos a] at h;exact absurd h a
mutual
theorem back_item : ∀ (f : Fld) (p : List Int), (Tree.chkF f p).2 = 0 → Cb.chk (item f) = 0 ∧ ∀ q, value (item f) q = .ok f.val
  | .mk n k b h l t m s y ks, p, hc => by
    rw [Tree.chkF] at hc
    by_cases a : Tree.ownN ⟨k, b, h, l, t, m, s, y, ks⟩ n = 0
    · rw [if_neg (by simpa using a)] at hc
      have h1 := back_mapped ks 0 p hc
      have h2 := back_items ks 0 p hc
      have := itemOf_back ⟨k, b, h, l, t, m, s, y, ks⟩ (mapped ks) (items ks) (ownN_split a).1 h1.1 (by rw [Db.mapped_len]; omega) (fun q => h1.2 0 q) (regular_mapped ks 0) h2.1 (fun hr q => h2.2 0 q hr)
      rw [item]
      exact this
    · rw [if_pos a] at hc; exact absurd hc a
theorem back_mapped : ∀ (l : List Fld) (i : Nat) (p : List Int), (Tree.chkL l i p).2 = 0 → Cb.chks (mapped l) = 0 ∧ ∀ j q, fields (mapped l) j q = .ok l
  | [], _, _, _ => ⟨rfl, fun _ _ => by rw [mapped, fields]⟩
  | f :: r, i, p, hc => by
    rw [Tree.chkL] at hc
    by_cases a : (Tree.chkF f (p ++ [(i : Int)])).2 = 0
    · rw [if_neg (by simpa using a)] at hc
      have h1 := back_item f _ a
      have h2 := back_mapped r (i + 1) p hc
      have h3 : Utf.whole f.name = true ∧ Utf.zero f.name = false := by
        cases f with
        | mk n k b h l t m s y ks =>
          rw [Tree.chkF] at a
          by_cases c : Tree.ownN ⟨k, b, h, l, t, m, s, y, ks⟩ n = 0
          · exact (ownN_split c).2
          · rw [if_pos c] at a; exact absurd a c
      refine ⟨?_, fun j q => ?_⟩
      · rw [mapped, Cb.chks, if_pos (chk_text h3.1), Cb.chks, if_pos h1.1]; exact h2.1
      · rw [mapped, fields, if_neg (by rintro (h | h); exact h rfl; exact absurd h (by rw [show (text f.name).text = f.name from rfl, h3.2]; decide)), h1.2, h2.2]
        cases f; rfl
    · rw [if_pos a] at hc; exact absurd hc a
theorem back_items : ∀ (l : List Fld) (i : Nat) (p : List Int), (Tree.chkL l i p).2 = 0 → Cb.chks (items l) = 0 ∧ ∀ j q, Tree.regularFrom j l = true → elems (items l) j q = .ok l
  | [], _, _, _ => ⟨rfl, fun _ _ _ => by rw [items, elems]⟩
  | f :: r, i, p, hc => by
    rw [Tree.chkL] at hc
    by_cases a : (Tree.chkF f (p ++ [(i : Int)])).2 = 0
    · rw [if_neg (by simpa using a)] at hc
      have h1 := back_item f _ a
      have h2 := back_items r (i + 1) p hc
      refine ⟨?_, fun j q hr => ?_⟩
      · rw [items, Cb.chks, if_pos h1.1]; exact h2.1
      · rw [Tree.regularFrom] at hr
        simp only [Bool.and_eq_true, decide_eq_true_eq] at hr
        rw [items, elems, h1.2, h2.2 _ _ hr.2, ← hr.1]
        cases f; rfl
    · rw [if_pos a] at hc; exact absurd hc a
end
end Db
end Go.Eng
namespace Go.Eng
noncomputable section
def DocborBack.sg:FSig:={}
def DocborBack.c:Ctr:=fun l=>match l with
 | [.ag [.i .i64 v_kind,.u64 v_bits,.u64 v_high,.u64 v_low,.s v_text,.s v_more,.i .i64 v_sub,.sl .bs v_bytes,.sl .fl v_kids]] => .ok [(.b (true))]
 | _ => .err
end
noncomputable section
def DocborBack.env:List (Nat × (Ctr × FSig)):=[(8,(law30_awake.c,law30_awake.sg)),(9,(book_Small.c,book_Small.sg)),(10,(db_Item.c,db_Item.sg)),(13,(ref28_Same.c,ref28_Same.sg)),(15,(db_Value.c,db_Value.sg)),(17,(ref17_Same.c,ref17_Same.sg)),(18,(ref28_Check.c,ref28_Check.sg))]
def DocborBack.E:TEnv:=envL trydbGl DocborBack.env
def DocborBack.m:TM := .seq (.reg [
  ⟨.k (.bx 1041),[.s 0,.s 1041],[1,1041],none⟩,
  ⟨.k .mv,[.c (.b false)],[2],none⟩]) none (.seq (.seq (.reg [
  ⟨.k (.call 8 (.plain 0 1)),[],[7],none⟩,
  ⟨.k (.un .not),[.s 7],[8],none⟩]) none (.cond (.s 8) [] (.seq (.reg [
  ⟨.k .mv,[.c (.b false)],[2],none⟩]) none .ret) .skip)) none (.seq (.seq (.reg [
  ⟨.k (.ld 1041 0 9 true),[.s 1,.s 1041],[9],none⟩,
  ⟨.k (.call 9 (.plain 1 1)),[.s 9],[10],none⟩,
  ⟨.k (.un .not),[.s 10],[11],none⟩]) none (.cond (.s 11) [] (.seq (.reg [
  ⟨.k .mv,[.c (.b true)],[2],none⟩]) none .ret) .skip)) none (.seq (.reg [
  ⟨.k (.ld 1041 0 9 true),[.s 1,.s 1041],[13],none⟩,
  ⟨.k (.call 10 (.plain 1 2)),[.s 13],[14],none⟩,
  ⟨.k .mv,[.s 14],[12],none⟩,
  ⟨.k (.ex 0),[.s 12],[15],none⟩,
  ⟨.k (.ex 1),[.s 12],[16],none⟩,
  ⟨.al 1042 [(.i .i64 (0:Int)),(.u64 (0:UInt64)),(.sl .bs ([]:List UInt8)),(.s ([]:Str)),(.sl .il ([]:List Itm))] [],[.s 1042],[3,1042],none⟩,
  ⟨.al 1043 [(.i .i64 (0:Int)),(.i .i64 (0:Int)),(.sl .is ([]:List Int))] [],[.s 1043],[4,1043],none⟩,
  ⟨.k (.st 1042 0 5),[.s 3,.s 1042,.s 15],[1042],none⟩,
  ⟨.k (.st 1043 0 3),[.s 4,.s 1043,.s 16],[1043],none⟩]) none (.seq (.seq (.reg [
  ⟨.k (.fa 1043 0 0),[.s 4],[17],none⟩,
  ⟨.k (.ld 1043 0 1 false),[.s 17,.s 1043],[18],none⟩,
  ⟨.k (.bin .neq),[.s 18,.c (.i .i64 (0:Int))],[19],none⟩]) none (.cond (.s 19) [] (.seq (.reg [
  ⟨.k (.ld 1042 0 5 true),[.s 3,.s 1042],[20],none⟩,
  ⟨.bd [(.i .i64 (0:Int)),(.u64 (0:UInt64)),(.sl .bs ([]:List UInt8)),(.s ([]:Str)),(.sl .il ([]:List Itm))] [],[],[21],none⟩,
  ⟨.k (.call 13 (.plain 2 1)),[.s 20,.s 21],[22],none⟩,
  ⟨.k .mv,[.s 22],[2],none⟩]) none .ret) .skip)) none (.seq (.reg [
  ⟨.k (.ld 1042 0 5 true),[.s 3,.s 1042],[24],none⟩,
  ⟨.k (.call 15 (.plain 1 2)),[.s 24],[25],none⟩,
  ⟨.k .mv,[.s 25],[23],none⟩,
  ⟨.k (.ex 0),[.s 23],[26],none⟩,
  ⟨.k (.ex 1),[.s 23],[27],none⟩,
  ⟨.al 1044 [(.i .i64 (0:Int)),(.u64 (0:UInt64)),(.u64 (0:UInt64)),(.u64 (0:UInt64)),(.s ([]:Str)),(.s ([]:Str)),(.i .i64 (0:Int)),(.sl .bs ([]:List UInt8)),(.sl .fl ([]:List Fld))] [],[.s 1044],[5,1044],none⟩,
  ⟨.al 1045 [(.i .i64 (0:Int)),(.i .i64 (0:Int)),(.sl .is ([]:List Int))] [],[.s 1045],[6,1045],none⟩,
  ⟨.k (.st 1044 0 9),[.s 5,.s 1044,.s 26],[1044],none⟩,
  ⟨.k (.st 1045 0 3),[.s 6,.s 1045,.s 27],[1045],none⟩]) none (.seq (.reg [
  ⟨.k (.fa 1045 0 0),[.s 6],[28],none⟩,
  ⟨.k (.ld 1045 0 1 false),[.s 28,.s 1045],[29],none⟩,
  ⟨.k (.bin .eql),[.s 29,.c (.i .i64 (0:Int))],[30],none⟩,
  ⟨.k .mv,[.s 30],[31],none⟩,
  ⟨.k (.ld 1041 0 9 true),[.s 1,.s 1041],[32],some (31,true)⟩,
  ⟨.k (.ld 1044 0 9 true),[.s 5,.s 1044],[33],some (31,true)⟩,
  ⟨.k (.call 17 (.plain 2 1)),[.s 32,.s 33],[34],some (31,true)⟩,
  ⟨.k .pick,[.s 31,.s 34,.c (.b false)],[35],none⟩,
  ⟨.k .mv,[.s 35],[36],none⟩,
  ⟨.k (.ld 1042 0 5 true),[.s 3,.s 1042],[37],some (36,true)⟩,
  ⟨.k (.call 18 (.plain 1 1)),[.s 37],[38],some (36,true)⟩,
  ⟨.k (.bin .eql),[.s 38,.c (.i .i64 (0:Int))],[39],some (36,true)⟩,
  ⟨.k .pick,[.s 36,.s 39,.c (.b false)],[40],none⟩,
  ⟨.k .mv,[.s 40],[2],none⟩]) none .ret))))))
def DocborBack.d:TFD:={ np:=1,m:=DocborBack.m,ref:=none,tips:=[],res:=[.t 2],own:=[],new:=none,tnew:=[] }
noncomputable def DocborBack.F (v:Val):Option (List TV):=DocborBack.d.run DocborBack.E [(.ag (Val.cells v))]
theorem DocborBack.F_in (v:Val) {ρ:Option (List TV)} (K:∀(v1:Bool) (h1:v1=(Itm.same (Itm.of (Itm.val ((Db.enc v).1))) (Itm.of (Itv.mk (0:Int) (0:UInt64) ([]:List UInt8) ([]:Str) ([]:List Itm))))) (v2:Val) (h2:v2=((Db.dec (Itm.of (Itm.val ((Db.enc v).1)))).1)) (v3:Flt) (h3:v3=((Db.dec (Itm.of (Itm.val ((Db.enc v).1)))).2)) (v4:Bool) (h4:v4=(cond (decide ((Flt.err v3)=(0:Int))) (Tree.same v v2) false)) (v5:Int) (h5:v5=(Cb.chk (Itm.of (Itm.val ((Db.enc v).1))))) (v6:Bool) (h6:v6=(cond v4 (decide (v5=(0:Int))) false)),cond (!(true))
  (some [(.b false)])
  (cond (!(decide (0≤Book.value 1200 (Fld.of [] v))))
  (some [(.b true)])
  (ck (decide (Fld.bulk (Fld.of [] v)≤1073741824)) (cond (!decide ((Flt.err ((Db.enc v).2))=(0:Int)))
  (ck (decide (Itm.bulk (Itm.of (Itm.val ((Db.enc v).1)))≤1099511627776)) (some [(.b v1)]))
  (ck (decide (Itm.bulk (Itm.of (Itm.val ((Db.enc v).1)))≤1073741824)) (ck (!(decide ((Flt.err v3)=(0:Int))) || (((decide ((Flt.err v3)=(0:Int)))&&(decide ((Flt.err v3)=(0:Int))))&&(decide (Fld.bulk (Fld.of [] v)≤1099511627776)))) (ck (!(decide ((Flt.err v3)=(0:Int))) || (decide ((Flt.err v3)=(0:Int)))) (ck (!v4 || (v4&&(decide (Itm.bulk (Itm.of (Itm.val ((Db.enc v).1)))≤1099511627776)))) (ck (!v4 || v4) (ck (!v4 || v4) (some [(.b v6)]))))))))))=ρ):DocborBack.F v=ρ:=Eq.trans (by kernel_rfl) (K _ rfl _ rfl _ rfl _ rfl _ rfl _ rfl)
theorem DocborBack.chk:((Go.Proofs.Tryd.prog.funcs[5]?).any fun fn=>chkF Go.Proofs.Tryd.prog (fun k=>((envL trydbGl DocborBack.env).fs k).2) fn DocborBack.d.erase)=true:=by kernel_rfl
end
end Go.Eng
namespace Go.Eng
open Go.IntWalk
theorem Db.enc_back (v:Val) (h:(Db.enc v).2.err=0):Cb.chk (Db.enc v).1=0∧Db.dec (Db.enc v).1=(v,⟨0,0,[]⟩):=by
 by_cases a:(Tree.chkF (Fld.of [] v) []).2=0
 ·by_cases b:v.kind=3
  ·have e:Db.enc v=(Db.map (Db.mapped v.kids),⟨0,0,[]⟩):=by unfold Db.enc;rw [if_neg (by simpa using a),if_neg (by simpa using b)]
   have hi:Db.item (Fld.of [] v)=Db.map (Db.mapped v.kids):=by
    obtain ⟨k,n,hh,l,t,m,s,y,ks⟩:=v
    simp only at b;subst b
    rw [Fld.of,Db.item];rfl
   have hb:=Db.back_item (Fld.of [] v) [] a
   rw [hi] at hb
   rw [e]
   refine ⟨hb.1,?_⟩
   unfold Db.dec
   rw [if_neg (by simpa using hb.1),if_neg (show ¬(Db.map (Db.mapped v.kids)).kind≠6 from fun h=>h rfl),hb.2]
   rfl
  ·exact absurd h (by unfold Db.enc;rw [if_neg (by simpa using a),if_pos b];decide)
 ·exact absurd h (by unfold Db.enc;rw [if_pos a];exact a)
theorem Db.enc_bad (v:Val) (h:(Db.enc v).2.err≠0):(Db.enc v).1=Mp.zero:=by
 unfold Db.enc at h ⊢
 split
 ·rfl
 rename_i a
 rw [if_neg a] at h
 split
 ·rfl
 rename_i b
 rw [if_neg b] at h
 exact absurd rfl h
theorem DocborBack.goal (v:Val):DocborBack.F v=some [.b true]:=by
 refine DocborBack.F_in v ?_
 intro v1 h1 v2 h2 v3 h3 v4 h4 v5 h5 v6 h6
 rw [Itm.of_val] at h1 h2 h3 h5
 rw [Bool.not_true,cond_false]
 by_cases a:0≤Book.value 1200 (Fld.of [] v)
 ·have hb:=Book.small_bulk v a
  have h7:=Db.enc_bulk v
  rw [decide_eq_true a,Bool.not_true,cond_false,ck_of (decide_eq_true (by omega))]
  simp only [Itm.of_val]
  by_cases e:(Db.enc v).2.err=0
  ·obtain ⟨g1,g2⟩:=Db.enc_back v e
   rw [g2] at h2 h3
   rw [g1] at h5
   have h2:=h2.symm;subst h2 h3 h5
   rw [(Tree.same_iff _ _).2 rfl] at h4
   have h4':v4=true:=by rw [h4];rfl
   have h6':v6=true:=by rw [h6,h4'];rfl
   rw [decide_eq_true e,Bool.not_true,cond_false,ck_of (decide_eq_true (by omega)),h4',h6',ck_of (by rw [decide_eq_true (show Fld.bulk (Fld.of [] v)≤1099511627776 by omega)];rfl),ck_of (by rfl),ck_of (by rw [decide_eq_true (show Itm.bulk (Db.enc v).1≤1099511627776 by omega)];rfl)]
   rfl
  ·have h1':v1=true:=by rw [h1,Db.enc_bad v e];exact Itm.same_refl _
   rw [decide_eq_false e,Bool.not_false,cond_true,ck_of (decide_eq_true (by omega)),h1']
 ·rw [decide_eq_false a];rfl
end Go.Eng
namespace Go.Eng
theorem DocborBack.fit (v_kind:Int) (v_bits:UInt64) (v_high:UInt64) (v_low:UInt64) (v_text:Str) (v_more:Str) (v_sub:Int) (v_bytes:List UInt8) (v_kids:List Fld):([.ag [.i .i64 v_kind,.u64 v_bits,.u64 v_high,.u64 v_low,.s v_text,.s v_more,.i .i64 v_sub,.sl .bs v_bytes,.sl .fl v_kids]]:List TV).length=DocborBack.d.np∧DocborBack.d.run (envL trydbGl DocborBack.env) [.ag [.i .i64 v_kind,.u64 v_bits,.u64 v_high,.u64 v_low,.s v_text,.s v_more,.i .i64 v_sub,.sl .bs v_bytes,.sl .fl v_kids]]=some (([(.b (true))]:List TV)++DocborBack.d.ps.toList.map fun q=>([.ag [.i .i64 v_kind,.u64 v_bits,.u64 v_high,.u64 v_low,.s v_text,.s v_more,.i .i64 v_sub,.sl .bs v_bytes,.sl .fl v_kids]]:List TV).getD q.1 .dead) :=
 ⟨by kernel_rfl,Eq.trans (b:=DocborBack.F (Val.mk v_kind v_bits v_high v_low v_text v_more v_sub v_bytes v_kids)) (by kernel_rfl) (Eq.trans (DocborBack.goal (Val.mk v_kind v_bits v_high v_low v_text v_more v_sub v_bytes v_kids)) (by kernel_rfl))⟩
theorem DocborBack.ok:SpecOK Go.Proofs.Tryd.prog (fun n=>(trydbGl n).av) 5 (Ctr.fs (DocborBack.c,DocborBack.sg)) :=
 meets (l:=DocborBack.env) (all_cons law30_awake.ok (all_cons book_Small.ok (all_cons db_Item.ok (all_cons ref28_Same.ok (all_cons db_Value.ok (all_cons ref17_Same.ok (all_cons ref28_Check.ok all_nil))))))) DocborBack.chk (by
   intro ins outs h
   unfold DocborBack.c at h
   split at h
   ·cases h;exact DocborBack.fit _ _ _ _ _ _ _ _ _
   ·exact h.elim)
end Go.Eng
