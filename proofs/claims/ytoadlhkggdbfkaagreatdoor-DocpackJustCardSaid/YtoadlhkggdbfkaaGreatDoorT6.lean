/- Texts of my own, one behind the other: DkR5, DkR6, DkLJust, DkQJust, DkOKJust. -/
import Derived.Test.YtoadlhkggdbfkaaGreatDoorT5
set_option linter.unusedVariables false
set_option linter.unusedSimpArgs false
namespace Go.Eng
open Go.IntWalk
namespace Dk
theorem own_ok {k:Int} {b h l:UInt64} {t m:Str} {s:Int} {y:List UInt8} {ks:List Fld} (hn:Tree.name k≠[]) (hf:Tree.fieldsOK ⟨k,b,h,l,t,m,s,y,ks⟩=true) (ht:Tree.wholeT t (decide (k=11))=true) (hm:Tree.wholeT m (decide (k=11))=true):Tree.own ⟨k,b,h,l,t,m,s,y,ks⟩=0:=by
 unfold Tree.own
 rw [if_neg hn,if_neg (by rw [hf];decide),if_neg (by simp only [ht,hm];decide)]
theorem wholeT_of {s:Str} (h:Utf.whole s=true):Tree.wholeT s false=true:=by unfold Tree.wholeT;rw [h];rfl
inductive Shape:Itm→Prop where
 | plus (n:UInt64):Shape (.mk 1 n [] [] [])
 | neg (n:UInt64) (h:¬9223372036854775808≤n):Shape (.mk 2 n [] [] [])
 | raw (b:Str):Shape (.mk 3 0 b [] [])
 | text (t:Str) (h:Utf.whole t=true):Shape (.mk 4 0 [] t [])
 | list (l:List Itm) (h:Mp.chks l=0):Shape (.mk 5 0 [] [] l)
 | map (l:List Itm) (h:Mp.chks l=0) (he:l.length % 2=0):Shape (.mk 6 0 [] [] l)
 | simple (n:UInt64) (h:20≤n∧n≤22):Shape (.mk 8 n [] [] [])
 | float (n:UInt64):Shape (.mk 9 n [] [] [])
 | ext (n:UInt64) (b:Str) (h:n≤127):Shape (.mk 10 n b [] [])
theorem shape (x:Itm) (h:Mp.chk x=0):Shape x:=by
 have h1:=Mp.chkI x.val (by rw [Itm.of_val];exact h)
 obtain ⟨o1,o2,o3,o4,o5,o6,o7,o8,o9,o10⟩:=Mp.has0 x.val h1.1
 have hc:=h1.2
 obtain ⟨k,n,b,t,ks⟩:=x
 simp only [Itm.val,Itm.kind,Itm.n,Itm.bytes,Itm.text,Itm.kids] at o1 o2 o3 o4 o5 o6 o7 o8 o9 o10 hc
 have hk:k=1∨k=2∨k=3∨k=4∨k=5∨k=6∨k=8∨k=9∨k=10:=by omega
 rcases hk with rfl | rfl | rfl | rfl | rfl | rfl | rfl | rfl | rfl
 ·rw [o3 (by decide) (by decide),o4 (by decide),o5 (by decide) (by decide)];exact .plus n
 ·rw [o3 (by decide) (by decide),o4 (by decide),o5 (by decide) (by decide)];exact .neg n (o6 rfl)
 ·rw [o2 (by decide),o4 (by decide),o5 (by decide) (by decide)];exact .raw b
 ·rw [o2 (by decide),o3 (by decide) (by decide),o5 (by decide) (by decide)];exact .text t o10
 ·rw [o2 (by decide),o3 (by decide) (by decide),o4 (by decide)];exact .list ks hc
 ·rw [o2 (by decide),o3 (by decide) (by decide),o4 (by decide)];exact .map ks hc (o9 rfl)
 ·rw [o3 (by decide) (by decide),o4 (by decide),o5 (by decide) (by decide)];exact .simple n (o7 rfl)
 ·rw [o3 (by decide) (by decide),o4 (by decide),o5 (by decide) (by decide)];exact .float n
 ·rw [o4 (by decide),o5 (by decide) (by decide)];exact .ext n b (o8 rfl)
def Just (v:Val) (x:Itm):Prop:=Tree.own v=0∧Tree.fines v.kids=true∧itemOf v (mapped v.kids) (items v.kids)=x
theorem number_back {x:Itm} {z:Int} (h:Db.number x=some z) (hx:Mp.chk x=0):Db.integer z=x∧-9223372036854775808≤z∧z≤9223372036854775807:=by
 unfold Db.number at h
 by_cases a:9223372036854775808≤x.n
 ·rw [if_pos a] at h;cases h
 rw [if_neg a] at h
 have hb:x.n.toNat<9223372036854775808:=by
  have:¬(9223372036854775808:UInt64).toNat≤x.n.toNat:=fun h=>a (UInt64.le_iff_toNat_le.2 h)
  have e:(9223372036854775808:UInt64).toNat=9223372036854775808:=rfl
  omega
 have oi:∀n:UInt64,UInt64.ofInt (n.toNat:Int)=n:=fun n=>by
  apply UInt64.toNat_inj.1
  have:=n.toNat_lt
  rw [u64_nat];omega
 cases shape x hx with
 | plus n =>
  rw [if_pos (show (Itm.mk 1 n [] [] []).kind=1 from rfl)] at h
  injection h with h
  have h:(n.toNat:Int)=z:=h
  have hb:n.toNat<9223372036854775808:=hb
  refine ⟨?_,by omega,by omega⟩
  rw [Db.integer,if_neg (by omega),←h,oi]
 | neg n hn =>
  rw [if_neg (show ¬(Itm.mk 2 n [] [] []).kind=1 from fun h=>absurd (show (2:Int)=1 from h) (by decide)),if_pos (show (Itm.mk 2 n [] [] []).kind=2 from rfl)] at h
  injection h with h
  have h : -1 - (n.toNat:Int)=z:=h
  have hb:n.toNat<9223372036854775808:=hb
  refine ⟨?_,by omega,by omega⟩
  rw [Db.integer,if_pos (by omega),←h,show -(-1 - (n.toNat:Int)+1)=(n.toNat:Int) by omega,oi]
 | _=>rw [if_neg (by simp [Itm.kind]),if_neg (by simp [Itm.kind])] at h;cases h
theorem i32_ofInt (z:Int) (h : -2147483648≤z∧z<2147483648):Db.i32 (UInt64.ofInt (z % 4294967296))=z∧(UInt64.ofInt (z % 4294967296)).toNat<4294967296:=by
 have e:=u64_ofInt (z % 4294967296)
 rw [wrap_u64'] at e
 refine ⟨?_,by omega⟩
 unfold Db.i32
 rw [e]
 simp only [IntKind.wrap,IntKind.bits,IntKind.signed]
 simp
 omega
theorem just_half {x:Itm} (hx:Mp.chk x=0) (hh:(Db.half x).2=true):Just (Db.half x).1 x:=by
 have hh':((Db.number x).isSome&&decide (-2147483648≤Db.numberI x∧Db.numberI x<2147483648))=true:=hh
 rw [Bool.and_eq_true] at hh'
 obtain ⟨z,hz⟩:=Option.isSome_iff_exists.1 hh'.1
 have hi:Db.numberI x=z:=by rw [Db.numberI_eq x hh'.1,hz];rfl
 have hr:=of_decide_eq_true hh'.2
 rw [hi] at hr
 obtain ⟨he,_⟩:=number_back hz hx
 have hb:=i32_ofInt z hr
 have e:(Db.half x).1=⟨16,UInt64.ofInt (z % 4294967296),0,0,[],[],0,[],[]⟩:=by rw [Db.half,hi]
 rw [e]
 refine ⟨own_ok (by decide) ?_ (by decide) (by decide),rfl,?_⟩
 ·simp [Tree.fieldsOK,Tree.hasN]
  exact UInt64.lt_iff_toNat_lt.2 hb.2
 ·rw [show itemOf ⟨16,UInt64.ofInt (z % 4294967296),0,0,[],[],0,[],[]⟩ (mapped []) (items [])=Db.integer (Db.i32 (UInt64.ofInt (z % 4294967296))) from rfl,hb.1,he]
theorem just_leaf {k:Int} {n:UInt64} {b t:Str} {ks:List Itm} {v:Val} (h:Db.leaf k n b t=some v) (hx:Mp.chk (.mk k n b t ks)=0) (h5:k≠5) (h6:k≠6) (h10:k≠10):Just v (.mk k n b t ks):=by
 have hs:=shape _ hx
 cases hs with
 | list=>exact absurd rfl h5
 | map=>exact absurd rfl h6
 | ext=>exact absurd rfl h10
 | plus n =>
  unfold Db.leaf at h
  rw [if_neg (by decide),if_neg (by decide),if_neg (by decide),if_neg (by decide)] at h
  by_cases a:(Db.half (.mk 1 n [] [] [])).2=true
  ·rw [if_pos a] at h;injection h with h;subst h;exact just_half hx a
  ·rw [if_neg a] at h;cases h
 | neg n =>
  unfold Db.leaf at h
  rw [if_neg (by decide),if_neg (by decide),if_neg (by decide),if_neg (by decide)] at h
  by_cases a:(Db.half (.mk 2 n [] [] [])).2=true
  ·rw [if_pos a] at h;injection h with h;subst h;exact just_half hx a
  ·rw [if_neg a] at h;cases h
 | raw b =>
  rw [Db.leaf,if_neg (by decide),if_neg (by decide),if_pos rfl] at h;injection h with h;subst h
  exact ⟨own_ok (by decide) (by simp [Tree.fieldsOK,Tree.hasN]) (by decide) (by decide),rfl,rfl⟩
 | text t ht =>
  rw [Db.leaf,if_neg (by decide),if_pos rfl] at h;injection h with h;subst h
  exact ⟨own_ok (by decide) (by simp [Tree.fieldsOK,Tree.hasN]) (wholeT_of ht) (by decide),rfl,rfl⟩
 | float n =>
  rw [Db.leaf,if_pos rfl] at h;injection h with h;subst h
  exact ⟨own_ok (by decide) (by simp [Tree.fieldsOK,Tree.hasN]) (by decide) (by decide),rfl,rfl⟩
 | simple n hn =>
  rw [Db.leaf,if_neg (by decide),if_neg (by decide),if_neg (by decide),if_pos rfl] at h;injection h with h
  rcases u64_range3 hn with rfl | rfl | rfl
  ·subst h;exact ⟨own_ok (by decide) (by decide) (by decide) (by decide),rfl,by kernel_rfl⟩
  ·subst h;exact ⟨own_ok (by decide) (by decide) (by decide) (by decide),rfl,by kernel_rfl⟩
  ·subst h;exact ⟨own_ok (by decide) (by decide) (by decide) (by decide),rfl,by kernel_rfl⟩
end Dk
end Go.Eng
namespace Go.Eng
open Go.IntWalk
namespace Dk
theorem cut_join:∀(s:Str) (c:UInt8),0≤Lib.indexByte s c→s.take (Lib.indexByte s c).toNat++c :: s.drop ((Lib.indexByte s c).toNat+1)=s∧(s.take (Lib.indexByte s c).toNat).contains c=false
 | [],c,h=>by rw [Lib.indexByte] at h;exact absurd h (by decide)
 | b :: l,c,h=>by
  have hg:=Lib.indexByte_ge l c
  by_cases a:b=c
  ·subst a
   have e:Lib.indexByte (b :: l) b=0:=by rw [Lib.indexByte,if_pos (by simp)]
   rw [e];exact ⟨rfl,rfl⟩
  ·have e:Lib.indexByte (b :: l) c=if (Lib.indexByte l c == -1)=true then -1 else Lib.indexByte l c+1:=by rw [Lib.indexByte,if_neg (by simpa using a)]
   by_cases d:Lib.indexByte l c=-1
   ·rw [e,if_pos (by simpa using d)] at h;exact absurd h (by decide)
   ·rw [if_neg (by simpa using d)] at e
    obtain ⟨h1,h2⟩:=cut_join l c (by omega)
    rw [e,show (Lib.indexByte l c+1).toNat=(Lib.indexByte l c).toNat+1 by omega,List.take_succ_cons,List.drop_succ_cons,List.cons_append,h1]
    refine ⟨rfl,?_⟩
    rw [List.contains_cons,h2,Bool.or_false,beq_eq_false_iff_ne]
    exact fun e=>a e.symm
def Good (R:Val→Str→Val × Bool):Prop:=∀v c,(R v c).2=true→∃l,(R v c).1={ v with kids:=l }∧Tree.fines l=true∧Mp.lay (Db.map (mapped l))=c
theorem u64_back (n:UInt64):UInt64.ofInt (n.toNat:Int)=n:=by
 apply UInt64.toNat_inj.1
 have:=n.toNat_lt
 rw [u64_nat];omega
theorem sort_kindOf {n:UInt64} (hn:n≤127):sort (kindOf n)=n:=by
 unfold sort kindOf
 by_cases a:n=126
 ·rw [if_pos a,if_pos rfl,a]
 ·have h:n.toNat≤127:=UInt64.le_iff_toNat_le.1 hn
  rw [if_neg a,if_neg (by omega),u64_back]
theorem just_far {v:Val} {k:Int} {n:UInt64} {b:Str} (hk:k=kindOf n) (hv:v.kind=k) (hn:n≤127) (ho:Tree.own v=0) (hf:Tree.fines v.kids=true) (h:k≠1∧k≠2∧k≠3∧k≠10∧k≠8∧k≠16) (h4:k=4→¬Tree.regular v.kids=true) (h5:k=5→v.sub≠0) (hi:inner v (Mp.lay (Db.map (mapped v.kids)))=b):Just v (.mk 10 n b [] []):=by
 refine ⟨ho,hf,?_⟩
 unfold itemOf
 rw [hv,if_neg h.1,if_neg h.2.1,if_neg h.2.2.1,if_neg (fun a=>h4 a.1 a.2),if_neg (fun a=>h5 a.1 a.2),if_neg h.2.2.2.1,if_neg h.2.2.2.2.1,if_neg h.2.2.2.2.2,hi,ext,hk,sort_kindOf hn]
theorem just_ext {R:Val→Str→Val × Bool} (hR:Good R) {n:UInt64} {b:Str} (hn:n≤127) (h:(extK R (kindOf n) b).2=true):Just (extK R (kindOf n) b).1 (.mk 10 n b [] []):=by
 obtain ⟨k,hk⟩:∃k,kindOf n=k:=⟨_,rfl⟩
 rw [hk] at h ⊢
 unfold extK at h ⊢
 by_cases a4:k=4
 ·subst a4
  rw [if_pos rfl] at h ⊢
  simp only [Bool.and_eq_true,Bool.not_eq_true'] at h
  obtain ⟨l,hw,hf,hl⟩:=hR _ _ h.1
  rw [hw] at h ⊢
  have h2:Tree.regular l=false:=h.2
  show Just ⟨4,0,0,0,[],[],0,[],l⟩ _
  exact just_far hk.symm rfl hn (own_ok (by decide) (by simp [Tree.fieldsOK,Tree.hasN]) (by decide) (by decide)) hf (by decide) (fun _ e=>by rw [show Tree.regular l=true from e] at h2;cases h2) (fun e=>absurd e (by decide)) hl
 rw [if_neg a4] at h ⊢
 by_cases a15:k=15
 ·subst a15
  rw [if_pos rfl] at h ⊢
  by_cases c:b.length<4∨b.length<4+size4 b
  ·rw [if_pos c] at h;cases h
  rw [if_neg c] at h ⊢
  simp only [Bool.and_eq_true] at h
  obtain ⟨l,hw,hf,hl⟩:=hR _ _ h.1
  rw [hw]
  show Just ⟨15,0,0,0,text4 b,[],0,[],l⟩ _
  refine just_far hk.symm rfl hn (own_ok (by decide) (by simp [Tree.fieldsOK,Tree.hasN]) (wholeT_of h.2) (by decide)) hf (by decide) (fun e=>absurd e (by decide)) (fun e=>absurd e (by decide)) ?_
  show Cur.putHigh (UInt64.ofInt ((text4 b).length:Int)) 4++text4 b++Mp.lay (Db.map (mapped l))=b
  have e1:(text4 b).length=size4 b:=by unfold text4;rw [List.length_take,List.length_drop];omega
  have e2:Cur.putHigh (UInt64.ofInt (size4 b:Int)) 4=b.take 4:=by rw [size4,u64_back,Cur.put_be 4 _ (by rw [List.length_take];omega) (by decide)]
  rw [hl,e1,e2,text4,List.append_assoc,←List.drop_drop,List.take_append_drop,List.take_append_drop]
 rw [if_neg a15] at h ⊢
 by_cases a5:k=5
 ·subst a5
  rw [if_pos rfl] at h ⊢
  by_cases c:0<b.length∧b.getD 0 0≠0
  ·rw [if_pos c]
   match b,c with
   | x :: r,c =>
    have hx:x.toNat<256:=x.toNat_lt
    have e1:UInt8.ofInt (x.toNat:Int)=x:=by
     apply UInt8.toNat_inj.1
     rw [u8_nat];omega
    refine just_far hk.symm rfl hn (own_ok (by decide) ?_ (by decide) (by decide)) rfl (by decide) (fun e=>absurd e (by decide)) (fun _ e=>c.2 ?_) ?_
    ·simp [Tree.fieldsOK,Tree.hasN];omega
    ·have e:(x.toNat:Int)=0:=e
     apply UInt8.toNat_inj.1
     show x.toNat=0
     omega
    ·show UInt8.ofInt (x.toNat:Int) :: r=x :: r
     rw [e1]
   | [],c=>exact absurd c.1 (by decide)
  ·rw [if_neg c] at h;cases h
 rw [if_neg a5] at h ⊢
 by_cases a7:k=7
 ·subst a7
  rw [if_pos rfl] at h ⊢
  have h:=of_decide_eq_true h
  exact just_far hk.symm rfl hn (own_ok (by decide) (by simp [Tree.fieldsOK,Tree.hasN,h]) (by decide) (by decide)) rfl (by decide) (fun e=>absurd e (by decide)) (fun e=>absurd e (by decide)) rfl
 rw [if_neg a7] at h ⊢
 by_cases a9:k=9∨k=17∨k=18
 ·rw [if_pos a9] at h ⊢
  have h8:b.length=8:=of_decide_eq_true h
  rcases a9 with rfl | rfl | rfl
  all_goals
   refine just_far hk.symm rfl hn (own_ok (by decide) (by simp [Tree.fieldsOK,Tree.hasN]) (by decide) (by decide)) rfl (by decide) (fun e=>absurd e (by decide)) (fun e=>absurd e (by decide)) ?_
   show Cur.putHigh (Cur.be b) 8=b
   exact Cur.put_be 8 b h8 (by decide)
 rw [if_neg a9] at h ⊢
 by_cases a11:k=11
 ·subst a11
  rw [if_pos rfl] at h ⊢
  simp only [Bool.and_eq_true,Bool.not_eq_true'] at h
  obtain ⟨⟨⟨h1,h2⟩,h3⟩,h4⟩:=h
  by_cases c:0≤Lib.indexByte b 0
  ·obtain ⟨j1,j2⟩:=cut_join b 0 c
   have e:cut b 0=(b.take (Lib.indexByte b 0).toNat,b.drop ((Lib.indexByte b 0).toNat+1),true):=by unfold cut;rw [if_pos c]
   rw [e] at h2 h3 h4 ⊢
   refine just_far hk.symm rfl hn (own_ok (by decide) (by simp [Tree.fieldsOK,Tree.hasN]) ?_ ?_) rfl (by decide) (fun e=>absurd e (by decide)) (fun e=>absurd e (by decide)) j1
   ·unfold Tree.wholeT;rw [show Utf.whole (b.take (Lib.indexByte b 0).toNat)=true from h3,show Utf.zero (b.take (Lib.indexByte b 0).toNat)=false from j2];rfl
   ·unfold Tree.wholeT;rw [show Utf.whole (b.drop ((Lib.indexByte b 0).toNat+1))=true from h4,show Utf.zero (b.drop ((Lib.indexByte b 0).toNat+1))=false from h2];rfl
  ·unfold cut at h1;rw [if_neg c] at h1;cases h1
 rw [if_neg a11] at h ⊢
 by_cases a12:k=12
 ·subst a12
  rw [if_pos rfl] at h ⊢
  by_cases c:12≤b.length∧Utf.whole (b.drop 12)=true
  ·rw [if_pos c]
   have e:(b.take 12).length=12:=by rw [List.length_take];omega
   exact just_far hk.symm rfl hn (own_ok (by decide) (by simp [Tree.fieldsOK,Tree.hasN,e]) (wholeT_of c.2) (by decide)) rfl (by decide) (fun e=>absurd e (by decide)) (fun e=>absurd e (by decide)) (List.take_append_drop 12 b)
  ·rw [if_neg c] at h;cases h
 rw [if_neg a12] at h ⊢
 by_cases a13:k=13∨k=14
 ·rw [if_pos a13] at h ⊢
  rcases a13 with rfl | rfl
  all_goals
   exact just_far hk.symm rfl hn (own_ok (by decide) (by simp [Tree.fieldsOK,Tree.hasN]) (wholeT_of h) (by decide)) rfl (by decide) (fun e=>absurd e (by decide)) (fun e=>absurd e (by decide)) rfl
 rw [if_neg a13] at h ⊢
 by_cases a19:k=19
 ·subst a19
  rw [if_pos rfl] at h ⊢
  by_cases c:b.length=16
  ·rw [if_pos c]
   refine just_far hk.symm rfl hn (own_ok (by decide) (by simp [Tree.fieldsOK,Tree.hasN]) (by decide) (by decide)) rfl (by decide) (fun e=>absurd e (by decide)) (fun e=>absurd e (by decide)) ?_
   show Cur.putHigh (Cur.be (b.take 8)) 8++Cur.putHigh (Cur.be (b.drop 8)) 8=b
   rw [Cur.put_be 8 _ (by rw [List.length_take];omega) (by decide),Cur.put_be 8 _ (by rw [List.length_drop];omega) (by decide),List.take_append_drop]
  ·rw [if_neg c] at h;cases h
 rw [if_neg a19] at h ⊢
 by_cases a6:k=6∨k=127∨k=255
 ·rw [if_pos a6] at h ⊢
  have h:=List.eq_nil_of_length_eq_zero (of_decide_eq_true h)
  subst h
  rcases a6 with rfl | rfl | rfl
  all_goals
   exact just_far hk.symm rfl hn (own_ok (by decide) (by decide) (by decide) (by decide)) rfl (by decide) (fun e=>absurd e (by decide)) (fun e=>absurd e (by decide)) rfl
 rw [if_neg a6] at h;cases h
def GoodE (E:UInt64→Str→Val × Bool):Prop:=∀n b,n≤127→(E n b).2=true→Just (E n b).1 (.mk 10 n b [] [])
theorem item_fld (n:Str) (v:Val):item (Fld.of n v)=itemOf v (mapped v.kids) (items v.kids):=by cases v;rw [Fld.of,item]
theorem chks_cons {x:Itm} {r:List Itm} (h:Mp.chks (x :: r)=0):Mp.chk x=0∧Mp.chks r=0:=by
 rw [Mp.chks] at h
 by_cases a:Mp.chk x=0
 ·rw [if_pos a] at h;exact ⟨a,h⟩
 ·rw [if_neg a] at h;exact absurd h a
theorem chk_kids {x:Itm} (h:Mp.chk x=0):Mp.chks x.kids=0:=by
 have:=(Mp.chkI x.val (by rw [Itm.of_val];exact h)).2
 cases x;exact this
theorem map_of {x:Itm} (h:Mp.chk x=0) (hk:x.kind=6):x=Db.map x.kids:=by
 cases shape x h with
 | map l=>rfl
 | _=>exact absurd hk (by simp [Itm.kind])
theorem list_of {x:Itm} (h:Mp.chk x=0) (hk:x.kind=5):x=Db.list x.kids:=by
 cases shape x h with
 | list l=>rfl
 | _=>exact absurd hk (by simp [Itm.kind])
theorem text_of {x:Itm} (h:Mp.chk x=0) (hk:x.kind=4):x=Db.text x.text∧Utf.whole x.text=true:=by
 cases shape x h with
 | text t ht=>exact ⟨rfl,ht⟩
 | _=>exact absurd hk (by simp [Itm.kind])
theorem just_map {ks:List Itm} {l:List Fld} (hm:mapped l=ks) (hl:Tree.fines l=true):Just ⟨3,0,0,0,[],[],0,[],l⟩ (Db.map ks) :=
 ⟨own_ok (by decide) (by simp [Tree.fieldsOK,Tree.hasN]) (by decide) (by decide),hl,by rw [←hm];rfl⟩
theorem just_list {ks:List Itm} {l:List Fld} (hm:items l=ks) (hr:Tree.regular l=true) (hl:Tree.fines l=true):Just ⟨4,0,0,0,[],[],0,[],l⟩ (Db.list ks):=by
 refine ⟨own_ok (by decide) (by simp [Tree.fieldsOK,Tree.hasN]) (by decide) (by decide),hl,?_⟩
 show itemOf ⟨4,0,0,0,[],[],0,[],l⟩ (mapped l) (items l)=_
 rw [←hm];simp [itemOf,hr]
mutual
theorem just_value (E:UInt64→Str→Val × Bool) (hE:GoodE E):∀(x:Itm) (p:List Int) (v:Val),valueE E x p = .ok v→Mp.chk x=0→Just v x
 | .mk k n b t ks,p,v,h,hx=>by
  have hc:Mp.chks ks=0:=chk_kids hx
  rw [valueE] at h
  by_cases h6:k=6
  ·rw [if_pos h6] at h
   obtain ⟨l,hl,rfl⟩:=got_ok h
   have:=just_fields E hE ks 0 p l hl hc
   have e:Itm.mk k n b t ks=Db.map ks:=map_of hx h6
   rw [e]
   exact just_map this.1 this.2
  rw [if_neg h6] at h
  by_cases h5:k=5
  ·rw [if_pos h5] at h
   obtain ⟨l,hl,rfl⟩:=got_ok h
   have:=just_elems E hE ks 0 p l hl hc
   have e:Itm.mk k n b t ks=Db.list ks:=list_of hx h5
   rw [e]
   exact just_list this.1 this.2.1 this.2.2
  rw [if_neg h5] at h
  by_cases h10:k=10
  ·rw [if_pos h10] at h
   by_cases c:(E n b).2=true
   ·rw [if_pos c] at h
    have h:(E n b).1=v:=by injection h
    subst h
    have e:Itm.mk k n b t ks = .mk 10 n b [] []∧n≤127:=by
     subst h10
     cases shape _ hx with
     | ext _ _ hn=>exact ⟨rfl,hn⟩
    rw [e.1]
    exact hE n b e.2 c
   ·rw [if_neg c] at h;cases h
  rw [if_neg h10] at h
  cases hl:Db.leaf k n b t with
  | none=>rw [hl] at h;cases h
  | some w =>
   rw [hl] at h
   have h:w=v:=by injection h
   subst h
   exact just_leaf hl hx h5 h6 h10
termination_by structural x=>x
theorem just_fields (E:UInt64→Str→Val × Bool) (hE:GoodE E):∀(l:List Itm) (i:Nat) (p:List Int) (ks:List Fld),fieldsE E l i p = .ok ks→Mp.chks l=0→mapped ks=l∧Tree.fines ks=true
 | [],i,p,ks,h,_=>by rw [fieldsE] at h;injection h with h;subst h;exact ⟨rfl,rfl⟩
 | [_],i,p,ks,h,_=>by rw [fieldsE] at h;cases h
 | k :: x :: r,i,p,ks,h,hc=>by
  rw [fieldsE] at h
  by_cases a:k.kind≠4∨Utf.zero k.text=true
  ·rw [if_pos a] at h;cases h
  rw [if_neg a] at h
  simp only [not_or,Classical.not_not,Bool.not_eq_true] at a
  have c1:=chks_cons hc
  have c2:=chks_cons c1.2
  obtain ⟨t1,w1⟩:=text_of c1.1 a.1
  cases hv:valueE E x (p++[((i+1:Nat):Int)]) with
  | bad q=>rw [hv] at h;cases h
  | ok v =>
   rw [hv] at h
   cases hl:fieldsE E r (i+2) p with
   | bad q=>simp only [hl] at h;cases h
   | ok l =>
    simp only [hl] at h
    injection h with h;subst h
    have h1:=just_value E hE x _ v hv c2.1
    have h2:=just_fields E hE r _ p l hl c2.2
    refine ⟨?_,Tree.fine_cons.2 ⟨(Tree.fine_of _ v).2 ⟨h1.1,⟨w1,a.2⟩,h1.2.1⟩,h2.2⟩⟩
    rw [mapped,item_fld,h1.2.2,h2.1]
    congr 1
    rw [t1];cases v;rfl
termination_by structural l=>l
theorem just_elems (E:UInt64→Str→Val × Bool) (hE:GoodE E):∀(l:List Itm) (i:Nat) (p:List Int) (ks:List Fld),elemsE E l i p = .ok ks→Mp.chks l=0→items ks=l∧Tree.regularFrom i ks=true∧Tree.fines ks=true
 | [],i,p,ks,h,_=>by rw [elemsE] at h;injection h with h;subst h;exact ⟨rfl,rfl,rfl⟩
 | x :: r,i,p,ks,h,hc=>by
  rw [elemsE] at h
  have c1:=chks_cons hc
  cases hv:valueE E x (p++[(i:Int)]) with
  | bad q=>rw [hv] at h;cases h
  | ok v =>
   rw [hv] at h
   cases hl:elemsE E r (i+1) p with
   | bad q=>simp only [hl] at h;cases h
   | ok l =>
    simp only [hl] at h
    injection h with h;subst h
    have h1:=just_value E hE x _ v hv c1.1
    have h2:=just_elems E hE r _ p l hl c1.2
    refine ⟨?_,?_,Tree.fine_cons.2 ⟨(Tree.fine_of _ v).2 ⟨h1.1,digs_name i,h1.2.1⟩,h2.2.2⟩⟩
    ·rw [items,item_fld,h1.2.2,h2.1]
    ·rw [Tree.regularFrom,h2.2.1,Bool.and_true]
     exact decide_eq_true (by cases v;rfl)
termination_by structural l=>l
end
theorem good_read {E:UInt64→Str→Val × Bool} (hE:GoodE E):Good (readE E):=by
 intro v c h
 unfold readE innE at h ⊢
 by_cases a:(Mp.dec c 1000).2.err≠0∨(Mp.dec c 1000).1.kind≠6
 ·rw [if_pos a] at h;cases h
 rw [if_neg a] at h ⊢
 simp only [not_or,Classical.not_not,ne_eq] at a
 obtain ⟨h1,h2,_⟩:=(Mp.dec_just c 1000).1 a.1
 cases hf:fieldsE E (Mp.dec c 1000).1.kids 0 [] with
 | bad q=>rw [hf] at h;cases h
 | ok l =>
  have hj:=just_fields E hE _ 0 [] l hf (chk_kids h1)
  exact ⟨l,rfl,hj.2,by rw [hj.1,←map_of h1 a.2,h2]⟩
theorem goodV:∀d,GoodE (extV d)
 | 0=>fun n b _ h=>by cases h
 | d+1=>fun n b hn h=>just_ext (good_read (goodV d)) hn h
theorem dec_bad (x:Itm) (h:(dec x).2.err≠0):(dec x).1=Db.zero:=by
 unfold dec at h ⊢
 by_cases a:Mp.chk x=0
 ·rw [if_neg (by simpa using a)] at h ⊢
  by_cases b:x.kind=6
  ·rw [if_neg (by simpa using b)] at h ⊢
   cases hv:value 200 x [] with
   | bad q=>rfl
   | ok v=>rw [hv] at h;exact absurd rfl h
  ·rw [if_pos b]
 ·rw [if_pos a]
theorem dec_just (x:Itm) (h:(dec x).2.err=0):(Tree.chkF (Fld.of [] (dec x).1) []).2=0∧(Tree.depth (Fld.of [] (dec x).1)≤200→enc (dec x).1=(x,⟨0,0,[]⟩)):=by
 by_cases a:Mp.chk x=0
 ·by_cases b:x.kind=6
  ·have e:dec x=((value 200 x []).val,(value 200 x []).flt):=by unfold dec;rw [if_neg (by simpa using a),if_neg (by simpa using b)]
   rw [e] at h ⊢
   cases hv:value 200 x [] with
   | bad q=>rw [hv] at h;exact absurd h (by show ¬(12:Int)=0;decide)
   | ok v =>
    have hj:=just_value _ (goodV 200) x [] v hv a
    show (Tree.chkF (Fld.of [] v) []).2=0∧(Tree.depth (Fld.of [] v)≤200→enc v=(x,⟨0,0,[]⟩))
    have hc:(Tree.chkF (Fld.of [] v) []).2=0:=(Tree.fine_chk _ []).2 ((Tree.fine_of [] v).2 ⟨hj.1,⟨by decide,by decide⟩,hj.2.1⟩)
    refine ⟨hc,fun hd=>?_⟩
    have hk:v.kind=3:=by
     obtain ⟨k,n,bb,t,ks⟩:=x
     have b:k=6:=b
     subst b
     rw [value,valueE,if_pos rfl] at hv
     obtain ⟨l,_,rfl⟩:=got_ok hv
     rfl
    unfold enc
    rw [if_neg (by simpa using hc),if_neg (by simpa using hk),if_neg (by omega)]
    have h2:=hj.2.2
    rw [←h2]
    unfold itemOf
    rw [if_neg (by omega),if_neg (by omega),if_pos hk]
  ·exact absurd h (by unfold dec;rw [if_neg (by simpa using a),if_pos b];decide)
 ·exact absurd h (by unfold dec;rw [if_pos a];exact a)
end Dk
end Go.Eng
namespace Go.Eng
noncomputable section
def DocpackJust.sg:FSig:={}
def DocpackJust.c:Ctr:=fun l=>match l with
 | [.ag [.i .i64 it9k,.u64 it9n,.sl .bs it9y,.s it9t,.sl .il it9d]] => .ok [(.b (true))]
 | _ => .err
def DocpackJust.env:EV:=[(7,(law31_awake.c,law31_awake.sg)),(9,(dk_Item.c,dk_Item.sg)),(12,(ref28_Same.c,ref28_Same.sg)),(13,(book_SmallItem.c,book_SmallItem.sg)),(14,(dk_Value.c,dk_Value.sg)),(16,(ref17_Same.c,ref17_Same.sg)),(17,(ref17_Depth.c,ref17_Depth.sg)),(18,(ref17_Check.c,ref17_Check.sg))]
def DocpackJust.E:TEnv:=envL tryzGl DocpackJust.env
def DocpackJust.m:TM:=oS [oK (.k (.bx 1057)) [0,1057] [1,1057],oW (.b false) 2] (.seq (oS [oC 7 0 1 [] 9,oK (.k (.un .not)) [9] [10]] (.cond (.s 10) [] (oS [oW (.b false) 2] .ret) .skip)) none (.seq (oS [oM 1057 0 5 1 11,oC 13 1 1 [11] 12,oK (.k (.un .not)) [12] [13]] (.cond (.s 13) [] (oS [oW (.b true) 2] .ret) .skip)) none (oS [oM 1057 0 5 1 15,oC 14 1 2 [15] 16,oV 16 14,oE 0 14 17,oE 1 14 18,oN 1058 zV 3,oN 1059 zT 4,oT 1058 0 9 3 17,oT 1059 0 3 4 18] (.seq (oS [oA 1059 0 0 4 19,oL 1059 0 1 19 20,oI .neq 20 (.i .i64 0) 21,oV 21 22,oG 22 false (oM 1058 0 9 3 23),oG 22 false (oC 17 1 1 [23] 24),oG 22 false (oI .gtr 24 (.i .i64 200) 25),oX (.k .pick) [.s 22,.c (.b true),.s 25] [26]] (.cond (.s 26) [] (oS [oA 1059 0 0 4 27,oL 1059 0 1 27 28,oI .eql 28 (.i .i64 0) 29,oV 29 30,oG 30 false (oM 1058 0 9 3 31),oG 30 false (oK (.bd zV []) [] [32]),oG 30 false (oC 16 2 1 [31,32] 33),oX (.k .pick) [.s 30,.c (.b true),.s 33] [34],oV 34 2] .ret) .skip)) none (oS [oM 1058 0 9 3 36,oC 9 1 2 [36] 37,oV 37 35,oE 0 35 38,oE 1 35 39,oN 1060 zI 5,oN 1061 zT 6,oT 1060 0 5 5 38,oT 1061 0 3 6 39] (oS [oM 1058 0 9 3 41,oC 18 1 2 [41] 42,oV 42 40,oE 0 40 43,oE 1 40 44,oV 43 7,oV 44 8] (oS [oV 8 45,oI .eql 45 (.i .i64 0) 46,oV 46 47,oG 47 true (oA 1061 0 0 6 48),oG 47 true (oL 1061 0 1 48 49),oG 47 true (oI .eql 49 (.i .i64 0) 50),oP 47 50 false 51,oV 51 52,oG 52 true (oM 1060 0 5 5 53),oG 52 true (oM 1057 0 5 1 54),oG 52 true (oC 12 2 1 [53,54] 55),oP 52 55 false 56,oV 56 2] .ret)))))))
def DocpackJust.d:TFD:=D0 1 DocpackJust.m [.t 2]
def DocpackJust.F (it:Itv):OT:=DocpackJust.d.run DocpackJust.E [(.ag (Itv.cells it))]
theorem DocpackJust.F_in (it:Itv) {ρ:OT} (K:∀(v1:Int) (h1:v1=(Flt.err ((Dk.dec (Itm.of it)).2))) (v2:Bool) (h2:v2=(!(!decide (v1=(0:Int))))) (v3:Int) (h3:v3=((Tree.depth (Fld.of [] ((Dk.dec (Itm.of it)).1)):Int))) (v4:Bool) (h4:v4=(cond (!decide (v1=(0:Int))) true (decide ((200:Int)<v3)))) (v5:Bool) (h5:v5=(Tree.same ((Dk.dec (Itm.of it)).1) (Val.mk 0 0 0 0 [] [] 0 [] []))) (v6:Bool) (h6:v6=(cond (decide (v1=(0:Int))) true v5)) (v7:Flt) (h7:v7=((Dk.enc ((Dk.dec (Itm.of it)).1)).2)) (v8:List Int) (h8:v8=((Tree.chkF (Fld.of [] ((Dk.dec (Itm.of it)).1)) []).1)) (v9:Int) (h9:v9=((Tree.chkF (Fld.of [] ((Dk.dec (Itm.of it)).1)) []).2)) (v10:Bool) (h10:v10=(cond (decide (v9=(0:Int))) (decide ((Flt.err v7)=(0:Int))) false)) (v11:Bool) (h11:v11=(Itm.same (Itm.of (Itm.val ((Dk.enc ((Dk.dec (Itm.of it)).1)).1))) (Itm.of it))),cond (!(true))
  (some [(.b false)])
  (cond (!(decide (0≤Itm.room 1500 (Itm.of it))))
  (some [(.b true)])
  (ck (decide (Itm.bulk (Itm.of it)≤1048576)) (ck (!v2 || (v2&&(decide (Fld.bulk (Fld.of [] ((Dk.dec (Itm.of it)).1))≤1099511627776)))) (ck (!v2 || v2) (ck ((!decide (v1=(0:Int))) || v2) (cond v4
  (ck (!(!(decide (v1=(0:Int)))) || (((!(decide (v1=(0:Int))))&&(!(decide (v1=(0:Int)))))&&(decide (Fld.bulk (Fld.of [] ((Dk.dec (Itm.of it)).1))≤1099511627776)))) (ck ((decide (v1=(0:Int))) || (!(decide (v1=(0:Int))))) (some [(.b v6)])))
  (ck (decide (Fld.bulk (Fld.of [] ((Dk.dec (Itm.of it)).1))≤1048576)) (ck (decide (Fld.bulk (Fld.of [] ((Dk.dec (Itm.of it)).1))≤1099511627776)) (ck (!(decide (v9=(0:Int))) || (decide (v9=(0:Int)))) (ck (!(decide (v9=(0:Int))) || (decide (v9=(0:Int)))) (ck (!(decide (v9=(0:Int))) || (decide (v9=(0:Int)))) (ck (!v10 || ((v10&&v10)&&(decide (Itm.bulk (Itm.of (Itm.val ((Dk.enc ((Dk.dec (Itm.of it)).1)).1)))≤1099511627776)))) (ck (!v10 || v10) (some [(.b (cond v10 v11 false))]))))))))))))))=ρ):DocpackJust.F it=ρ:=Eq.trans (by kernel_rfl) (K _ rfl _ rfl _ rfl _ rfl _ rfl _ rfl _ rfl _ rfl _ rfl _ rfl _ rfl)
theorem DocpackJust.chk:CK 5 DocpackJust.env DocpackJust.d:=ckOf (by kernel_rfl)
end
end Go.Eng
namespace Go.Eng
open Go.IntWalk
theorem DocpackJust.goal (it:Itv):DocpackJust.F it=some [.b true]:=by
 refine DocpackJust.F_in it ?_
 intro v1 h1 v2 h2 v3 h3 v4 h4 v5 h5 v6 h6 v7 h7 v8 h8 v9 h9 v10 h10 v11 h11
 rw [Bool.not_true,cond_false]
 by_cases a:0≤Itm.room 1500 (Itm.of it)
 ·have hb:=Itm.small_bulk _ a
  have h12:Fld.bulk (Fld.of [] (Dk.dec (Itm.of it)).1)≤_:=Dk.dec_bulk (Itm.of it) hb
  have big:decide (Fld.bulk (Fld.of [] (Dk.dec (Itm.of it)).1)≤1099511627776)=true:=decide_eq_true (by omega)
  have big2:decide (Fld.bulk (Fld.of [] (Dk.dec (Itm.of it)).1)≤1048576)=true:=decide_eq_true (by omega)
  rw [decide_eq_true a,Bool.not_true,cond_false,ck_of (decide_eq_true (by omega)),big,big2]
  have h1':v1=(Dk.dec (Itm.of it)).2.err:=h1
  by_cases e:v1=0
  ·have e':(Dk.dec (Itm.of it)).2.err=0:=by rw [←h1',e]
   obtain ⟨g1,g2⟩:=Dk.dec_just _ e'
   rw [decide_eq_true e] at h2 h4 h6 ⊢
   have h2':v2=true:=by rw [h2];rfl
   have h6':v6=true:=by rw [h6];rfl
   rw [h2',h6']
   by_cases d:200<v3
   ·rw [decide_eq_true d] at h4
    rw [show v4=true from h4,cond_true];rfl
   ·rw [decide_eq_false d] at h4
    rw [show v4=false from h4,cond_false]
    have g3:=g2 (by omega)
    have h9':v9=0:=by rw [h9,g1]
    rw [g3,Itm.of_val,Itm.same_refl] at h11
    have h7':Flt.err v7=0:=by rw [h7,g3]
    have h10':v10=true:=by rw [h10,h9',h7'];rfl
    rw [h9',h10',h11,g3,Itm.of_val,decide_eq_true (show Itm.bulk (Itm.of it)≤1099511627776 by omega)]
    rfl
  ·have e':(Dk.dec (Itm.of it)).2.err≠0:=by rw [←h1'];exact e
   have h5':v5=true:=by rw [h5,Dk.dec_bad _ e'];exact (Tree.same_iff _ _).2 rfl
   rw [decide_eq_false e] at h2 h4 h6 ⊢
   have h2':v2=false:=by rw [h2];rfl
   rw [h2',show v4=true from h4,show v6=v5 from h6,h5',cond_true]
   rfl
 ·rw [decide_eq_false a];rfl
end Go.Eng
namespace Go.Eng
theorem DocpackJust.fit (it9k:Int) (it9n:UInt64) (it9y:List UInt8) (it9t:Str) (it9d:List Itm):FT DocpackJust.d (envL tryzGl DocpackJust.env) [.ag [.i .i64 it9k,.u64 it9n,.sl .bs it9y,.s it9t,.sl .il it9d]] [(.b (true))] :=
 ⟨by kernel_rfl,Eq.trans (b:=DocpackJust.F (Itv.mk it9k it9n it9y it9t it9d)) (by kernel_rfl) (Eq.trans (DocpackJust.goal (Itv.mk it9k it9n it9y it9t it9d)) (by kernel_rfl))⟩
theorem DocpackJust.ok:KO 5 (DocpackJust.c) DocpackJust.sg :=
 meets (l:=DocpackJust.env) (all_cons law31_awake.ok (all_cons dk_Item.ok (all_cons ref28_Same.ok (all_cons book_SmallItem.ok (all_cons dk_Value.ok (all_cons ref17_Same.ok (all_cons ref17_Depth.ok (all_cons ref17_Check.ok all_nil)))))))) DocpackJust.chk (by
   intro ins outs h
   unfold DocpackJust.c at h
   split at h
   ·cases h;exact DocpackJust.fit _ _ _ _ _
   ·exact h.elim)
end Go.Eng
