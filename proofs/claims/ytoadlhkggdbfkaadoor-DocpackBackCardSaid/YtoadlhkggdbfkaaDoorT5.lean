/- Texts of my own, one behind the other: DdMp, DdR1, DdDb, DdR2, DdMR1, DdMR2, DdMR3, DdMR4, DdR3, DdP1, DdP2, DdP3, DdP4, DdP5, DdP6, DdP7, DdP8, DdSized, DdP. -/
import Derived.Test.YtoadlhkggdbfkaaDoorT4
import Derived.WalkKit
import Derived.WalkSpells
import Derived.WalkLawsBesides
import Derived.ChangeSlices
import Derived.Maps.OwnOps
set_option linter.unusedVariables false
set_option linter.unusedSimpArgs false
namespace Go.Eng
open Go.IntWalk
theorem Cur.good_iff {r:Rdr}:Cur.good r=true ↔ 0≤r.at_∧r.at_≤r.b.length∧r.b.length≤1099511627776:=by simp [Cur.good]
theorem rd_At.goal (r:Rdr):rd_At.F r=some [.i .i64 (r.at_)]:=rd_At.F_eq r
theorem rd_Left.goal (r:Rdr) (hp:Cur.good r=true):rd_Left.F r=some [.i .i64 (Cur.left r)]:=by
 obtain ⟨h0,h1,h2⟩:=Cur.good_iff.1 hp
 refine rd_Left.F_in r ?_
 intro v1 e1
 rw [e1,i64_in _ (by omega)];rfl
theorem rd_Byte.goal (r:Rdr) (hp:Cur.good r=true):rd_Byte.F r=some [.i .i64 (Cur.byte r),.b (Cur.more r),.ag (Rdr.cells (Cur.adv r 1 (Cur.more r)))]:=by
 obtain ⟨h0,h1,h2⟩:=Cur.good_iff.1 hp
 refine rd_Byte.F_in r ?_
 intro v1 e1 v2 e2 v3 e3 v4 e4
 by_cases h:r.at_=(r.b.length:Int)
 ·rw [decide_eq_true h,cond_true,Cur.byte,if_neg (by omega),Cur.more,decide_eq_false (by omega)];rfl
 ·rw [decide_eq_false h,cond_false]
  have e1':v1=r.at_+1:=by rw [e1,i64_in _ (by omega)]
  have e2':v2=r.at_:=by rw [e2,i64_in _ (by omega)];omega
  rw [ck_of (idx_ok (by omega) (by omega)),Cur.byte,if_pos (by omega),Cur.more,decide_eq_true (by omega)]
  rw [e4,i64_in _ (by have:=v3.toNat_lt;omega),e3,e2',e1'];rfl
theorem rd_next.goal (r:Rdr) (n:Int) (hp:Cur.good r=true):rd_next.F r n=some [.sl .bs (Cur.nx r n (Cur.ok8 r n)),.b (Cur.ok8 r n),.ag (Rdr.cells (Cur.adv r n (Cur.ok8 r n)))]:=by
 obtain ⟨h0,h1,h2⟩:=Cur.good_iff.1 hp
 refine rd_next.F_in r n ?_
 intro v1 e1 v2 e2 v3 e3 v4 e4
 simp only [hp,Bool.not_not,Bool.and_self,Bool.and_true,Bool.not_or_self,Bool.or_not_self,ck_true]
 have ev2:v2=!Cur.ok8 r n:=by
  rw [e2,e1,Cur.ok8,Cur.left]
  by_cases a:n<1 <;> by_cases b:8<n <;> by_cases c:(r.b.length:Int) - r.at_<n <;> simp [a,b,c] <;> omega
 rw [ev2]
 cases ho:Cur.ok8 r n with
 | false=>rfl
 | true =>
  have ho':1≤n∧n≤8∧n≤r.b.length - r.at_:=by simpa [Cur.ok8] using ho
  have e3':v3=r.at_+n:=by rw [e3,i64_in _ (by omega)]
  have e5:IntKind.i64.wrap (v3 - n)=r.at_:=by rw [e3',i64_in _ (by omega)];omega
  rw [Bool.not_true,cond_false,e5,ck_of (cut_ok h0 (by omega) (by omega)),e4,e5,e3',Cur.nx,Cur.adv,cond_true,cond_true,show (r.at_+n).toNat=r.at_.toNat+n.toNat by omega,List.drop_take,show r.at_.toNat+n.toNat - r.at_.toNat=n.toNat by omega]
  rfl
theorem rd_Take.goal (r:Rdr) (n:Int) (hp:Cur.good r=true):rd_Take.F r n=some [.sl .bs (Cur.nx r n (Cur.okT r n)),.b (Cur.okT r n),.ag (Rdr.cells (Cur.adv r n (Cur.okT r n)))]:=by
 obtain ⟨h0,h1,h2⟩:=Cur.good_iff.1 hp
 refine rd_Take.F_in r n ?_
 intro v1 e1 v2 e2 v3 e3
 simp only [hp,Bool.not_not,Bool.and_self,Bool.and_true,Bool.not_or_self,Bool.or_not_self,ck_true]
 have ev1:v1=!Cur.okT r n:=by
  rw [e1,Cur.okT,Cur.left]
  by_cases a:n<0 <;> by_cases c:(r.b.length:Int) - r.at_<n <;> simp [a,c] <;> omega
 rw [ev1]
 cases ho:Cur.okT r n with
 | false=>rfl
 | true =>
  have ho':0≤n∧n≤r.b.length - r.at_:=by simpa [Cur.okT] using ho
  have e2':v2=r.at_+n:=by rw [e2,i64_in _ (by omega)]
  have e5:IntKind.i64.wrap (v2 - n)=r.at_:=by rw [e2',i64_in _ (by omega)];omega
  have e6:v3=(r.b.drop r.at_.toNat).take n.toNat:=by
   rw [e3,e5,e2',show (r.at_+n).toNat=r.at_.toNat+n.toNat by omega,List.drop_take,show r.at_.toNat+n.toNat - r.at_.toNat=n.toNat by omega]
  have e7:v3.length≤1099511627776:=by rw [e6,List.length_take,List.length_drop];omega
  rw [Bool.not_true,cond_false,e5,ck_of (cut_ok h0 (by omega) (by omega)),ck_of (big_ap (by omega) (by omega)),e6,e2',Cur.nx,Cur.adv,cond_true,cond_true]
  rfl
theorem be_step (x:UInt64) (c:UInt8):shl64 x 8 ||| UInt64.ofInt (c.toNat:Int)=x * 256+c.toUInt64:=by
 apply UInt64.toNat_inj.1
 have hc:=c.toNat_lt
 have hx:=x.toNat_lt
 rw [UInt64.toNat_or,u64_nat,shl64,UInt64.toNat_add,UInt64.toNat_mul,UInt64.toNat_ofNat',UInt8.toNat_toUInt64]
 rw [Nat.mod_eq_of_lt (show c.toNat<18446744073709551616 by omega)]
 have e:x.toNat * 2 ^ 8 % 2 ^ 64=(x.toNat % 2 ^ 56) * 2 ^ 8:=by omega
 rw [e,or_add (k:=8) (by omega),show (256:UInt64).toNat=256 from rfl]
 omega
theorem rd_High.l1_ok (ok:Bool) (l:Str) (q:Rdr) (hl:l.length≤1099511627776):∀(m i:Nat) (x:UInt64),i+m=l.length→rd_High.l1 ok x l (l.length:Int) i q=some [.u64 ((l.drop i).foldl (fun v x=>v * 256+x.toUInt64) x),.b ok,.ag (Rdr.cells q)]:=by
 intro m
 induction m with
 | zero =>
  intro i x hi
  refine rd_High.l1_in _ _ _ _ _ _ ?_
  intro v1 e1 v2 e2 v3 e3 v4 e4
  rw [decide_eq_false (by omega),cond_false,List.drop_of_length_le (by omega)];rfl
 | succ m ih =>
  intro i x hi
  refine rd_High.l1_in _ _ _ _ _ _ ?_
  intro v1 e1 v2 e2 v3 e3 v4 e4
  rw [Int.toNat_natCast] at e1
  rw [decide_eq_true (by omega),cond_true,ck_of (idx_ok (by omega) (by omega)),drop_cons (l:=l) (i:=i) (by omega) 0,List.foldl_cons,←e1,show v4=((i+1:Nat):Int) by rw [e4,i64_in _ (by omega)];omega,ih _ _ (by omega),e2,e3,show (8:UInt64).toNat=8 from rfl,be_step]
theorem Cur.nx_len (r:Rdr) (n:Int) (ok:Bool):(Cur.nx r n ok).length≤r.b.length:=by
 unfold Cur.nx;cases ok <;> simp <;> omega
theorem rd_High.goal (r:Rdr) (n:Int) (hp:Cur.good r=true):rd_High.F r n=some [.u64 (Cur.be (Cur.nx r n (Cur.ok8 r n))),.b (Cur.ok8 r n),.ag (Rdr.cells (Cur.adv r n (Cur.ok8 r n)))]:=by
 obtain ⟨h0,h1,h2⟩:=Cur.good_iff.1 hp
 refine rd_High.F_in r n ?_
 intro v1 e1
 rw [ck_of hp,e1]
 have:=Cur.nx_len r n (Cur.ok8 r n)
 exact rd_High.l1_ok _ _ _ (by omega) _ 0 _ (Nat.zero_add _)
theorem cur_New.goal (b:Str) (hp:decide (b.length≤1099511627776)=true):cur_New.F b=some [.pt,.ag (Rdr.cells (Rdr.mk b 0))]:=by
 have h:=of_decide_eq_true hp
 rw [cur_New.F_eq,ck_of (big_ap (by omega) (by omega))];rfl
theorem cur_number.goal (n:Int):cur_number.F n=some [.b (decide (1≤n∧n≤8))]:=by
 refine cur_number.F_in n ?_
 intro v1 e1
 simp only [Bool.not_or_self,ck_true,e1]
 by_cases a:1≤n <;> by_cases b:n≤8 <;> simp [a,b]
theorem cur_Lay.goal:cur_Lay.F=some [.pt,.ag (Wtr.cells (Wtr.mk []))]:=cur_Lay.F_eq
theorem wr_Byte.goal (w:Wtr) (v:Int) (hp:decide (w.b.length≤1099511627776)=true):wr_Byte.F w v=some [.ag (Wtr.cells (Wtr.mk (w.b++[UInt8.ofInt v])))]:=by
 have h:=of_decide_eq_true hp
 refine wr_Byte.F_in w v ?_
 intro v1 e1
 subst e1
 rw [ck_of (big_ap (by simp;omega) (by simp;omega))];rfl
theorem wr_Raw.goal (w:Wtr) (b:Str) (hp:decide (w.b.length+b.length≤1099511627776)=true):wr_Raw.F w b=some [.ag (Wtr.cells (Wtr.mk (w.b++b)))]:=by
 have h:=of_decide_eq_true hp
 rw [wr_Raw.F_eq,ck_of (big_ap (by omega) (by omega))];rfl
theorem shr_div (v:UInt64) (n:Nat):shr64 (v / 256) (8 * n)=shr64 v (8 * (n+1)):=by
 rw [shr64,shr64,UInt64.toNat_div,show (256:UInt64).toNat=2 ^ 8 from rfl,Nat.div_div_eq_div_mul,←Nat.pow_add,show 8+8 * n=8 * (n+1) by omega]
theorem Cur.putLow_last:∀(n:Nat) (v:UInt64),Cur.putLow v (n+1)=Cur.putLow v n++[(shr64 v (8 * n)).toUInt8]
 | 0,v=>by
  have:shr64 v (8 * 0)=v:=by rw [shr64];simp
  rw [this];rfl
 | n+1,v=>by
  rw [Cur.putLow,Cur.putLow_last n,Cur.putLow,shr_div];rfl
theorem Cur.putHigh_succ (v:UInt64) (n:Nat):Cur.putHigh v (n+1)=(shr64 v (8 * n)).toUInt8 :: Cur.putHigh v n:=by
 rw [Cur.putHigh,Cur.putLow_last,List.reverse_append];rfl
theorem Cur.putLow_len:∀(n:Nat) (v:UInt64),(Cur.putLow v n).length=n
 | 0,_=>rfl
 | n+1,v=>by rw [Cur.putLow,List.length_cons,Cur.putLow_len n]
theorem Cur.putHigh_len (v:UInt64) (n:Nat):(Cur.putHigh v n).length=n:=by rw [Cur.putHigh,List.length_reverse,Cur.putLow_len]
theorem u8_of (v:UInt64):UInt8.ofInt (v.toNat:Int)=v.toUInt8:=by
 apply UInt8.toNat_inj.1
 rw [u8_nat,UInt64.toNat_toUInt8]
theorem wr_High.l1_ok (v:UInt64) (n:Int) (hn:1≤n∧n≤8):∀(k:Nat) (w:Wtr),k≤8→w.b.length+k≤1099511627786→wr_High.l1 v n ((k:Int) - 1) w=some [.ag (Wtr.cells (Wtr.mk (w.b++Cur.putHigh v k)))]:=by
 intro k
 induction k with
 | zero =>
  intro w _ _
  refine wr_High.l1_in _ _ _ _ ?_
  intro v1 e1 v2 e2 v3 e3 v4 e4 v5 e5
  simp only [Bool.not_or_self,ck_true]
  rw [e1,decide_eq_true hn,cond_true,decide_eq_false (by omega),cond_false,show Cur.putHigh v 0=[] from rfl,List.append_nil]
 | succ k ih =>
  intro w hk hw
  refine wr_High.l1_in _ _ _ _ ?_
  intro v1 e1 v2 e2 v3 e3 v4 e4 v5 e5
  simp only [Bool.not_or_self,ck_true]
  have e2':v2=((8 * k:Nat):Int):=by rw [e2,i64_in _ (by omega)];omega
  rw [e1,decide_eq_true hn,cond_true,decide_eq_true (by omega),cond_true,ck_of (decide_eq_true (by omega)),ck_of (big_ap (by simp;omega) (by simp;omega))]
  rw [show v5=(k:Int) - 1 by rw [e5,i64_in _ (by omega)];omega,ih _ (by omega) (by rw [e4];simp;omega),e4,e3,e2',Int.toNat_natCast,u8_of,Cur.putHigh_succ,List.append_assoc]
  rfl
theorem wr_High.goal (w:Wtr) (v:UInt64) (n:Int) (hp:decide (w.b.length≤1099511627776)=true):wr_High.F w v n=some [.ag (Wtr.cells (Wtr.mk (w.b++Cur.high v n)))]:=by
 have h:=of_decide_eq_true hp
 refine wr_High.F_in w v n ?_
 intro v1 e1
 by_cases hn:1≤n∧n≤8
 ·rw [show v1=((n.toNat:Nat):Int) - 1 by rw [e1,i64_in _ (by omega)];omega,wr_High.l1_ok v n hn _ _ (by omega) (by omega),Cur.high,if_pos hn]
 ·refine wr_High.l1_in _ _ _ _ ?_
  intro u1 f1 u2 f2 u3 f3 u4 f4 u5 f5
  simp only [Bool.not_or_self,ck_true]
  rw [f1,decide_eq_false hn,cond_false,cond_false,Cur.high,if_neg hn,List.append_nil]
theorem wr_Bytes.goal (w:Wtr) (hp:decide (w.b.length≤1099511627776)=true):wr_Bytes.F w=some [.sl .bs (w.b),.ag (Wtr.cells w)]:=by
 have h:=of_decide_eq_true hp
 rw [wr_Bytes.F_eq,ck_of (big_ap (by omega) (by omega))]
mutual
theorem Itm.bulk_kids:∀(ks:List Itm),ks.length≤Itm.bulks ks
 | []=>Nat.le_refl _
 | k :: r=>by
  have h1:=Itm.bulk_pos k
  have h2:=Itm.bulk_kids r
  simp only [Itm.bulks,List.length_cons];omega
theorem Itm.bulk_pos:∀(k:Itm),1≤Itm.bulk k
 | .mk _ _ b t ks=>by simp only [Itm.bulk];omega
end
theorem Itm.bulks_at:∀(ks:List Itm) (i:Nat),i<ks.length→Itm.bulk (ks.getD i (STy.dflt .il))≤Itm.bulks ks
 | [],_,h=>by simp at h
 | k :: r,0,_=>by simp only [List.getD_cons_zero,Itm.bulks];omega
 | k :: r,i+1,h=>by
  have:=Itm.bulks_at r i (by simpa using h)
  simp only [List.getD_cons_succ,Itm.bulks];omega
theorem Itm.bulk_of (it:Itv):Itm.bulk (Itm.of it)=1+it.bytes.length+it.text.length+Itm.bulks it.kids:=by simp only [Itm.of,Itm.bulk]
theorem len0 {α:Type} (l:List α):((l.length:Int)=0)=(l=[]):=by
 simp
theorem lt32 (m:Nat):((m:Int)<4294967296)=(m<4294967296):=propext (by omega)
theorem eq0 (m:Nat):((m:Int)=0)=(m=0):=propext (by omega)
theorem mp_few.goal (n:Int) (hp:decide (0≤n∧n≤1099511627776)=true):mp_few.F n=some [.b (decide (n<4294967296))]:=by
 have h:=of_decide_eq_true hp
 obtain ⟨m,rfl⟩:∃m:Nat,n=m:=⟨n.toNat,by omega⟩
 have e:(UInt64.ofInt (m:Int)<4294967296)=((m:Int)<4294967296):=by
  rw [UInt64.lt_iff_toNat_lt,u64_nat,show (4294967296:UInt64).toNat=4294967296 from rfl]
  apply propext;omega
 rw [mp_few.F_eq]
 simp only [e]
theorem mp_fields.j2_ok (a b:Int) (ok:Bool) (it:Itv):mp_fields.j2 a b ok it=some [.b (ok&&decide (it.n=0)&&decide (b=0)&&decide (it.text=[])&&decide (a=0))]:=by
 refine mp_fields.j2_in _ _ _ _ ?_
 intro v1 e1 v2 e2 v3 e3 v4 e4
 simp only [Bool.not_or_self,ck_true]
 rw [e4,e3,e2,e1]
 cases ok <;> simp [Bool.cond_false_right]
theorem mp_fields.goal (it:Itv) (hp:decide (Itm.bulk (Itm.of it)≤1099511627776)=true):mp_fields.F it=some [.b (Mp.fieldsOK (Itm.of it))]:=by
 have h:=of_decide_eq_true hp
 rw [Itm.bulk_of] at h
 have hk:=Itm.bulk_kids it.kids
 obtain ⟨k,n,b,t,ks⟩:=it
 simp only at h hk
 refine mp_fields.F_in _ ?_
 intro v1 e1 v2 e2
 simp only at e1 e2
 have key:∀x4:Bool,x4=decide (k=1∨k=9)→mp_fields.j1 v1 v2 true k x4 ⟨k,n,b,t,ks⟩=some [.b (Mp.fieldsOK (Itm.of ⟨k,n,b,t,ks⟩))]:=by
  intro x4 hx
  refine mp_fields.j1_in _ _ _ _ _ _ ?_
  intro u1 f1 u2 f2 u3 f3 u4 f4 u5 f5
  simp only at f1 f4 f5
  simp only [Bool.not_or_self,ck_true]
  subst e1 e2 f1
  have hdiv:Int.tdiv (ks.length:Int) 2=((ks.length / 2:Nat):Int):=rfl
  have hmod:Int.tmod (ks.length:Int) 2=((ks.length % 2:Nat):Int):=rfl
  rw [hdiv,i64_in _ (by omega)] at f2
  simp only [Mp.fieldsOK,Itm.of]
  by_cases k1:k=1∨k=9
  ·rw [hx,decide_eq_true k1,cond_true,if_pos k1,mp_fields.j2_ok]
   simp [Bool.decide_and,len0,Bool.and_assoc]
  rw [hx,decide_eq_false k1,cond_false,if_neg k1]
  by_cases k2:k=2
  ·rw [decide_eq_true k2,cond_true,if_pos k2,mp_fields.j2_ok]
   simp [Bool.decide_and,len0,Bool.and_assoc]
  rw [decide_eq_false k2,cond_false,if_neg k2]
  by_cases k3:k=3
  ·rw [decide_eq_true k3,cond_true,if_pos k3,mp_fields.j2_ok,ck_of (decide_eq_true (by omega))]
   simp [Bool.decide_and,len0,lt32,Bool.and_assoc]
  rw [decide_eq_false k3,cond_false,if_neg k3]
  by_cases k4:k=4
  ·rw [decide_eq_true k4,cond_true,if_pos k4,mp_fields.j2_ok,ck_of (decide_eq_true (by omega))]
   simp [Bool.decide_and,len0,lt32,Bool.and_assoc]
  rw [decide_eq_false k4,cond_false,if_neg k4]
  by_cases k5:k=5
  ·rw [decide_eq_true k5,cond_true,if_pos k5,mp_fields.j2_ok,ck_of (decide_eq_true (by omega))]
   simp [Bool.decide_and,len0,lt32,Bool.and_assoc]
  rw [decide_eq_false k5,cond_false,if_neg k5]
  by_cases k6:k=6
  ·rw [decide_eq_true k6,cond_true,if_pos k6,mp_fields.j2_ok,hmod]
   rw [show (decide (0≤u2∧u2≤1099511627776))=true from decide_eq_true (by omega),show (!decide ((2:Int)=0))=true from rfl]
   simp only [Bool.and_true,Bool.not_or_self,ck_true]
   rw [f3,hmod,f2]
   simp [Bool.decide_and,len0,lt32,eq0,Bool.and_assoc,Bool.cond_false_right]
   rw [show decide ((ks.length:Int) % 2=0)=decide (ks.length % 2=0) from decide_eq_decide.2 (by omega),show decide ((ks.length:Int) / 2<4294967296)=decide (ks.length / 2<4294967296) from decide_eq_decide.2 (by omega)]
  rw [decide_eq_false k6,cond_false,if_neg k6]
  by_cases k8:k=8
  ·rw [decide_eq_true k8,cond_true,if_pos k8,mp_fields.j2_ok,f4]
   simp [Bool.decide_and,len0,Bool.and_assoc,Bool.cond_false_right]
  rw [decide_eq_false k8,cond_false,if_neg k8]
  by_cases k10:k=10
  ·rw [decide_eq_true k10,cond_true,if_pos k10,mp_fields.j2_ok,f5]
   rw [show (decide (0≤(b.length:Int)∧(b.length:Int)≤1099511627776))=true from decide_eq_true (by omega)]
   simp only [Bool.and_true,Bool.not_or_self,ck_true]
   simp [Bool.decide_and,len0,lt32,eq0,Bool.and_assoc,Bool.cond_false_right]
  rw [decide_eq_false k10,cond_false,if_neg k10,mp_fields.j2_ok]
  simp [Bool.decide_and,len0,Bool.and_assoc]
 by_cases k1:k=1
 ·rw [decide_eq_true k1,cond_true]
  exact key _ (by simp [k1])
 ·rw [decide_eq_false k1,cond_false]
  exact key _ (by simp [k1])
theorem Mp.own_eq (it:Itv):Mp.own (Itm.of it)=if it.kind<1∨10<it.kind∨it.kind=7 then 5 else if Mp.fieldsOK (Itm.of it)=false then 1 else if Utf.whole it.text then 0 else 4:=by
 obtain ⟨k,n,b,t,ks⟩:=it
 simp only [Mp.own,Mp.fieldsOK,Itm.of]
 by_cases h0:k<1∨10<k∨k=7
 ·rw [if_pos h0,if_pos h0]
 rw [if_neg h0,if_neg h0]
 have hk:k=1∨k=2∨k=3∨k=4∨k=5∨k=6∨k=8∨k=9∨k=10:=by omega
 have l0:∀{α:Type} (l:List α),l=[]→l.length=0:=fun l h=>by rw [h];rfl
 rcases hk with rfl | rfl | rfl | rfl | rfl | rfl | rfl | rfl | rfl <;> simp <;> grind
theorem Mp.chks_at:∀(ks:List Itm) (i:Nat),i<ks.length→Mp.chks (ks.drop i)=if Mp.chk (ks.getD i (STy.dflt .il))=0 then Mp.chks (ks.drop (i+1)) else Mp.chk (ks.getD i (STy.dflt .il)):=by
 intro ks i h
 rw [drop_cons h (STy.dflt .il),Mp.chks]
theorem mp_Check.l1_ok (n:Nat) (ks:List Itm) (hb:Itm.bulks ks≤1099511627776) (hn:Itm.bulks ks<n):∀(m i:Nat),i+m=ks.length→mp_Check.l1 n ks (ks.length:Int) i=some [.i .i64 (Mp.chks (ks.drop i))]:=by
 have hk:=Itm.bulk_kids ks
 intro m
 induction m with
 | zero =>
  intro i hi
  refine mp_Check.l1_in _ _ _ _ ?_
  intro v1 e1 v2 e2
  rw [decide_eq_false (by omega),cond_false,List.drop_of_length_le (by omega)];rfl
 | succ m ih =>
  intro i hi
  refine mp_Check.l1_in _ _ _ _ ?_
  intro v1 e1 v2 e2
  have hi':i<ks.length:=by omega
  have hb':=Itm.bulks_at ks i hi'
  rw [Int.toNat_natCast,Itm.of_val] at e1
  rw [decide_eq_true (by omega),cond_true,ck_of (idx_ok (by omega) (by omega)),Int.toNat_natCast,Itm.of_val,ck_of (by rw [decide_eq_true (by omega),decide_eq_true (by omega)];rfl),Mp.chks_at ks i hi',←e1]
  by_cases a:v1=0
  ·rw [decide_eq_true a,Bool.not_true,cond_false,if_pos a,show v2=((i+1:Nat):Int) by rw [e2,i64_in _ (by omega)];omega,ih _ (by omega)]
  ·rw [decide_eq_false a,Bool.not_false,cond_true,if_neg a]
theorem Mp.chk_of (it:Itv):Mp.chk (Itm.of it)=if Mp.own (Itm.of it)=0 then Mp.chks it.kids else Mp.own (Itm.of it):=by rw [Itm.of,Mp.chk]
theorem mp_Check.goal (n:Nat) (it:Itv) (hp:((decide (Itm.bulk (Itm.of it)≤1099511627776))&&decide ((Itm.bulk (Itm.of it))<n+1))=true):mp_Check.F n it=some [.i .i64 (Mp.chk (Itm.of it))]:=by
 simp only [Bool.and_eq_true,decide_eq_true_eq] at hp
 obtain ⟨h,hn⟩:=hp
 rw [Itm.bulk_of] at h hn
 refine mp_Check.F_in _ _ ?_
 intro v1 e1 v2 e2 v3 e3 v4 e4 v5 e5
 simp only [Bool.not_or_self,Bool.or_not_self,ck_true]
 rw [ck_of (decide_eq_true (by rw [Itm.bulk_of];omega)),ck_of (big_len (by omega)),ck_of (decide_eq_true (by omega)),e5,e4]
 have hl:=mp_Check.l1_ok n it.kids (by omega) (by omega) it.kids.length 0 (by omega)
 rw [show mp_Check.l1 n it.kids (it.kids.length:Int) 0=some [.i .i64 (Mp.chks it.kids)] from hl,Mp.chk_of,Mp.own_eq]
 have hv:v2=decide (it.kind<1∨10<it.kind∨it.kind=7):=by
  rw [e2,e1]
  by_cases a:it.kind<1 <;> by_cases b:10<it.kind <;> by_cases c:it.kind=7 <;> simp [a,b,c]
 rw [hv]
 by_cases h0:it.kind<1∨10<it.kind∨it.kind=7
 ·rw [decide_eq_true h0,cond_true,if_pos h0];rfl
 rw [decide_eq_false h0,cond_false,if_neg h0]
 cases hf:Mp.fieldsOK (Itm.of it) with
 | false=>rfl
 | true =>
  cases hw:Utf.whole it.text <;> rfl
theorem mp_wrong.goal (e at_:Int):mp_wrong.F e at_=some [.ag (Itv.cells (Itm.val Mp.zero)),.ag (Flt.cells (Flt.mk e at_ []))]:=mp_wrong.F_eq e at_
theorem mp_unsigned.goal (n:UInt64):mp_unsigned.F n=some [.ag [.i .i64 (Mp.unsigned n).1,.i .i64 (Mp.unsigned n).2]]:=by
 refine mp_unsigned.F_in _ ?_
 intro v1 e1
 unfold Mp.unsigned
 by_cases a:n<128
 ·rw [decide_eq_true a,cond_true,if_pos a,e1,i64_in _ (by have:=UInt64.lt_iff_toNat_lt.1 a;simp at this;omega)]
 rw [decide_eq_false a,cond_false,if_neg a]
 by_cases a:n<256
 ·rw [decide_eq_true a,cond_true,if_pos a]
 rw [decide_eq_false a,cond_false,if_neg a]
 by_cases a:n<65536
 ·rw [decide_eq_true a,cond_true,if_pos a]
 rw [decide_eq_false a,cond_false,if_neg a]
 by_cases a:n<4294967296
 ·rw [decide_eq_true a,cond_true,if_pos a]
 rw [decide_eq_false a,cond_false,if_neg a]
theorem mp_signed.goal (n:UInt64):mp_signed.F n=some [.ag [.i .i64 (Mp.signed n).1,.i .i64 (Mp.signed n).2]]:=by
 refine mp_signed.F_in _ ?_
 intro v1 e1 v2 e2
 unfold Mp.signed
 by_cases a:n<32
 ·have:=UInt64.lt_iff_toNat_lt.1 a
  simp at this
  rw [decide_eq_true a,cond_true,if_pos a,e2,e1,i64_in (n.toNat:Int) (by omega),i64_in _ (by omega)]
 rw [decide_eq_false a,cond_false,if_neg a]
 by_cases a:n<128
 ·rw [decide_eq_true a,cond_true,if_pos a]
 rw [decide_eq_false a,cond_false,if_neg a]
 by_cases a:n<32768
 ·rw [decide_eq_true a,cond_true,if_pos a]
 rw [decide_eq_false a,cond_false,if_neg a]
 by_cases a:n<2147483648
 ·rw [decide_eq_true a,cond_true,if_pos a]
 rw [decide_eq_false a,cond_false,if_neg a]
theorem mp_put.goal (w:Wtr) (f:Spn) (n:UInt64) (hp:decide (w.b.length+10≤1099511627776)=true):mp_put.F w f n=some [.ag (Wtr.cells (Wtr.mk (w.b++Mp.put (f.at_,f.end_) n)))]:=by
 have h:=of_decide_eq_true hp
 refine mp_put.F_in _ _ _ ?_
 intro v1 e1 v2 e2
 rw [ck_of (decide_eq_true (by omega)),e2,e1,ck_of (decide_eq_true (by simp;omega))]
 simp [Mp.put]
theorem mp_number.goal (it:Itv) (p c:Int) (f:Spn):mp_number.F it p c f=some [.ag (Itv.cells (Itm.val (Mp.num (Itm.of it) p c f.at_ 0).it)),.ag (Flt.cells (Flt.mk (Mp.num (Itm.of it) p c f.at_ 0).err (Mp.num (Itm.of it) p c f.at_ 0).at_ []))]:=by
 rw [mp_number.F_eq,Mp.num]
 by_cases a:f.at_=c
 ·rw [decide_eq_true a,Bool.not_true,cond_false,if_neg (fun h=>h a)];rfl
 ·rw [decide_eq_false a,Bool.not_false,cond_true,if_pos a];rfl
theorem Mp.own0 (it:Itv) (h:Mp.own (Itm.of it)=0):(1≤it.kind∧it.kind≤10∧it.kind≠7)∧(it.kind=3∨it.kind=4∨it.kind=5∨it.kind=6→it.n=0)∧(it.kind≠3→it.kind≠10→it.bytes=[])∧(it.kind≠4→it.text=[]) ∧
  (it.kind≠5→it.kind≠6→it.kids=[])∧(it.kind=2→it.n<9223372036854775808)∧(it.kind=8→20≤it.n∧it.n≤22)∧(it.kind=10→it.n≤127)∧(it.kind=6→it.kids.length % 2=0) ∧
  it.bytes.length<4294967296∧it.text.length<4294967296∧(it.kind=5→it.kids.length<4294967296)∧it.kids.length / 2<4294967296∧Utf.whole it.text=true:=by
 obtain ⟨k,n,b,t,ks⟩:=it
 simp only [Mp.own,Itm.of] at h
 simp only
 by_cases h1:k<1∨10<k∨k=7
 ·rw [if_pos h1] at h;cases h
 rw [if_neg h1] at h
 split at h
 ·cases h
 rename_i h2
 split at h
 ·cases h
 rename_i h3
 split at h
 ·cases h
 rename_i h4
 split at h
 ·cases h
 rename_i h5
 split at h
 ·rename_i h6
  refine ⟨by omega,?_,?_,?_,?_,?_,?_,?_,?_,by omega,by omega,?_,by omega,h6⟩ <;> grind
 ·cases h
theorem Cur.high_len (v:UInt64) (n:Int):(Cur.high v n).length≤8:=by
 unfold Cur.high
 split
 ·rw [Cur.putHigh_len];omega
 ·simp
theorem Mp.put_len (f:Int × Int) (n:UInt64):(Mp.put f n).length≤9:=by
 have:=Cur.high_len n f.2
 simp only [Mp.put,List.length_cons];omega
theorem Mp.head_len (it:Itm):(Mp.head it).length≤10:=by
 obtain ⟨k,n,b,t,ks⟩:=it
 unfold Mp.head
 repeat' split
 all_goals first | exact Nat.le_succ_of_le (Mp.put_len _ _) | skip
 ·simp
 ·simp
 ·simp
 ·rw [List.length_append,List.length_singleton];exact Nat.succ_le_succ (Mp.put_len _ _)
mutual
theorem Mp.lay_len:∀(it:Itm),(Mp.lay it).length≤16 * Itm.bulk it
 | .mk k n b t ks=>by
  have h1:=Mp.head_len (.mk k n b t ks)
  have h2:=Mp.lays_len ks
  simp only [Mp.lay,Itm.bulk,List.length_append];omega
theorem Mp.lays_len:∀(ks:List Itm),(Mp.lays ks).length≤16 * Itm.bulks ks
 | []=>Nat.zero_le _
 | k :: r=>by
  have h1:=Mp.lay_len k
  have h2:=Mp.lays_len r
  simp only [Mp.lays,Itm.bulks,List.length_append];omega
end
theorem Mp.chks_cons {k:Itm} {r:List Itm} (h:Mp.chks (k :: r)=0):Mp.chk k=0∧Mp.chks r=0:=by
 rw [Mp.chks] at h
 split at h
 ·exact ⟨by assumption,h⟩
 ·rename_i h';exact (h' h).elim
theorem Itm.bulks_drop:∀(ks:List Itm) (i:Nat),i<ks.length→Itm.bulks (ks.drop i)=Itm.bulk (ks.getD i (STy.dflt .il))+Itm.bulks (ks.drop (i+1)):=by
 intro ks i h
 rw [drop_cons h (STy.dflt .il),Itm.bulks]
theorem mp_lay.l2_ok (n:Nat) (ks:List Itm) (hn:Itm.bulks ks<n) (hks:ks.length≤1099511627776):∀(m i:Nat) (w:Wtr),i+m=ks.length→w.b.length+16 * Itm.bulks (ks.drop i)≤1099511627776→Mp.chks (ks.drop i)=0 →
  mp_lay.l2 n ks (ks.length:Int) i w=some [.ag (Wtr.cells (Wtr.mk (w.b++Mp.lays (ks.drop i))))]:=by
 have hk:=Itm.bulk_kids ks
 intro m
 induction m with
 | zero =>
  intro i w hi _ _
  refine mp_lay.l2_in _ _ _ _ _ ?_
  intro v1 e1 v2 e2
  rw [decide_eq_false (by omega),cond_false,List.drop_of_length_le (by omega),show Mp.lays []=[] from rfl,List.append_nil]
 | succ m ih =>
  intro i w hi hw hc
  refine mp_lay.l2_in _ _ _ _ _ ?_
  intro v1 e1 v2 e2
  have hi':i<ks.length:=by omega
  have hb':=Itm.bulks_at ks i hi'
  have hd:=Itm.bulks_drop ks i hi'
  rw [drop_cons hi' (STy.dflt .il)] at hc
  obtain ⟨c1,c2⟩:=Mp.chks_cons hc
  have hl:=Mp.lay_len (ks.getD i (STy.dflt .il))
  rw [Int.toNat_natCast,Itm.of_val] at e1
  rw [decide_eq_true (by omega),cond_true,ck_of (idx_ok (by omega) (by omega)),Int.toNat_natCast,Itm.of_val,ck_of (by rw [decide_eq_true (by omega),decide_eq_true c1,decide_eq_true (by omega)];rfl),show v2=((i+1:Nat):Int) by rw [e2,i64_in _ (by omega)];omega,ih _ _ (by omega) (by rw [e1];simp only [List.length_append];omega) c2,e1,drop_cons hi' (STy.dflt .il),Mp.lays]
  simp
theorem mp_lay.j1_ok (n:Nat) (it:Itv) (w:Wtr) (hn:Itm.bulks it.kids<n) (hks:it.kids.length≤1099511627776) (hw:w.b.length+16 * Itm.bulks it.kids≤1099511627776) (hc:Mp.chks it.kids=0) :
  mp_lay.j1 n it w=some [.ag (Wtr.cells (Wtr.mk (w.b++Mp.lays it.kids)))]:=by
 refine mp_lay.j1_in _ _ _ ?_
 intro v1 e1
 subst e1
 exact mp_lay.l2_ok n it.kids hn hks it.kids.length 0 w (by omega) hw hc
theorem Mp.lay_of (it:Itv):Mp.lay (Itm.of it)=Mp.head (Itm.of it)++it.bytes++it.text++Mp.lays it.kids:=by rw [Itm.of,Mp.lay]
theorem Mp.chk0 (it:Itv) (h:Mp.chk (Itm.of it)=0):Mp.own (Itm.of it)=0∧Mp.chks it.kids=0:=by
 rw [Mp.chk_of] at h
 split at h
 ·exact ⟨by assumption,h⟩
 ·rename_i h';exact (h' h).elim
theorem u64_nat' (n:Nat):UInt64.ofInt (n:Int)=UInt64.ofNat n:=by
 apply UInt64.toNat_inj.1
 rw [u64_nat,UInt64.toNat_ofNat']
theorem u8_n (v:UInt64) (h:v.toNat<9223372036854775808):UInt8.ofInt (IntKind.i64.wrap (v.toNat:Int))=v.toUInt8:=by
 rw [i64_in _ (by omega),u8_of]
theorem mp_lay.goal (n:Nat) (w:Wtr) (it:Itv) (hp:((decide (w.b.length+16 * Itm.bulk (Itm.of it)≤1099511627776)&&decide (Mp.chk (Itm.of it)=0))&&decide ((Itm.bulk (Itm.of it))<n+1))=true) :
  mp_lay.F n w it=some [.ag (Wtr.cells (Wtr.mk (w.b++Mp.lay (Itm.of it))))]:=by
 simp only [Bool.and_eq_true,decide_eq_true_eq] at hp
 obtain ⟨⟨hw,hc⟩,hn⟩:=hp
 obtain ⟨ho,hcs⟩:=Mp.chk0 it hc
 obtain ⟨p1,p2,p3,p4,p5,p6,p7,p8,p9,p10,p11,p12,p13,p14⟩:=Mp.own0 it ho
 rw [Itm.bulk_of] at hw hn
 have hk:=Itm.bulk_kids it.kids
 have J:=fun (w':Wtr) (h':w'.b.length≤w.b.length+16+it.bytes.length+it.text.length)=>mp_lay.j1_ok n it w' (by omega) (by omega) (by omega) hcs
 rw [Mp.lay_of]
 obtain ⟨k,u,b,t,ks⟩:=it
 simp only at p1 p2 p3 p4 p5 p6 p7 p8 p9 p10 p11 p12 p13 p14 hw hn hk J ⊢
 refine mp_lay.F_in _ _ _ ?_
 intro v1 e1 v2 e2 v3 e3 v4 e4 v5 e5 v6 e6 v7 e7 v8 e8 v9 e9 v10 e10 v11 e11 v12 e12 v13 e13 v14 e14 v15 e15 v16 e16 v17 e17 v18 e18 v19 e19 v20 e20 v21 e21 v22 e22 v23 e23 v24 e24 v25 e25 v26 e26
 simp only at e1 e2 e3 e4 e5 e6 e7 e8 e9 e10 e11 e12 e13 e14 e15 e16 e17 e18 e19 e20 e21 e22 e23 e24 e25 e26 ⊢
 have L:=fun f m=>Mp.put_len f m
 have hk':k=1∨k=2∨k=3∨k=4∨k=5∨k=6∨k=8∨k=9∨k=10:=by omega
 have c10:decide (w.b.length+10≤1099511627776)=true:=decide_eq_true (by omega)
 rcases hk' with rfl | rfl | rfl | rfl | rfl | rfl | rfl | rfl | rfl
 all_goals simp only [Int.reduceEq,decide_true,decide_false,cond_true,cond_false,c10,ck_true,Bool.not_false]
 ·have h3:=p3 (by decide) (by decide)
  have h4:=p4 (by decide)
  subst h3 h4
  have:=L ((Mp.unsigned u).1,(Mp.unsigned u).2) u
  rw [J v1 (by rw [e1];simp only [List.length_append];omega),e1]
  simp [Itm.of,Mp.head]
 ·have h3:=p3 (by decide) (by decide)
  have h4:=p4 (by decide)
  subst h3 h4
  have:=L ((Mp.signed u).1,(Mp.signed u).2) (~~~ u)
  rw [J v2 (by rw [e2];simp only [List.length_append];omega),e2]
  simp [Itm.of,Mp.head]
 ·have h4:=p4 (by decide)
  subst h4
  have:=L (v12,v13) (UInt64.ofInt v11)
  rw [ck_of (by rw [decide_eq_true (by omega)];rfl),ck_of (decide_eq_true (by rw [e14];simp only [List.length_append];omega)),J v15 (by rw [e15,e14];simp only [List.length_append];omega),e15,e14,e12,e13,e11,u64_nat']
  simp [Itm.of,Mp.head]
 ·have h3:=p3 (by decide) (by decide)
  subst h3
  have:=L (v7,v8) (UInt64.ofInt v6)
  rw [ck_of (by rw [decide_eq_true (by omega)];rfl),ck_of (big_len (by omega)),ck_of (decide_eq_true (by rw [e9];simp only [List.length_append];omega)),J v10 (by rw [e10,e9];simp only [List.length_append];omega),e10,e9,e7,e8,e6,u64_nat']
  simp [Itm.of,Mp.head]
 ·have h3:=p3 (by decide) (by decide)
  have h4:=p4 (by decide)
  subst h3 h4
  have:=p12 rfl
  have:=L (v20,v21) (UInt64.ofInt v19)
  rw [ck_of (by rw [decide_eq_true (by omega)];rfl),J v22 (by rw [e22];simp only [List.length_append];omega),e22,e20,e21,e19,u64_nat']
  simp [Itm.of,Mp.head]
 ·have h3:=p3 (by decide) (by decide)
  have h4:=p4 (by decide)
  subst h3 h4
  have e23':v23=((ks.length / 2:Nat):Int):=by rw [e23,e19,show Int.tdiv (ks.length:Int) 2=((ks.length / 2:Nat):Int) from rfl,i64_in _ (by omega)]
  have:=L (v24,v25) (UInt64.ofInt v23)
  rw [ck_of (by rw [decide_eq_true (by omega)];rfl),J v26 (by rw [e26];simp only [List.length_append];omega),e26,e24,e25,e23',u64_nat']
  simp [Itm.of,Mp.head]
 ·have h3:=p3 (by decide) (by decide)
  have h4:=p4 (by decide)
  subst h3 h4
  obtain ⟨q1,q2⟩:=p7 rfl
  have hu:u=20∨u=21∨u=22:=by
   have a:=UInt64.le_iff_toNat_le.1 q1
   have b:=UInt64.le_iff_toNat_le.1 q2
   simp at a b
   have:u.toNat=20∨u.toNat=21∨u.toNat=22:=by omega
   rcases this with h | h | h
   ·exact .inl (UInt64.toNat_inj.1 h)
   ·exact .inr (.inl (UInt64.toNat_inj.1 h))
   ·exact .inr (.inr (UInt64.toNat_inj.1 h))
  have hv4:v4.b.length=w.b.length+1:=by rw [e4];simp
  rw [ck_of (by rcases hu with rfl | rfl | rfl <;> rfl),ck_of (decide_eq_true (by omega)),J v4 (by omega),e4,e3]
  rcases hu with rfl | rfl | rfl <;> simp [Itm.of,Mp.head] <;> rfl
 ·have h3:=p3 (by decide) (by decide)
  have h4:=p4 (by decide)
  subst h3 h4
  have:=L (203,8) u
  rw [J v5 (by rw [e5];simp only [List.length_append];omega),e5]
  simp [Itm.of,Mp.head]
 ·have h4:=p4 (by decide)
  subst h4
  have h8:=UInt64.le_iff_toNat_le.1 (p8 rfl)
  simp at h8
  have:=L (v12,v13) (UInt64.ofInt v11)
  have l14:v14.b.length≤w.b.length+9:=by rw [e14];simp only [List.length_append];omega
  have l17:v17.b.length≤w.b.length+10:=by rw [e17];simp only [List.length_append,List.length_singleton];omega
  rw [ck_of (by rw [decide_eq_true (by omega)];rfl),ck_of (decide_eq_true (by omega)),ck_of (decide_eq_true (by omega)),J v18 (by rw [e18];simp only [List.length_append];omega),e18,e17,e14,e16,u8_n _ (by omega),e12,e13,e11,u64_nat']
  simp [Itm.of,Mp.head]
theorem mp_Encode.goal (it:Itv) (hp:decide (Itm.bulk (Itm.of it)≤1073741824)=true):mp_Encode.F it=some [.sl .bs (Mp.enc (Itm.of it)),.i .i64 (Mp.chk (Itm.of it))]:=by
 have h:=of_decide_eq_true hp
 refine mp_Encode.F_in _ ?_
 intro v1 e1
 have hl:=Mp.lay_len (Itm.of it)
 rw [ck_of (decide_eq_true (by omega)),Mp.enc]
 by_cases a:Mp.chk (Itm.of it)=0
 ·have l1:v1.b.length≤1099511627776:=by rw [e1];simp only [List.nil_append];omega
  rw [decide_eq_true a,Bool.not_true,cond_false,if_pos a,ck_of (by rw [decide_eq_true (by simp only [List.length_nil];omega)];rfl),ck_of (decide_eq_true l1),e1,a]
  rfl
 ·rw [decide_eq_false a,Bool.not_false,cond_true,if_neg a]
theorem mp_first.k192:mp_first.F 192=some [.i .i64 (Mp.first 192).1,.u64 (Mp.first 192).2.1,.i .i64 (Mp.first 192).2.2]:=by kernel_rfl
theorem mp_first.k193:mp_first.F 193=some [.i .i64 (Mp.first 193).1,.u64 (Mp.first 193).2.1,.i .i64 (Mp.first 193).2.2]:=by kernel_rfl
theorem mp_first.k194:mp_first.F 194=some [.i .i64 (Mp.first 194).1,.u64 (Mp.first 194).2.1,.i .i64 (Mp.first 194).2.2]:=by kernel_rfl
theorem mp_first.k195:mp_first.F 195=some [.i .i64 (Mp.first 195).1,.u64 (Mp.first 195).2.1,.i .i64 (Mp.first 195).2.2]:=by kernel_rfl
theorem mp_first.k196:mp_first.F 196=some [.i .i64 (Mp.first 196).1,.u64 (Mp.first 196).2.1,.i .i64 (Mp.first 196).2.2]:=by kernel_rfl
theorem mp_first.k197:mp_first.F 197=some [.i .i64 (Mp.first 197).1,.u64 (Mp.first 197).2.1,.i .i64 (Mp.first 197).2.2]:=by kernel_rfl
theorem mp_first.k198:mp_first.F 198=some [.i .i64 (Mp.first 198).1,.u64 (Mp.first 198).2.1,.i .i64 (Mp.first 198).2.2]:=by kernel_rfl
theorem mp_first.k199:mp_first.F 199=some [.i .i64 (Mp.first 199).1,.u64 (Mp.first 199).2.1,.i .i64 (Mp.first 199).2.2]:=by kernel_rfl
theorem mp_first.k200:mp_first.F 200=some [.i .i64 (Mp.first 200).1,.u64 (Mp.first 200).2.1,.i .i64 (Mp.first 200).2.2]:=by kernel_rfl
theorem mp_first.k201:mp_first.F 201=some [.i .i64 (Mp.first 201).1,.u64 (Mp.first 201).2.1,.i .i64 (Mp.first 201).2.2]:=by kernel_rfl
theorem mp_first.k202:mp_first.F 202=some [.i .i64 (Mp.first 202).1,.u64 (Mp.first 202).2.1,.i .i64 (Mp.first 202).2.2]:=by kernel_rfl
theorem mp_first.k203:mp_first.F 203=some [.i .i64 (Mp.first 203).1,.u64 (Mp.first 203).2.1,.i .i64 (Mp.first 203).2.2]:=by kernel_rfl
theorem mp_first.k204:mp_first.F 204=some [.i .i64 (Mp.first 204).1,.u64 (Mp.first 204).2.1,.i .i64 (Mp.first 204).2.2]:=by kernel_rfl
theorem mp_first.k205:mp_first.F 205=some [.i .i64 (Mp.first 205).1,.u64 (Mp.first 205).2.1,.i .i64 (Mp.first 205).2.2]:=by kernel_rfl
theorem mp_first.k206:mp_first.F 206=some [.i .i64 (Mp.first 206).1,.u64 (Mp.first 206).2.1,.i .i64 (Mp.first 206).2.2]:=by kernel_rfl
theorem mp_first.k207:mp_first.F 207=some [.i .i64 (Mp.first 207).1,.u64 (Mp.first 207).2.1,.i .i64 (Mp.first 207).2.2]:=by kernel_rfl
theorem mp_first.k208:mp_first.F 208=some [.i .i64 (Mp.first 208).1,.u64 (Mp.first 208).2.1,.i .i64 (Mp.first 208).2.2]:=by kernel_rfl
theorem mp_first.k209:mp_first.F 209=some [.i .i64 (Mp.first 209).1,.u64 (Mp.first 209).2.1,.i .i64 (Mp.first 209).2.2]:=by kernel_rfl
theorem mp_first.k210:mp_first.F 210=some [.i .i64 (Mp.first 210).1,.u64 (Mp.first 210).2.1,.i .i64 (Mp.first 210).2.2]:=by kernel_rfl
theorem mp_first.k211:mp_first.F 211=some [.i .i64 (Mp.first 211).1,.u64 (Mp.first 211).2.1,.i .i64 (Mp.first 211).2.2]:=by kernel_rfl
theorem mp_first.k212:mp_first.F 212=some [.i .i64 (Mp.first 212).1,.u64 (Mp.first 212).2.1,.i .i64 (Mp.first 212).2.2]:=by kernel_rfl
theorem mp_first.k213:mp_first.F 213=some [.i .i64 (Mp.first 213).1,.u64 (Mp.first 213).2.1,.i .i64 (Mp.first 213).2.2]:=by kernel_rfl
theorem mp_first.k214:mp_first.F 214=some [.i .i64 (Mp.first 214).1,.u64 (Mp.first 214).2.1,.i .i64 (Mp.first 214).2.2]:=by kernel_rfl
theorem mp_first.k215:mp_first.F 215=some [.i .i64 (Mp.first 215).1,.u64 (Mp.first 215).2.1,.i .i64 (Mp.first 215).2.2]:=by kernel_rfl
theorem mp_first.k216:mp_first.F 216=some [.i .i64 (Mp.first 216).1,.u64 (Mp.first 216).2.1,.i .i64 (Mp.first 216).2.2]:=by kernel_rfl
theorem mp_first.k217:mp_first.F 217=some [.i .i64 (Mp.first 217).1,.u64 (Mp.first 217).2.1,.i .i64 (Mp.first 217).2.2]:=by kernel_rfl
theorem mp_first.k218:mp_first.F 218=some [.i .i64 (Mp.first 218).1,.u64 (Mp.first 218).2.1,.i .i64 (Mp.first 218).2.2]:=by kernel_rfl
theorem mp_first.k219:mp_first.F 219=some [.i .i64 (Mp.first 219).1,.u64 (Mp.first 219).2.1,.i .i64 (Mp.first 219).2.2]:=by kernel_rfl
theorem mp_first.k220:mp_first.F 220=some [.i .i64 (Mp.first 220).1,.u64 (Mp.first 220).2.1,.i .i64 (Mp.first 220).2.2]:=by kernel_rfl
theorem mp_first.k221:mp_first.F 221=some [.i .i64 (Mp.first 221).1,.u64 (Mp.first 221).2.1,.i .i64 (Mp.first 221).2.2]:=by kernel_rfl
theorem mp_first.k222:mp_first.F 222=some [.i .i64 (Mp.first 222).1,.u64 (Mp.first 222).2.1,.i .i64 (Mp.first 222).2.2]:=by kernel_rfl
theorem mp_first.k223:mp_first.F 223=some [.i .i64 (Mp.first 223).1,.u64 (Mp.first 223).2.1,.i .i64 (Mp.first 223).2.2]:=by kernel_rfl
theorem mp_first.goal (c:Int) (hp:decide (0≤c∧c≤255)=true):mp_first.F c=some [.i .i64 (Mp.first c).1,.u64 (Mp.first c).2.1,.i .i64 (Mp.first c).2.2]:=by
 have h:=of_decide_eq_true hp
 by_cases hc:192≤c∧c<224
 ·have:c=192∨c=193∨c=194∨c=195∨c=196∨c=197∨c=198∨c=199∨c=200∨c=201∨c=202∨c=203∨c=204∨c=205∨c=206∨c=207∨c=208∨c=209∨c=210∨c=211∨c=212∨c=213∨c=214∨c=215∨c=216∨c=217∨c=218∨c=219∨c=220∨c=221∨c=222∨c=223:=by omega
  rcases this with rfl | rfl | rfl | rfl | rfl | rfl | rfl | rfl | rfl | rfl | rfl | rfl | rfl | rfl | rfl | rfl | rfl | rfl | rfl | rfl | rfl | rfl | rfl | rfl | rfl | rfl | rfl | rfl | rfl | rfl | rfl | rfl 
  ·exact mp_first.k192
  ·exact mp_first.k193
  ·exact mp_first.k194
  ·exact mp_first.k195
  ·exact mp_first.k196
  ·exact mp_first.k197
  ·exact mp_first.k198
  ·exact mp_first.k199
  ·exact mp_first.k200
  ·exact mp_first.k201
  ·exact mp_first.k202
  ·exact mp_first.k203
  ·exact mp_first.k204
  ·exact mp_first.k205
  ·exact mp_first.k206
  ·exact mp_first.k207
  ·exact mp_first.k208
  ·exact mp_first.k209
  ·exact mp_first.k210
  ·exact mp_first.k211
  ·exact mp_first.k212
  ·exact mp_first.k213
  ·exact mp_first.k214
  ·exact mp_first.k215
  ·exact mp_first.k216
  ·exact mp_first.k217
  ·exact mp_first.k218
  ·exact mp_first.k219
  ·exact mp_first.k220
  ·exact mp_first.k221
  ·exact mp_first.k222
  ·exact mp_first.k223
 refine mp_first.F_in _ ?_
 intro v1 e1 v2 e2 v3 e3 v4 e4
 intros
 unfold Mp.first
 by_cases a:c<128
 ·rw [decide_eq_true a,cond_true,if_pos a]
 rw [decide_eq_false a,cond_false,if_neg a]
 by_cases a:c<144
 ·rw [decide_eq_true a,cond_true,if_pos a,e1,i64_in _ (by omega)]
 rw [decide_eq_false a,cond_false,if_neg a]
 by_cases a:c<160
 ·rw [decide_eq_true a,cond_true,if_pos a,e2,i64_in _ (by omega)]
 rw [decide_eq_false a,cond_false,if_neg a]
 by_cases a:c<192
 ·rw [decide_eq_true a,cond_true,if_pos a,e3,i64_in _ (by omega)]
 rw [decide_eq_false a,cond_false,if_neg a,decide_eq_true (show (224:Int)≤c by omega),cond_true,if_pos (show (224:Int)≤c by omega),e4,i64_in _ (by omega)]
set_option maxRecDepth 100000 in
theorem Mp.first_kinds (c:Int) (h:0≤c∧c≤255):((Mp.first c).1=0∨(Mp.first c).1=1∨(Mp.first c).1=2∨(Mp.first c).1=3∨(Mp.first c).1=4∨(Mp.first c).1=5∨(Mp.first c).1=6∨(Mp.first c).1=8∨(Mp.first c).1=9∨(Mp.first c).1=10) ∧
  ((Mp.first c).2.2=0∨(Mp.first c).2.2=1∨(Mp.first c).2.2=2∨(Mp.first c).2.2=4∨(Mp.first c).2.2=8)∧((Mp.first c).2.2=8→(Mp.first c).1=1∨(Mp.first c).1=2∨(Mp.first c).1=9) ∧
  ((Mp.first c).2.2=0→(Mp.first c).2.1.toNat≤127)∧((Mp.first c).1=2→(Mp.first c).2.2=0→(Mp.first c).2.1.toNat≤31):=by
 obtain ⟨m,rfl⟩:∃m:Nat,c=m:=⟨c.toNat,by omega⟩
 have key:∀m:Fin 256,((Mp.first m.val).1=0∨(Mp.first m.val).1=1∨(Mp.first m.val).1=2∨(Mp.first m.val).1=3∨(Mp.first m.val).1=4∨(Mp.first m.val).1=5∨(Mp.first m.val).1=6∨(Mp.first m.val).1=8∨(Mp.first m.val).1=9∨(Mp.first m.val).1=10) ∧
  ((Mp.first m.val).2.2=0∨(Mp.first m.val).2.2=1∨(Mp.first m.val).2.2=2∨(Mp.first m.val).2.2=4∨(Mp.first m.val).2.2=8)∧((Mp.first m.val).2.2=8→(Mp.first m.val).1=1∨(Mp.first m.val).1=2∨(Mp.first m.val).1=9) ∧
  ((Mp.first m.val).2.2=0→(Mp.first m.val).2.1.toNat≤127)∧((Mp.first m.val).1=2→(Mp.first m.val).2.2=0→(Mp.first m.val).2.1.toNat≤31):=by decide +kernel
 exact key ⟨m,by omega⟩
theorem mp_row.goal (r:Rdr) (it:Itv) (p n:Int) (hp:Cur.good r=true):mp_row.F r it p n=some [.ag (Itv.cells (Itm.val (Mp.row r.b (Itm.of it) p r.at_ n).it)),.ag (Flt.cells (Flt.mk (Mp.row r.b (Itm.of it) p r.at_ n).err (Mp.row r.b (Itm.of it) p r.at_ n).at_ [])),.ag (Rdr.cells (Rdr.mk r.b (Mp.row r.b (Itm.of it) p r.at_ n).pos))]:=by
 obtain ⟨h0,h1,h2⟩:=Cur.good_iff.1 hp
 refine mp_row.F_in _ _ _ _ ?_
 intro v1 e1 v2 e2
 have hl:=Cur.nx_len r n (Cur.okT r n)
 rw [ck_of hp]
 cases ho:Cur.okT r n with
 | false =>
  have ho':n<0∨(r.b.length:Int) - r.at_<n:=by
   have:=of_decide_eq_false ho;omega
  rw [Mp.row,if_pos ho'];rfl
 | true =>
  have ho':¬(n<0∨(r.b.length:Int) - r.at_<n):=by
   have:=of_decide_eq_true ho;omega
  rw [ho] at hl e2
  rw [Mp.row,if_neg ho',Bool.not_true,cond_false]
  by_cases a:it.kind=4
  ·rw [decide_eq_true a,Bool.not_true,cond_false,if_neg (show ¬(Itm.of it).kind≠4 from fun h=>h a),ck_of (decide_eq_true (by omega)),e2,show Cur.nx r n true=(r.b.drop r.at_.toNat).take n.toNat from rfl]
   cases hw:Utf.whole ((r.b.drop r.at_.toNat).take n.toNat) <;> rfl
  ·rw [decide_eq_false a,Bool.not_false,cond_true,if_pos (show (Itm.of it).kind≠4 from a)];rfl
theorem Mp.kids_pos (b:Str) (f:Int→Mp.Got) (hf:∀q:Int,0≤q→q≤b.length→q≤(f q).pos∧(f q).pos≤b.length∧((f q).err=0→q<(f q).pos)):∀(n:Nat) (it:Itm) (q:Int),0≤q→q≤b.length →
  q≤(Mp.kids f it n q).pos∧(Mp.kids f it n q).pos≤b.length:=by
 intro n
 induction n with
 | zero=>intro it q h0 h1;exact ⟨Int.le_refl _,h1⟩
 | succ n ih =>
  intro it q h0 h1
  obtain ⟨a,c,_⟩:=hf q h0 h1
  rw [Mp.kids]
  split
  ·exact ⟨a,c⟩
  ·have:=ih (.mk it.kind it.n it.bytes it.text (it.kids++[(f q).it])) (f q).pos (by omega) c
   exact ⟨by omega,this.2⟩
theorem Mp.num_pos (it:Itm) (p c f q:Int):(Mp.num it p c f q).pos=q:=by unfold Mp.num;split <;> rfl
theorem Mp.row_pos (b:Str) (it:Itm) (p q n:Int) (h:q≤b.length):q≤(Mp.row b it p q n).pos∧(Mp.row b it p q n).pos≤b.length:=by
 unfold Mp.row;repeat' split
 all_goals simp only [Mp.bad];omega
theorem Mp.end_pos (b:Str) (sub:Int→Mp.Got) (hf:∀q:Int,0≤q→q≤b.length→q≤(sub q).pos∧(sub q).pos≤b.length∧((sub q).err=0→q<(sub q).pos)) (p c k:Int) (n:UInt64) (long:Int) (t:UInt64) (q:Int) (h0:0≤q) (h:q≤b.length) :
  q≤(Mp.readEnd b sub p c k n long t q).pos∧(Mp.readEnd b sub p c k n long t q).pos≤b.length:=by
 unfold Mp.readEnd
 repeat' split
 all_goals first
  | exact ⟨Int.le_refl _,h⟩
  | (rw [Mp.num_pos];exact ⟨Int.le_refl _,h⟩)
  | exact Mp.kids_pos b _ hf _ _ q h0 h
  | exact Mp.row_pos b _ _ q _ h
theorem Mp.read_pos (b:Str):∀(d:Nat) (p:Int),0≤p→p≤b.length→p≤(Mp.read b d p).pos∧(Mp.read b d p).pos≤b.length∧((Mp.read b d p).err=0→p<(Mp.read b d p).pos):=by
 intro d
 induction d with
 | zero=>intro p h0 h1;exact ⟨Int.le_refl _,h1,fun h=>by simp [Mp.read,Mp.bad] at h⟩
 | succ d ih =>
  intro p h0 h1
  rw [Mp.read]
  by_cases g1:(b.length:Int)≤p
  ·rw [if_pos g1];exact ⟨Int.le_refl _,h1,fun h=>by simp [Mp.bad] at h⟩
  rw [if_neg g1]
  have hc:=Mp.first_kinds ((b.getD p.toNat 0).toNat:Int) ⟨by omega,by have:=(b.getD p.toNat 0).toNat_lt;omega⟩
  generalize Mp.first ((b.getD p.toNat 0).toNat:Int)=F at hc
  obtain ⟨k,n0,long⟩:=F
  simp only at hc ⊢
  obtain ⟨hk,hl,_⟩:=hc
  have step:∀(q:Int),p+1≤q→q≤b.length→∀g:Mp.Got,q≤g.pos∧g.pos≤b.length→p≤g.pos∧g.pos≤b.length∧(g.err=0→p<g.pos):=fun q a c g x=>⟨by omega,x.2,fun _=>by omega⟩
  have bp:∀(e q:Int),q≤b.length→q≤(Mp.bad e p q).pos∧(Mp.bad e p q).pos≤b.length:=fun e q h=>⟨Int.le_refl _,h⟩
  unfold Mp.readAt
  by_cases g2:k=0
  ·rw [if_pos g2];exact step (p+1) (by omega) (by omega) _ (bp _ _ (by omega))
  rw [if_neg g2]
  by_cases g3:(b.length:Int) - (p+1)<long
  ·rw [if_pos g3];exact step (p+1) (by omega) (by omega) _ (bp _ _ (by omega))
  rw [if_neg g3]
  unfold Mp.readTail
  by_cases g4:k=10
  ·rw [if_pos g4]
   by_cases g5:(b.length:Int) - (p+1+long)<1
   ·rw [if_pos g5];exact step (p+1+long) (by omega) (by omega) _ (bp _ _ (by omega))
   rw [if_neg g5]
   exact step (p+1+long+1) (by omega) (by omega) _ (Mp.end_pos b _ ih _ _ _ _ _ _ _ (by omega) (by omega))
  ·rw [if_neg g4]
   exact step (p+1+long) (by omega) (by omega) _ (Mp.end_pos b _ ih _ _ _ _ _ _ _ (by omega) (by omega))
theorem Cur.be_lt:∀(l:Str) (x:UInt64) (k:Nat),x.toNat<256 ^ k→k+l.length≤8→(l.foldl (fun v y=>v * 256+y.toUInt64) x).toNat<256 ^ (k+l.length)
 | [],x,k,h,_=>by simpa using h
 | y :: l,x,k,h,hl=>by
  rw [List.foldl_cons,List.length_cons,show k+(l.length+1)=(k+1)+l.length by omega]
  refine Cur.be_lt l _ (k+1) ?_ (by simp at hl;omega)
  have hy:=y.toNat_lt
  have h8:k+1≤8:=by simp at hl;omega
  have hp:256 ^ (k+1)≤256 ^ 8:=Nat.pow_le_pow_right (by omega) h8
  rw [UInt64.toNat_add,UInt64.toNat_mul,UInt8.toNat_toUInt64,show (256:UInt64).toNat=256 from rfl,Nat.pow_succ]
  rw [Nat.pow_succ] at hp
  omega
theorem Cur.be_bound (l:Str) (n:Nat) (h:l.length=n) (hn:n≤8):(Cur.be l).toNat<256 ^ n:=by
 have:=Cur.be_lt l 0 0 (by simp) (by omega)
 rw [Nat.zero_add,h] at this
 exact this
theorem mp_kids.l2_ok (n:Nat) (b:Str) (hb:b.length≤1099511627776) (depth:Int) (hd:1≤depth∧depth≤1000) (hn:2 * depth.toNat<n+1) (M:Int) (hM:M≤8589934592) (kind:Int) (u:UInt64) (t:Str) (x7:Itv) (x8:Flt) :
  ∀(k:Nat) (i:Int) (acc:List Itm) (q:Int),0≤i→i+k=M→0≤q→q≤b.length→(acc.length:Int)≤q →
   mp_kids.l2 n depth M i kind u t acc x7 x8 ⟨b,q⟩=some [.ag (Itv.cells (Itm.val (Mp.kids (Mp.read b (depth - 1).toNat) (Itm.mk kind u [] t acc) k q).it)),.ag (Flt.cells (Flt.mk (Mp.kids (Mp.read b (depth - 1).toNat) (Itm.mk kind u [] t acc) k q).err (Mp.kids (Mp.read b (depth - 1).toNat) (Itm.mk kind u [] t acc) k q).at_ [])),.ag (Rdr.cells (Rdr.mk b (Mp.kids (Mp.read b (depth - 1).toNat) (Itm.mk kind u [] t acc) k q).pos))]:=by
 intro k
 induction k with
 | zero =>
  intro i acc q hi0 hi h0 h1 ha
  refine mp_kids.l2_in _ _ _ _ _ _ _ _ _ _ _ ?_
  intro v1 e1 v2 e2 v3 e3 v4 e4 v5 e5
  rw [decide_eq_false (by omega),cond_false];rfl
 | succ k ih =>
  intro i acc q hi0 hi h0 h1 ha
  refine mp_kids.l2_in _ _ _ _ _ _ _ _ _ _ _ ?_
  intro v1 e1 v2 e2 v3 e3 v4 e4 v5 e5
  have e1':v1=depth - 1:=by rw [e1,i64_in _ (by omega)]
  obtain ⟨g1,g2,g3⟩:=Mp.read_pos b (depth - 1).toNat q h0 h1
  rw [e1'] at e2 e3 e4
  simp only [Itm.of_val] at e2 e3 e4
  rw [decide_eq_true (by omega),cond_true,ck_of (by rw [Cur.good_iff.2 ⟨h0,h1,hb⟩,decide_eq_true (by omega),decide_eq_true (by omega)];rfl),Mp.kids,e2]
  by_cases a:(Mp.read b (depth - 1).toNat q).err=0
  ·rw [decide_eq_true a,Bool.not_true,cond_false,if_neg (fun h=>h a),e4]
   have:=g3 a
   rw [ck_of (big_ap (by simp only [List.length_singleton];omega) (by simp only [List.length_singleton];omega)),show v5=i+1 by rw [e5,i64_in _ (by omega)],e3]
   exact ih (i+1) (acc++[(Mp.read b (depth - 1).toNat q).it]) _ (by omega) (by omega) (by omega) g2 (by rw [List.length_append,List.length_singleton];omega)
  ·rw [decide_eq_false a,Bool.not_false,cond_true,if_pos a,e3];rfl
theorem mp_kids.goal (n:Nat) (r:Rdr) (it:Itv) (m depth:Int) (hp:((Cur.good r&&decide (0≤m∧m≤4294967296∧1≤depth∧depth≤1000))&&decide ((2 * depth.toNat)<n+1))=true) :
  mp_kids.F n r it m depth=some [.ag (Itv.cells (Itm.val (Mp.kids (Mp.read r.b (depth - 1).toNat) (Itm.mk it.kind it.n [] it.text []) (Mp.many it.kind m) r.at_).it)),.ag (Flt.cells (Flt.mk (Mp.kids (Mp.read r.b (depth - 1).toNat) (Itm.mk it.kind it.n [] it.text []) (Mp.many it.kind m) r.at_).err (Mp.kids (Mp.read r.b (depth - 1).toNat) (Itm.mk it.kind it.n [] it.text []) (Mp.many it.kind m) r.at_).at_ [])),.ag (Rdr.cells (Rdr.mk r.b (Mp.kids (Mp.read r.b (depth - 1).toNat) (Itm.mk it.kind it.n [] it.text []) (Mp.many it.kind m) r.at_).pos))]:=by
 simp only [Bool.and_eq_true,decide_eq_true_eq] at hp
 obtain ⟨⟨hg,hm⟩,hn⟩:=hp
 obtain ⟨h0,h1,h2⟩:=Cur.good_iff.1 hg
 refine mp_kids.F_in _ _ _ _ _ ?_
 intro v1 e1
 have e1':v1=m * 2:=by rw [e1,i64_in _ (by omega)]
 unfold Mp.many
 by_cases a:it.kind=6
 ·rw [decide_eq_true a,cond_true,if_pos a,mp_kids.j1_eq]
  exact mp_kids.l2_ok n r.b h2 depth (by omega) (by omega) v1 (by omega) _ _ _ _ _ _ 0 [] _ (by omega) (by omega) h0 h1 h0
 ·rw [decide_eq_false a,cond_false,if_neg a,mp_kids.j1_eq]
  exact mp_kids.l2_ok n r.b h2 depth (by omega) (by omega) m (by omega) _ _ _ _ _ _ 0 [] _ (by omega) (by omega) h0 h1 h0
theorem shl_toNat (n:UInt64) (k:Nat):(shl64 n k).toNat=n.toNat * 2 ^ k % 18446744073709551616:=by
 rw [shl64,UInt64.toNat_ofNat']
theorem not_u64 (v:UInt64):(~~~ v).toNat=18446744073709551615 - v.toNat:=by
 have:=v.toNat_lt
 have h:UInt64.size=18446744073709551616:=rfl
 rw [UInt64.toNat_not];omega
theorem u64_int (n:Int):(UInt64.ofInt n).toNat=(n % 18446744073709551616).toNat:=by
 have h:=u64_ofInt n
 rw [wrap_u64'] at h;omega
theorem Mp.below_eq (n:UInt64) (long:Int) (hl:long=1∨long=2∨long=4∨long=8) (hn:n.toNat<256 ^ long.toNat) (s:Int) (hs:s=64 - 8 * long) (v:UInt64)
  (hv:v = ~~~ (UInt64.ofInt (Int.fdiv (IntKind.i64.wrap ((shl64 n s.toNat).toNat:Int)) (2 ^ (min s.toNat IntKind.i64.bits))))) :
  match Mp.below n long with | none=>9223372036854775808≤v | some m=>v=m∧¬9223372036854775808≤v:=by
 have hw:=n.toNat_lt
 have key:∀(top:UInt64) (k L:Nat),s.toNat=k→k+L=64→0<L→top.toNat=2 ^ (L - 1)→n.toNat<2 ^ L→(match (if n<top then none else some (top - 1 - (n - top)):Option UInt64) with | none=>9223372036854775808≤v | some m=>v=m∧¬9223372036854775808≤v):=by
  intro top k L hk hkL hL ht hnL
  have hb:(2:Nat) ^ (k+(L - 1))=2 ^ 63:=by rw [show k+(L - 1)=63 by omega]
  rw [Nat.pow_add] at hb
  have hkp:0<2 ^ k:=Nat.pow_pos (by omega)
  have hLp:0<2 ^ (L - 1):=Nat.pow_pos (by omega)
  have h2L:2 ^ L=2 * 2 ^ (L - 1):=by
   have e:L=(L - 1)+1:=by omega
   conv=>lhs;rw [e,Nat.pow_succ]
   omega
  have hmul:n.toNat * 2 ^ k<18446744073709551616:=by
   have:n.toNat * 2 ^ k<2 ^ L * 2 ^ k:=Nat.mul_lt_mul_of_pos_right hnL hkp
   rw [h2L,Nat.mul_assoc,Nat.mul_comm (2 ^ (L - 1)),hb] at this
   exact this
  have hsh:(shl64 n s.toNat).toNat=n.toNat * 2 ^ k:=by rw [shl_toNat,hk,Nat.mod_eq_of_lt hmul]
  have hmin:min s.toNat IntKind.i64.bits=k:=by rw [hk];show min k 64=k;omega
  rw [hsh,hmin] at hv
  have hcast:((2:Int) ^ k)=((2 ^ k:Nat):Int):=by rw [Int.natCast_pow];rfl
  rw [hcast] at hv
  have hvn:v.toNat=18446744073709551615 - (UInt64.ofInt (Int.fdiv (IntKind.i64.wrap ((n.toNat * 2 ^ k:Nat):Int)) ((2 ^ k:Nat):Int))).toNat:=by rw [hv,not_u64]
  by_cases a:n<top
  ·rw [if_pos a]
   have a':=UInt64.lt_iff_toNat_lt.1 a
   rw [ht] at a'
   have hsmall:n.toNat * 2 ^ k<9223372036854775808:=by
    have:n.toNat * 2 ^ k<2 ^ (L - 1) * 2 ^ k:=Nat.mul_lt_mul_of_pos_right a' hkp
    rw [Nat.mul_comm (2 ^ (L - 1)),hb] at this
    exact this
   rw [i64_in _ (by omega),Int.fdiv_eq_ediv_of_nonneg _ (by omega),show ((n.toNat * 2 ^ k:Nat):Int) / ((2 ^ k:Nat):Int)=((n.toNat * 2 ^ k / 2 ^ k:Nat):Int) from rfl,Nat.mul_div_cancel _ hkp,u64_nat,Nat.mod_eq_of_lt hw] at hvn
   have hL63:2 ^ (L - 1)≤2 ^ 63:=Nat.pow_le_pow_right (by omega) (by omega)
   show 9223372036854775808≤v
   rw [UInt64.le_iff_toNat_le,hvn,show (9223372036854775808:UInt64).toNat=9223372036854775808 from rfl]
   omega
  ·rw [if_neg a]
   have a':2 ^ (L - 1)≤n.toNat:=by rw [←ht];exact Nat.le_of_not_lt fun h=>a (UInt64.lt_iff_toNat_lt.2 h)
   have hbig:9223372036854775808≤n.toNat * 2 ^ k:=by
    have:2 ^ (L - 1) * 2 ^ k≤n.toNat * 2 ^ k:=Nat.mul_le_mul_right _ a'
    rw [Nat.mul_comm (2 ^ (L - 1)),hb] at this
    exact this
   have hwr:IntKind.i64.wrap ((n.toNat * 2 ^ k:Nat):Int)=((n.toNat:Int) - ((2 ^ L:Nat):Int)) * ((2 ^ k:Nat):Int):=by
    rw [IntKind.wrap_i64,Int.sub_mul,show ((2 ^ L:Nat):Int) * ((2 ^ k:Nat):Int)=((2 ^ L * 2 ^ k:Nat):Int) by simp,h2L,Nat.mul_assoc,Nat.mul_comm (2 ^ (L - 1)),hb,show (n.toNat:Int) * ((2 ^ k:Nat):Int)=((n.toNat * 2 ^ k:Nat):Int) by simp]
    omega
   have hL64:2 ^ L≤2 ^ 64:=Nat.pow_le_pow_right (by omega) (by omega)
   rw [hwr,Int.mul_fdiv_cancel _ (by omega),u64_int] at hvn
   have e1:(1:UInt64).toNat=1:=rfl
   have hm:(top - 1 - (n - top)).toNat=2 ^ L - 1 - n.toNat:=by
    have h1:(top - 1).toNat=2 ^ (L - 1) - 1:=by
     rw [UInt64.toNat_sub_of_le _ _ (by rw [UInt64.le_iff_toNat_le,ht,e1];omega),ht,e1]
    have h2:(n - top).toNat=n.toNat - 2 ^ (L - 1):=by
     rw [UInt64.toNat_sub_of_le _ _ (by rw [UInt64.le_iff_toNat_le,ht];exact a'),ht]
    rw [UInt64.toNat_sub_of_le _ _ (by rw [UInt64.le_iff_toNat_le,h1,h2];omega),h1,h2];omega
   refine ⟨UInt64.toNat_inj.1 ?_,fun h=>?_⟩
   ·rw [hm,hvn];omega
   ·rw [UInt64.le_iff_toNat_le,hvn,show (9223372036854775808:UInt64).toNat=9223372036854775808 from rfl] at h
    omega
 unfold Mp.below
 rcases hl with rfl | rfl | rfl | rfl
 ·exact key 128 56 8 (by omega) rfl (by decide) rfl (by simpa using hn)
 ·exact key 32768 48 16 (by omega) rfl (by decide) rfl (by simpa using hn)
 ·exact key 2147483648 32 32 (by omega) rfl (by decide) rfl (by simpa using hn)
 ·exact key 9223372036854775808 0 64 (by omega) rfl (by decide) rfl (by simpa using hn)
section
variable {n:Nat} {depth p c k long q:Int} {u t:UInt64} {b:Str}
def Mp.Got.tvs (b:Str) (g:Mp.Got):List TV:=[.ag (Itv.cells (Itm.val g.it)),.ag (Flt.cells (Flt.mk g.err g.at_ [])),.ag (Rdr.cells (Rdr.mk b g.pos))]
theorem mp_read.j4_ok (x3:Itv) (x4:Flt) (v:UInt64) (x6:UInt64) (hv:match (none:Option UInt64) with | none=>True | some _=>True) :
  mp_read.j4 n p c v x3 x4 k x6 [] ⟨b,q⟩=some (Mp.Got.tvs b (if 9223372036854775808≤v then Mp.bad 3 p q else Mp.num (.mk k v [] [] []) p c (Mp.signed v).1 q)):=by
 refine mp_read.j4_in _ _ _ _ _ _ _ _ _ _ ?_
 intro v1 e1
 by_cases a:9223372036854775808≤v
 ·rw [decide_eq_true a,cond_true,if_pos a];rfl
 ·rw [decide_eq_false a,cond_false,if_neg a,e1]
  simp only [Mp.num,Itm.of]
  split <;> rfl
theorem mp_read.j3_ok (x8:Itv) (x9:Flt) (hd:1≤depth∧depth≤1000) (hn:2 * depth.toNat<n) (hb:b.length≤1099511627776) (hq:0≤q∧q≤b.length)
  (hk:k=1∨k=2∨k=3∨k=4∨k=5∨k=6∨k=8∨k=9∨k=10) (hl:long=0∨long=1∨long=2∨long=4∨long=8)
  (hu:long≠0→u.toNat<256 ^ long.toNat) (hu0:long=0→u.toNat≤127) (h8:long=8→k=1∨k=2∨k=9) :
  mp_read.j3 n depth p c k u long k (decide (k=8∨k=9)) x8 x9 k t [] ⟨b,q⟩=some (Mp.Got.tvs b (Mp.readEnd b (Mp.read b (depth - 1).toNat) p c k u long t q)):=by
 refine mp_read.j3_in _ _ _ _ _ _ _ _ _ _ _ _ _ _ _ ?_
 intro v1 e1 v2 e2 v3 e3 v4 e4 v5 e5 v6 e6 v7 e7 v8 e8 v9 e9 v10 e10 v11 e11 v12 e12 v13 e13
 have hg:Cur.good ⟨b,q⟩=true:=Cur.good_iff.2 ⟨hq.1,hq.2,hb⟩
 unfold Mp.readEnd
 by_cases a:k=8∨k=9
 ·rw [decide_eq_true a,cond_true,if_pos a];rfl
 rw [decide_eq_false a,cond_false,if_neg a]
 by_cases a1:k=1
 ·rw [decide_eq_true a1,cond_true,if_pos a1,e1]
  simp only [Mp.num,Itm.of]
  split <;> rfl
 rw [decide_eq_false a1,cond_false,if_neg a1]
 by_cases a2:k=2
 ·rw [decide_eq_true a2,cond_true,if_pos a2]
  by_cases a3:long=0
  ·rw [decide_eq_false (by omega),cond_false,if_pos a3,mp_read.j4_ok _ _ _ _ trivial,if_neg (fun h=>by
    have:=UInt64.le_iff_toNat_le.1 h
    have:=hu0 a3
    rw [show (9223372036854775808:UInt64).toNat=9223372036854775808 from rfl] at *
    omega)]
  ·have hl':long=1∨long=2∨long=4∨long=8:=by omega
   have e3':v3=64 - 8 * long:=by rw [e3,e2,i64_in (8 * long) (by omega),i64_in _ (by omega)]
   have hB:=Mp.below_eq u long hl' (hu a3) v3 e3' _ rfl
   rw [decide_eq_true (by omega),cond_true,if_neg a3,ck_of (decide_eq_true (by omega)),ck_of (decide_eq_true (by omega)),mp_read.j4_ok _ _ _ _ trivial,e5,e4]
   cases hbl:Mp.below u long with
   | none=>rw [hbl] at hB;rw [if_pos hB]
   | some m=>rw [hbl] at hB;rw [if_neg hB.2,hB.1]
 rw [decide_eq_false a2,cond_false,if_neg a2]
 have hu32:u.toNat<4294967296:=by
  by_cases a3:long=0
  ·have:=hu0 a3;omega
  ·have hq3:=hu a3
   have h124:long=1∨long=2∨long=4:=by
    rcases hl with h | h | h | h | h
    ·exact (a3 h).elim
    ·exact .inl h
    ·exact .inr (.inl h)
    ·exact .inr (.inr h)
    ·have:=h8 h;omega
   rcases h124 with h | h | h <;> rw [h] at hq3 <;> simp at hq3 <;> omega
 have e6':v6=(u.toNat:Int):=by rw [e6,i64_in _ (by omega)]
 have hs:Mp.sizeds k=true:=by unfold Mp.sizeds;exact decide_eq_true (by omega)
 rw [ck_of (by rw [hs,decide_eq_true (by omega)];rfl)]
 have h7:(!decide ((Mp.sized k v6).1=c) || v7)=true:=by rw [e7];cases decide ((Mp.sized k v6).1=c) <;> rfl
 simp only [Bool.not_or_self,ck_true]
 rw [ck_of h7,e8,e6']
 by_cases a4:(Mp.sized k u.toNat).1≠c∨127<t
 ·rw [if_pos a4,show (cond (!decide ((Mp.sized k u.toNat).1=c)) true (decide (127<t)))=true by
   by_cases a5:(Mp.sized k u.toNat).1=c
   ·rw [decide_eq_true a5];simpa using a4.resolve_left (fun h=>h a5)
   ·rw [decide_eq_false a5];rfl];rfl
 ·have a5:(Mp.sized k u.toNat).1=c:=Classical.byContradiction fun h=>a4 (.inl h)
  have a6:¬127<t:=fun h=>a4 (.inr h)
  rw [if_neg a4,a5,decide_eq_true rfl,decide_eq_false a6]
  simp only [Bool.not_true,cond_false,Bool.or_not_self,ck_true]
  rw [e9]
  by_cases k5:k=5
  ·rw [decide_eq_true k5,cond_true,cond_true,if_pos k5,ck_of (by rw [hg,decide_eq_true (by omega),decide_eq_true (by omega)];rfl),e10,e11,e6',show Mp.many (Itv.kind ⟨k,t,[],[],[]⟩) (u.toNat:Int)=u.toNat by unfold Mp.many;rw [if_neg (by show ¬k=6;omega)];omega]
   rfl
  rw [decide_eq_false k5,cond_false,if_neg k5]
  by_cases k6:k=6
  ·rw [decide_eq_true k6,cond_true,if_pos k6,ck_of (by rw [hg,decide_eq_true (by omega),decide_eq_true (by omega)];rfl),e10,e11,e6',show Mp.many (Itv.kind ⟨k,t,[],[],[]⟩) (u.toNat:Int)=2 * u.toNat by unfold Mp.many;rw [if_pos (by show k=6;omega)];omega]
   rfl
  rw [decide_eq_false k6,cond_false,if_neg k6,ck_of hg,e12,e13,e6']
  rfl
theorem u8_u64 (v:UInt8):UInt64.ofInt ((v.toNat:Nat):Int)=v.toUInt64:=by
 apply UInt64.toNat_inj.1
 have:=v.toNat_lt
 rw [u64_nat,UInt8.toNat_toUInt64];omega
theorem mp_read.j1_ok (x6:Itv) (x7:Flt) (hd:1≤depth∧depth≤1000) (hn:2 * depth.toNat<n) (hb:b.length≤1099511627776) (hq:0≤q∧q≤b.length)
  (hk:k=1∨k=2∨k=3∨k=4∨k=5∨k=6∨k=8∨k=9∨k=10) (hl:long=0∨long=1∨long=2∨long=4∨long=8)
  (hu:long≠0→u.toNat<256 ^ long.toNat) (hu0:long=0→u.toNat≤127) (h8:long=8→k=1∨k=2∨k=9) :
  mp_read.j1 n depth p c k u long x6 x7 ⟨b,q⟩=some (Mp.Got.tvs b (Mp.readTail b (Mp.read b (depth - 1).toNat) p c k u long q)):=by
 have hg:Cur.good ⟨b,q⟩=true:=Cur.good_iff.2 ⟨hq.1,hq.2,hb⟩
 have two:∀(t:UInt64) (q':Int),0≤q'∧q'≤b.length→mp_read.j2 n depth p c k u long x6 x7 k t [] ⟨b,q'⟩=some (Mp.Got.tvs b (Mp.readEnd b (Mp.read b (depth - 1).toNat) p c k u long t q')):=by
  intro t q' hq'
  rw [mp_read.j2_eq]
  have J:=mp_read.j3_ok (n:=n) (depth:=depth) (p:=p) (c:=c) (k:=k) (long:=long) (q:=q') (u:=u) (t:=t) (b:=b) x6 x7 hd hn hb hq' hk hl hu hu0 h8
  by_cases a:k=8
  ·rw [decide_eq_true a,cond_true,←J]
   congr 1
   exact (decide_eq_true (Or.inl a)).symm
  ·rw [decide_eq_false a,cond_false,←J]
   congr 1
   by_cases a9:k=9
   ·rw [decide_eq_true a9];exact (decide_eq_true (Or.inr a9)).symm
   ·rw [decide_eq_false a9];exact (decide_eq_false (by omega)).symm
 rw [mp_read.j1_eq,Mp.readTail]
 by_cases a:k=10
 ·rw [decide_eq_true a,cond_true,if_pos a,ck_of hg]
  by_cases m:q<b.length
  ·rw [show Cur.more ⟨b,q⟩=true from decide_eq_true m,Bool.not_true,cond_false,if_neg (by omega),show Cur.byte ⟨b,q⟩=((b.getD q.toNat 0).toNat:Int) from if_pos m,u8_u64]
   exact two _ (q+1) (by omega)
  ·rw [show Cur.more ⟨b,q⟩=false from decide_eq_false m,Bool.not_false,cond_true,if_pos (by omega)];rfl
 ·rw [decide_eq_false a,cond_false,if_neg a]
  exact two 0 q hq
end
theorem mp_read.goal (n:Nat) (r:Rdr) (depth:Int) (hp:((Cur.good r&&decide (0≤depth∧depth≤1000))&&decide ((2 * depth.toNat+1)<n+1))=true) :
  mp_read.F n r depth=some [.ag (Itv.cells (Itm.val (Mp.read r.b depth.toNat r.at_).it)),.ag (Flt.cells (Flt.mk (Mp.read r.b depth.toNat r.at_).err (Mp.read r.b depth.toNat r.at_).at_ [])),.ag (Rdr.cells (Rdr.mk r.b (Mp.read r.b depth.toNat r.at_).pos))]:=by
 simp only [Bool.and_eq_true,decide_eq_true_eq] at hp
 obtain ⟨⟨hg,hd⟩,hn⟩:=hp
 obtain ⟨h0,h1,h2⟩:=Cur.good_iff.1 hg
 obtain ⟨b,p⟩:=r
 simp only at h0 h1 h2 ⊢
 show mp_read.F n ⟨b,p⟩ depth=some (Mp.Got.tvs b (Mp.read b depth.toNat p))
 refine mp_read.F_in _ _ _ ?_
 intro v1 e1 v2 e2 v3 e3 v4 e4 v5 e5 v6 e6 v7 e7 v8 e8 v9 e9
 by_cases a:depth=0
 ·rw [decide_eq_true a,cond_true,a,e1];rfl
 obtain ⟨d,rfl⟩:∃d:Nat,depth=(d:Int)+1:=⟨(depth - 1).toNat,by omega⟩
 rw [decide_eq_false a,cond_false,ck_of hg,show ((d:Int)+1).toNat=d+1 by omega,Mp.read]
 by_cases m:p<b.length
 ·have hm:Cur.more ⟨b,p⟩=true:=decide_eq_true m
  have hby:Cur.byte ⟨b,p⟩=((b.getD p.toNat 0).toNat:Int):=if_pos m
  have hc:0≤((b.getD p.toNat 0).toNat:Int)∧((b.getD p.toNat 0).toNat:Int)≤255:=⟨by omega,by have:=(b.getD p.toNat 0).toNat_lt;omega⟩
  rw [hby] at e3 e4 e5
  rw [hm] at e7 e8 e9
  have had:Cur.adv ⟨b,p⟩ 1 true=⟨b,p+1⟩:=rfl
  rw [had] at e7 e8 e9
  obtain ⟨F1,F2,F3,F4,F5⟩:=Mp.first_kinds _ hc
  rw [hm,Bool.not_true,cond_false,hby,had,ck_of (decide_eq_true hc),if_neg (by omega),←e3,←e4,←e5,Mp.readAt]
  rw [←e3,←e4,←e5] at *
  by_cases k0:v3=0
  ·rw [decide_eq_true k0,cond_true,if_pos k0,e6];rfl
  rw [decide_eq_false k0,cond_false,if_neg k0]
  have hg':Cur.good ⟨b,p+1⟩=true:=Cur.good_iff.2 ⟨by show 0≤p+1;omega,by show p+1≤(b.length:Int);omega,h2⟩
  by_cases l0:v5=0
  ·rw [decide_eq_false (by omega),cond_false,if_neg (by omega),if_pos l0,l0,Int.add_zero]
   have J:=mp_read.j1_ok (n:=n) (depth:=(d:Int)+1) (p:=p) (c:=((b.getD p.toNat 0).toNat:Int)) (k:=v3) (long:=0) (q:=p+1) (u:=v4) (b:=b) ⟨0,0,[],[],[]⟩ ⟨0,0,[]⟩ (by omega) (by omega) h2 (by omega) (by omega) (by omega) (fun h=>(h rfl).elim) (fun _=>F4 l0) (fun h=>by omega)
   rw [show ((d:Int)+1 - 1).toNat=d by omega] at J
   exact J
  ·rw [decide_eq_true (by omega),cond_true,ck_of hg']
   have h8':v8=!decide ((b.length:Int) - (p+1)<v5):=by
    rw [e8,Cur.ok8]
    by_cases x:(b.length:Int) - (p+1)<v5
    ·rw [decide_eq_true x];exact decide_eq_false (by show ¬(1≤v5∧v5≤8∧v5≤(b.length:Int) - (p+1));omega)
    ·rw [decide_eq_false x];exact decide_eq_true (by show 1≤v5∧v5≤8∧v5≤(b.length:Int) - (p+1);omega)
   rw [←e8] at e7 e9
   by_cases x:(b.length:Int) - (p+1)<v5
   ·rw [decide_eq_true x] at h8'
    rw [if_pos x,h8',e2,e9,h8'];rfl
   ·rw [decide_eq_false x] at h8'
    rw [if_neg x,if_neg l0,h8',e9,e7,h8',Bool.not_false,Bool.not_true,cond_false]
    have hbl:=Cur.be_bound ((b.drop (p+1).toNat).take v5.toNat) v5.toNat (by rw [List.length_take,List.length_drop];omega) (by omega)
    have J:=mp_read.j1_ok (n:=n) (depth:=(d:Int)+1) (p:=p) (c:=((b.getD p.toNat 0).toNat:Int)) (k:=v3) (long:=v5) (q:=p+1+v5) (u:=Cur.be ((b.drop (p+1).toNat).take v5.toNat)) (b:=b) ⟨0,0,[],[],[]⟩ ⟨0,0,[]⟩ (by omega) (by omega) h2 (by omega) (by omega) F2 (fun _=>hbl) (fun h=>(l0 h).elim) F3
    rw [show ((d:Int)+1 - 1).toNat=d by omega] at J
    exact J
 ·have hm:Cur.more ⟨b,p⟩=false:=decide_eq_false m
  rw [hm,Bool.not_false,cond_true,if_pos (by omega),e2];rfl
theorem mp_Decode.goal (b:Str) (depth:Int) (hp:decide (b.length≤1099511627776)=true):mp_Decode.F b depth=some [.ag (Itv.cells (Itm.val (Mp.dec b depth).1)),.ag (Flt.cells (Mp.dec b depth).2)]:=by
 have hb:=of_decide_eq_true hp
 refine mp_Decode.F_in _ _ ?_
 intro v1 e1 v2 e2 v3 e3 v4 e4 v5 e5
 simp only [Bool.not_or_self,Bool.or_not_self,ck_true]
 have e1':v1=decide (depth<0∨1000<depth):=by
  rw [e1]
  by_cases a:depth<0 <;> by_cases b:1000<depth <;> simp [a,b]
 rw [e1',Mp.dec]
 by_cases a:depth<0∨1000<depth
 ·rw [decide_eq_true a,cond_true,if_pos a,e2]
 have hg:Cur.good ⟨b,0⟩=true:=Cur.good_iff.2 ⟨Int.le_refl _,by show (0:Int)≤(b.length:Int);omega,hb⟩
 obtain ⟨g1,g2,_⟩:=Mp.read_pos b depth.toNat 0 (Int.le_refl _) (by omega)
 simp only at e3 e4
 rw [decide_eq_false a,cond_false,if_neg a,ck_of hp,ck_of (by rw [hg,decide_eq_true (by omega)];rfl),e3]
 by_cases x:(Mp.read b depth.toNat 0).err=0
 ·have hg4:Cur.good v4=true:=by rw [e4];exact Cur.good_iff.2 ⟨g1,g2,hb⟩
  rw [decide_eq_true x,Bool.not_true,cond_false,if_neg (fun h=>h x),ck_of hg4,e5,e4]
  by_cases y:(Mp.read b depth.toNat 0).pos<b.length
  ·rw [decide_eq_true (by show 0<(b.length:Int) - (Mp.read b depth.toNat 0).pos;omega),cond_true,if_pos y]
  ·rw [decide_eq_false (by show ¬0<(b.length:Int) - (Mp.read b depth.toNat 0).pos;omega),cond_false,if_neg y];rfl
 ·rw [decide_eq_false x,Bool.not_false,cond_true,if_pos x];rfl
theorem ref29_own.goal (it:Itv) (hp:decide (Itm.bulk (Itm.of it)≤1099511627776)=true):ref29_own.F it=some [.i .i64 (Mp.own (Itm.of it))]:=by
 have h:=of_decide_eq_true hp
 rw [Itm.bulk_of] at h
 have hks:=Itm.bulk_kids it.kids
 obtain ⟨k,n,b,t,ks⟩:=it
 simp only at h hks
 refine ref29_own.F_in _ ?_
 intro v1 h1 v2 h2 v3 h3 v4 h4 v5 h5 v6 h6 v7 h7 v8 h8 v9 h9 v10 h10 v11 h11 v12 h12 v13 h13 v14 h14 v15 h15 v16 h16 v17 h17 v18 h18 v19 h19 v20 h20 v21 h21 v22 h22 v23 h23 v24 h24 v25 h25 v26 h26 v27 h27 v28 h28 v29 h29 v30 h30 v31 h31 v32 h32 v33 h33
 simp only at h1 h2 h3 h4 h5 h6 h7 h8 h9 h10 h11 h12 h13 h14 h15 h16 h17 h18 h19 h20 h21 h22 h23 h24 h25 h26 h27 h28 h29 h30 h31 h32 h33 ⊢
 subst h7 h11 h18 h19 h22 h25 h29
 simp only [Bool.not_or_self,Bool.or_not_self,Bool.and_self,ck_true,ck4,ck5,Bool.and_true,show (!decide ((2:Int)=0))=true from rfl,decide_eq_true (show t.length≤1099511627776 by omega)]
 have l0:∀{α:Type} (l:List α),decide ((0:Int)<(l.length:Int))=decide (l≠[]):=by
  intro α l;rw [decide_eq_decide];cases l <;> simp <;> omega
 have e31:v31=((ks.length / 2:Nat):Int):=by rw [h31,h15,show Int.tdiv (ks.length:Int) 2=((ks.length / 2:Nat):Int) from rfl,i64_in _ (by omega)]
 have e5:v5=decide (k<1∨10<k∨k=7):=by
  rw [h5,h4];by_cases a:k<1 <;> by_cases c:10<k <;> by_cases d:k=7 <;> simp [a,c,d]
 have e3:v3=decide (¬(k=3∨k=4∨k=5∨k=6)):=by
  rw [h3,h2,h1];by_cases a:k=3 <;> by_cases c:k=4 <;> by_cases d:k=5 <;> by_cases e:k=6 <;> simp [a,c,d,e]
 have e13:v13=decide (((k=3∨k=4∨k=5∨k=6)∧n≠0)∨(k≠3∧k≠10∧b≠[])∨(k≠4∧t≠[])):=by
  rw [h13,h12,h10,h8,h6,e3,h9,l0]
  by_cases a:k=3∨k=4∨k=5∨k=6 <;> by_cases c:n=0 <;> by_cases d:k=3 <;> by_cases e:k=10 <;> by_cases f:b=[] <;> by_cases g:k=4 <;> by_cases g':t=[] <;> simp [a,c,d,e,f,g,g']
 have e16:v16=decide (k≠5∧k≠6∧ks≠[]):=by
  rw [h16,h14,h15,l0]
  by_cases d:k=5 <;> by_cases e:k=6 <;> by_cases f:ks=[] <;> simp [d,e,f]
 have e26:(cond v24 true v26)=decide ((k=2∧9223372036854775808≤n)∨(k=8∧(n<20∨22<n))∨(k=10∧127<n)∨(k=6∧ks.length % 2≠0)):=by
  rw [h24,h23,h21,h20,h17,h26,h15,show Int.tmod (ks.length:Int) 2=((ks.length % 2:Nat):Int) from rfl,show decide (((ks.length % 2:Nat):Int)=0)=decide (ks.length % 2=0) from decide_eq_decide.2 (by omega)]
  by_cases a:k=2 <;> by_cases c:k=8 <;> by_cases d:k=10 <;> by_cases e:k=6 <;> by_cases f:(9223372036854775808:UInt64)≤n <;> by_cases g:n<20 <;> by_cases g':22<n <;> by_cases g2:127<n <;> by_cases g3:ks.length % 2=0 <;> simp only [a,c,d,e,f,g,g',g2,g3,decide_true,decide_false,cond_true,cond_false,Bool.not_true,Bool.not_false,true_and,false_and,and_true,and_false,true_or,or_true,or_false,false_or,or_self,not_true,not_false_iff,ne_eq] <;> first | rfl | omega
 have e32:v32=decide (4294967296≤b.length∨4294967296≤t.length∨(k=5∧4294967296≤ks.length)∨4294967296≤ks.length / 2):=by
  have c1:∀m:Nat,decide ((4294967296:Int)≤(m:Int))=decide (4294967296≤m):=fun m=>decide_eq_decide.2 (by omega)
  rw [h32,h30,h28,e31,h9,h27,h15,c1,c1,c1,c1]
  by_cases a:4294967296≤b.length <;> by_cases c:4294967296≤t.length <;> by_cases d:k=5 <;> by_cases e:4294967296≤ks.length <;> by_cases f:4294967296≤ks.length / 2 <;> simp [a,c,d,e,f]
 rw [e5,e13,e16,e26,e32,h33,Itm.of,Mp.own]
 by_cases a1:k<1∨10<k∨k=7
 ·rw [decide_eq_true a1,if_pos a1];rfl
 rw [decide_eq_false a1,if_neg a1,cond_false]
 by_cases a2:((k=3∨k=4∨k=5∨k=6)∧n≠0)∨(k≠3∧k≠10∧b≠[])∨(k≠4∧t≠[])
 ·rw [decide_eq_true a2,if_pos a2];rfl
 rw [decide_eq_false a2,if_neg a2,cond_false]
 by_cases a3:k≠5∧k≠6∧ks≠[]
 ·rw [decide_eq_true a3,if_pos a3];rfl
 rw [decide_eq_false a3,if_neg a3,cond_false]
 by_cases a4:(k=2∧9223372036854775808≤n)∨(k=8∧(n<20∨22<n))∨(k=10∧127<n)∨(k=6∧ks.length % 2≠0)
 ·rw [decide_eq_true a4,if_pos a4];rfl
 rw [decide_eq_false a4,if_neg a4,cond_false]
 by_cases a5:4294967296≤b.length∨4294967296≤t.length∨(k=5∧4294967296≤ks.length)∨4294967296≤ks.length / 2
 ·rw [decide_eq_true a5,if_pos a5];rfl
 rw [decide_eq_false a5,if_neg a5,cond_false]
 cases hw:Utf.whole t <;> rfl
theorem ref29_Check.l1_ok (n:Nat) (it:Itv) (hb:Itm.bulks it.kids≤1099511627776) (hn:Itm.bulks it.kids<n):∀(m i:Nat) (e:Int),i+m=it.kids.length→ref29_Check.l1 n e i it=some [.i .i64 (if e=0 then Mp.chks (it.kids.drop i) else e)]:=by
 have hk:=Itm.bulk_kids it.kids
 intro m
 induction m with
 | zero =>
  intro i e hi
  refine ref29_Check.l1_in _ _ _ _ ?_
  intro v1 e1 v2 e2 v3 e3 v4 e4
  simp only [Bool.not_or_self,ck_true]
  rw [e2,decide_eq_false (by omega),cond_false,cond_false,List.drop_of_length_le (by omega)]
  split
  ·rename_i h;rw [h];rfl
  ·rfl
 | succ m ih =>
  intro i e hi
  refine ref29_Check.l1_in _ _ _ _ ?_
  intro v1 e1 v2 e2 v3 e3 v4 e4
  simp only [Bool.not_or_self,ck_true]
  have hi':i<it.kids.length:=by omega
  have hb':=Itm.bulks_at it.kids i hi'
  rw [Int.toNat_natCast,Itm.of_val] at e3
  rw [e2,decide_eq_true (by omega),cond_true]
  by_cases a:e=0
  ·rw [decide_eq_true a,cond_true,if_pos a,ck_of (idx_ok (by omega) (by omega)),Int.toNat_natCast,Itm.of_val,ck_of (by rw [decide_eq_true (by omega),decide_eq_true (by omega)];rfl),show v4=((i+1:Nat):Int) by rw [e4,i64_in _ (by omega)];omega,ih _ _ (by omega),e3,Mp.chks_at it.kids i hi']
  ·rw [decide_eq_false a,cond_false,if_neg a]
theorem ref29_Check.goal (n:Nat) (it:Itv) (hp:((decide (Itm.bulk (Itm.of it)≤1099511627776))&&decide ((Itm.bulk (Itm.of it))<n+1))=true):ref29_Check.F n it=some [.i .i64 (Mp.chk (Itm.of it))]:=by
 simp only [Bool.and_eq_true,decide_eq_true_eq] at hp
 obtain ⟨h,hn⟩:=hp
 rw [ref29_Check.F_eq,ck_of (decide_eq_true h)]
 rw [Itm.bulk_of] at h hn
 have hl:=ref29_Check.l1_ok n it (by omega) (by omega) it.kids.length 0 (Mp.own (Itm.of it)) (by omega)
 rw [Mp.chk_of]
 exact hl
theorem u64_small {n:Nat} (h:n<4294967296):(UInt64.ofNat n).toNat=n:=by rw [UInt64.toNat_ofNat'];omega
theorem Mp.sized_text (m:Int):Mp.sized 4 m=if m<32 then (160+m,0) else if m<256 then (217,1) else if m<65536 then (218,2) else (219,4):=by simp [Mp.sized,Mp.fixed,Mp.fix,Mp.tab,Mp.base]
theorem Mp.sized_bytes (m:Int) (h:0≤m):Mp.sized 3 m=if m<256 then (196,1) else if m<65536 then (197,2) else (198,4):=by
 have:¬m<0:=by omega
 simp [Mp.sized,Mp.fixed,Mp.fix,Mp.tab,Mp.base,this]
theorem Mp.sized_list (m:Int):Mp.sized 5 m=if m<16 then (144+m,0) else if m<65536 then (220,2) else (221,4):=by simp [Mp.sized,Mp.fixed,Mp.fix,Mp.tab,Mp.base]
theorem Mp.sized_map (m:Int):Mp.sized 6 m=if m<16 then (128+m,0) else if m<65536 then (222,2) else (223,4):=by simp [Mp.sized,Mp.fixed,Mp.fix,Mp.tab,Mp.base]
theorem Mp.sized_ext (m:Int) (h:0≤m) (h1:m≠1) (h2:m≠2) (h4:m≠4) (h8:m≠8) (h16:m≠16):Mp.sized 10 m=if m<256 then (199,1) else if m<65536 then (200,2) else (201,4):=by
 have:¬m<0:=by omega
 simp [Mp.sized,Mp.fixed,Mp.fix,Mp.tab,Mp.base,this,h1,h2,h4,h8,h16]
theorem Cur.putLow_mod:∀(n:Nat) (v w:UInt64),v.toNat % 256 ^ n=w.toNat % 256 ^ n→Cur.putLow v n=Cur.putLow w n
 | 0,_,_,_=>rfl
 | n+1,v,w,h=>by
  have hd:∀x:Nat,x % 256 ^ (n+1) % 256=x % 256:=fun x=>Nat.mod_mod_of_dvd x ⟨256 ^ n,by rw [Nat.pow_succ,Nat.mul_comm]⟩
  have hq:∀x:Nat,x % 256 ^ (n+1) / 256=x / 256 % 256 ^ n:=fun x=>by rw [Nat.pow_succ,Nat.mul_comm,Nat.mod_mul_right_div_self]
  have h1:v.toUInt8=w.toUInt8:=by
   apply UInt8.toNat_inj.1
   rw [UInt64.toNat_toUInt8,UInt64.toNat_toUInt8]
   have a:=hd v.toNat;have b:=hd w.toNat
   rw [h] at a
   show v.toNat % 256=w.toNat % 256
   omega
  have h2:(v / 256).toNat % 256 ^ n=(w / 256).toNat % 256 ^ n:=by
   rw [UInt64.toNat_div,UInt64.toNat_div,show (256:UInt64).toNat=256 from rfl,←hq,←hq,h]
  rw [Cur.putLow,Cur.putLow,h1,Cur.putLow_mod n _ _ h2]
theorem Cur.putHigh_mod (n:Nat) (v w:UInt64) (h:v.toNat % 256 ^ n=w.toNat % 256 ^ n):Cur.putHigh v n=Cur.putHigh w n:=by
 rw [Cur.putHigh,Cur.putHigh,Cur.putLow_mod n v w h]
theorem Cur.be_snoc (l:Str) (y:UInt8):Cur.be (l++[y])=Cur.be l * 256+y.toUInt64:=by
 rw [Cur.be,List.foldl_append];rfl
theorem Cur.put_be:∀(n:Nat) (l:Str),l.length=n→n≤8→Cur.putHigh (Cur.be l) n=l
 | 0,l,h,_=>by
  have:l=[]:=List.eq_nil_of_length_eq_zero h
  subst this;rfl
 | n+1,l,h,hn=>by
  obtain ⟨l',y,rfl⟩:∃l' y,l=l'++[y]:=⟨l.dropLast,l.getLast (by intro q;rw [q] at h;cases h),(List.dropLast_concat_getLast _).symm⟩
  have hl:l'.length=n:=by simpa using h
  have hb:=Cur.be_bound l' n hl (by omega)
  have hp:256 ^ n≤256 ^ 7:=Nat.pow_le_pow_right (by omega) (by omega)
  have hy:=y.toNat_lt
  have hv:(Cur.be l' * 256+y.toUInt64).toNat=(Cur.be l').toNat * 256+y.toNat:=by
   rw [UInt64.toNat_add,UInt64.toNat_mul,UInt8.toNat_toUInt64,show (256:UInt64).toNat=256 from rfl];omega
  rw [Cur.be_snoc,Cur.putHigh,Cur.putLow,List.reverse_cons]
  have h1:(Cur.be l' * 256+y.toUInt64).toUInt8=y:=by
   apply UInt8.toNat_inj.1
   rw [UInt64.toNat_toUInt8,hv];omega
  have h2:(Cur.be l' * 256+y.toUInt64) / 256=Cur.be l':=by
   apply UInt64.toNat_inj.1
   rw [UInt64.toNat_div,hv,show (256:UInt64).toNat=256 from rfl];omega
  rw [h1,h2]
  have:=Cur.put_be n l' hl (by omega)
  rw [Cur.putHigh] at this
  rw [this]
theorem Cur.be_put:∀(n:Nat) (v:UInt64),n≤8→(Cur.be (Cur.putHigh v n)).toNat=v.toNat % 256 ^ n
 | 0,v,_=>by rw [Nat.pow_zero,Nat.mod_one];rfl
 | n+1,v,hn=>by
  have ih:=Cur.be_put n (v / 256) (by omega)
  have hp:256 ^ n≤256 ^ 7:=Nat.pow_le_pow_right (by omega) (by omega)
  have h1:Cur.putHigh v (n+1)=Cur.putHigh (v / 256) n++[v.toUInt8]:=by rw [Cur.putHigh,Cur.putLow,List.reverse_cons];rfl
  have hlt:(v / 256).toNat % 256 ^ n<256 ^ n:=Nat.mod_lt _ (Nat.pow_pos (by omega))
  rw [h1,Cur.be_snoc,UInt64.toNat_add,UInt64.toNat_mul,ih,UInt8.toNat_toUInt64,UInt64.toNat_toUInt8,show (256:UInt64).toNat=256 from rfl]
  rw [UInt64.toNat_div,show (256:UInt64).toNat=256 from rfl] at hlt ⊢
  have hm:v.toNat % 256 ^ (n+1)=v.toNat % 256+256 * (v.toNat / 256 % 256 ^ n):=by rw [Nat.pow_succ,Nat.mul_comm (256 ^ n),Nat.mod_mul]
  have h8:v.toNat % 2 ^ 8=v.toNat % 256:=rfl
  rw [hm,h8];omega
theorem ofInt_toNat (n:UInt64):UInt64.ofInt (n.toNat:Int)=n:=by
 apply UInt64.toNat_inj.1
 have:=n.toNat_lt
 rw [u64_nat];omega
theorem Mp.first_unsigned (n:UInt64):Mp.first (Mp.unsigned n).1=(1,if (Mp.unsigned n).2=0 then n else 0,(Mp.unsigned n).2)∧0≤(Mp.unsigned n).1∧(Mp.unsigned n).1≤255∧((Mp.unsigned n).2≠0→n.toNat<256 ^ (Mp.unsigned n).2.toNat):=by
 unfold Mp.unsigned
 have hlt:=n.toNat_lt
 by_cases a:n<128
 ·have h:=UInt64.lt_iff_toNat_lt.1 a
  simp at h
  rw [if_pos a]
  refine ⟨?_,by show (0:Int)≤_;omega,by show (n.toNat:Int)≤255;omega,fun h=>(h rfl).elim⟩
  show Mp.first (n.toNat:Int)=(1,n,0)
  rw [Mp.first,if_pos (by omega),ofInt_toNat]
 rw [if_neg a]
 by_cases a:n<256
 ·have h:=UInt64.lt_iff_toNat_lt.1 a
  rw [if_pos a];exact ⟨rfl,by decide,by decide,fun _=>h⟩
 rw [if_neg a]
 by_cases a:n<65536
 ·have h:=UInt64.lt_iff_toNat_lt.1 a
  rw [if_pos a];exact ⟨rfl,by decide,by decide,fun _=>h⟩
 rw [if_neg a]
 by_cases a:n<4294967296
 ·have h:=UInt64.lt_iff_toNat_lt.1 a
  rw [if_pos a];exact ⟨rfl,by decide,by decide,fun _=>h⟩
 rw [if_neg a];exact ⟨rfl,by decide,by decide,fun _=>hlt⟩
theorem Mp.first_signed (n:UInt64):Mp.first (Mp.signed n).1=(2,if (Mp.signed n).2=0 then n else 0,(Mp.signed n).2)∧0≤(Mp.signed n).1∧(Mp.signed n).1≤255∧((Mp.signed n).2=1∧n.toNat<128∨(Mp.signed n).2=2∧n.toNat<32768∨(Mp.signed n).2=4∧n.toNat<2147483648∨(Mp.signed n).2=8∨(Mp.signed n).2=0∧n.toNat<32):=by
 unfold Mp.signed
 by_cases a:n<32
 ·have h:=UInt64.lt_iff_toNat_lt.1 a
  simp at h
  rw [if_pos a]
  refine ⟨?_,by show (0:Int)≤255 - (n.toNat:Int);omega,by show 255 - (n.toNat:Int)≤255;omega,.inr (.inr (.inr (.inr ⟨rfl,h⟩)))⟩
  show Mp.first (255 - (n.toNat:Int))=(2,n,0)
  rw [Mp.first,if_neg (by omega),if_neg (by omega),if_neg (by omega),if_neg (by omega),if_pos (by omega),show 255 - (255 - (n.toNat:Int))=(n.toNat:Int) by omega,ofInt_toNat]
 rw [if_neg a]
 by_cases a:n<128
 ·have h:=UInt64.lt_iff_toNat_lt.1 a
  rw [if_pos a];exact ⟨rfl,by decide,by decide,.inl ⟨rfl,h⟩⟩
 rw [if_neg a]
 by_cases a:n<32768
 ·have h:=UInt64.lt_iff_toNat_lt.1 a
  rw [if_pos a];exact ⟨rfl,by decide,by decide,.inr (.inl ⟨rfl,h⟩)⟩
 rw [if_neg a]
 by_cases a:n<2147483648
 ·have h:=UInt64.lt_iff_toNat_lt.1 a
  rw [if_pos a];exact ⟨rfl,by decide,by decide,.inr (.inr (.inl ⟨rfl,h⟩))⟩
 rw [if_neg a];exact ⟨rfl,by decide,by decide,.inr (.inr (.inr (.inl rfl)))⟩
theorem Mp.first_sized (k:Int) (hk:k=3∨k=4∨k=5∨k=6∨k=10) (m:Nat) (h:m<4294967296) :
  Mp.first (Mp.sized k m).1=(k,if (Mp.sized k m).2=0 then UInt64.ofNat m else 0,(Mp.sized k m).2)∧0≤(Mp.sized k m).1∧(Mp.sized k m).1≤255∧((Mp.sized k m).2≠0→m<256 ^ (Mp.sized k m).2.toNat):=by
 have big:∀(f1 f2 f4:Int),Mp.first f1=(k,0,1)→Mp.first f2=(k,0,2)→Mp.first f4=(k,0,4)→(0≤f1∧f1≤255)→(0≤f2∧f2≤255)→(0≤f4∧f4≤255)→∀S:Int × Int,S=(if (m:Int)<256 then (f1,1) else if (m:Int)<65536 then (f2,2) else (f4,4)) →
   Mp.first S.1=(k,if S.2=0 then UInt64.ofNat m else 0,S.2)∧0≤S.1∧S.1≤255∧(S.2≠0→m<256 ^ S.2.toNat):=by
  intro f1 f2 f4 h1 h2 h4 b1 b2 b4 S hS
  by_cases a:(m:Int)<256
  ·rw [if_pos a] at hS;subst hS;exact ⟨h1,b1.1,b1.2,fun _=>by show m<256;omega⟩
  rw [if_neg a] at hS
  by_cases a:(m:Int)<65536
  ·rw [if_pos a] at hS;subst hS;exact ⟨h2,b2.1,b2.2,fun _=>by show m<65536;omega⟩
  rw [if_neg a] at hS;subst hS;exact ⟨h4,b4.1,b4.2,fun _=>h⟩
 have big2:∀(f2 f4:Int),Mp.first f2=(k,0,2)→Mp.first f4=(k,0,4)→(0≤f2∧f2≤255)→(0≤f4∧f4≤255)→∀S:Int × Int,S=(if (m:Int)<65536 then (f2,2) else (f4,4)) →
   Mp.first S.1=(k,if S.2=0 then UInt64.ofNat m else 0,S.2)∧0≤S.1∧S.1≤255∧(S.2≠0→m<256 ^ S.2.toNat):=by
  intro f2 f4 h2 h4 b2 b4 S hS
  by_cases a:(m:Int)<65536
  ·rw [if_pos a] at hS;subst hS;exact ⟨h2,b2.1,b2.2,fun _=>by show m<65536;omega⟩
  rw [if_neg a] at hS;subst hS;exact ⟨h4,b4.1,b4.2,fun _=>h⟩
 rcases hk with rfl | rfl | rfl | rfl | rfl
 ·exact big 196 197 198 rfl rfl rfl (by omega) (by omega) (by omega) _ (Mp.sized_bytes _ (by omega))
 ·by_cases a:(m:Int)<32
  ·rw [Mp.sized_text,if_pos a]
   refine ⟨?_,by show 0≤160+(m:Int);omega,by show 160+(m:Int)≤255;omega,fun h=>(h rfl).elim⟩
   show Mp.first (160+(m:Int))=(4,UInt64.ofNat m,0)
   rw [Mp.first,if_neg (by omega),if_neg (by omega),if_neg (by omega),if_pos (by omega),show 160+(m:Int) - 160=m by omega,u64_nat']
  ·exact big 217 218 219 rfl rfl rfl (by omega) (by omega) (by omega) _ (by rw [Mp.sized_text,if_neg a])
 ·by_cases a:(m:Int)<16
  ·rw [Mp.sized_list,if_pos a]
   refine ⟨?_,by show 0≤144+(m:Int);omega,by show 144+(m:Int)≤255;omega,fun h=>(h rfl).elim⟩
   show Mp.first (144+(m:Int))=(5,UInt64.ofNat m,0)
   rw [Mp.first,if_neg (by omega),if_neg (by omega),if_pos (by omega),show 144+(m:Int) - 144=m by omega,u64_nat']
  ·exact big2 220 221 rfl rfl (by omega) (by omega) _ (by rw [Mp.sized_list,if_neg a])
 ·by_cases a:(m:Int)<16
  ·rw [Mp.sized_map,if_pos a]
   refine ⟨?_,by show 0≤128+(m:Int);omega,by show 128+(m:Int)≤255;omega,fun h=>(h rfl).elim⟩
   show Mp.first (128+(m:Int))=(6,UInt64.ofNat m,0)
   rw [Mp.first,if_neg (by omega),if_pos (by omega),show 128+(m:Int) - 128=m by omega,u64_nat']
  ·exact big2 222 223 rfl rfl (by omega) (by omega) _ (by rw [Mp.sized_map,if_neg a])
 ·by_cases a:m=1∨m=2∨m=4∨m=8∨m=16
  ·rcases a with rfl | rfl | rfl | rfl | rfl <;> exact ⟨rfl,by decide,by decide,fun h=>(h rfl).elim⟩
  ·exact big 199 200 201 rfl rfl rfl (by omega) (by omega) (by omega) _ (Mp.sized_ext _ (by omega) (by omega) (by omega) (by omega) (by omega) (by omega))
theorem Mp.put_iff (f:Int × Int) (x:UInt64) (c:UInt8) (L:Str) (h0:0≤f.1∧f.1≤255) (h:f.1=(c.toNat:Int)→Cur.high x f.2=L):(Mp.put f x=c :: L) ↔ f.1=(c.toNat:Int):=by
 have hc:UInt8.ofInt f.1=c ↔ f.1=(c.toNat:Int):=by
  obtain ⟨m,hm⟩:∃m:Nat,f.1=m:=⟨f.1.toNat,by omega⟩
  rw [hm]
  constructor
  ·intro q
   have:=congrArg UInt8.toNat q
   rw [u8_nat] at this;omega
  ·intro q
   apply UInt8.toNat_inj.1
   rw [u8_nat];have:=c.toNat_lt;omega
 rw [Mp.put]
 constructor
 ·intro q;injection q with q1 q2;exact hc.1 q1
 ·intro q;rw [hc.2 q,h q]
theorem Cur.high_eq (x:UInt64) (long:Int) (L:Str) (hl:long=0∨long=1∨long=2∨long=4∨long=8) (hL:L.length=long.toNat) (hx:long≠0→x.toNat % 256 ^ long.toNat=(Cur.be L).toNat):Cur.high x long=L:=by
 by_cases a:long=0
 ·subst a
  have:L=[]:=List.eq_nil_of_length_eq_zero hL
  subst this;rfl
 ·have hb:=Cur.be_bound L long.toNat hL (by omega)
  rw [Cur.high,if_pos (by omega),Cur.putHigh_mod long.toNat x (Cur.be L) (by rw [hx a,Nat.mod_eq_of_lt hb]),Cur.put_be _ _ hL (by omega)]
section
variable {c:UInt8} {L:Str} {u:UInt64} {k:Int} {n0:UInt64} {long:Int}
structure Mp.Says (c:UInt8) (L:Str) (u:UInt64) (k:Int) (n0:UInt64) (long:Int):Prop where
 f:Mp.first (c.toNat:Int)=(k,n0,long)
 k0:k≠0
 l:L.length=long.toNat
 u:u=if long=0 then n0 else Cur.be L
theorem Mp.Says.long' (h:Mp.Says c L u k n0 long):long=0∨long=1∨long=2∨long=4∨long=8:=by
 have:=(Mp.first_kinds (c.toNat:Int) ⟨by omega,by have:=c.toNat_lt;omega⟩).2.1
 rw [h.f] at this;exact this
theorem Mp.Says.uL (h:Mp.Says c L u k n0 long):long≠0→u.toNat % 256 ^ long.toNat=(Cur.be L).toNat:=by
 intro a
 have hl:=h.long'
 have hb:=Cur.be_bound L long.toNat h.l (by omega)
 rw [h.u,if_neg a,Nat.mod_eq_of_lt hb]
theorem Mp.want1 (h:Mp.Says c L u 1 n0 long) (ty:UInt64):Mp.want 1 u ty=c :: L ↔ (Mp.unsigned u).1=(c.toNat:Int):=by
 obtain ⟨f,b0,b1,_⟩:=Mp.first_unsigned u
 refine Mp.put_iff (Mp.unsigned u) u c L ⟨b0,b1⟩ fun q=>?_
 rw [q,h.f] at f
 injection f with _ f;injection f with _ f
 rw [←f]
 exact Cur.high_eq u long L h.long' h.l h.uL
theorem Mp.want2 (h:Mp.Says c L u 2 n0 long) (m:UInt64) (hm:if long=0 then m=u else Mp.below u long=some m) (ty:UInt64):Mp.want 2 m ty=c :: L ↔ (Mp.signed m).1=(c.toNat:Int):=by
 obtain ⟨f,b0,b1,_⟩:=Mp.first_signed m
 refine Mp.put_iff (Mp.signed m) (~~~ m) c L ⟨b0,b1⟩ fun q=>?_
 rw [q,h.f] at f
 injection f with _ f;injection f with _ f
 rw [←f]
 refine Cur.high_eq (~~~ m) long L h.long' h.l fun a=>?_
 rw [if_neg a] at hm
 have hl:=h.long'
 have hu:=h.uL a
 have hb:=Cur.be_bound L long.toNat h.l (by omega)
 have hub:u.toNat=(Cur.be L).toNat:=by rw [h.u,if_neg a]
 rw [←hub] at hb ⊢
 have hlt:=u.toNat_lt
 have key:∀(top:UInt64) (N:Nat),N=long.toNat→2 * top.toNat=256 ^ N→N≤8→0<N→(if u<top then none else some (top - 1 - (u - top)):Option UInt64)=some m→(~~~ m).toNat % 256 ^ long.toNat=u.toNat:=by
  intro top N hN ht h8 hN0 he
  subst hN
  split at he
  ·cases he
  rename_i a'
  have a2:top.toNat≤u.toNat:=Nat.le_of_not_lt fun h=>a' (UInt64.lt_iff_toNat_lt.2 h)
  injection he with he
  have hp1:256 ^ 1≤256 ^ long.toNat:=Nat.pow_le_pow_right (by omega) hN0
  have hp8:256 ^ long.toNat≤256 ^ 8:=Nat.pow_le_pow_right (by omega) h8
  have e1:(1:UInt64).toNat=1:=rfl
  have h1:(top - 1).toNat=top.toNat - 1:=by rw [UInt64.toNat_sub_of_le _ _ (by rw [UInt64.le_iff_toNat_le,e1];omega),e1]
  have h2:(u - top).toNat=u.toNat - top.toNat:=UInt64.toNat_sub_of_le _ _ (UInt64.le_iff_toNat_le.2 a2)
  have hm':m.toNat=256 ^ long.toNat - 1 - u.toNat:=by
   rw [←he,UInt64.toNat_sub_of_le _ _ (by rw [UInt64.le_iff_toNat_le,h1,h2];omega),h1,h2];omega
  obtain ⟨d,hd⟩:∃d,18446744073709551616=256 ^ long.toNat * d:=⟨256 ^ (8 - long.toNat),by rw [←Nat.pow_add,show long.toNat+(8 - long.toNat)=8 by omega]⟩
  have hd1:1≤d:=by
   rcases Nat.eq_zero_or_pos d with q | q
   ·subst q;simp at hd
   ·exact q
  obtain ⟨d',rfl⟩:∃d',d=d'+1:=⟨d - 1,by omega⟩
  rw [not_u64,hm',show 18446744073709551615 - (256 ^ long.toNat - 1 - u.toNat)=u.toNat+256 ^ long.toNat * d' by rw [Nat.mul_add,Nat.mul_one] at hd;omega,Nat.add_mul_mod_self_left,Nat.mod_eq_of_lt hb]
 unfold Mp.below at hm
 rcases (by omega:long=1∨long=2∨long=4∨long=8) with q | q | q | q
 ·exact key 128 1 (by rw [q];rfl) rfl (by omega) (by omega) (by simpa [q] using hm)
 ·exact key 32768 2 (by rw [q];rfl) rfl (by omega) (by omega) (by simpa [q] using hm)
 ·exact key 2147483648 4 (by rw [q];rfl) rfl (by omega) (by omega) (by simpa [q] using hm)
 ·exact key 9223372036854775808 8 (by rw [q];rfl) rfl (by omega) (by omega) (by simpa [q] using hm)
set_option maxRecDepth 100000 in
theorem Mp.first89:∀m:Fin 256,((Mp.first (m.val:Int)).1=8→(Mp.first (m.val:Int)).2.2=0∧(20≤(Mp.first (m.val:Int)).2.1∧(Mp.first (m.val:Int)).2.1≤22)∧Mp.head (.mk 8 (Mp.first (m.val:Int)).2.1 [] [] [])=[UInt8.ofNat m.val])∧((Mp.first (m.val:Int)).1=9→m.val=203∧(Mp.first (m.val:Int)).2.2=8):=by decide +kernel
theorem Mp.want8 (h:Mp.Says c L u 8 n0 long) (ty:UInt64):Mp.want 8 u ty=c :: L∧20≤u∧u≤22:=by
 have q:=(Mp.first89 ⟨c.toNat,c.toNat_lt⟩).1
 simp only [h.f] at q
 obtain ⟨q1,q2,q3⟩:=q trivial
 have hL:=h.l
 have hu:=h.u
 rw [q1] at hL hu
 rw [if_pos rfl] at hu
 have:L=[]:=List.eq_nil_of_length_eq_zero hL
 subst this hu
 refine ⟨?_,q2⟩
 rw [show Mp.want 8 u ty=Mp.head (.mk 8 u [] [] []) from rfl,q3,UInt8.ofNat_toNat]
theorem Mp.want9 (h:Mp.Says c L u 9 n0 long) (ty:UInt64):Mp.want 9 u ty=c :: L:=by
 have q:=(Mp.first89 ⟨c.toNat,c.toNat_lt⟩).2
 simp only [h.f] at q
 obtain ⟨q1,q2⟩:=q trivial
 have e:=Cur.high_eq u long L h.long' h.l h.uL
 rw [q2] at e
 rw [show Mp.want 9 u ty=UInt8.ofInt 203 :: Cur.high u 8 from rfl,e]
 congr 1
 apply UInt8.toNat_inj.1
 rw [q1];rfl
end
section
variable {n:Nat} {b:Str} {p w d k q:Int} {u t:UInt64}
def Mp.body (b:Str) (f:Int→Mp.Got) (p k:Int) (u t:UInt64) (q:Int):Mp.Got :=
 if k=4∨k=3∨k=10 then Mp.row b (.mk k t [] [] []) p q u.toNat
 else if k=6 then Mp.kids f (.mk k 0 [] [] []) (2 * u.toNat) q
 else if k=5 then Mp.kids f (.mk k 0 [] [] []) u.toNat q
 else ⟨.mk k u [] [] [],0,0,q⟩
end
section
variable {c:UInt8} {L:Str} {u:UInt64} {k:Int} {n0:UInt64} {long:Int}
theorem Mp.Says.kinds (h:Mp.Says c L u k n0 long):(k=1∨k=2∨k=3∨k=4∨k=5∨k=6∨k=8∨k=9∨k=10)∧(long=8→k=1∨k=2∨k=9)∧(long=0→u.toNat≤127)∧(k=2→long=0→u.toNat≤31):=by
 have hc:0≤(c.toNat:Int)∧(c.toNat:Int)≤255:=⟨by omega,by have:=c.toNat_lt;omega⟩
 obtain ⟨F1,_,F3,F4,F5⟩:=Mp.first_kinds _ hc
 rw [h.f] at F1 F3 F4 F5
 simp only at F1 F3 F4 F5
 have hk0:=h.k0
 refine ⟨by omega,F3,fun a=>?_,fun a b=>?_⟩
 ·rw [h.u,if_pos a];exact F4 a
 ·rw [h.u,if_pos b];exact F5 a b
theorem Mp.Says.u8 (h:Mp.Says c L u k n0 long):long≠0→u.toNat<256 ^ long.toNat:=by
 intro a
 have hl:=h.long'
 rw [h.u,if_neg a]
 exact Cur.be_bound L long.toNat h.l (by omega)
theorem Mp.Says.u32 (h:Mp.Says c L u k n0 long) (hk:k=4∨k=3∨k=10∨k=5∨k=6):u.toNat<4294967296:=by
 obtain ⟨_,F3,F4,_⟩:=h.kinds
 by_cases a3:long=0
 ·have:=F4 a3;omega
 ·have hq3:=h.u8 a3
  have h124:long=1∨long=2∨long=4:=by
   rcases h.long' with h | h | h | h | h
   ·exact (a3 h).elim
   ·exact .inl h
   ·exact .inr (.inl h)
   ·exact .inr (.inr h)
   ·have:=F3 h;omega
  clear F3 F4 hk a3
  rcases h124 with h | h | h
  ·rw [h] at hq3;exact Nat.lt_trans hq3 (by decide)
  ·rw [h] at hq3;exact Nat.lt_trans hq3 (by decide)
  ·rw [h] at hq3;exact hq3
end
section
variable {n:Nat} {b:Str} {p w d k:Int} {u n0:UInt64} {long:Int}
end
theorem drop_take_split (b:Str) (p long:Nat) (h:p+1+long≤b.length):(b.drop p).take (1+long)=b.getD p 0 :: (b.drop (p+1)).take long:=by
 rw [drop_cons (show p<b.length by omega) 0,Nat.add_comm 1 long,List.take_succ_cons]
theorem getD_dropped (b:Str) (i j:Nat):(b.drop i).getD j 0=b.getD (i+j) 0:=by
 rw [List.getD_eq_getElem?_getD,List.getElem?_drop,List.getD_eq_getElem?_getD]
theorem take_snoc (l:Str) (m:Nat) (h:m<l.length):l.take (m+1)=l.take m++[l.getD m 0]:=by
 rw [List.take_succ_eq_append_getElem h,List.getD_eq_getElem?_getD,List.getElem?_eq_getElem h];rfl
mutual
theorem Itm.same_refl:∀(a:Itm),Itm.same a a=true
 | .mk k n b t ks=>by rw [Itm.same];simp [Itm.sames_refl ks]
theorem Itm.sames_refl:∀(l:List Itm),Itm.sames l l=true
 | []=>by rw [Itm.sames]
 | k :: r=>by rw [Itm.sames,Itm.same_refl k,Itm.sames_refl r];rfl
end
theorem Itm.sames_len:∀(a b:List Itm),a.length≠b.length→Itm.sames a b=false
 | [],[],h=>(h rfl).elim
 | [],_ :: _,_=>by rw [Itm.sames]
 | _ :: _,[],_=>by rw [Itm.sames]
 | k :: r,k' :: r',h=>by rw [Itm.sames,Itm.sames_len r r' (fun e=>h (by simp [e])),Bool.and_false]
theorem ref28_Same.l1_ok (n:Nat) (a b:Itv) (hb:Itm.bulks a.kids≤1099511627776) (hn:Itm.bulks a.kids<n) (hl:a.kids.length=b.kids.length):∀(m i:Nat),i+m=a.kids.length→ref28_Same.l1 n i a b=some [.b (Itm.sames (a.kids.drop i) (b.kids.drop i))]:=by
 have hk:=Itm.bulk_kids a.kids
 intro m
 induction m with
 | zero =>
  intro i hi
  refine ref28_Same.l1_in _ _ _ _ ?_
  intro v1 e1 v2 e2 v3 e3
  rw [decide_eq_false (by omega),cond_false,List.drop_of_length_le (by omega),List.drop_of_length_le (by omega),Itm.sames]
 | succ m ih =>
  intro i hi
  refine ref28_Same.l1_in _ _ _ _ ?_
  intro v1 e1 v2 e2 v3 e3
  have hi':i<a.kids.length:=by omega
  have hi2:i<b.kids.length:=by omega
  have hb':=Itm.bulks_at a.kids i hi'
  rw [Int.toNat_natCast,Itm.of_val,Itm.of_val] at e2
  rw [decide_eq_true (by omega),cond_true,ck_of (idx_ok (by omega) (by omega)),ck_of (idx_ok (by omega) (by omega)),Int.toNat_natCast,Itm.of_val,ck_of (by rw [decide_eq_true (by omega),decide_eq_true (by omega)];rfl),drop_cons hi' (STy.dflt .il),drop_cons hi2 (STy.dflt .il),Itm.sames,←e2]
  cases v2 with
  | false=>rfl
  | true=>rw [Bool.not_true,cond_false,Bool.true_and,show v3=((i+1:Nat):Int) by rw [e3,i64_in _ (by omega)];omega,ih _ (by omega)]
theorem ref28_Same.goal (n:Nat) (a b:Itv) (hp:((decide (Itm.bulk (Itm.of a)≤1099511627776))&&decide ((Itm.bulk (Itm.of a))<n+1))=true):ref28_Same.F n a b=some [.b (Itm.same (Itm.of a) (Itm.of b))]:=by
 simp only [Bool.and_eq_true,decide_eq_true_eq] at hp
 obtain ⟨h,hn⟩:=hp
 rw [Itm.bulk_of] at h hn
 refine ref28_Same.F_in _ _ _ ?_
 intro v1 e1 v2 e2 v3 e3 v4 e4 v5 e5 v6 e6 v7 e7
 have c1:((!decide (a.kind=b.kind)) || v1)=true:=by rw [e1];cases decide (a.kind=b.kind) <;> rfl
 simp only [Bool.not_or_self,Bool.or_not_self,Bool.and_self,ck_true,c1]
 rw [e7,e4,e3,e2,e5,e6]
 simp only [Itm.of,Itm.same]
 by_cases a1:a.kind=b.kind
 ·by_cases a2:a.n=b.n
  ·by_cases a3:a.text=b.text
   ·by_cases a4:a.bytes=b.bytes
    ·by_cases a5:a.kids.length=b.kids.length
     ·have hl:=ref28_Same.l1_ok n a b (by omega) (by omega) a5 a.kids.length 0 (by omega)
      rw [decide_eq_true a1,decide_eq_true a2,decide_eq_true a3,decide_eq_true a4,decide_eq_true (show (a.kids.length:Int)=b.kids.length by omega)]
      simpa using hl
     ·rw [decide_eq_false (show ¬(a.kids.length:Int)=b.kids.length by omega),Itm.sames_len _ _ a5]
      simp [a1,a2,a3,a4]
    ·simp [a4]
   ·simp [a3]
  ·simp [a2]
 ·simp [a1]
end Go.Eng
namespace Go.Eng
open Go.IntWalk
theorem Mp.put_pos (f:Int × Int) (n:UInt64):1≤(Mp.put f n).length:=by simp [Mp.put]
theorem Mp.head_pos (it:Itm):1≤(Mp.head it).length:=by
 obtain ⟨k,n,b,t,ks⟩:=it
 unfold Mp.head
 repeat' split
 all_goals first | exact Mp.put_pos _ _ | simp
mutual
theorem Mp.bulk_lay:∀(it:Itm),Itm.bulk it≤(Mp.lay it).length
 | .mk k n b t ks=>by
  have h1:=Mp.head_pos (.mk k n b t ks)
  have h2:=Mp.bulks_lays ks
  simp only [Mp.lay,Itm.bulk,List.length_append];omega
theorem Mp.bulks_lays:∀(ks:List Itm),Itm.bulks ks≤(Mp.lays ks).length
 | []=>Nat.zero_le _
 | k :: r=>by
  have h1:=Mp.bulk_lay k
  have h2:=Mp.bulks_lays r
  simp only [Mp.lays,Itm.bulks,List.length_append];omega
end
theorem Mp.lay_size (it:Itm):(Mp.lay it).length≤10+it.bytes.length+it.text.length+(Mp.lays it.kids).length∧1+it.bytes.length+it.text.length+(Mp.lays it.kids).length≤(Mp.lay it).length:=by
 obtain ⟨k,n,b,t,ks⟩:=it
 have h1:=Mp.head_len (.mk k n b t ks)
 have h2:=Mp.head_pos (.mk k n b t ks)
 simp only [Mp.lay,Itm.bytes,Itm.text,Itm.kids,List.length_append];omega
namespace Tree
theorem fine_cons {f:Fld} {r:List Fld}:fines (f :: r)=true ↔ fine f=true∧fines r=true:=by rw [fines,Bool.and_eq_true]
mutual
theorem fine_chk:∀(f:Fld) (p:List Int),(chkF f p).2=0 ↔ fine f=true
 | .mk n k b h l t m s y ks,p=>by
  rw [chkF,fine,Bool.and_eq_true,decide_eq_true_eq]
  by_cases a:ownN ⟨k,b,h,l,t,m,s,y,ks⟩ n=0
  ·rw [if_neg (by simpa using a),fines_chk ks 0 p]
   exact ⟨fun h=>⟨a,h⟩,fun h=>h.2⟩
  ·rw [if_pos a]
   exact ⟨fun h=>absurd h a,fun h=>absurd h.1 a⟩
theorem fines_chk:∀(l:List Fld) (i:Nat) (p:List Int),(chkL l i p).2=0 ↔ fines l=true
 | [],i,p=>by rw [chkL,fines];exact ⟨fun _=>rfl,fun _=>rfl⟩
 | f :: r,i,p=>by
  rw [chkL,fine_cons]
  by_cases a:(chkF f (p++[(i:Int)])).2=0
  ·rw [if_neg (by simpa using a),fines_chk r (i+1) p]
   exact ⟨fun h=>⟨(fine_chk f _).1 a,h⟩,fun h=>h.2⟩
  ·rw [if_pos a]
   exact ⟨fun h=>absurd h a,fun h=>absurd ((fine_chk f _).2 h.1) a⟩
end
theorem ownN_own {v:Val} {n:Str} (h:ownN v n=0):own v=0∧Utf.whole n=true∧Utf.zero n=false:=by
 unfold ownN at h
 by_cases a:own v=0
 ·rw [if_neg (by simpa using a)] at h
  refine ⟨a,?_⟩
  by_cases b:wholeT n true=false
  ·rw [if_pos b] at h;cases h
  ·simp only [Bool.not_eq_false] at b
   unfold wholeT at b
   simpa using b
 ·rw [if_pos a] at h;exact absurd h a
theorem own_ownN {v:Val} {n:Str} (h:own v=0) (hn:Utf.whole n=true∧Utf.zero n=false):ownN v n=0:=by
 unfold ownN
 rw [if_neg (by simpa using h),if_neg (by unfold wholeT;rw [hn.1,hn.2];decide)]
theorem fine_of (n:Str) (v:Val):fine (Fld.of n v)=true ↔ own v=0∧(Utf.whole n=true∧Utf.zero n=false)∧fines v.kids=true:=by
 obtain ⟨k,b,h,l,t,m,s,y,ks⟩:=v
 rw [Fld.of,fine,Bool.and_eq_true,decide_eq_true_eq]
 exact ⟨fun h=>⟨(ownN_own h.1).1,(ownN_own h.1).2,h.2⟩,fun h=>⟨own_ownN h.1 h.2.1,h.2.2⟩⟩
theorem fine_any {n:Str} {v:Val} (h:fine (Fld.of n v)=true):fine (Fld.of [] v)=true:=by
 have:=(fine_of n v).1 h
 exact (fine_of [] v).2 ⟨this.1,⟨by decide,by decide⟩,this.2.2⟩
theorem fine_val (f:Fld) (h:fine f=true):fine (Fld.of [] f.val)=true:=by
 cases f with
 | mk n k b hh l t m s y ks=>exact fine_any (n:=n) h
end Tree
namespace Dk
theorem item_of (n:Str) (v:Val):item (Fld.of n v)=itemOf v (mapped v.kids) (items v.kids):=by cases v;rfl
theorem inner_len (v:Val) (m:Str):(inner v m).length≤16+v.text.length+v.more.length+v.bytes.length+m.length:=by
 unfold inner
 repeat' split
 all_goals first | omega | (simp only [List.length_append,List.length_cons,List.length_nil,Cur.putHigh_len,Db.words];omega) | exact Nat.zero_le _
theorem integer_lay (x:Int):(Mp.lay (Db.integer x)).length≤10:=by
 unfold Db.integer
 split
 ·exact (Mp.lay_size _).1
 ·exact (Mp.lay_size _).1
theorem map_lay (m:List Itm):(Mp.lay (Db.map m)).length≤10+(Mp.lays m).length:=by
 have:=(Mp.lay_size (Db.map m)).1
 simpa [Db.map,Itm.bytes,Itm.text,Itm.kids] using this
theorem itemOf_lay (v:Val) (m l:List Itm):(Mp.lay (itemOf v m l)).length≤40+v.text.length+v.more.length+v.bytes.length+max (Mp.lays m).length (Mp.lays l).length:=by
 have h1:=map_lay m
 have h2:=inner_len v (Mp.lay (Db.map m))
 have h3:=integer_lay (Db.i32 v.bits)
 unfold itemOf
 repeat' split
 all_goals first | omega | skip
 all_goals refine Nat.le_trans (Mp.lay_size _).1 ?_
 all_goals simp only [Db.text,Db.list,Db.raw,Db.simple,ext,Itm.bytes,Itm.text,Itm.kids,List.length_nil,Mp.lays]
 all_goals omega
mutual
theorem item_lay:∀f:Fld,(Mp.lay (item f)).length+20+f.name.length≤64 * Fld.bulk f
 | .mk n k b h lo t m s y ks=>by
  have h1:=mapped_lay ks
  have h2:=items_lay ks
  have h3:=itemOf_lay ⟨k,b,h,lo,t,m,s,y,ks⟩ (mapped ks) (items ks)
  simp only [item,Fld.bulk,Fld.name] at h3 ⊢
  omega
theorem mapped_lay:∀l:List Fld,(Mp.lays (mapped l)).length≤64 * Fld.bulks l
 | []=>Nat.zero_le _
 | f :: r=>by
  have h1:=item_lay f
  have h2:=mapped_lay r
  have h3:=(Mp.lay_size (Db.text f.name)).1
  simp only [Db.text,Itm.bytes,Itm.text,Itm.kids,Mp.lays,List.length_nil] at h3
  simp only [mapped,Mp.lays,Fld.bulks,List.length_append,Db.text];omega
theorem items_lay:∀l:List Fld,(Mp.lays (items l)).length≤64 * Fld.bulks l
 | []=>Nat.zero_le _
 | f :: r=>by
  have h1:=item_lay f
  have h2:=items_lay r
  simp only [items,Mp.lays,Fld.bulks,List.length_append];omega
end
theorem map_bulk (l:List Fld):Itm.bulk (Db.map (mapped l))≤64 * Fld.bulks l+10:=by
 have h1:=mapped_lay l
 have h2:=Mp.bulk_lay (Db.map (mapped l))
 have h3:=map_lay (mapped l)
 omega
theorem mapped_len:∀l:List Fld,(mapped l).length=2 * l.length
 | []=>rfl
 | f :: r=>by rw [mapped,List.length_cons,List.length_cons,mapped_len r,List.length_cons];omega
theorem len_bulks:∀l:List Fld,l.length≤Fld.bulks l
 | []=>Nat.zero_le _
 | f :: r=>by
  have:=len_bulks r
  cases f
  simp only [List.length_cons,Fld.bulks,Fld.bulk];omega
theorem items_len:∀l:List Fld,(items l).length=l.length
 | []=>rfl
 | f :: r=>by rw [items,List.length_cons,List.length_cons,items_len r]
end Dk
end Go.Eng
namespace Go.Eng
open Go.IntWalk
theorem not_ofInt (v:Int) (h:v<0) (h2 : -9223372036854775808≤v) : ~~~(UInt64.ofInt v)=UInt64.ofInt (-(v+1)):=by
 apply UInt64.toNat_inj.1
 have h1:=u64_ofInt (-(v+1))
 have h3:=u64_ofInt v
 rw [wrap_u64'] at h1 h3
 rw [not_u64]
 omega
theorem i32_rng (x:Int) : -2147483648≤IntKind.i32.wrap x∧IntKind.i32.wrap x≤2147483647:=by
 simp only [IntKind.wrap,IntKind.bits,IntKind.signed]
 simp
 omega
theorem i64_i32 (x:Int):IntKind.i64.wrap (IntKind.i32.wrap x)=IntKind.i32.wrap x:=by
 have:=i32_rng x
 exact i64_in _ (by omega)
theorem Db.numberI_eq (it:Itm) (h:(Db.number it).isSome=true):Db.numberI it=(Db.number it).getD 0:=by
 unfold Db.number Db.numberI at *
 by_cases a:9223372036854775808≤it.n
 ·rw [if_pos a] at h;cases h
 rw [if_neg a] at h ⊢
 rw [if_neg a]
 by_cases b:it.kind=1
 ·rw [if_pos b,if_neg (by omega)];rfl
 rw [if_neg b] at h ⊢
 by_cases c:it.kind=2
 ·rw [if_pos c,if_pos c];rfl
 rw [if_neg c] at h;cases h
end Go.Eng
namespace Go.Eng
open Go.IntWalk
theorem whole_nil:Utf.whole []=true:=by decide
namespace Dk
theorem chk_text {s:Str} (h:Utf.whole s=true) (hl:s.length<4294967296):Mp.chk (Db.text s)=0:=by
 rw [Db.text,Mp.chk,if_pos (show Mp.own (.mk 4 0 [] s [])=0 by simp [Mp.own,h];omega)];rfl
theorem chk_raw {b:Str} (hl:b.length<4294967296):Mp.chk (Db.raw b)=0:=by
 rw [Db.raw,Mp.chk,if_pos (show Mp.own (.mk 3 0 b [] [])=0 by simp [Mp.own,whole_nil];omega)];rfl
theorem chk_float (n:UInt64):Mp.chk (.mk 9 n [] [] [])=0:=by
 rw [Mp.chk,if_pos (show Mp.own (.mk 9 n [] [] [])=0 by simp [Mp.own,whole_nil])];rfl
theorem chk_plus (n:UInt64):Mp.chk (.mk 1 n [] [] [])=0:=by
 rw [Mp.chk,if_pos (show Mp.own (.mk 1 n [] [] [])=0 by simp [Mp.own,whole_nil])];rfl
theorem chk_neg {n:UInt64} (h:¬9223372036854775808≤n):Mp.chk (.mk 2 n [] [] [])=0:=by
 rw [Mp.chk,if_pos (show Mp.own (.mk 2 n [] [] [])=0 by simp [Mp.own,whole_nil];simpa using h)];rfl
theorem chk_simple {n:UInt64} (h:¬(n<20∨22<n)):Mp.chk (Db.simple n)=0:=by
 simp only [not_or] at h
 rw [Db.simple,Mp.chk,if_pos (show Mp.own (.mk 8 n [] [] [])=0 by simp [Mp.own,whole_nil,h.1,h.2])];rfl
theorem chk_ext {n:UInt64} {b:Str} (h:¬127<n) (hl:b.length<4294967296):Mp.chk (.mk 10 n b [] [])=0:=by
 rw [Mp.chk,if_pos (show Mp.own (.mk 10 n b [] [])=0 by simp [Mp.own,whole_nil,h];omega)];rfl
theorem chk_list {l:List Itm} (h:Mp.chks l=0) (hl:l.length<4294967296):Mp.chk (Db.list l)=0:=by
 rw [Db.list,Mp.chk,if_pos (show Mp.own (.mk 5 0 [] [] l)=0 by simp [Mp.own,whole_nil];omega)];exact h
theorem chk_map {l:List Itm} (h:Mp.chks l=0) (he:l.length % 2=0) (hl:l.length<4294967296):Mp.chk (Db.map l)=0:=by
 rw [Db.map,Mp.chk,if_pos (show Mp.own (.mk 6 0 [] [] l)=0 by simp [Mp.own,whole_nil,he];omega)];exact h
theorem chk_integer {x:Int} (h : -2147483648≤x):Mp.chk (Db.integer x)=0:=by
 unfold Db.integer
 split
 ·refine chk_neg fun a=>?_
  obtain ⟨m,hm⟩:∃m:Nat,-(x+1)=m:=⟨(-(x+1)).toNat,by omega⟩
  have:=UInt64.le_iff_toNat_le.1 a
  rw [hm,u64_nat] at this
  have e:(9223372036854775808:UInt64).toNat=9223372036854775808:=rfl
  omega
 ·exact chk_plus _
theorem kind_of {v:Val} (h:Tree.own v=0):v.kind∈Tree.kinds∧Tree.fieldsOK v=true∧Utf.whole v.text=true:=by
 unfold Tree.own at h
 by_cases a:Tree.name v.kind=[]
 ·rw [if_pos a] at h;cases h
 rw [if_neg a] at h
 by_cases b:Tree.fieldsOK v=false
 ·rw [if_pos b] at h;cases h
 rw [if_neg b] at h
 by_cases c:Tree.wholeT v.text (decide (v.kind=11))=false∨Tree.wholeT v.more (decide (v.kind=11))=false
 ·rw [if_pos c] at h;cases h
 refine ⟨Classical.byContradiction fun h=>a (Tree.name_none _ h),by simpa using b,?_⟩
 have c:=(not_or.1 c).1
 simp only [Bool.not_eq_false] at c
 unfold Tree.wholeT at c
 rw [Bool.and_eq_true] at c
 exact c.1
theorem sort_le {k:Int} (h:k∈Tree.kinds):¬127<sort k:=by
 simp only [Tree.kinds,List.mem_cons,List.not_mem_nil,or_false] at h
 rcases h with rfl | rfl | rfl | rfl | rfl | rfl | rfl | rfl | rfl | rfl | rfl | rfl | rfl | rfl | rfl | rfl | rfl | rfl | rfl | rfl | rfl <;> decide
theorem bool_of {v:Val} (h:Tree.fieldsOK v=true) (hk:v.kind=8):¬(20+v.bits<20∨22<20+v.bits):=by
 obtain ⟨k,b,hh,l,t,m,s,y,ks⟩:=v
 have hk:k=8:=hk
 subst hk
 simp [Tree.fieldsOK,Tree.hasN] at h
 have hb:b.toNat<2:=UInt64.lt_iff_toNat_lt.1 h.1.2
 show ¬(20+b<20∨22<20+b)
 rcases (by omega:b.toNat=0∨b.toNat=1) with e | e
 ·rw [show b=0 from UInt64.toNat_inj.1 e];decide
 ·rw [show b=1 from UInt64.toNat_inj.1 e];decide
theorem itemOf_chk {v:Val} {m l:List Itm} (ho:Tree.own v=0) (hm:Mp.chks m=0) (he:m.length % 2=0) (hl:Mp.chks l=0) (h1:v.text.length≤2000000) (h2:v.more.length≤2000000) (h3:v.bytes.length≤2000000) (h4:m.length≤3000000) (h5:l.length≤3000000) (h6:(Mp.lays m).length≤200000000):Mp.chk (itemOf v m l)=0:=by
 obtain ⟨hk,hf,hw⟩:=kind_of ho
 have h7:=inner_len v (Mp.lay (Db.map m))
 have h8:=map_lay m
 unfold itemOf
 by_cases a1:v.kind=1
 ·rw [if_pos a1];exact chk_float _
 rw [if_neg a1]
 by_cases a2:v.kind=2
 ·rw [if_pos a2];exact chk_text hw (by omega)
 rw [if_neg a2]
 by_cases a3:v.kind=3
 ·rw [if_pos a3];exact chk_map hm he (by omega)
 rw [if_neg a3]
 by_cases a4:v.kind=4∧Tree.regular v.kids=true
 ·rw [if_pos a4];exact chk_list hl (by omega)
 rw [if_neg a4]
 by_cases a5:v.kind=5∧v.sub=0
 ·rw [if_pos a5];exact chk_raw (by omega)
 rw [if_neg a5]
 by_cases a6:v.kind=10
 ·rw [if_pos a6];exact chk_simple (by decide)
 rw [if_neg a6]
 by_cases a7:v.kind=8
 ·rw [if_pos a7];exact chk_simple (bool_of hf a7)
 rw [if_neg a7]
 by_cases a8:v.kind=16
 ·rw [if_pos a8];exact chk_integer (by unfold Db.i32;exact (i32_rng _).1)
 rw [if_neg a8]
 exact chk_ext (sort_le hk) (by omega)
theorem fld_lens (n:Str) (k:Int) (b h l:UInt64) (t m:Str) (s:Int) (y:List UInt8) (ks:List Fld) (hb:Fld.bulk (.mk n k b h l t m s y ks)≤1048576):n.length≤1048576∧t.length≤1048576∧m.length≤1048576∧y.length≤1048576∧Fld.bulks ks≤1048576:=by
 simp only [Fld.bulk] at hb;omega
mutual
theorem item_chk:∀f:Fld,Tree.fine f=true→Fld.bulk f≤1048576→Mp.chk (item f)=0
 | .mk n k b h lo t m s y ks,hf,hb=>by
  obtain ⟨b1,b2,b3,b4,b5⟩:=fld_lens _ _ _ _ _ _ _ _ _ _ hb
  have hf':=(Tree.fine_of n ⟨k,b,h,lo,t,m,s,y,ks⟩).1 hf
  have h1:=mapped_chk ks hf'.2.2 b5
  have h2:=items_chk ks hf'.2.2 b5
  have h3:=len_bulks ks
  have h4:=mapped_lay ks
  rw [item]
  exact itemOf_chk hf'.1 h1 (by rw [mapped_len];omega) h2 (by show t.length≤_;omega) (by show m.length≤_;omega) (by show y.length≤_;omega) (by rw [mapped_len];omega) (by rw [items_len];omega) (by omega)
theorem mapped_chk:∀l:List Fld,Tree.fines l=true→Fld.bulks l≤1048576→Mp.chks (mapped l)=0
 | [],_,_=>by rw [mapped,Mp.chks]
 | f :: r,hf,hb=>by
  have hf':=Tree.fine_cons.1 hf
  simp only [Fld.bulks] at hb
  have h1:=item_chk f hf'.1 (by omega)
  have h2:=mapped_chk r hf'.2 (by omega)
  have h3:Utf.whole f.name=true∧f.name.length≤1048576:=by
   cases f with
   | mk n k b h lo t m s y ks=>exact ⟨((Tree.fine_of n ⟨k,b,h,lo,t,m,s,y,ks⟩).1 hf'.1).2.1.1,(fld_lens n k b h lo t m s y ks (by omega)).1⟩
  rw [mapped,Mp.chks,if_pos (chk_text h3.1 (by omega)),Mp.chks,if_pos h1];exact h2
theorem items_chk:∀l:List Fld,Tree.fines l=true→Fld.bulks l≤1048576→Mp.chks (items l)=0
 | [],_,_=>by rw [items,Mp.chks]
 | f :: r,hf,hb=>by
  have hf':=Tree.fine_cons.1 hf
  simp only [Fld.bulks] at hb
  have h1:=item_chk f hf'.1 (by omega)
  have h2:=items_chk r hf'.2 (by omega)
  rw [items,Mp.chks,if_pos h1];exact h2
end
theorem map_chk (l:List Fld) (hf:Tree.fines l=true) (hb:Fld.bulks l≤1048576):Mp.chk (Db.map (mapped l))=0:=by
 have:=len_bulks l
 exact chk_map (mapped_chk l hf hb) (by rw [mapped_len];omega) (by rw [mapped_len];omega)
end Dk
end Go.Eng
namespace Go.Eng
open Go.IntWalk
theorem Mp.head_read (pre rest:Str) (f:Int × Int) (x:UInt64) (k:Int) (n0:UInt64) (d:Nat) (h0:0≤f.1∧f.1≤255) (hf:Mp.first f.1=(k,n0,f.2)) (hk:k≠0) (hl:f.2=0∨f.2=1∨f.2=2∨f.2=4∨f.2=8) :
  Mp.read (pre++(Mp.put f x++rest)) (d+1) pre.length=Mp.readTail (pre++(Mp.put f x++rest)) (Mp.read (pre++(Mp.put f x++rest)) d) pre.length f.1 k (if f.2=0 then n0 else Cur.be (Cur.high x f.2)) f.2 ((pre.length:Int)+1+f.2):=by
 have hh:(Cur.high x f.2).length=f.2.toNat:=by
  unfold Cur.high
  split
  ·rw [Cur.putHigh_len]
  ·have:f.2=0:=by omega
   rw [this];rfl
 generalize hb:pre++(Mp.put f x++rest)=b
 have hlen:b.length=pre.length+(1+f.2.toNat)+rest.length:=by
  rw [←hb];simp only [List.length_append,Mp.put,List.length_cons,hh];omega
 have hc:b.getD pre.length 0=UInt8.ofInt f.1:=by
  rw [←hb,List.getD_eq_getElem?_getD,List.getElem?_append_right (Nat.le_refl _),Nat.sub_self];rfl
 have hcn:((UInt8.ofInt f.1).toNat:Int)=f.1:=by
  obtain ⟨m,hm⟩:∃m:Nat,f.1=m:=⟨f.1.toNat,by omega⟩
  rw [hm,u8_nat];omega
 have hd:(b.drop (pre.length+1)).take f.2.toNat=Cur.high x f.2:=by
  rw [←hb,show pre++(Mp.put f x++rest)=(pre++[UInt8.ofInt f.1])++(Cur.high x f.2++rest) by simp [Mp.put],List.drop_left' (by simp),List.take_left' hh]
 rw [Mp.read,if_neg (by omega),Int.toNat_natCast,hc,hcn,hf,Mp.readAt,if_neg hk,if_neg (by simp only;omega),show ((pre.length:Int)+1).toNat=pre.length+1 by omega,hd]
theorem Mp.put_length (f:Int × Int) (x:UInt64) (hl:f.2=0∨f.2=1∨f.2=2∨f.2=4∨f.2=8):(Mp.put f x).length=1+f.2.toNat:=by
 rw [Mp.put,List.length_cons]
 unfold Cur.high
 split
 ·rw [Cur.putHigh_len];omega
 ·have:f.2=0:=by omega
  rw [this];rfl
theorem Cur.be_high (x:UInt64) (long:Int) (hl:long=1∨long=2∨long=4∨long=8):(Cur.be (Cur.high x long)).toNat=x.toNat % 256 ^ long.toNat:=by
 rw [Cur.high,if_pos (by omega),Cur.be_put _ _ (by omega)]
theorem Mp.back_num (n:UInt64) (x:UInt64) (long:Int) (hl:long=0∨long=1∨long=2∨long=4∨long=8) (h:long≠0→n.toNat<256 ^ long.toNat):(if long=0 then (if long=0 then n else 0) else Cur.be (Cur.high n long))=n:=by
 by_cases a:long=0
 ·rw [if_pos a,if_pos a]
 ·rw [if_neg a]
  apply UInt64.toNat_inj.1
  rw [Cur.be_high _ _ (by omega),Nat.mod_eq_of_lt (h a)]
theorem Mp.back_signed (n:UInt64) (hn:n.toNat<9223372036854775808) (h0:(Mp.signed n).2≠0):Mp.below (Cur.be (Cur.high (~~~ n) (Mp.signed n).2)) (Mp.signed n).2=some n:=by
 obtain ⟨_,_,_,hc⟩:=Mp.first_signed n
 have key:∀(top:UInt64) (N:Nat) (long:Int),long.toNat=N→(long=1∨long=2∨long=4∨long=8)→2 * top.toNat=256 ^ N→N≤8→n.toNat<top.toNat →
   (if Cur.be (Cur.high (~~~ n) long)<top then none else some (top - 1 - (Cur.be (Cur.high (~~~ n) long) - top)):Option UInt64)=some n:=by
  intro top N long hN hl ht h8 hnt
  subst hN
  have hu:=Cur.be_high (~~~ n) long hl
  generalize Cur.be (Cur.high (~~~ n) long)=u at hu ⊢
  have hp8:256 ^ long.toNat≤256 ^ 8:=Nat.pow_le_pow_right (by omega) h8
  obtain ⟨d,hd⟩:∃d,18446744073709551616=256 ^ long.toNat * d:=⟨256 ^ (8 - long.toNat),by rw [←Nat.pow_add,show long.toNat+(8 - long.toNat)=8 by omega]⟩
  have hd1:1≤d:=by
   rcases Nat.eq_zero_or_pos d with q | q
   ·subst q;simp at hd
   ·exact q
  obtain ⟨d',rfl⟩:∃d',d=d'+1:=⟨d - 1,by omega⟩
  have hu':u.toNat=256 ^ long.toNat - 1 - n.toNat:=by
   rw [hu,not_u64,show 18446744073709551615 - n.toNat=(256 ^ long.toNat - 1 - n.toNat)+256 ^ long.toNat * d' by rw [Nat.mul_add,Nat.mul_one] at hd;omega,Nat.add_mul_mod_self_left,Nat.mod_eq_of_lt (by omega)]
  have e1:(1:UInt64).toNat=1:=rfl
  rw [if_neg (by rw [UInt64.lt_iff_toNat_lt,hu'];omega)]
  congr 1
  apply UInt64.toNat_inj.1
  have h1:(top - 1).toNat=top.toNat - 1:=by rw [UInt64.toNat_sub_of_le _ _ (by rw [UInt64.le_iff_toNat_le,e1];omega),e1]
  have h2:(u - top).toNat=u.toNat - top.toNat:=UInt64.toNat_sub_of_le _ _ (by rw [UInt64.le_iff_toNat_le,hu'];omega)
  rw [UInt64.toNat_sub_of_le _ _ (by rw [UInt64.le_iff_toNat_le,h1,h2,hu'];omega),h1,h2,hu'];omega
 unfold Mp.below
 rcases hc with ⟨e,h⟩ | ⟨e,h⟩ | ⟨e,h⟩ | e | ⟨e,h⟩
 ·rw [e];exact key 128 1 1 rfl (by omega) rfl (by omega) h
 ·rw [e];exact key 32768 2 2 rfl (by omega) rfl (by omega) h
 ·rw [e];exact key 2147483648 4 4 rfl (by omega) rfl (by omega) h
 ·rw [e];exact key 9223372036854775808 8 8 rfl (by omega) rfl (by omega) hn
 ·exact (h0 e).elim
end Go.Eng
namespace Go.Eng
open Go.IntWalk
theorem Mp.num_self (it:Itm) (p c q:Int):Mp.num it p c c q=⟨it,0,0,q⟩:=by
 unfold Mp.num;rw [if_neg (fun h=>h rfl)]
theorem Mp.row_read (b:Str) (it:Itm) (p q:Int) (m:Nat) (hq:0≤q) (h:q+m≤b.length):Mp.row b it p q m=(if it.kind≠4 then ⟨.mk it.kind it.n ((b.drop q.toNat).take m) it.text it.kids,0,0,q+m⟩ else if Utf.whole ((b.drop q.toNat).take m) then ⟨.mk it.kind it.n it.bytes ((b.drop q.toNat).take m) it.kids,0,0,q+m⟩ else Mp.bad 4 p (q+m)):=by
 unfold Mp.row;rw [if_neg (by omega),Int.toNat_natCast]
mutual
theorem Mp.read_lay:∀(it:Itm) (d:Nat) (pre rest:Str),Mp.chk it=0→Itm.nest it≤d→Mp.read (pre++(Mp.lay it++rest)) d pre.length=⟨it,0,0,(pre.length:Int)+(Mp.lay it).length⟩
 | .mk k n b t ks,0,pre,rest,hc,hn=>by simp only [Itm.nest] at hn;omega
 | .mk k n b t ks,d+1,pre,rest,hc,hn=>by
  obtain ⟨ho,hcs⟩:=Mp.chk0 ⟨k,n,b,t,ks⟩ hc
  obtain ⟨p1,p2,p3,p4,p5,p6,p7,p8,p9,p10,p11,p12,p13,p14⟩:=Mp.own0 ⟨k,n,b,t,ks⟩ ho
  simp only at p1 p2 p3 p4 p5 p6 p7 p8 p9 p10 p11 p12 p13 p14 hcs
  simp only [Itm.nest] at hn
  have K:=fun (pre':Str) (t':UInt64)=>Mp.kids_lay ks d pre' rest k t' [] hcs (by omega)
  have hk':k=1∨k=2∨k=3∨k=4∨k=5∨k=6∨k=8∨k=9∨k=10:=by omega
  rcases hk' with rfl | rfl | rfl | rfl | rfl | rfl | rfl | rfl | rfl
  ·have h3:=p3 (by decide) (by decide)
   have h4:=p4 (by decide)
   have h5:=p5 (by decide) (by decide)
   subst h3 h4 h5
   obtain ⟨f,b0,b1,hL⟩:=Mp.first_unsigned n
   have hl:(Mp.unsigned n).2=0∨(Mp.unsigned n).2=1∨(Mp.unsigned n).2=2∨(Mp.unsigned n).2=4∨(Mp.unsigned n).2=8:=by
    have:=(Mp.first_kinds _ ⟨b0,b1⟩).2.1;rw [f] at this;exact this
   rw [show Mp.lay (.mk 1 n [] [] [])=Mp.put (Mp.unsigned n) n by simp [Mp.lay,Mp.head,Mp.lays],Mp.head_read pre rest _ n 1 _ d ⟨b0,b1⟩ f (by decide) hl,Mp.back_num n n _ hl hL,Mp.readTail,if_neg (by decide),Mp.readEnd,if_neg (by decide),if_pos rfl,Mp.num_self,Mp.put_length _ _ hl]
   congr 1;omega
  ·have h3:=p3 (by decide) (by decide)
   have h4:=p4 (by decide)
   have h5:=p5 (by decide) (by decide)
   subst h3 h4 h5
   obtain ⟨f,b0,b1,_⟩:=Mp.first_signed n
   have hl:(Mp.signed n).2=0∨(Mp.signed n).2=1∨(Mp.signed n).2=2∨(Mp.signed n).2=4∨(Mp.signed n).2=8:=by
    have:=(Mp.first_kinds _ ⟨b0,b1⟩).2.1;rw [f] at this;exact this
   rw [show Mp.lay (.mk 2 n [] [] [])=Mp.put (Mp.signed n) (~~~ n) by simp [Mp.lay,Mp.head,Mp.lays],Mp.head_read pre rest _ (~~~ n) 2 _ d ⟨b0,b1⟩ f (by decide) hl,Mp.readTail,if_neg (by decide),Mp.readEnd,if_neg (by decide),if_neg (by decide),if_pos rfl,Mp.put_length _ _ hl]
   by_cases a:(Mp.signed n).2=0
   ·simp only [if_pos a,Mp.num_self]
    congr 1;omega
   ·simp only [if_neg a]
    rw [Mp.back_signed n (UInt64.lt_iff_toNat_lt.1 (p6 rfl)) a]
    simp only [Mp.num_self]
    congr 1;omega
  ·have h4:=p4 (by decide)
   have h5:=p5 (by decide) (by decide)
   have h2:=p2 (by decide)
   subst h4 h5 h2
   obtain ⟨f,b0,b1,hL⟩:=Mp.first_sized 3 (by decide) b.length p10
   have hl:(Mp.sized 3 b.length).2=0∨(Mp.sized 3 b.length).2=1∨(Mp.sized 3 b.length).2=2∨(Mp.sized 3 b.length).2=4∨(Mp.sized 3 b.length).2=8:=by
    have:=(Mp.first_kinds _ ⟨b0,b1⟩).2.1;rw [f] at this;simp only at this;exact this
   have hN:=u64_small p10
   have hpl:=Mp.put_length (Mp.sized 3 b.length) (UInt64.ofNat b.length) hl
   have e:pre++(Mp.lay (.mk 3 0 b [] [])++rest)=pre++(Mp.put (Mp.sized 3 b.length) (UInt64.ofNat b.length)++(b++rest)):=by simp [Mp.lay,Mp.head,Mp.lays]
   have el:(Mp.lay (.mk 3 0 b [] [])).length=1+(Mp.sized 3 b.length).2.toNat+b.length:=by simp [Mp.lay,Mp.head,Mp.lays,hpl]
   rw [e,el,Mp.head_read pre (b++rest) _ _ 3 _ d ⟨b0,b1⟩ f (by decide) hl,Mp.back_num _ (UInt64.ofNat b.length) _ hl (by rw [hN];exact hL),Mp.readTail,if_neg (by decide),Mp.readEnd,if_neg (by decide),if_neg (by decide),if_neg (by decide),hN,if_neg (by simp),if_neg (by decide),if_neg (by decide),Mp.row_read _ _ _ _ _ (by omega) (by simp [hpl];omega),if_pos (by decide)]
   have hs:((pre++(Mp.put (Mp.sized 3 b.length) (UInt64.ofNat b.length)++(b++rest))).drop ((pre.length:Int)+1+(Mp.sized 3 b.length).2).toNat).take b.length=b:=by
    rw [←List.append_assoc,List.drop_left' (by rw [List.length_append,hpl];omega),List.take_left' rfl]
   rw [hs]
   simp only [Itm.kind,Itm.n,Itm.text,Itm.kids]
   refine congrArg (Mp.Got.mk _ 0 0) ?_
   omega
  ·have h3:=p3 (by decide) (by decide)
   have h5:=p5 (by decide) (by decide)
   have h2:=p2 (by decide)
   subst h3 h5 h2
   obtain ⟨f,b0,b1,hL⟩:=Mp.first_sized 4 (by decide) t.length p11
   have hl:(Mp.sized 4 t.length).2=0∨(Mp.sized 4 t.length).2=1∨(Mp.sized 4 t.length).2=2∨(Mp.sized 4 t.length).2=4∨(Mp.sized 4 t.length).2=8:=by
    have:=(Mp.first_kinds _ ⟨b0,b1⟩).2.1;rw [f] at this;simp only at this;exact this
   have hN:=u64_small p11
   have hpl:=Mp.put_length (Mp.sized 4 t.length) (UInt64.ofNat t.length) hl
   have e:pre++(Mp.lay (.mk 4 0 [] t [])++rest)=pre++(Mp.put (Mp.sized 4 t.length) (UInt64.ofNat t.length)++(t++rest)):=by simp [Mp.lay,Mp.head,Mp.lays]
   have el:(Mp.lay (.mk 4 0 [] t [])).length=1+(Mp.sized 4 t.length).2.toNat+t.length:=by simp [Mp.lay,Mp.head,Mp.lays,hpl]
   rw [e,el,Mp.head_read pre (t++rest) _ _ 4 _ d ⟨b0,b1⟩ f (by decide) hl,Mp.back_num _ (UInt64.ofNat t.length) _ hl (by rw [hN];exact hL),Mp.readTail,if_neg (by decide),Mp.readEnd,if_neg (by decide),if_neg (by decide),if_neg (by decide),hN,if_neg (by simp),if_neg (by decide),if_neg (by decide),Mp.row_read _ _ _ _ _ (by omega) (by simp [hpl];omega),if_neg (by decide)]
   have hs:((pre++(Mp.put (Mp.sized 4 t.length) (UInt64.ofNat t.length)++(t++rest))).drop ((pre.length:Int)+1+(Mp.sized 4 t.length).2).toNat).take t.length=t:=by
    rw [←List.append_assoc,List.drop_left' (by rw [List.length_append,hpl];omega),List.take_left' rfl]
   rw [hs,if_pos p14]
   simp only [Itm.kind,Itm.n,Itm.bytes,Itm.kids]
   refine congrArg (Mp.Got.mk _ 0 0) ?_
   omega
  ·have h3:=p3 (by decide) (by decide)
   have h4:=p4 (by decide)
   have h2:=p2 (by decide)
   subst h3 h4 h2
   have q12:=p12 rfl
   obtain ⟨f,b0,b1,hL⟩:=Mp.first_sized 5 (by decide) ks.length q12
   have hl:(Mp.sized 5 ks.length).2=0∨(Mp.sized 5 ks.length).2=1∨(Mp.sized 5 ks.length).2=2∨(Mp.sized 5 ks.length).2=4∨(Mp.sized 5 ks.length).2=8:=by
    have:=(Mp.first_kinds _ ⟨b0,b1⟩).2.1;rw [f] at this;simp only at this;exact this
   have hN:=u64_small q12
   have hpl:=Mp.put_length (Mp.sized 5 ks.length) (UInt64.ofNat ks.length) hl
   have e:pre++(Mp.lay (.mk 5 0 [] [] ks)++rest)=pre++(Mp.put (Mp.sized 5 ks.length) (UInt64.ofNat ks.length)++(Mp.lays ks++rest)):=by simp [Mp.lay,Mp.head]
   have el:(Mp.lay (.mk 5 0 [] [] ks)).length=1+(Mp.sized 5 ks.length).2.toNat+(Mp.lays ks).length:=by simp [Mp.lay,Mp.head,hpl]
   rw [e,el,Mp.head_read pre _ _ _ 5 _ d ⟨b0,b1⟩ f (by decide) hl,Mp.back_num _ (UInt64.ofNat ks.length) _ hl (by rw [hN];exact hL),Mp.readTail,if_neg (by decide),Mp.readEnd,if_neg (by decide),if_neg (by decide),if_neg (by decide),hN,if_neg (by simp),if_pos rfl]
   have hK:=K (pre++Mp.put (Mp.sized 5 ks.length) (UInt64.ofNat ks.length)) 0
   rw [List.append_assoc,List.length_append,hpl,show ((pre.length+(1+(Mp.sized 5 ks.length).2.toNat):Nat):Int)=(pre.length:Int)+1+(Mp.sized 5 ks.length).2 by omega] at hK
   rw [hK,List.nil_append]
   refine congrArg (Mp.Got.mk _ 0 0) ?_
   omega
  ·have h3:=p3 (by decide) (by decide)
   have h4:=p4 (by decide)
   have h2:=p2 (by decide)
   subst h3 h4 h2
   have q9:=p9 rfl
   obtain ⟨f,b0,b1,hL⟩:=Mp.first_sized 6 (by decide) (ks.length / 2) p13
   have hl:(Mp.sized 6 (ks.length / 2:Nat)).2=0∨(Mp.sized 6 (ks.length / 2:Nat)).2=1∨(Mp.sized 6 (ks.length / 2:Nat)).2=2∨(Mp.sized 6 (ks.length / 2:Nat)).2=4∨(Mp.sized 6 (ks.length / 2:Nat)).2=8:=by
    have:=(Mp.first_kinds _ ⟨b0,b1⟩).2.1;rw [f] at this;simp only at this;exact this
   have hN:=u64_small p13
   have hpl:=Mp.put_length (Mp.sized 6 (ks.length / 2:Nat)) (UInt64.ofNat (ks.length / 2)) hl
   have e:pre++(Mp.lay (.mk 6 0 [] [] ks)++rest)=pre++(Mp.put (Mp.sized 6 (ks.length / 2:Nat)) (UInt64.ofNat (ks.length / 2))++(Mp.lays ks++rest)):=by simp only [Mp.lay,Mp.head,List.append_nil,List.append_assoc];rfl
   have el:(Mp.lay (.mk 6 0 [] [] ks)).length=1+(Mp.sized 6 (ks.length / 2:Nat)).2.toNat+(Mp.lays ks).length:=by
    have:Mp.lay (.mk 6 0 [] [] ks)=Mp.put (Mp.sized 6 (ks.length / 2:Nat)) (UInt64.ofNat (ks.length / 2))++Mp.lays ks:=by simp only [Mp.lay,Mp.head,List.append_nil];rfl
    rw [this,List.length_append,hpl]
   rw [e,el,Mp.head_read pre _ _ _ 6 _ d ⟨b0,b1⟩ f (by decide) hl,Mp.back_num _ (UInt64.ofNat (ks.length / 2)) _ hl (by rw [hN];exact hL),Mp.readTail,if_neg (by decide),Mp.readEnd,if_neg (by decide),if_neg (by decide),if_neg (by decide),hN,if_neg (by simp),if_neg (by decide),if_pos rfl,show 2 * (ks.length / 2)=ks.length by omega]
   have hK:=K (pre++Mp.put (Mp.sized 6 (ks.length / 2:Nat)) (UInt64.ofNat (ks.length / 2))) 0
   rw [List.append_assoc,List.length_append,hpl,show ((pre.length+(1+(Mp.sized 6 (ks.length / 2:Nat)).2.toNat):Nat):Int)=(pre.length:Int)+1+(Mp.sized 6 (ks.length / 2:Nat)).2 by omega] at hK
   rw [hK,List.nil_append]
   refine congrArg (Mp.Got.mk _ 0 0) ?_
   omega
  ·have h3:=p3 (by decide) (by decide)
   have h4:=p4 (by decide)
   have h5:=p5 (by decide) (by decide)
   subst h3 h4 h5
   obtain ⟨q1,q2⟩:=p7 rfl
   have hu:n=20∨n=21∨n=22:=by
    have a:=UInt64.le_iff_toNat_le.1 q1
    have b:=UInt64.le_iff_toNat_le.1 q2
    simp at a b
    have:n.toNat=20∨n.toNat=21∨n.toNat=22:=by omega
    rcases this with h | h | h
    ·exact .inl (UInt64.toNat_inj.1 h)
    ·exact .inr (.inl (UInt64.toNat_inj.1 h))
    ·exact .inr (.inr (UInt64.toNat_inj.1 h))
   have key:∀(c:Int) (m:UInt64),Mp.first c=(8,m,0)→0≤c∧c≤255→Mp.lay (.mk 8 m [] [] [])=Mp.put (c,0) 0→Mp.read (pre++(Mp.lay (.mk 8 m [] [] [])++rest)) (d+1) pre.length=⟨.mk 8 m [] [] [],0,0,(pre.length:Int)+(Mp.lay (.mk 8 m [] [] [])).length⟩:=by
    intro c m hf hc hlay
    rw [hlay,Mp.head_read pre rest (c,0) 0 8 m d hc hf (by decide) (.inl rfl),if_pos rfl,Mp.readTail,if_neg (by decide),Mp.readEnd,if_pos (by decide),Mp.put_length _ _ (.inl rfl)]
    refine congrArg (Mp.Got.mk _ 0 0) ?_
    simp only;omega
   rcases hu with rfl | rfl | rfl
   ·exact key 194 20 rfl (by decide) rfl
   ·exact key 195 21 rfl (by decide) rfl
   ·exact key 192 22 rfl (by decide) rfl
  ·have h3:=p3 (by decide) (by decide)
   have h4:=p4 (by decide)
   have h5:=p5 (by decide) (by decide)
   subst h3 h4 h5
   have hlay:Mp.lay (.mk 9 n [] [] [])=Mp.put (203,8) n:=by simp [Mp.lay,Mp.head,Mp.lays]
   have hv:(if (8:Int)=0 then (0:UInt64) else Cur.be (Cur.high n 8))=n:=by
    rw [if_neg (by decide)]
    apply UInt64.toNat_inj.1
    have:=n.toNat_lt
    rw [Cur.be_high _ _ (by decide)]
    exact Nat.mod_eq_of_lt this
   rw [hlay,Mp.head_read pre rest (203,8) n 9 0 d (by decide) rfl (by decide) (by decide),hv,Mp.readTail,if_neg (by decide),Mp.readEnd,if_pos (by decide),Mp.put_length _ _ (by decide)]
   refine congrArg (Mp.Got.mk _ 0 0) ?_
   simp only;omega
  ·have h4:=p4 (by decide)
   have h5:=p5 (by decide) (by decide)
   subst h4 h5
   have h127:=UInt64.le_iff_toNat_le.1 (p8 rfl)
   simp at h127
   obtain ⟨f,b0,b1,hL⟩:=Mp.first_sized 10 (by decide) b.length p10
   have hl:(Mp.sized 10 b.length).2=0∨(Mp.sized 10 b.length).2=1∨(Mp.sized 10 b.length).2=2∨(Mp.sized 10 b.length).2=4∨(Mp.sized 10 b.length).2=8:=by
    have:=(Mp.first_kinds _ ⟨b0,b1⟩).2.1;rw [f] at this;simp only at this;exact this
   have hN:=u64_small p10
   have hpl:=Mp.put_length (Mp.sized 10 b.length) (UInt64.ofNat b.length) hl
   have hlay:Mp.lay (.mk 10 n b [] [])=Mp.put (Mp.sized 10 b.length) (UInt64.ofNat b.length)++([n.toUInt8]++b):=by simp [Mp.lay,Mp.head,Mp.lays]
   have e:pre++(Mp.lay (.mk 10 n b [] [])++rest)=pre++(Mp.put (Mp.sized 10 b.length) (UInt64.ofNat b.length)++([n.toUInt8]++(b++rest))):=by rw [hlay];simp
   have el:(Mp.lay (.mk 10 n b [] [])).length=1+(Mp.sized 10 b.length).2.toNat+1+b.length:=by rw [hlay];simp only [List.length_append,hpl,List.length_singleton];omega
   have hlen:(pre++(Mp.put (Mp.sized 10 b.length) (UInt64.ofNat b.length)++([n.toUInt8]++(b++rest)))).length=pre.length+(1+(Mp.sized 10 b.length).2.toNat)+1+b.length+rest.length:=by simp only [List.length_append,hpl,List.length_singleton];omega
   have ht:(pre++(Mp.put (Mp.sized 10 b.length) (UInt64.ofNat b.length)++([n.toUInt8]++(b++rest)))).getD ((pre.length:Int)+1+(Mp.sized 10 b.length).2).toNat 0=n.toUInt8:=by
    rw [←List.append_assoc,List.getD_eq_getElem?_getD,List.getElem?_append_right (by rw [List.length_append,hpl];omega),show ((pre.length:Int)+1+(Mp.sized 10 b.length).2).toNat - (pre++Mp.put (Mp.sized 10 b.length) (UInt64.ofNat b.length)).length=0 by rw [List.length_append,hpl];omega];rfl
   have hs:((pre++(Mp.put (Mp.sized 10 b.length) (UInt64.ofNat b.length)++([n.toUInt8]++(b++rest)))).drop ((pre.length:Int)+1+(Mp.sized 10 b.length).2+1).toNat).take b.length=b:=by
    rw [←List.append_assoc,←List.append_assoc,List.drop_left' (by rw [List.length_append,List.length_append,hpl,List.length_singleton];omega),List.take_left' rfl]
   have hnn:n.toUInt8.toUInt64=n:=by
    apply UInt64.toNat_inj.1
    rw [UInt8.toNat_toUInt64,UInt64.toNat_toUInt8]
    show n.toNat % 256=n.toNat
    omega
   rw [e,el,Mp.head_read pre _ _ _ 10 _ d ⟨b0,b1⟩ f (by decide) hl,Mp.back_num _ (UInt64.ofNat b.length) _ hl (by rw [hN];exact hL),Mp.readTail,if_pos rfl,if_neg (by rw [hlen];omega),ht,hnn,Mp.readEnd,if_neg (by decide),if_neg (by decide),if_neg (by decide),hN,if_neg (by
    rintro (q | q)
    ·exact q rfl
    ·rw [UInt64.lt_iff_toNat_lt] at q;simp at q;omega),if_neg (by decide),if_neg (by decide),Mp.row_read _ _ _ _ _ (by omega) (by rw [hlen];omega),if_pos (show (Itm.mk 10 n [] [] []).kind≠4 from fun h=>absurd (show (10:Int)=4 from h) (by decide)),hs]
   simp only [Itm.kind,Itm.n,Itm.text,Itm.kids]
   refine congrArg (Mp.Got.mk _ 0 0) ?_
   omega
theorem Mp.kids_lay:∀(ks:List Itm) (d:Nat) (pre rest:Str) (k:Int) (t:UInt64) (acc:List Itm),Mp.chks ks=0→Itm.nests ks≤d →
  Mp.kids (Mp.read (pre++(Mp.lays ks++rest)) d) (.mk k t [] [] acc) ks.length pre.length=⟨.mk k t [] [] (acc++ks),0,0,(pre.length:Int)+(Mp.lays ks).length⟩
 | [],d,pre,rest,k,t,acc,_,_=>by simp [Mp.kids,Mp.lays]
 | x :: r,d,pre,rest,k,t,acc,hc,hn=>by
  obtain ⟨c1,c2⟩:=Mp.chks_cons hc
  simp only [Itm.nests] at hn
  have h1:=Mp.read_lay x d pre (Mp.lays r++rest) c1 (by omega)
  have h2:=Mp.kids_lay r d (pre++Mp.lay x) rest k t (acc++[x]) c2 (by omega)
  have e:pre++(Mp.lays (x :: r)++rest)=pre++(Mp.lay x++(Mp.lays r++rest)):=by simp [Mp.lays]
  rw [e,List.length_cons,Mp.kids,h1,if_neg (fun h=>h rfl)]
  rw [List.append_assoc,List.length_append,show ((pre.length+(Mp.lay x).length:Nat):Int)=(pre.length:Int)+(Mp.lay x).length by omega] at h2
  simp only [Itm.kind,Itm.n,Itm.bytes,Itm.text,Itm.kids]
  rw [h2,List.append_assoc]
  congr 1
  ·simp [Mp.lays];omega
end
end Go.Eng
namespace Go.Eng
open Go.IntWalk
theorem Mp.dec_lay (it:Itm) (depth:Int) (hc:Mp.chk it=0) (hn:(Itm.nest it:Int)≤depth) (hd:depth≤1000):Mp.dec (Mp.lay it) depth=(it,⟨0,0,[]⟩):=by
 have h:=Mp.read_lay it depth.toNat [] [] hc (by omega)
 rw [List.nil_append,List.append_nil,show (([]:Str).length:Int)=0 from rfl] at h
 unfold Mp.dec
 rw [if_neg (by omega)]
 simp only [h]
 rw [if_neg (fun h=>h rfl),if_neg (by omega)]
end Go.Eng
namespace Go.Eng
open Go.IntWalk
def cutOf (b:Str) (p q:Int):Str:=(b.drop p.toNat).take (q - p).toNat
theorem slice_app (b:Str) (p q r:Int) (h0:0≤p) (h1:p≤q) (h2:q≤r):cutOf b p r=cutOf b p q++cutOf b q r:=by
 rw [cutOf,cutOf,cutOf,show (r - p).toNat=(q - p).toNat+(r - q).toNat by omega,List.take_add,List.drop_drop,show p.toNat+(q - p).toNat=q.toNat by omega]
def Mp.Just (b:Str) (d:Nat) (p:Int) (g:Mp.Got):Prop:=Mp.chk g.it=0∧Mp.lay g.it=cutOf b p g.pos∧Itm.nest g.it≤d
section
variable {c:UInt8} {L:Str} {u:UInt64} {k:Int} {n0:UInt64} {long:Int}
theorem Mp.put_says (h:Mp.Says c L u k n0 long) (hk:k=3∨k=4∨k=5∨k=6∨k=10) (hu:u.toNat<4294967296) (he:(Mp.sized k u.toNat).1=(c.toNat:Int)):Mp.put (Mp.sized k u.toNat) u=c :: L:=by
 obtain ⟨f,b0,b1,_⟩:=Mp.first_sized k (by omega) u.toNat hu
 refine (Mp.put_iff _ u c L ⟨b0,b1⟩ fun q=>?_).2 he
 rw [q,h.f] at f
 injection f with _ f;injection f with _ f
 rw [←f]
 exact Cur.high_eq u long L h.long' h.l h.uL
end
theorem Mp.num_err {it:Itm} {p c f q:Int} (h:(Mp.num it p c f q).err=0):f=c∧Mp.num it p c f q=⟨it,0,0,q⟩:=by
 unfold Mp.num at h ⊢
 by_cases a:f=c
 ·exact ⟨a,by rw [if_neg (fun h=>h a)]⟩
 ·rw [if_pos a] at h;cases h
theorem Mp.kids_just (b : Str) (d : Nat) (f : Int → Mp.Got) (hp : ∀ q : Int, 0 ≤ q → q ≤ b.length → q ≤ (f q).pos ∧ (f q).pos ≤ b.length ∧ ((f q).err = 0 → q < (f q).pos)) (hf : ∀ q : Int, 0 ≤ q → q ≤ b.length → (f q).err = 0 → Mp.Just b d q (f q)) : ∀ (n : Nat) (it : Itm) (q : Int), 0 ≤ q → q ≤ b.length → (Mp.kids f it n q).err = 0 →
    ∃ ks : List Itm, (Mp.kids f it n q).it = .mk it.kind it.n it.bytes it.text (it.kids ++ ks) ∧ ks.length = n ∧ Mp.chks ks = 0 ∧ Mp.lays ks = cutOf b q (Mp.kids f it n q).pos ∧ Itm.nests ks ≤ d ∧ q ≤ (Mp.kids f it n q).pos := by
  intro n
  induction n with
  | zero => intro it q h0 h1 _; refine ⟨[], ?_, rfl, rfl, ?_, Nat.zero_le _, Int.le_refl _⟩
            · cases it; simp [Mp.kids, Itm.kind, Itm.n, Itm.bytes, Itm.text, Itm.kids]
            · simp [Mp.kids, Mp.lays, cutOf]
  | succ n ih =>
    intro it q h0 h1 he
    rw [Mp.kids] at he ⊢
    by_cases a : (f q).err = 0
    · rw [if_neg (fun h => h a)] at he ⊢
      obtain ⟨p1, p2, p3⟩ := hp q h0 h1
      obtain ⟨j1, j2, j3⟩ := hf q h0 h1 a
      obtain ⟨ks, i1, i2, i3, i4, i5, i6⟩ := ih _ _ (by omega) p2 he
      refine ⟨(f q).it :: ks, ?_, by rw [List.length_cons, i2], ?_, ?_, ?_, by omega⟩
      · rw [i1]
        simp only [Itm.kind, Itm.n, Itm.bytes, Itm.text, Itm.kids]
        rw [List.append_assoc]; rfl
      · rw [Mp.chks, if_pos j1]; exact i3
      · rw [Mp.lays, j2, i4]
        exact (slice_app b q (f q).pos _ h0 p1 i6).symm
      · rw [Itm.nests]; omega
    · rw [if_pos a] at he; exact (a he).elim
theorem Mp.chk_leaf (k:Int) (n:UInt64) (b t:Str) (h:Mp.own (.mk k n b t [])=0):Mp.chk (.mk k n b t [])=0:=by rw [Mp.chk,if_pos h];rfl
theorem Mp.lay_leaf (k:Int) (n:UInt64):Mp.lay (.mk k n [] [] [])=Mp.head (.mk k n [] [] []):=by simp [Mp.lay,Mp.lays]
theorem Mp.lenU (u:UInt64):UInt64.ofNat u.toNat=u:=UInt64.ofNat_toNat
theorem cutOf_len (b:Str) (q:Int) (n:Nat) (h:q+n≤b.length) (h0:0≤q):(cutOf b q (q+n)).length=n:=by
 rw [cutOf,List.length_take,List.length_drop];omega
theorem Mp.row_just {b:Str} {it:Itm} {p q:Int} {m:Nat} (h:(Mp.row b it p q m).err=0):q+m≤b.length∧(it.kind≠4→Mp.row b it p q m=⟨.mk it.kind it.n (cutOf b q (q+m)) it.text it.kids,0,0,q+m⟩)∧(it.kind=4→Utf.whole (cutOf b q (q+m))=true∧Mp.row b it p q m=⟨.mk it.kind it.n it.bytes (cutOf b q (q+m)) it.kids,0,0,q+m⟩):=by
 unfold Mp.row at h ⊢
 have e:cutOf b q (q+m)=(b.drop q.toNat).take (m:Int).toNat:=by rw [cutOf];congr 1;omega
 rw [e]
 by_cases a:(m:Int)<0∨(b.length:Int) - q<m
 ·rw [if_pos a] at h;cases h
 rw [if_neg a] at h ⊢
 refine ⟨by omega,fun k4=>by rw [if_pos k4],fun k4=>?_⟩
 rw [if_neg (fun h=>h k4)] at h ⊢
 by_cases a5:Utf.whole ((b.drop q.toNat).take (m:Int).toNat)=true
 ·exact ⟨a5,by rw [if_pos a5]⟩
 ·rw [if_neg a5] at h;cases h
section
variable {c:UInt8} {L:Str} {u:UInt64} {k:Int} {n0:UInt64} {long:Int}
theorem Mp.end_just (b:Str) (d:Nat) (sub:Int→Mp.Got) (hp:∀q:Int,0≤q→q≤b.length→q≤(sub q).pos∧(sub q).pos≤b.length∧((sub q).err=0→q<(sub q).pos)) (hf:∀q:Int,0≤q→q≤b.length→(sub q).err=0→Mp.Just b d q (sub q))
  (hS:Mp.Says c L u k n0 long) (p q:Int) (h0:0≤p) (hpq:p≤q) (hq:q≤b.length) (ty:UInt8) (hsl:cutOf b p q=c :: (L++if k=10 then [ty] else []))
  (h:(Mp.readEnd b sub p (c.toNat:Int) k u long (if k=10 then ty.toUInt64 else 0) q).err=0):Mp.Just b (d+1) p (Mp.readEnd b sub p (c.toNat:Int) k u long (if k=10 then ty.toUInt64 else 0) q):=by
 obtain ⟨F1,_,_,F5⟩:=hS.kinds
 have hu8:=hS.u8
 have hu32:=hS.u32
 have leaf:∀(n:UInt64),k≠10→Mp.own (.mk k n [] [] [])=0→Mp.head (.mk k n [] [] [])=c :: L→Mp.Just b (d+1) p ⟨.mk k n [] [] [],0,0,q⟩:=by
  intro n k10 ho hh
  rw [if_neg k10,List.append_nil] at hsl
  exact ⟨Mp.chk_leaf _ _ _ _ ho,by rw [Mp.lay_leaf,hh,hsl],by simp [Itm.nest,Itm.nests]⟩
 have w0:Utf.whole []=true:=by decide
 unfold Mp.readEnd at h ⊢
 by_cases k2:k=2
 ·subst k2
  rw [if_neg (by decide),if_neg (by decide),if_pos rfl] at h ⊢
  have own2:∀n:UInt64,n<9223372036854775808→Mp.own (.mk 2 n [] [] [])=0:=by
   intro n hn
   have:¬(9223372036854775808:UInt64)≤n:=UInt64.not_le.2 hn
   simp [Mp.own,w0,this]
  by_cases a:long=0
  ·have hu31:=F5 rfl a
   rw [if_pos a] at h ⊢
   obtain ⟨e,g⟩:=Mp.num_err h
   rw [g]
   exact leaf u (by decide) (own2 u (by rw [UInt64.lt_iff_toNat_lt];show u.toNat<9223372036854775808;omega)) ((Mp.want2 hS u (by rw [if_pos a]) 0).2 e)
  ·rw [if_neg a] at h ⊢
   cases hbl:Mp.below u long with
   | none=>rw [hbl] at h;cases h
   | some m =>
    rw [hbl] at h
    have hl:=hS.long'
    have hB:=Mp.below_eq u long (by omega) (hu8 a) _ rfl _ rfl
    rw [hbl] at hB
    have hm63:m<9223372036854775808:=by
     rw [hB.1] at hB
     exact UInt64.not_le.1 hB.2
    obtain ⟨e,g⟩:=Mp.num_err h
    simp only
    rw [g]
    exact leaf m (by decide) (own2 m hm63) ((Mp.want2 hS m (by rw [if_neg a];exact hbl) 0).2 e)
 by_cases k8:k=8
 ·subst k8
  obtain ⟨w1,w2,w3⟩:=Mp.want8 hS 0
  rw [if_pos (by decide)]
  refine leaf u (by decide) ?_ w1
  have q1:¬u<20:=fun h=>by
   have:=UInt64.lt_iff_toNat_lt.1 h;have:=UInt64.le_iff_toNat_le.1 w2;omega
  have q2:¬22<u:=fun h=>by
   have:=UInt64.lt_iff_toNat_lt.1 h;have:=UInt64.le_iff_toNat_le.1 w3;omega
  simp [Mp.own,w0,q1,q2]
 by_cases k9:k=9
 ·subst k9
  rw [if_pos (by decide)]
  exact leaf u (by decide) (by simp [Mp.own,w0]) (Mp.want9 hS 0)
 rw [if_neg (show ¬(k=8∨k=9) by omega)] at h ⊢
 by_cases k1:k=1
 ·subst k1
  rw [if_pos rfl] at h ⊢
  obtain ⟨e,g⟩:=Mp.num_err h
  rw [g]
  exact leaf u (by decide) (by simp [Mp.own,w0]) ((Mp.want1 hS 0).2 e)
 rw [if_neg k1,if_neg k2] at h ⊢
 have hk:k=3∨k=4∨k=5∨k=6∨k=10:=by omega
 have hu:=hu32 (by omega)
 by_cases a:(Mp.sized k u.toNat).1≠(c.toNat:Int)∨127<(if k=10 then ty.toUInt64 else 0)
 ·rw [if_pos a] at h;cases h
 rw [if_neg a] at h ⊢
 have he:(Mp.sized k u.toNat).1=(c.toNat:Int):=Classical.byContradiction fun h=>a (.inl h)
 have hput:=Mp.put_says hS hk hu he
 by_cases k5:k=5
 ·subst k5
  rw [if_neg (by decide),List.append_nil] at hsl
  simp only [show ((5:Int)=10)=False from propext ⟨by decide,False.elim⟩,if_false,if_true] at h ⊢
  obtain ⟨ks,i1,i2,i3,i4,i5,i6⟩:=Mp.kids_just b d sub hp hf _ _ q (by omega) hq h
  simp only [Itm.kind,Itm.n,Itm.bytes,Itm.text,Itm.kids,List.nil_append] at i1
  refine ⟨?_,?_,?_⟩
  ·rw [i1,Mp.chk,if_pos (by simp [Mp.own,w0];omega)];exact i3
  ·rw [i1,Mp.lay,List.append_nil,List.append_nil,i4,slice_app b p q _ h0 hpq i6]
   congr 1
   simp only [Mp.head,i2,Mp.lenU]
   exact hput.trans hsl.symm
  ·rw [i1,Itm.nest];omega
 by_cases k6:k=6
 ·subst k6
  rw [if_neg (by decide),List.append_nil] at hsl
  simp only [show ((6:Int)=10)=False from propext ⟨by decide,False.elim⟩,show ((6:Int)=5)=False from propext ⟨by decide,False.elim⟩,if_false,if_true] at h ⊢
  obtain ⟨ks,i1,i2,i3,i4,i5,i6⟩:=Mp.kids_just b d sub hp hf _ _ q (by omega) hq h
  simp only [Itm.kind,Itm.n,Itm.bytes,Itm.text,Itm.kids,List.nil_append] at i1
  have i2':ks.length / 2=u.toNat:=by omega
  refine ⟨?_,?_,?_⟩
  ·rw [i1,Mp.chk,if_pos (by simp [Mp.own,w0];omega)];exact i3
  ·rw [i1,Mp.lay,List.append_nil,List.append_nil,i4,slice_app b p q _ h0 hpq i6]
   congr 1
   have:Mp.head (.mk 6 0 [] [] ks)=Mp.put (Mp.sized 6 (ks.length / 2:Nat)) (UInt64.ofNat (ks.length / 2)):=by simp only [Mp.head];rfl
   rw [this,i2',Mp.lenU]
   exact hput.trans hsl.symm
  ·rw [i1,Itm.nest];omega
 rw [if_neg k5,if_neg k6] at h ⊢
 obtain ⟨r1,r2,r3⟩:=Mp.row_just h
 have hcl:=cutOf_len b q u.toNat r1 (by omega)
 have hS2:=slice_app b p q (q+u.toNat) h0 hpq (by omega)
 by_cases k4:k=4
 ·subst k4
  obtain ⟨r4,r5⟩:=r3 rfl
  rw [if_neg (by decide),List.append_nil] at hsl
  rw [r5]
  simp only [Itm.kind,Itm.n,Itm.bytes,Itm.text,Itm.kids,show ((4:Int)=10)=False from propext ⟨by decide,False.elim⟩,if_false]
  refine ⟨Mp.chk_leaf _ _ _ _ (by simp [Mp.own,r4,hcl];omega),?_,by simp [Itm.nest,Itm.nests]⟩
  simp only [Mp.lay,Mp.lays,List.append_nil]
  rw [hS2]
  congr 1
  simp only [Mp.head,hcl,Mp.lenU]
  exact hput.trans hsl.symm
 by_cases k10:k=10
 ·subst k10
  rw [if_pos rfl] at hsl
  rw [r2 (show (10:Int)≠4 by decide)]
  simp only [Itm.kind,Itm.n,Itm.bytes,Itm.text,Itm.kids,if_true] at a ⊢
  have h127:¬(127:UInt64)<ty.toUInt64:=fun h=>a (.inr h)
  refine ⟨Mp.chk_leaf _ _ _ _ (by simp [Mp.own,w0,hcl,h127];omega),?_,by simp [Itm.nest,Itm.nests]⟩
  simp only [Mp.lay,Mp.lays,List.append_nil]
  rw [hS2]
  congr 1
  have:Mp.head (.mk 10 ty.toUInt64 (cutOf b q (q+u.toNat)) [] [])=Mp.put (Mp.sized 10 (cutOf b q (q+u.toNat)).length) (UInt64.ofNat (cutOf b q (q+u.toNat)).length)++[ty.toUInt64.toUInt8]:=by simp only [Mp.head];rfl
  rw [this,hcl,Mp.lenU,hput,hsl]
  simp
 ·have k3:k=3:=by omega
  subst k3
  rw [if_neg (by decide),List.append_nil] at hsl
  rw [r2 (show (3:Int)≠4 by decide)]
  simp only [Itm.kind,Itm.n,Itm.bytes,Itm.text,Itm.kids,show ((3:Int)=10)=False from propext ⟨by decide,False.elim⟩,if_false]
  refine ⟨Mp.chk_leaf _ _ _ _ (by simp [Mp.own,w0,hcl];omega),?_,by simp [Itm.nest,Itm.nests]⟩
  simp only [Mp.lay,Mp.lays,List.append_nil]
  rw [hS2]
  have hh:Mp.head (.mk 3 0 (cutOf b q (q+u.toNat)) [] [])=Mp.put (Mp.sized 3 u.toNat) u:=by simp only [Mp.head,hcl,Mp.lenU];rfl
  rw [hh,hput,hsl]
end
theorem Mp.read_just (b:Str):∀(d:Nat) (p:Int),0≤p→p≤b.length→(Mp.read b d p).err=0→Mp.Just b d p (Mp.read b d p):=by
 intro d
 induction d with
 | zero=>intro p _ _ h;cases h
 | succ d ih =>
  intro p h0 h1
  rw [Mp.read]
  by_cases g1:(b.length:Int)≤p
  ·rw [if_pos g1];intro h;cases h
  rw [if_neg g1]
  have hc:=Mp.first_kinds ((b.getD p.toNat 0).toNat:Int) ⟨by omega,by have:=(b.getD p.toNat 0).toNat_lt;omega⟩
  generalize hF:Mp.first ((b.getD p.toNat 0).toNat:Int)=F at hc
  obtain ⟨k,n0,long⟩:=F
  simp only at hc ⊢
  obtain ⟨_,hl,_⟩:=hc
  unfold Mp.readAt
  by_cases g2:k=0
  ·rw [if_pos g2];intro h;cases h
  rw [if_neg g2]
  by_cases g3:(b.length:Int) - (p+1)<long
  ·rw [if_pos g3];intro h;cases h
  rw [if_neg g3]
  have hS:Mp.Says (b.getD p.toNat 0) ((b.drop (p+1).toNat).take long.toNat) (if long=0 then n0 else Cur.be ((b.drop (p+1).toNat).take long.toNat)) k n0 long:=⟨hF,g2,by rw [List.length_take,List.length_drop];omega,rfl⟩
  have hsl0:((b.drop p.toNat).take (1+long.toNat))=b.getD p.toNat 0 :: (b.drop (p+1).toNat).take long.toNat:=by
   rw [drop_take_split b p.toNat long.toNat (by omega),show (p+1).toNat=p.toNat+1 by omega]
  generalize (if long=0 then n0 else Cur.be ((b.drop (p+1).toNat).take long.toNat))=u at hS
  unfold Mp.readTail
  by_cases g4:k=10
  ·rw [if_pos g4]
   by_cases g5:(b.length:Int) - (p+1+long)<1
   ·rw [if_pos g5];intro h;cases h
   rw [if_neg g5]
   intro h
   have J:=Mp.end_just b d _ (Mp.read_pos b d) ih hS p (p+1+long+1) h0 (by omega) (by omega) (b.getD (p+1+long).toNat 0) (by
    rw [cutOf,if_pos g4,show (p+1+long+1 - p).toNat=(1+long.toNat)+1 by omega,take_snoc _ _ (by rw [List.length_drop];omega),hsl0,List.cons_append,getD_dropped,show p.toNat+(1+long.toNat)=(p+1+long).toNat by omega])
   rw [if_pos g4] at J
   exact J h
  ·rw [if_neg g4]
   intro h
   have J:=Mp.end_just b d _ (Mp.read_pos b d) ih hS p (p+1+long) h0 (by omega) (by omega) 0 (by
    rw [cutOf,if_neg g4,List.append_nil,show (p+1+long - p).toNat=1+long.toNat by omega,hsl0])
   rw [if_neg g4] at J
   exact J h
theorem Mp.read_within (b:Str):∀(d:Nat) (p:Int),0≤p→p≤b.length→0≤(Mp.read b d p).at_∧(Mp.read b d p).at_≤b.length:=by
 have num:∀(it:Itm) (p c f q:Int),0≤p→p≤b.length→0≤(Mp.num it p c f q).at_∧(Mp.num it p c f q).at_≤b.length:=by
  intro it p c f q h0 h1;unfold Mp.num;split
  ·exact ⟨h0,h1⟩
  ·exact ⟨Int.le_refl _,by simp only;omega⟩
 have row:∀(it:Itm) (p q n:Int),0≤p→p≤b.length→0≤(Mp.row b it p q n).at_∧(Mp.row b it p q n).at_≤b.length:=by
  intro it p q n h0 h1
  unfold Mp.row
  repeat' split
  all_goals first
   | exact ⟨h0,h1⟩
   | exact ⟨Int.le_refl _,by simp only;omega⟩
 intro d
 induction d with
 | zero=>intro p h0 h1;exact ⟨h0,h1⟩
 | succ d ih =>
  intro p h0 h1
  have kids:∀(n:Nat) (it:Itm) (q:Int),0≤q→q≤b.length→0≤(Mp.kids (Mp.read b d) it n q).at_∧(Mp.kids (Mp.read b d) it n q).at_≤b.length:=by
   intro n
   induction n with
   | zero=>intro it q _ _;exact ⟨Int.le_refl _,by simp only [Mp.kids];omega⟩
   | succ n ih' =>
    intro it q h0 h1
    rw [Mp.kids]
    split
    ·exact ih q h0 h1
    ·obtain ⟨p1,p2,_⟩:=Mp.read_pos b d q h0 h1
     exact ih' _ _ (by omega) p2
  have fin:∀(c k:Int) (n:UInt64) (long:Int) (t:UInt64) (q:Int),0≤q→q≤b.length→0≤(Mp.readEnd b (Mp.read b d) p c k n long t q).at_∧(Mp.readEnd b (Mp.read b d) p c k n long t q).at_≤b.length:=by
   intro c k n long t q q0 q1
   unfold Mp.readEnd
   repeat' split
   all_goals first
    | exact ⟨h0,h1⟩
    | exact num _ _ _ _ _ h0 h1
    | exact kids _ _ _ q0 q1
    | exact row _ _ _ _ h0 h1
    | exact ⟨Int.le_refl _,by simp only;omega⟩
  rw [Mp.read]
  have hl:=(Mp.first_kinds ((b.getD p.toNat 0).toNat:Int) ⟨by omega,by have:=(b.getD p.toNat 0).toNat_lt;omega⟩).2.1
  generalize Mp.first ((b.getD p.toNat 0).toNat:Int)=F at hl
  obtain ⟨k,n0,long⟩:=F
  simp only at hl ⊢
  unfold Mp.readAt Mp.readTail
  repeat' split
  all_goals first
   | exact ⟨h0,h1⟩
   | (refine fin _ _ _ _ _ _ ?_ ?_ <;> omega)
theorem Mp.dec_just (b:Str) (depth:Int):((Mp.dec b depth).2.err=0→Mp.chk (Mp.dec b depth).1=0∧Mp.lay (Mp.dec b depth).1=b∧(Itm.nest (Mp.dec b depth).1:Int)≤depth) ∧
  ((Mp.dec b depth).2.err≠0→(Mp.dec b depth).1=Mp.zero∧0≤(Mp.dec b depth).2.at_∧(Mp.dec b depth).2.at_≤b.length):=by
 unfold Mp.dec
 by_cases a:depth<0∨1000<depth
 ·rw [if_pos a];exact ⟨fun h=>absurd h (by decide),fun _=>⟨rfl,Int.le_refl _,by simp only;omega⟩⟩
 rw [if_neg a]
 have J:=Mp.read_just b depth.toNat 0 (by omega) (by omega)
 have W:=Mp.read_within b depth.toNat 0 (by omega) (by omega)
 have P:=Mp.read_pos b depth.toNat 0 (by omega) (by omega)
 generalize Mp.read b depth.toNat 0=g at J W P
 simp only
 by_cases e:g.err=0
 ·obtain ⟨j1,j2,j3⟩:=J e
  rw [if_neg (fun h=>h e)]
  by_cases m:g.pos<b.length
  ·rw [if_pos m];exact ⟨fun h=>absurd h (by simp),fun _=>⟨rfl,by simp only;omega,by simp only;omega⟩⟩
  ·rw [if_neg m]
   refine ⟨fun _=>⟨j1,?_,by simp only;omega⟩,fun h=>(h rfl).elim⟩
   simp only
   rw [j2,cutOf,List.take_of_length_le (by simp only [List.length_drop];omega)];rfl
 ·rw [if_pos e]
  exact ⟨fun h=>(e h).elim,fun _=>⟨rfl,W⟩⟩
end Go.Eng
namespace Go.Eng
open Go.IntWalk
theorem Mp.has0 (it:Itv) (h:Mp.own (Itm.of it)=0):(1≤it.kind∧it.kind≤10∧it.kind≠7)∧(it.kind=3∨it.kind=4∨it.kind=5∨it.kind=6→it.n=0)∧(it.kind≠3→it.kind≠10→it.bytes=[])∧(it.kind≠4→it.text=[])∧(it.kind≠5→it.kind≠6→it.kids=[]) ∧
  (it.kind=2→¬9223372036854775808≤it.n)∧(it.kind=8→20≤it.n∧it.n≤22)∧(it.kind=10→it.n≤127)∧(it.kind=6→it.kids.length % 2=0)∧Utf.whole it.text=true:=by
 obtain ⟨k,n,b,t,ks⟩:=it
 simp only [Mp.own,Itm.of] at h
 simp only
 by_cases h1:k<1∨10<k∨k=7
 ·rw [if_pos h1] at h;cases h
 rw [if_neg h1] at h
 split at h
 ·cases h
 rename_i h2
 split at h
 ·cases h
 rename_i h3
 split at h
 ·cases h
 rename_i h4
 split at h
 ·cases h
 split at h
 ·rename_i h6
  refine ⟨by omega,?_,?_,?_,?_,?_,?_,?_,?_,h6⟩ <;> grind
 ·cases h
theorem Mp.chkI (it:Itv) (h:Mp.chk (Itm.of it)=0):Mp.own (Itm.of it)=0∧Mp.chks it.kids=0:=by
 obtain ⟨k,n,b,t,ks⟩:=it
 rw [Itm.of,Mp.chk] at h
 by_cases a:Mp.own (.mk k n b t ks)=0
 ·rw [if_pos a] at h;exact ⟨a,h⟩
 ·rw [if_neg a] at h;exact (a h).elim
theorem Mp.chks_drop:∀(l:List Itm) (i:Nat),Mp.chks l=0→Mp.chks (l.drop i)=0
 | [],i,_=>by simp [Mp.chks]
 | k :: r,0,h=>by simpa using h
 | k :: r,i+1,h=>by simpa using Mp.chks_drop r i (Mp.chks_cons h).2
theorem Mp.lays_drop:∀(l:List Itm) (i:Nat),(Mp.lays (l.drop i)).length≤(Mp.lays l).length
 | [],i=>by simp
 | k :: r,0=>by simp
 | k :: r,i+1=>by
  have:=Mp.lays_drop r i
  simp only [List.drop_succ_cons,Mp.lays,List.length_append];omega
theorem Mp.lay_one (it:Itm):1≤(Mp.lay it).length:=by
 have:=(Mp.lay_size it).2;omega
theorem Mp.lays_many:∀l:List Itm,l.length≤(Mp.lays l).length
 | []=>Nat.zero_le _
 | k :: r=>by
  have h1:=Mp.lays_many r
  have h2:=Mp.lay_one k
  simp only [Mp.lays,List.length_cons,List.length_append];omega
theorem Mp.lays_at:∀(l:List Itm) (i:Nat) (d:Itm),i<l.length→(Mp.lay (l.getD i d)).length+(l.length - 1)≤(Mp.lays l).length
 | [],i,d,h=>absurd h (Nat.not_lt_zero _)
 | k :: r,0,d,_=>by
  have:=Mp.lays_many r
  simp only [Mp.lays,List.length_append,List.getD_cons_zero,List.length_cons];omega
 | k :: r,i+1,d,h=>by
  have h1:=Mp.lays_at r i d (by simpa using h)
  have h2:=Mp.lay_one k
  have h3:i<r.length:=by simpa using h
  simp only [Mp.lays,List.length_append,List.getD_cons_succ,List.length_cons];omega
namespace Db
def Got.tvs (g:Got) (p:List Int):List TV:=[.ag (Val.cells g.val),.ag (Flt.cells g.flt),.sl .is p]
def Gots.app (acc:List Fld):Gots→Gots
 | .ok r => .ok (acc++r)
 | .bad p => .bad p
theorem Gots.app_nil (g:Gots):g.app []=g:=by cases g <;> simp [Gots.app]
theorem Gots.app_app (a b:List Fld) (g:Gots):(g.app b).app a=g.app (a++b):=by cases g <;> simp [Gots.app]
end Db
namespace Dk
open Db (Got Gots)
theorem fields_step (d:Nat) (k x:Itm) (r:List Itm) (i:Nat) (p:List Int):fields d (k :: x :: r) i p=if k.kind≠4∨Utf.zero k.text=true then .bad (p++[(i:Int)])
  else match value d x (p++[((i+1:Nat):Int)]) with
   | .bad q => .bad q
   | .ok v=>(fields d r (i+2) p).app [Fld.of k.text v]:=by
 show fieldsE (extV d) (k :: x :: r) i p=if k.kind≠4∨Utf.zero k.text=true then .bad (p++[(i:Int)])
  else match valueE (extV d) x (p++[((i+1:Nat):Int)]) with
   | .bad q => .bad q
   | .ok v=>(fieldsE (extV d) r (i+2) p).app [Fld.of k.text v]
 rw [fieldsE]
 split
 ·rfl
 ·split
  ·rename_i q hq;rw [hq]
  ·rename_i v hv
   rw [hv]
   simp only
   split
   ·rename_i q hq;rw [hq];rfl
   ·rename_i l hl;rw [hl];rfl
theorem fields_nil (d:Nat) (i:Nat) (p:List Int):fields d [] i p = .ok []:=by rw [fields,fieldsE]
theorem elems_nil (d:Nat) (i:Nat) (p:List Int):elems d [] i p = .ok []:=by rw [elems,elemsE]
theorem elems_step (d:Nat) (x:Itm) (r:List Itm) (i:Nat) (p:List Int):elems d (x :: r) i p=match value d x (p++[(i:Int)]) with
   | .bad q => .bad q
   | .ok v=>(elems d r (i+1) p).app [Fld.of (digs i) v]:=by
 show elemsE (extV d) (x :: r) i p=match valueE (extV d) x (p++[(i:Int)]) with
   | .bad q => .bad q
   | .ok v=>(elemsE (extV d) r (i+1) p).app [Fld.of (digs i) v]
 rw [elemsE]
 split
 ·rename_i q hq;rw [hq]
 ·rename_i v hv
  rw [hv]
  simp only
  split
  ·rename_i q hq;rw [hq];rfl
  ·rename_i l hl;rw [hl];rfl
theorem value_of (d:Nat) (it:Itv) (p:List Int):value d (Itm.of it) p=if it.kind=6 then (fields d it.kids 0 p).got (Db.doc 3 []) else if it.kind=5 then (elems d it.kids 0 p).got (Db.doc 4 [])
  else if it.kind=10 then Db.opt (if (extV d it.n it.bytes).2 then some (extV d it.n it.bytes).1 else none) p else Db.opt (Db.leaf it.kind it.n it.bytes it.text) p:=by
 rw [Itm.of,value,valueE];rfl
theorem fields_len (d:Nat):∀(l:List Itm) (i:Nat) (p:List Int) (ks:List Fld),fields d l i p = .ok ks→2 * ks.length=l.length
 | [],i,p,ks,h=>by rw [fields_nil] at h;injection h with h;subst h;rfl
 | [k],i,p,ks,h=>by rw [fields,fieldsE] at h;cases h
 | k :: x :: r,i,p,ks,h=>by
  rw [fields_step] at h
  split at h
  ·cases h
  split at h
  ·cases h
  ·cases hr:fields d r (i+2) p with
   | bad q=>rw [hr] at h;cases h
   | ok l =>
    rw [hr] at h
    have:=fields_len d r (i+2) p l hr
    injection h with h
    subst h
    simp only [List.length_append,List.length_cons,List.length_nil];omega
theorem half1 (n:UInt64) (b t:Str) (ks:List Itm):(Db.half (.mk 1 n b t ks)).2=decide (n<2147483648)∧(n<2147483648→(Db.half (.mk 1 n b t ks)).1=⟨16,n,0,0,[],[],0,[],[]⟩):=by
 have hl:=@UInt64.lt_iff_toNat_lt n 2147483648
 have he:(2147483648:UInt64).toNat=2147483648:=rfl
 have hg:=@UInt64.le_iff_toNat_le 9223372036854775808 n
 have hf:(9223372036854775808:UInt64).toNat=9223372036854775808:=rfl
 have hn:Db.numberI (.mk 1 n b t ks)=if 9223372036854775808≤n then 0 else (n.toNat:Int):=rfl
 have hs:(Db.number (.mk 1 n b t ks)).isSome=!decide (9223372036854775808≤n):=by
  unfold Db.number
  by_cases a:9223372036854775808≤n
  ·rw [if_pos (show 9223372036854775808≤(Itm.mk 1 n b t ks).n from a),decide_eq_true a];rfl
  ·rw [if_neg (show ¬9223372036854775808≤(Itm.mk 1 n b t ks).n from a),decide_eq_false a];rfl
 refine ⟨?_,fun h=>?_⟩
 ·show ((Db.number (.mk 1 n b t ks)).isSome&&decide (-2147483648≤Db.numberI (.mk 1 n b t ks)∧Db.numberI (.mk 1 n b t ks)<2147483648))=_
  rw [hs,hn]
  by_cases a:9223372036854775808≤n
  ·rw [decide_eq_true a,decide_eq_false (show ¬n<2147483648 by rw [hl];have:=hg.1 a;omega)];rfl
  ·rw [decide_eq_false a,if_neg a,Bool.not_false,Bool.true_and]
   exact decide_eq_decide.2 ⟨fun h=>by rw [hl];omega,fun h=>by have:=hl.1 h;omega⟩
 ·show (⟨16,UInt64.ofInt (Db.numberI (.mk 1 n b t ks) % 4294967296),0,0,[],[],0,[],[]⟩:Val)=_
  have h1:=hl.1 h
  rw [hn,if_neg (by rw [hg];omega),Int.emod_eq_of_lt (by omega) (by omega)]
  congr 1
  apply UInt64.toNat_inj.1
  rw [u64_nat];omega
theorem half2 (n:UInt64) (b t:Str) (ks:List Itm) (h63:¬9223372036854775808≤n):(Db.half (.mk 2 n b t ks)).2=decide (n<2147483648)∧(n<2147483648→(Db.half (.mk 2 n b t ks)).1=⟨16,UInt64.ofInt ((UInt32.ofInt (((~~~ n).toNat:Nat):Int)).toNat:Int),0,0,[],[],0,[],[]⟩):=by
 have hl:=@UInt64.lt_iff_toNat_lt n 2147483648
 have he:(2147483648:UInt64).toNat=2147483648:=rfl
 have hn:Db.numberI (.mk 2 n b t ks)=-1 - (n.toNat:Int):=by
  show (if 9223372036854775808≤n then 0 else _)=_
  rw [if_neg h63];rfl
 have hs:(Db.number (.mk 2 n b t ks)).isSome=true:=by
  unfold Db.number
  rw [if_neg (show ¬9223372036854775808≤(Itm.mk 2 n b t ks).n from h63)];rfl
 refine ⟨?_,fun h=>?_⟩
 ·show ((Db.number (.mk 2 n b t ks)).isSome&&decide (-2147483648≤Db.numberI (.mk 2 n b t ks)∧Db.numberI (.mk 2 n b t ks)<2147483648))=_
  rw [hs,hn,Bool.true_and]
  exact decide_eq_decide.2 ⟨fun h=>by rw [hl];omega,fun h=>by have:=hl.1 h;omega⟩
 ·show (⟨16,UInt64.ofInt (Db.numberI (.mk 2 n b t ks) % 4294967296),0,0,[],[],0,[],[]⟩:Val)=_
  have h1:=hl.1 h
  have h2:=u32_ofInt (((~~~ n).toNat:Nat):Int)
  rw [wrap_u32',not_u64] at h2
  rw [hn,not_u64,h2]
  have h3:=n.toNat_lt
  congr 2
  omega
end Dk
end Go.Eng
namespace Go.Eng
open Go.IntWalk
theorem indexByte_lt:∀(s:Str) (c:UInt8),Lib.indexByte s c<s.length
 | [],c=>by rw [Lib.indexByte];decide
 | b :: l,c=>by
  have ih:=indexByte_lt l c
  rw [Lib.indexByte,List.length_cons]
  split
  ·omega
  split
  ·omega
  ·omega
theorem sl_Cut.goal (s t:Str) (hp:decide (t.length=1∧s.length≤1099511627776)=true):sl_Cut.F s t=some [.s (Dk.cut s (t.getD 0 0)).1,.s (Dk.cut s (t.getD 0 0)).2.1,.b (Dk.cut s (t.getD 0 0)).2.2]:=by
 have h:=of_decide_eq_true hp
 refine sl_Cut.F_in _ _ ?_
 intro v1 h1 v2 h2
 have hl:=indexByte_lt s (t.getD 0 0)
 rw [ck_of (decide_eq_true h.1),Dk.cut,←h1]
 rw [←h1] at hl
 by_cases a:0≤v1
 ·have e2:v2=v1+1:=by rw [h2,h.1,i64_in _ (by omega)];rfl
  rw [decide_eq_true a,cond_true,if_pos a,ck_of (cut_ok (by omega) (by omega) (by omega)),ck_of (cut_ok (by omega) (by omega) (by omega)),e2,show (v1+1).toNat=v1.toNat+1 by omega]
 ·rw [decide_eq_false a,cond_false,if_neg a]
theorem st_Cut.goal (s t:Str) (hp:decide (t.length=1∧s.length≤1099511627776)=true):st_Cut.F s t=some [.s (Dk.cut s (t.getD 0 0)).1,.s (Dk.cut s (t.getD 0 0)).2.1,.b (Dk.cut s (t.getD 0 0)).2.2]:=by
 refine st_Cut.F_in _ _ ?_
 intro v1 h1 v2 h2
 rw [ck_of hp,h1,h2]
theorem dk_text.goal (s:Str):dk_text.F s=some [.ag (Itv.cells (Itm.val (Db.text s)))]:=dk_text.F_eq s
theorem dk_simple.goal (n:UInt64):dk_simple.F n=some [.ag (Itv.cells (Itm.val (Db.simple n)))]:=dk_simple.F_eq n
theorem dk_sort.goal (k:Int):dk_sort.F k=some [.u64 (Dk.sort k)]:=by
 rw [dk_sort.F_eq,Dk.sort]
 by_cases a:k=255
 ·rw [decide_eq_true a,cond_true,if_pos a]
 ·rw [decide_eq_false a,cond_false,if_neg a]
theorem dk_integer.goal (v:Int) (hp:decide (-9223372036854775808≤v∧v≤9223372036854775807)=true):dk_integer.F v=some [.ag (Itv.cells (Itm.val (Db.integer v)))]:=by
 have h:=of_decide_eq_true hp
 rw [dk_integer.F_eq,Db.integer]
 by_cases a:v<0
 ·rw [decide_eq_true a,cond_true,if_pos a,not_ofInt v a h.1];rfl
 ·rw [decide_eq_false a,cond_false,if_neg a];rfl
theorem dk_high.l1_ok (v:UInt64):∀(k:Nat) (acc:Str),k≤8→acc.length+k≤1000→dk_high.l1 v acc ((k:Int) - 1)=some [.sl .bs (acc++Cur.putHigh v k)]:=by
 intro k
 induction k with
 | zero =>
  intro acc _ _
  refine dk_high.l1_in _ _ _ ?_
  intro v1 e1 v2 e2 v3 e3
  rw [decide_eq_false (by omega),cond_false,show Cur.putHigh v 0=[] from rfl,List.append_nil]
 | succ k ih =>
  intro acc hk hw
  refine dk_high.l1_in _ _ _ ?_
  intro v1 e1 v2 e2 v3 e3
  have e1':v1=((8 * k:Nat):Int):=by rw [e1,i64_in _ (by omega)];omega
  rw [decide_eq_true (by omega),cond_true,ck_of (decide_eq_true (by omega)),ck_of (big_ap (by simp;omega) (by simp;omega))]
  rw [show v3=(k:Int) - 1 by rw [e3,i64_in _ (by omega)];omega,ih _ (by omega) (by simp;omega),e2,e1',Int.toNat_natCast,u8_of,Cur.putHigh_succ,List.append_assoc]
  rfl
theorem dk_high.goal (v:UInt64) (n:Int) (hp:decide (0≤n∧n≤8)=true):dk_high.F v n=some [.sl .bs (Cur.putHigh v n.toNat)]:=by
 have h:=of_decide_eq_true hp
 refine dk_high.F_in v n ?_
 intro v1 e1
 rw [show v1=((n.toNat:Nat):Int) - 1 by rw [e1,i64_in _ (by omega)];omega,dk_high.l1_ok v _ _ (by omega) (by simp;omega)];rfl
theorem Dk.item_val (n:Str) (f:Fld):Dk.item (Fld.of n f.val)=Dk.item f:=by cases f;rfl
theorem Tree.fines_get:∀(l:List Fld) (i:Nat) (d:Fld),i<l.length→Tree.fines l=true→Tree.fine (l.getD i d)=true
 | [],i,d,h,_=>absurd h (Nat.not_lt_zero _)
 | f :: r,0,d,_,hf=>(Tree.fine_cons.1 hf).1
 | f :: r,i+1,d,h,hf=>Tree.fines_get r i d (by simpa using h) (Tree.fine_cons.1 hf).2
theorem dk_mapped.l1_ok (n:Nat) (l:List Fld) (hb:Fld.bulks l≤1048576) (hf:Tree.fines l=true) (hn:4 * Fld.bulks l+2<n) (x3:Itv) (x4:Int) (x5:UInt64) (x6:Str):∀(m i:Nat) (acc:List Itm),i+m=l.length→acc.length+2 * m≤2147483648 →
  dk_mapped.l1 n l (l.length:Int) i x3 x4 x5 x6 acc=some [.ag [.i .i64 x4,.u64 x5,.sl .bs [],.s x6,.sl .il (acc++Dk.mapped (l.drop i))]]:=by
 have hlen:=Fld.bulks_len l
 intro m
 induction m with
 | zero =>
  intro i acc hi ha
  refine dk_mapped.l1_in _ _ _ _ _ _ _ _ _ ?_
  intro v1 h1 v2 h2 v3 h3
  rw [decide_eq_false (by omega),cond_false,List.drop_of_length_le (by omega),Dk.mapped,List.append_nil]
 | succ m ih =>
  intro i acc hi ha
  refine dk_mapped.l1_in _ _ _ _ _ _ _ _ _ ?_
  intro v1 h1 v2 h2 v3 h3
  rw [Int.toNat_natCast] at h1
  have hg:=Fld.bulks_get l i (STy.dflt .fl) (by omega)
  have hfn:=Tree.fines_get l i (STy.dflt .fl) (by omega) hf
  rw [←h1] at hg hfn
  have hv:=Fld.bulk_val v1
  have h2':v2=[Db.text v1.name,Dk.item v1]:=by rw [h2,Itm.of_val,Itm.of_val,Dk.item_val]
  rw [decide_eq_true (by omega),cond_true,ck_of (idx_ok (by omega) (by omega)),decide_eq_true (show 4 * Fld.bulk (Fld.of [] v1.val)+2<n by omega),decide_eq_true (show Fld.bulk (Fld.of [] v1.val)≤1048576 by omega),Tree.fine_val v1 hfn,Bool.and_self,Bool.and_self,ck_true,
   ck_of (big_ap (by rw [h2'];simp only [List.length_cons,List.length_nil];omega) (by rw [h2'];simp only [List.length_cons,List.length_nil];omega)),show v3=((i+1:Nat):Int) by rw [h3,i64_in _ (by omega)];omega,h2',ih _ _ (by omega) (by simp only [List.length_append,List.length_cons,List.length_nil];omega),drop_cons (l:=l) (i:=i) (by omega) (STy.dflt .fl),←h1,Dk.mapped,List.append_assoc];rfl
theorem pre3 {a b c:Bool} (h:((a&&b)&&c)=true):(a=true∧b=true)∧c=true:=by simpa [Bool.and_eq_true] using h
theorem dk_mapped.goal (n:Nat) (l:List Fld) (hp:((decide (Fld.bulks l≤1048576)&&Tree.fines l)&&decide ((4 * Fld.bulks l+3)<n+1))=true):dk_mapped.F n l=some [.ag (Itv.cells (Itm.val (Db.map (Dk.mapped l))))]:=by
 obtain ⟨⟨h1,h2⟩,h3⟩:=pre3 hp
 have h1:=of_decide_eq_true h1
 have h3:=of_decide_eq_true h3
 have hlen:=Fld.bulks_len l
 rw [dk_mapped.F_eq]
 have:=dk_mapped.l1_ok n l h1 h2 (by omega) (Itv.mk 0 0 [] [] []) 6 0 [] l.length 0 [] (by omega) (by simp;omega)
 rw [List.drop_zero,List.nil_append] at this
 exact this
end Go.Eng
namespace Go.Eng
open Go.IntWalk
theorem len_ok {n:Nat} (h:n≤1000000000):lenOK n=true:=lenOK_iff.2 (by rw [maxLen_eq];omega)
theorem ap_ok {n:Nat} {b:Nat} (h:n≤500000000) (hb:b≤200):apOK n b=true:=big_ap (Nat.le_trans (Nat.mul_le_mul h hb) (by omega)) (by omega)
theorem Val.bounds {v:Val} (h:Fld.bulk (Fld.of [] v)≤1048576):v.text.length≤1048576∧v.more.length≤1048576∧v.bytes.length≤1048576∧Fld.bulks v.kids<Fld.bulk (Fld.of [] v)∧v.kids.length≤1048576∧(Mp.lay (Db.map (Dk.mapped v.kids))).length≤70000000:=by
 have h1:=Dk.len_bulks v.kids
 have h2:=Dk.map_lay (Dk.mapped v.kids)
 have h3:=Dk.mapped_lay v.kids
 simp only [Fld.of,Fld.bulk,List.length_nil] at h ⊢
 omega
theorem dk_laid.goal (n:Nat) (l:List Fld) (hp:((decide (Fld.bulks l≤1048576)&&Tree.fines l)&&decide ((4 * Fld.bulks l+4)<n+1))=true):dk_laid.F n l=some [.sl .bs (Mp.lay (Db.map (Dk.mapped l)))]:=by
 obtain ⟨⟨h1,h2⟩,h3⟩:=pre3 hp
 have h1':=of_decide_eq_true h1
 have h3:=of_decide_eq_true h3
 have h4:=Dk.map_bulk l
 refine dk_laid.F_in _ _ ?_
 intro v1 e1 v2 e2
 rw [Itm.of_val] at e1 e2
 rw [h1,h2,decide_eq_true (show 4 * Fld.bulks l+3<n by omega),Bool.and_self,Bool.and_self,ck_true,Itm.of_val,ck_of (decide_eq_true (by omega)),e1,Mp.enc,if_pos (Dk.map_chk l h2 h1')]
theorem dk_inner.j2_ok (n:Nat) (v:Val) (x1:Bool) (hx:x1=decide (v.kind=13∨v.kind=14)) (hb:Fld.bulk (Fld.of [] v)≤1048576) (hf:Tree.fine (Fld.of [] v)=true) (hn:4 * Fld.bulk (Fld.of [] v)+1<n+1)
  (a4:v.kind≠4) (a5:v.kind≠5) (a7:v.kind≠7) (a9:¬(v.kind=9∨v.kind=17∨v.kind=18)) (a11:v.kind≠11) (a12:v.kind≠12) :
  dk_inner.j2 n v.kind x1 v=some [.sl .bs (Dk.inner v (Mp.lay (Db.map (Dk.mapped v.kids))))]:=by
 obtain ⟨b1,b2,b3,b4,b5,b6⟩:=Val.bounds hb
 have hk:=((Tree.fine_of [] v).1 hf).2.2
 refine dk_inner.j2_in _ _ _ _ ?_
 intro v1 e1 v2 e2 v3 e3 v4 e4 v5 e5 v6 e6
 rw [hx,Dk.inner,if_neg a4,if_neg a5,if_neg a7,if_neg a9,if_neg a11,if_neg a12]
 by_cases a:v.kind=13∨v.kind=14
 ·rw [decide_eq_true a,cond_true,if_pos a,ck_of (len_ok (by omega))]
 rw [decide_eq_false a,cond_false,if_neg a]
 have l2:v2.length=4:=by rw [e2];exact Cur.putHigh_len _ _
 have l5:v5.length=8:=by rw [e5];exact Cur.putHigh_len _ _
 have l6:v6.length=8:=by rw [e6];exact Cur.putHigh_len _ _
 by_cases c:v.kind=15
 ·rw [decide_eq_true c,cond_true,if_pos c,ck_of (by decide),ck_of (ap_ok (by omega) (by decide)),decide_eq_true (show Fld.bulks v.kids≤1048576 by omega),hk,decide_eq_true (show 4 * Fld.bulks v.kids+4<n by omega),Bool.and_self,Bool.and_self,ck_true,
   ck_of (ap_ok (by rw [List.length_append,e3];omega) (by decide)),e4,e3,e2,e1];rfl
 rw [decide_eq_false c,cond_false,if_neg c]
 by_cases d:v.kind=19
 ·rw [decide_eq_true d,cond_true,if_pos d,ck_of (by decide),ck_of (by decide),ck_of (ap_ok (by omega) (by decide)),e5,e6];rfl
 rw [decide_eq_false d,cond_false,if_neg d]
theorem dk_inner.j1_ok (n:Nat) (v:Val) (x1:Bool) (hx:x1=decide (v.kind=9∨v.kind=17∨v.kind=18)) (hb:Fld.bulk (Fld.of [] v)≤1048576) (hf:Tree.fine (Fld.of [] v)=true) (hn:4 * Fld.bulk (Fld.of [] v)+1<n+1)
  (a4:v.kind≠4) (a5:v.kind≠5) (a7:v.kind≠7) :
  dk_inner.j1 n v.kind x1 v=some [.sl .bs (Dk.inner v (Mp.lay (Db.map (Dk.mapped v.kids))))]:=by
 obtain ⟨b1,b2,b3,b4,b5,b6⟩:=Val.bounds hb
 refine dk_inner.j1_in _ _ _ _ ?_
 intro v1 e1 v2 e2 v3 e3
 rw [hx]
 by_cases a9:v.kind=9∨v.kind=17∨v.kind=18
 ·rw [decide_eq_true a9,cond_true,ck_of (by decide),e1,Dk.inner,if_neg a4,if_neg a5,if_neg a7,if_pos a9];rfl
 rw [decide_eq_false a9,cond_false]
 by_cases a11:v.kind=11
 ·have l2:v2.length=v.text.length+1:=by rw [e2,List.length_append];rfl
  rw [decide_eq_true a11,cond_true,ck_of (decide_eq_true (by simp only [List.length_cons,List.length_nil];omega)),ck_of (decide_eq_true (by omega)),ck_of (len_ok (by rw [List.length_append];omega)),e2,Dk.inner,if_neg a4,if_neg a5,if_neg a7,if_neg a9,if_pos a11,List.append_assoc];rfl
 rw [decide_eq_false a11,cond_false]
 by_cases a12:v.kind=12
 ·rw [decide_eq_true a12,cond_true,ck_of (ap_ok (by omega) (by decide)),ck_of (ap_ok (by omega) (by decide)),e3,Dk.inner,if_neg a4,if_neg a5,if_neg a7,if_neg a9,if_neg a11,if_pos a12]
 rw [decide_eq_false a12,cond_false]
 by_cases a13:v.kind=13
 ·rw [decide_eq_true a13,cond_true]
  exact dk_inner.j2_ok n v _ (by rw [decide_eq_true (Or.inl a13)]) hb hf hn a4 a5 a7 a9 a11 a12
 ·rw [decide_eq_false a13,cond_false]
  exact dk_inner.j2_ok n v _ (decide_eq_decide.2 ⟨.inr,fun h=>h.resolve_left a13⟩) hb hf hn a4 a5 a7 a9 a11 a12
theorem dk_inner.goal (n:Nat) (v:Val) (hp:((decide (Fld.bulk (Fld.of [] v)≤1048576)&&Tree.fine (Fld.of [] v))&&decide ((4 * Fld.bulk (Fld.of [] v)+1)<n+1))=true):dk_inner.F n v=some [.sl .bs (Dk.inner v (Mp.lay (Db.map (Dk.mapped v.kids))))]:=by
 obtain ⟨⟨h1,hf⟩,h3⟩:=pre3 hp
 have hb:=of_decide_eq_true h1
 have hn:=of_decide_eq_true h3
 obtain ⟨b1,b2,b3,b4,b5,b6⟩:=Val.bounds hb
 have hk:=((Tree.fine_of [] v).1 hf).2.2
 refine dk_inner.F_in _ _ ?_
 intro v1 e1 v2 e2
 by_cases a4:v.kind=4
 ·rw [decide_eq_true a4,cond_true,decide_eq_true (show Fld.bulks v.kids≤1048576 by omega),hk,decide_eq_true (show 4 * Fld.bulks v.kids+4<n by omega),Bool.and_self,Bool.and_self,ck_true,e1,Dk.inner,if_pos a4]
 rw [decide_eq_false a4,cond_false]
 by_cases a5:v.kind=5
 ·rw [decide_eq_true a5,cond_true,ck_of (ap_ok (by rw [e2];simp only [List.length_cons,List.length_nil];omega) (by decide)),e2,Dk.inner,if_neg a4,if_pos a5];rfl
 rw [decide_eq_false a5,cond_false]
 by_cases a7:v.kind=7
 ·rw [decide_eq_true a7,cond_true,ck_of (ap_ok (by omega) (by decide)),Dk.inner,if_neg a4,if_neg a5,if_pos a7]
 rw [decide_eq_false a7,cond_false]
 by_cases a9:v.kind=9
 ·rw [decide_eq_true a9,cond_true]
  exact dk_inner.j1_ok n v _ (by rw [decide_eq_true (Or.inl a9)]) hb hf hn a4 a5 a7
 rw [decide_eq_false a9,cond_false]
 by_cases a17:v.kind=17
 ·rw [decide_eq_true a17,cond_true]
  exact dk_inner.j1_ok n v _ (by rw [decide_eq_true (Or.inr (Or.inl a17))]) hb hf hn a4 a5 a7
 rw [decide_eq_false a17,cond_false]
 exact dk_inner.j1_ok n v _ (decide_eq_decide.2 ⟨fun h => .inr (.inr h),fun h=>(h.resolve_left a9).resolve_left a17⟩) hb hf hn a4 a5 a7
theorem dk_item.l1_ok (n:Nat) (l:List Fld) (hb:Fld.bulks l≤1048576) (hf:Tree.fines l=true) (hn:4 * Fld.bulks l+2<n) (x3:Itv) (x4:Int) (x5:UInt64) (x6:Str):∀(m i:Nat) (acc:List Itm),i+m=l.length→acc.length+m≤2147483648 →
  dk_item.l1 n l (l.length:Int) i x3 x4 x5 x6 acc=some [.ag [.i .i64 x4,.u64 x5,.sl .bs [],.s x6,.sl .il (acc++Dk.items (l.drop i))]]:=by
 have hlen:=Fld.bulks_len l
 intro m
 induction m with
 | zero =>
  intro i acc hi ha
  refine dk_item.l1_in _ _ _ _ _ _ _ _ _ ?_
  intro v1 h1 v2 h2 v3 h3
  rw [decide_eq_false (by omega),cond_false,List.drop_of_length_le (by omega),Dk.items,List.append_nil]
 | succ m ih =>
  intro i acc hi ha
  refine dk_item.l1_in _ _ _ _ _ _ _ _ _ ?_
  intro v1 h1 v2 h2 v3 h3
  rw [Int.toNat_natCast] at h1
  have hg:=Fld.bulks_get l i (STy.dflt .fl) (by omega)
  have hfn:=Tree.fines_get l i (STy.dflt .fl) (by omega) hf
  rw [←h1] at hg hfn
  have hv:=Fld.bulk_val v1
  have h2':v2=[Dk.item v1]:=by rw [h2,Itm.of_val,Dk.item_val]
  rw [decide_eq_true (by omega),cond_true,ck_of (idx_ok (by omega) (by omega)),decide_eq_true (show 4 * Fld.bulk (Fld.of [] v1.val)+2<n by omega),decide_eq_true (show Fld.bulk (Fld.of [] v1.val)≤1048576 by omega),Tree.fine_val v1 hfn,Bool.and_self,Bool.and_self,ck_true,
   ck_of (big_ap (by rw [h2'];simp only [List.length_cons,List.length_nil];omega) (by rw [h2'];simp only [List.length_cons,List.length_nil];omega)),show v3=((i+1:Nat):Int) by rw [h3,i64_in _ (by omega)];omega,h2',ih _ _ (by omega) (by simp only [List.length_append,List.length_cons,List.length_nil];omega),drop_cons (l:=l) (i:=i) (by omega) (STy.dflt .fl),←h1,Dk.items,List.append_assoc];rfl
theorem dk_item.j2_ok (n:Nat) (v:Val) (x1:Itv) (hb:Fld.bulk (Fld.of [] v)≤1048576) (hf:Tree.fine (Fld.of [] v)=true) (hn:4 * Fld.bulk (Fld.of [] v)+2<n+1) :
  dk_item.j2 n v x1=some [.ag (Itv.cells (Itm.val (Dk.ext v.kind (Dk.inner v (Mp.lay (Db.map (Dk.mapped v.kids)))))))]:=by
 refine dk_item.j2_in _ _ _ ?_
 intro v1 e1
 rw [decide_eq_true hb,hf,decide_eq_true (show 4 * Fld.bulk (Fld.of [] v)+1<n by omega),Bool.and_self,Bool.and_self,ck_true,e1];rfl
theorem dk_item.goal (n:Nat) (v:Val) (hp:((decide (Fld.bulk (Fld.of [] v)≤1048576)&&Tree.fine (Fld.of [] v))&&decide ((4 * Fld.bulk (Fld.of [] v)+2)<n+1))=true):dk_item.F n v=some [.ag (Itv.cells (Itm.val (Dk.item (Fld.of [] v))))]:=by
 obtain ⟨⟨h1,hf⟩,h3⟩:=pre3 hp
 have hb:=of_decide_eq_true h1
 have hn:=of_decide_eq_true h3
 obtain ⟨b1,b2,b3,b4,b5,b6⟩:=Val.bounds hb
 have hk:=((Tree.fine_of [] v).1 hf).2.2
 refine dk_item.F_in _ _ ?_
 intro v1 e1 v2 e2 v3 e3 v4 e4
 rw [Dk.item_of,Dk.itemOf]
 by_cases a1:v.kind=1
 ·rw [decide_eq_true a1,cond_true,if_pos a1];rfl
 rw [decide_eq_false a1,cond_false,if_neg a1]
 by_cases a2:v.kind=2
 ·rw [decide_eq_true a2,cond_true,if_pos a2]
 rw [decide_eq_false a2,cond_false,if_neg a2]
 by_cases a3:v.kind=3
 ·rw [decide_eq_true a3,cond_true,if_pos a3,decide_eq_true (show Fld.bulks v.kids≤1048576 by omega),hk,decide_eq_true (show 4 * Fld.bulks v.kids+3<n by omega),Bool.and_self,Bool.and_self,ck_true]
 rw [decide_eq_false a3,cond_false,if_neg a3]
 have hext:=dk_item.j2_ok n v (Itv.mk 0 0 [] [] []) hb hf hn
 by_cases a4:v.kind=4
 ·rw [decide_eq_true a4,cond_true,ck_of (decide_eq_true (by omega)),e1]
  by_cases r:Tree.regular v.kids=true
  ·rw [r,cond_true,if_pos ⟨a4,rfl⟩,e2]
   have:=dk_item.l1_ok n v.kids (by omega) hk (by omega) (Itv.mk 0 0 [] [] []) 5 0 [] v.kids.length 0 [] (by omega) (by simp;omega)
   rw [List.drop_zero,List.nil_append] at this
   exact this
  ·rw [show Tree.regular v.kids=false by simpa using r,cond_false,if_neg (fun h=>by cases h.2),if_neg (fun h=>by omega),if_neg (by omega),if_neg (by omega),if_neg (by omega)]
   exact hext
 rw [decide_eq_false a4,cond_false,if_neg (fun h=>a4 h.1)]
 by_cases a5:v.kind=5
 ·rw [decide_eq_true a5,cond_true]
  by_cases s:v.sub=0
  ·rw [decide_eq_true s,cond_true,if_pos ⟨a5,s⟩,ck_of (ap_ok (by omega) (by decide))];rfl
  ·rw [decide_eq_false s,cond_false,if_neg (fun h=>s h.2),if_neg (by omega),if_neg (by omega),if_neg (by omega)]
   exact hext
 rw [decide_eq_false a5,cond_false,if_neg (fun h=>a5 h.1)]
 by_cases a6:v.kind=10
 ·rw [decide_eq_true a6,cond_true,if_pos a6]
 rw [decide_eq_false a6,cond_false,if_neg a6]
 by_cases a7:v.kind=8
 ·rw [decide_eq_true a7,cond_true,if_pos a7,e3]
 rw [decide_eq_false a7,cond_false,if_neg a7]
 by_cases a8:v.kind=16
 ·have hr:=i32_rng (v.bits.toNat:Int)
  have e:IntKind.i64.wrap v4=Db.i32 v.bits:=by rw [e4,i64_i32];rfl
  rw [decide_eq_true a8,cond_true,if_pos a8,e,ck_of (decide_eq_true (by unfold Db.i32;omega))]
 rw [decide_eq_false a8,cond_false,if_neg a8]
 exact hext
theorem dk_Item.goal (v:Val) (hp:decide (Fld.bulk (Fld.of [] v)≤1048576)=true):dk_Item.F v=some [.ag (Itv.cells (Itm.val (Dk.enc v).1)),.ag (Flt.cells (Dk.enc v).2)]:=by
 have hb:=of_decide_eq_true hp
 obtain ⟨b1,b2,b3,b4,b5,b6⟩:=Val.bounds hb
 refine dk_Item.F_in _ ?_
 intro v1 e1 v2 e2 v3 e3
 rw [ck_of (decide_eq_true (by omega))]
 unfold Dk.enc
 by_cases a:(Tree.chkF (Fld.of [] v) []).2=0
 ·have hf:=(Tree.fine_chk _ _).1 a
  have hk:=((Tree.fine_of [] v).1 hf).2.2
  rw [e2,decide_eq_true a,Bool.not_true,cond_false,if_neg (by simpa using a)]
  by_cases b:v.kind=3
  ·rw [decide_eq_true b,Bool.not_true,cond_false,if_neg (by simpa using b),ck_of (decide_eq_true (by omega)),e3]
   by_cases c:200<Tree.depth (Fld.of [] v)
   ·rw [decide_eq_true (by omega),cond_true,if_pos c];rfl
   ·rw [decide_eq_false (by omega),cond_false,if_neg c,decide_eq_true (show Fld.bulks v.kids≤1048576 by omega),hk,Bool.and_self,ck_true];rfl
  ·rw [decide_eq_false b,Bool.not_false,cond_true,if_pos b];rfl
 ·rw [e2,decide_eq_false a,Bool.not_false,cond_true,if_pos a,e1];rfl
end Go.Eng
namespace Go.Eng
open Go.IntWalk
theorem dk_whole.goal (b:Str) (hp:decide (b.length≤1099511627776)=true):dk_whole.F b=some [.b (Utf.whole b)]:=by
 rw [dk_whole.F_eq,ck_of hp]
theorem dk_none.goal (p:List Int) (hp:decide (p.length≤1099511627776)=true):dk_none.F p=some [.ag (Flt.cells (Flt.mk 12 0 p)),.sl .is p]:=by
 have h:=of_decide_eq_true hp
 rw [dk_none.F_eq,ck_of (big_ap (by omega) (by omega))];rfl
theorem dk_word.l1_ok (b:Str) (hb:b.length≤1099511627776):∀(m i:Nat) (x:UInt64),i+m=b.length→dk_word.l1 x b (b.length:Int) i=some [.u64 ((b.drop i).foldl (fun v x=>v * 256+x.toUInt64) x)]:=by
 intro m
 induction m with
 | zero =>
  intro i x hi
  refine dk_word.l1_in _ _ _ _ ?_
  intro v1 e1 v2 e2 v3 e3 v4 e4
  rw [decide_eq_false (by omega),cond_false,List.drop_of_length_le (by omega)];rfl
 | succ m ih =>
  intro i x hi
  refine dk_word.l1_in _ _ _ _ ?_
  intro v1 e1 v2 e2 v3 e3 v4 e4
  rw [Int.toNat_natCast] at e1
  rw [decide_eq_true (by omega),cond_true,ck_of (idx_ok (by omega) (by omega)),drop_cons (l:=b) (i:=i) (by omega) 0,List.foldl_cons,←e1,show v4=((i+1:Nat):Int) by rw [e4,i64_in _ (by omega)];omega,ih _ _ (by omega),e2,e3,show (8:UInt64).toNat=8 from rfl,be_step]
theorem dk_word.goal (b:Str) (hp:decide (b.length≤1099511627776)=true):dk_word.F b=some [.u64 (Cur.be b)]:=by
 have h:=of_decide_eq_true hp
 rw [dk_word.F_eq]
 exact dk_word.l1_ok b h _ 0 0 (Nat.zero_add _)
theorem dk_with.l1_ok (n:Nat) (l:List Itm) (path:List Int) (within:Int) (v:Val) (x4:Val) (x5:Flt) (hw:0≤within∧within≤200) (hb:(Mp.lays l).length+path.length≤536870912) (hn:4 * (Mp.lays l).length+2<n) (hc:Mp.chks l=0):∀(m i:Nat) (acc:List Fld),i+2 * m=l.length→acc.length+m≤600000000 →
  dk_with.l1 n l within i ⟨v.kind,v.bits,v.high,v.low,v.text,v.more,v.sub,v.bytes,acc⟩ x4 x5 path=some (Db.Got.tvs (((Dk.fields (200 - within).toNat (l.drop i) i path).app acc).got v) path):=by
 have hlen:=Mp.lays_many l
 intro m
 induction m with
 | zero =>
  intro i acc hi ha
  refine dk_with.l1_in _ _ _ _ _ _ _ _ ?_
  intro v1 h1 v2 h2 v3 h3 v4 h4 v5 h5 v6 h6 v7 h7 v8 h8 v9 h9 v10 h10
  rw [decide_eq_false (by omega),cond_false,List.drop_of_length_le (by omega),Dk.fields_nil]
  simp only [Db.Gots.app,List.append_nil,Db.Gots.got];rfl
 | succ m ih =>
  intro i acc hi ha
  refine dk_with.l1_in _ _ _ _ _ _ _ _ ?_
  intro v1 h1 v2 h2 v3 h3 v4 h4 v5 h5 v6 h6 v7 h7 v8 h8 v9 h9 v10 h10
  have e6:v6=((i+1:Nat):Int):=by rw [h6,i64_in _ (by omega)];omega
  rw [e6] at h7 h8
  rw [Int.toNat_natCast] at h1 h3
  rw [Int.toNat_natCast,Itm.of_val] at h7 h8
  have hd:l.drop i=l.getD i (STy.dflt .il) :: l.getD (i+1) (STy.dflt .il) :: l.drop (i+2):=by
   rw [drop_cons (show i<l.length by omega) (STy.dflt .il),drop_cons (show i+1<l.length by omega) (STy.dflt .il)]
  have hbd:=Mp.lays_drop l i
  have hcd:=Mp.chks_drop l i hc
  rw [hd] at hbd hcd
  simp only [Mp.lays,List.length_append] at hbd
  have hk1:=Mp.lay_one (l.getD i (STy.dflt .il))
  obtain ⟨_,hcd⟩:=Mp.chks_cons hcd
  obtain ⟨hcx,_⟩:=Mp.chks_cons hcd
  have hz:decide (0≤Lib.indexByte v3 (([0]:Str).getD 0 0))=Utf.zero v3:=indexByte_contains 0 v3
  have e2:v2=decide (v1=4):=by rw [h2,Bool.not_not]
  rw [hz] at h4
  have i0:idxOK (i:Int) l.length=true:=idx_ok (by omega) (by omega)
  rw [hd,Dk.fields_step,←h1,←h3]
  rw [e6,Int.toNat_natCast,Itm.of_val]
  generalize l.getD (i+1) (STy.dflt .il)=x at h7 h8 hbd hcx
  simp only [i0,show decide ((([0]:Str)).length=1)=true from rfl,Bool.and_true,Bool.and_self,Bool.not_or_self,ck_true]
  rw [decide_eq_true (by omega),cond_true,ck_of (by rw [e2];cases decide (v1=4) <;> rfl)]
  by_cases bad:v1≠4∨Utf.zero v3=true
  ·have e4:v4=true:=by
    rw [h4]
    by_cases x:v1=4
    ·rw [decide_eq_true x,bad.resolve_left (fun h=>h x)];rfl
    ·rw [decide_eq_false x];rfl
   rw [e4,cond_true,if_pos bad,ck_of (big_ap (by simp only [List.length_singleton];omega) (by simp only [List.length_singleton];omega)),ck_of (decide_eq_true (by simp only [List.length_append,List.length_singleton];omega)),h5];rfl
  ·have e4:v4=false:=by
    simp only [not_or,Classical.not_not,ne_eq] at bad
    rw [h4,decide_eq_true bad.1,Bool.eq_false_iff.2 bad.2];rfl
   rw [e4,cond_false,if_neg bad,ck_of (idx_ok (by omega) (by omega)),ck_of (big_ap (by simp only [List.length_singleton];omega) (by simp only [List.length_singleton];omega)),ck_of (by
    rw [decide_eq_true (show (Mp.lay x).length+(path++[((i+1:Nat):Int)]).length≤536870912 by simp only [List.length_append,List.length_singleton];omega),decide_eq_true (show Mp.chk x=0∧0≤within∧within≤200 from ⟨hcx,hw⟩),decide_eq_true (show 4 * (Mp.lay x).length<n by omega)];rfl)]
   cases hv:Dk.value (200 - within).toNat x (path++[((i+1:Nat):Int)]) with
   | bad q =>
    rw [hv] at h8
    rw [h8];rfl
   | ok w =>
    rw [hv] at h7 h8
    have h7':v7=w:=h7
    have h8':v8=⟨0,0,[]⟩:=h8
    have h9':v9.length=1:=by rw [h9];rfl
    rw [h8',show (!decide ((Flt.mk 0 0 []).err=0))=false from rfl,cond_false,ck_of (big_ap (by show (acc.length+v9.length) * 136≤_;omega) (by show acc.length+v9.length≤_;omega)),h10,i64_in _ (by omega),show (i:Int)+2=((i+2:Nat):Int) by omega]
    refine (ih (i+2) (acc++v9) (by omega) (by rw [List.length_append];omega)).trans ?_
    rw [h9,h7']
    simp only
    rw [Db.Gots.app_app];rfl
theorem dk_with.goal (n:Nat) (v:Val) (l:List Itm) (path:List Int) (within:Int) (hp:((decide ((Mp.lays l).length+path.length≤536870912)&&decide (Mp.chks l=0∧l.length % 2=0∧0≤within∧within≤200))&&decide ((4 * (Mp.lays l).length+3)<n+1))=true) :
  dk_with.F n v l path within=some (Db.Got.tvs ((Dk.fields (200 - within).toNat l 0 path).got ⟨v.kind,v.bits,v.high,v.low,v.text,v.more,v.sub,v.bytes,[]⟩) path):=by
 simp only [Bool.and_eq_true,decide_eq_true_eq] at hp
 obtain ⟨⟨hb,hc,he,hw⟩,hn⟩:=hp
 have hlen:=Mp.lays_many l
 rw [dk_with.F_eq]
 have:=dk_with.l1_ok n l path within ⟨v.kind,v.bits,v.high,v.low,v.text,v.more,v.sub,v.bytes,[]⟩ Db.zero ⟨0,0,[]⟩ hw hb (by omega) hc (l.length / 2) 0 [] (by omega) (by simp only [List.length_nil];omega)
 rw [List.drop_zero,Db.Gots.app_nil] at this
 exact this
theorem dk_value.l2_ok (n:Nat) (l:List Itm) (path:List Int) (within:Int) (x4:Val) (x5:Flt) (v:Val) (hw:0≤within∧within≤200) (hb:(Mp.lays l).length+1+path.length≤536870912) (hn:4 * (Mp.lays l).length<n) (hc:Mp.chks l=0):∀(m i:Nat) (acc:List Fld),i+m=l.length→acc.length+m≤600000000 →
  dk_value.l2 n within l (l.length:Int) i x4 x5 ⟨v.kind,v.bits,v.high,v.low,v.text,v.more,v.sub,v.bytes,acc⟩ path=some (Db.Got.tvs (((Dk.elems (200 - within).toNat (l.drop i) i path).app acc).got v) path):=by
 have hlen:=Mp.lays_many l
 intro m
 induction m with
 | zero =>
  intro i acc hi ha
  refine dk_value.l2_in _ _ _ _ _ _ _ _ _ ?_
  intro v1 h1 v2 h2 v3 h3 v4 h4
  rw [decide_eq_false (by omega),cond_false,List.drop_of_length_le (by omega),Dk.elems_nil]
  simp only [Db.Gots.app,List.append_nil,Db.Gots.got];rfl
 | succ m ih =>
  intro i acc hi ha
  refine dk_value.l2_in _ _ _ _ _ _ _ _ _ ?_
  intro v1 h1 v2 h2 v3 h3 v4 h4
  rw [Int.toNat_natCast,Itm.of_val] at h1 h2
  have hd:l.drop i=l.getD i (STy.dflt .il) :: l.drop (i+1):=drop_cons (show i<l.length by omega) (STy.dflt .il)
  have hbd:=Mp.lays_at l i (STy.dflt .il) (by omega)
  have hcd:=Mp.chks_drop l i hc
  rw [hd] at hcd
  obtain ⟨hcx,_⟩:=Mp.chks_cons hcd
  rw [hd,Dk.elems_step,Int.toNat_natCast,Itm.of_val]
  generalize l.getD i (STy.dflt .il)=x at h1 h2 hbd hcx
  rw [decide_eq_true (by omega),cond_true,ck_of (idx_ok (by omega) (by omega)),ck_of (big_ap (by simp only [List.length_singleton];omega) (by simp only [List.length_singleton];omega)),ck_of (by
    rw [decide_eq_true (show (Mp.lay x).length+(path++[(i:Int)]).length≤536870912 by simp only [List.length_append,List.length_singleton];omega),decide_eq_true (show Mp.chk x=0∧0≤within∧within≤200 from ⟨hcx,hw⟩),decide_eq_true (show 4 * (Mp.lay x).length<n by omega)];rfl)]
  cases hv:Dk.value (200 - within).toNat x (path++[(i:Int)]) with
  | bad q =>
   rw [hv] at h2
   rw [h2];rfl
  | ok w =>
   rw [hv] at h1 h2
   have h1':v1=w:=h1
   have h2':v2=⟨0,0,[]⟩:=h2
   have h3':v3.length=1:=by rw [h3];rfl
   rw [h2',show (!decide ((Flt.mk 0 0 []).err=0))=false from rfl,cond_false,ck_of (decide_eq_true (by omega)),ck_of (big_ap (by show (acc.length+v3.length) * 136≤_;omega) (by show acc.length+v3.length≤_;omega)),h4,i64_in _ (by omega),show (i:Int)+1=((i+1:Nat):Int) by omega]
   refine (ih (i+1) (acc++v3) (by omega) (by rw [List.length_append];omega)).trans ?_
   rw [h3,h1',itoa_nat]
   simp only
   rw [Db.Gots.app_app];rfl
theorem dk_value.j1_ok (n:Nat) (x0:Val) (x1:Flt) (p:List Int) (h:p.length≤1099511627776):dk_value.j1 n x0 x1 p=some (Db.Got.tvs (.bad p) p):=by
 rw [dk_value.j1_eq,ck_of (decide_eq_true h)];rfl
theorem u64_range3 {n:UInt64} (h:20≤n∧n≤22):n=20∨n=21∨n=22:=by
 have h1:(20:UInt64).toNat≤n.toNat:=UInt64.le_iff_toNat_le.1 h.1
 have h2:n.toNat≤(22:UInt64).toNat:=UInt64.le_iff_toNat_le.1 h.2
 have e1:(20:UInt64).toNat=20:=rfl
 have e2:(22:UInt64).toNat=22:=rfl
 rcases (by omega:n.toNat=20∨n.toNat=21∨n.toNat=22) with e | e | e
 ·exact .inl (UInt64.toNat_inj.1 e)
 ·exact .inr (.inl (UInt64.toNat_inj.1 e))
 ·exact .inr (.inr (UInt64.toNat_inj.1 e))
theorem dk_value.goal (n:Nat) (it:Itv) (path:List Int) (within:Int) (hp:((decide ((Mp.lay (Itm.of it)).length+path.length≤536870912)&&decide (Mp.chk (Itm.of it)=0∧0≤within∧within≤200))&&decide ((4 * (Mp.lay (Itm.of it)).length)<n+1))=true) :
  dk_value.F n it path within=some (Db.Got.tvs (Dk.value (200 - within).toNat (Itm.of it) path) path):=by
 simp only [Bool.and_eq_true,decide_eq_true_eq] at hp
 obtain ⟨⟨hb,hc,hw⟩,hn⟩:=hp
 obtain ⟨ho,hk⟩:=Mp.chkI it hc
 obtain ⟨o1,o2,o3,o4,o5,o6,o7,o8,o9,o10⟩:=Mp.has0 it ho
 have hs:1+it.bytes.length+it.text.length+(Mp.lays it.kids).length≤(Mp.lay (Itm.of it)).length:=(Mp.lay_size (Itm.of it)).2
 rw [Dk.value_of]
 refine dk_value.F_in _ _ _ _ ?_
 intro v1 e1 v2 e2 v3 e3 v4 e4 v5 e5 v6 e6 v7 e7 v8 e8 v9 e9 v10 e10 v11 e11 v12 e12 v13 e13 v14 e14
 have hj:=fun x0 x1=>dk_value.j1_ok n x0 x1 path (by omega)
 by_cases k9:it.kind=9
 ·rw [decide_eq_true k9,cond_true,if_neg (by omega),if_neg (by omega),if_neg (by omega),Db.leaf,if_pos k9];rfl
 rw [decide_eq_false k9,cond_false]
 by_cases k4:it.kind=4
 ·rw [decide_eq_true k4,cond_true,if_neg (by omega),if_neg (by omega),if_neg (by omega),Db.leaf,if_neg k9,if_pos k4];rfl
 rw [decide_eq_false k4,cond_false]
 by_cases k3:it.kind=3
 ·rw [decide_eq_true k3,cond_true,if_neg (by omega),if_neg (by omega),if_neg (by omega),Db.leaf,if_neg k9,if_neg k4,if_pos k3,ck_of (big_ap (by omega) (by omega))];rfl
 rw [decide_eq_false k3,cond_false]
 by_cases k8:it.kind=8
 ·rw [decide_eq_true k8,cond_true,if_neg (by omega),if_neg (by omega),if_neg (by omega),Db.leaf,if_neg k9,if_neg k4,if_neg k3,if_pos k8]
  have hn3:=u64_range3 (o7 k8)
  subst e1 e2 e3 e4 e5 e6 e7
  rcases hn3 with e | e | e <;> rw [e] <;> rfl
 rw [decide_eq_false k8,cond_false]
 by_cases k1:it.kind=1
 ·rw [decide_eq_true k1,cond_true,if_neg (by omega),if_neg (by omega),if_neg (by omega),Db.leaf,if_neg k9,if_neg k4,if_neg k3,if_neg k8,k1]
  obtain ⟨q1,q2⟩:=Dk.half1 it.n it.bytes it.text []
  rw [q1]
  by_cases s:it.n<2147483648
  ·rw [decide_eq_true s,cond_true,if_pos rfl,q2 s];rfl
  ·rw [decide_eq_false s,cond_false,hj];rfl
 rw [decide_eq_false k1,cond_false]
 by_cases k2:it.kind=2
 ·rw [decide_eq_true k2,cond_true,if_neg (by omega),if_neg (by omega),if_neg (by omega),Db.leaf,if_neg k9,if_neg k4,if_neg k3,if_neg k8,k2]
  obtain ⟨q1,q2⟩:=Dk.half2 it.n it.bytes it.text [] (o6 k2)
  rw [q1]
  by_cases s:it.n<2147483648
  ·rw [decide_eq_true s,cond_true,if_pos rfl,q2 s,e9,e8];rfl
  ·rw [decide_eq_false s,cond_false,hj];rfl
 rw [decide_eq_false k2,cond_false]
 by_cases k6:it.kind=6
 ·rw [decide_eq_true k6,cond_true,if_pos k6,decide_eq_true (show (Mp.lays it.kids).length+path.length≤536870912 by omega),decide_eq_true (show Mp.chks it.kids=0∧it.kids.length % 2=0∧0≤within∧within≤200 from ⟨hk,o9 k6,hw⟩),decide_eq_true (show 4 * (Mp.lays it.kids).length+3<n by omega),Bool.and_self,Bool.and_self,ck_true,e10,e11];rfl
 rw [decide_eq_false k6,cond_false,if_neg k6]
 by_cases k5:it.kind=5
 ·rw [decide_eq_true k5,cond_true,if_pos k5,e12]
  have:=dk_value.l2_ok n it.kids path within (Val.mk 0 0 0 0 [] [] 0 [] []) ⟨0,0,[]⟩ (Db.doc 4 []) hw (by omega) (by omega) hk it.kids.length 0 [] (by omega) (by have:=Mp.lays_many it.kids;simp only [List.length_nil];omega)
  rw [List.drop_zero,Db.Gots.app_nil] at this
  exact this
 rw [decide_eq_false k5,cond_false,if_neg k5]
 by_cases k10:it.kind=10
 ·rw [decide_eq_true k10,cond_true,if_pos k10,decide_eq_true (show it.bytes.length≤536870912∧it.n≤127∧0≤within∧within≤200 from ⟨by omega,o8 k10,hw⟩),decide_eq_true (show 4 * it.bytes.length+2<n by omega),Bool.and_self,ck_true,e13,e14]
  cases (Dk.extV (200 - within).toNat it.n it.bytes).2
  ·rw [cond_false,hj,if_neg (by decide)];rfl
  ·rw [cond_true,if_pos rfl];rfl
 omega
end Go.Eng
namespace Go.Eng
open Go.IntWalk
namespace Dk
open Db (Got Gots)
theorem map_facts {x:Itm} (hc:Mp.chk x=0) (hk:x.kind=6):Mp.chks x.kids=0∧x.kids.length % 2=0∧(Mp.lays x.kids).length+1≤(Mp.lay x).length:=by
 have h1:=Mp.chkI x.val (by rw [Itm.of_val];exact hc)
 have h2:=(Mp.lay_size x).2
 obtain ⟨o1,o2,o3,o4,o5,o6,o7,o8,o9,o10⟩:=Mp.has0 x.val h1.1
 exact ⟨h1.2,o9 hk,by omega⟩
theorem dec_map {c:Str} (he:(Mp.dec c 1000).2.err=0) (hk:(Mp.dec c 1000).1.kind=6):Mp.chks (Mp.dec c 1000).1.kids=0∧(Mp.dec c 1000).1.kids.length % 2=0∧(Mp.lays (Mp.dec c 1000).1.kids).length+1≤c.length:=by
 have h:=(Mp.dec_just c 1000).1 he
 have:=map_facts h.1 hk
 rw [h.2.1] at this
 exact this
theorem innE_of (d:Nat) (c:Str):inn d c=if (Mp.dec c 1000).2.err≠0∨(Mp.dec c 1000).1.kind≠6 then none else match fields d (Mp.dec c 1000).1.kids 0 [] with
  | .ok l=>some l
  | .bad _=>none:=rfl
theorem readV_of (d:Nat) (v:Val) (c:Str):readV d v c=match inn d c with
  | some l=>({ v with kids:=l },true)
  | none=>(Db.zero,false):=rfl
theorem inn_len {d:Nat} {c:Str} {l:List Fld} (h:inn d c=some l):l.length≤c.length:=by
 rw [innE_of] at h
 by_cases a:(Mp.dec c 1000).2.err≠0∨(Mp.dec c 1000).1.kind≠6
 ·rw [if_pos a] at h;cases h
 rw [if_neg a] at h
 simp only [not_or,Classical.not_not,ne_eq] at a
 have h1:=dec_map a.1 a.2
 have h2:=Mp.lays_many (Mp.dec c 1000).1.kids
 cases hf:fields d (Mp.dec c 1000).1.kids 0 [] with
 | bad q=>rw [hf] at h;cases h
 | ok l' =>
  rw [hf] at h
  injection h with h
  subst h
  have:=fields_len d _ _ _ _ hf
  omega
def two (r:Val × Bool):List TV:=[.ag (Val.cells r.1),.b r.2]
end Dk
theorem dk_read.goal (n:Nat) (v:Val) (b:Str) (within:Int) (hp:(decide (b.length≤536870912∧0≤within∧within<200)&&decide ((4 * b.length+1)<n+1))=true):dk_read.F n v b within=some (Dk.two (Dk.readV (199 - within).toNat ⟨v.kind,v.bits,v.high,v.low,v.text,v.more,v.sub,v.bytes,[]⟩ b)):=by
 simp only [Bool.and_eq_true,decide_eq_true_eq] at hp
 obtain ⟨⟨hb,hw⟩,hn⟩:=hp
 refine dk_read.F_in _ _ _ _ ?_
 intro v1 h1 v2 h2 v3 h3 v4 h4 v5 h5 v6 h6 v7 h7 v8 h8
 have e2:v2=decide (v1.err=0):=by rw [h2,Bool.not_not]
 rw [ck_of (decide_eq_true (by omega))]
 simp only [Bool.not_or_self,ck_true]
 rw [ck_of (by rw [e2];cases decide (v1.err=0) <;> rfl),Dk.readV_of,Dk.innE_of,←h1,←h3]
 by_cases a:v1.err≠0∨v3≠6
 ·have e4:v4=true:=by
   rw [h4]
   by_cases x:v1.err=0
   ·rw [decide_eq_true x,decide_eq_false (a.resolve_left (fun h=>h x))];rfl
   ·rw [decide_eq_false x];rfl
  rw [e4,cond_true,if_pos a];rfl
 ·have a':=a
  simp only [not_or,Classical.not_not,ne_eq] at a
  have e4:v4=false:=by rw [h4,decide_eq_true a.1,decide_eq_true a.2];rfl
  have hd:=Dk.dec_map (c:=b) (by rw [←h1];exact a.1) (by rw [←h3];exact a.2)
  rw [←h5] at hd
  have e6:v6=within+1:=by rw [h6,i64_in _ (by omega)]
  have ed:(200 - v6).toNat=(199 - within).toNat:=by omega
  rw [e4,cond_false,if_neg a',ck_of (by
   rw [decide_eq_true (show (Mp.lays v5).length+([]:List Int).length≤536870912 by simp only [List.length_nil];omega),decide_eq_true (show Mp.chks v5=0∧v5.length % 2=0∧0≤v6∧v6≤200 from ⟨hd.1,hd.2.1,by omega,by omega⟩),decide_eq_true (show 4 * (Mp.lays v5).length+3<n by omega)];rfl)]
  rw [←h5]
  rw [ed] at h7 h8
  cases hf:Dk.fields (199 - within).toNat v5 0 [] with
  | ok l=>rw [hf] at h7 h8;rw [h7,h8];rfl
  | bad q=>rw [hf] at h7 h8;rw [h7,h8];rfl
theorem dk_ext.j4_ok (n:Nat) (R:Val→Str→Val × Bool) (b:Str) (k:Int) (x3:Bool) (x4:Val) (hb:b.length≤536870912) (hx:x3=decide (k=13∨k=14)) (a4:k≠4) (a15:k≠15) (a5:k≠5) (a7:k≠7) (a9:¬(k=9∨k=17∨k=18)) (a11:k≠11) (a12:k≠12) :
  dk_ext.j4 n b false k x3 x4 k 0 0 0 [] [] 0 []=some (Dk.two (Dk.extK R k b)):=by
 refine dk_ext.j4_in _ _ _ _ _ _ _ _ _ _ _ _ _ _ ?_
 intro v1 e1 v2 e2
 rw [hx,Dk.extK,if_neg a4,if_neg a15,if_neg a5,if_neg a7,if_neg a9,if_neg a11,if_neg a12]
 by_cases a:k=13∨k=14
 ·rw [decide_eq_true a,cond_true,if_pos a,ck_of (decide_eq_true (by omega)),dk_ext.j2_eq];rfl
 rw [decide_eq_false a,cond_false,if_neg a]
 by_cases c:k=19
 ·rw [decide_eq_true c,cond_true,if_pos c]
  by_cases s:b.length=16
  ·rw [decide_eq_true (show (b.length:Int)=16 by omega),cond_true,if_pos s,ck_of (cut_ok (by omega) (by omega) (by omega)),ck_of (decide_eq_true (by rw [e1,List.length_take];omega)),ck_of (cut_ok (by omega) (by omega) (by omega)),ck_of (decide_eq_true (by rw [e2,List.length_drop];omega)),dk_ext.j2_eq,e1,e2,c];rfl
  ·rw [decide_eq_false (show ¬(b.length:Int)=16 by omega),cond_false,if_neg s,dk_ext.j2_eq,c];rfl
 rw [decide_eq_false c,cond_false,if_neg c,dk_ext.j5_eq,dk_ext.j5_eq,dk_ext.j5_eq]
 have he:decide ((b.length:Int)=0)=decide (b.length=0):=decide_eq_decide.2 (by omega)
 simp only [dk_ext.j2_eq,he]
 by_cases d:k=6
 ·rw [decide_eq_true d,cond_true,cond_true,if_pos (.inl d)];rfl
 rw [decide_eq_false d,cond_false]
 by_cases f:k=255
 ·rw [decide_eq_true f,cond_true,cond_true,if_pos (.inr (.inr f))];rfl
 rw [decide_eq_false f,cond_false]
 by_cases g:k=127
 ·rw [decide_eq_true g,cond_true,if_pos (.inr (.inl g))];rfl
 ·rw [decide_eq_false g,cond_false,if_neg (by omega)];rfl
theorem dk_ext.j3_ok (n:Nat) (R:Val→Str→Val × Bool) (b:Str) (k:Int) (x3:Bool) (x4:Val) (hb:b.length≤536870912) (hx:x3=decide (k=9∨k=17∨k=18)) (a4:k≠4) (a15:k≠15) (a5:k≠5) (a7:k≠7) :
  dk_ext.j3 n b false k x3 x4 k 0 0 0 [] [] 0 []=some (Dk.two (Dk.extK R k b)):=by
 refine dk_ext.j3_in _ _ _ _ _ _ _ _ _ _ _ _ _ _ ?_
 intro v1 e1 v2 e2 v3 e3 v4 e4 v5 e5 v6 e6 v7 e7 v8 e8 v9 e9
 rw [hx]
 by_cases a9:k=9∨k=17∨k=18
 ·rw [decide_eq_true a9,cond_true,Dk.extK,if_neg a4,if_neg a15,if_neg a5,if_neg a7,if_pos a9,ck_of (decide_eq_true (by omega)),dk_ext.j2_eq,show decide ((b.length:Int)=8)=decide (b.length=8) from decide_eq_decide.2 (by omega)];rfl
 rw [decide_eq_false a9,cond_false]
 by_cases a11:k=11
 ·have l1:v1.length≤b.length:=by
   rw [e1];unfold Dk.cut;split
   ·rw [List.length_take];omega
   ·exact Nat.le_refl _
  have l2:v2.length≤b.length:=by
   rw [e2];unfold Dk.cut;split
   ·rw [List.length_drop];omega
   ·exact Nat.zero_le _
  have hz:decide (0≤Lib.indexByte v2 (([0]:Str).getD 0 0))=Utf.zero v2:=indexByte_contains 0 v2
  rw [decide_eq_true a11,cond_true,ck_of (decide_eq_true ⟨rfl,by omega⟩)]
  rw [hz] at e4
  simp only [show decide ((([0]:Str)).length=1)=true from rfl,len_ok (show v1.length≤1000000000 by omega),len_ok (show v2.length≤1000000000 by omega),decide_eq_true (show v1.length≤1099511627776 by omega),decide_eq_true (show v2.length≤1099511627776 by omega),Bool.and_true,Bool.not_or_self,ck_true]
  rw [dk_ext.j2_eq,Dk.extK,if_neg a4,if_neg a15,if_neg a5,if_neg a7,if_neg a9,if_pos a11,e6,e5,e4,a11]
  have f1:v1=(Dk.cut b 0).1:=e1
  have f2:v2=(Dk.cut b 0).2.1:=e2
  have f3:v3=(Dk.cut b 0).2.2:=e3
  rw [←f1,←f2,←f3]
  unfold Dk.two
  cases v3 <;> cases Utf.zero v2 <;> cases Utf.whole v1 <;> cases Utf.whole v2 <;> rfl
 rw [decide_eq_false a11,cond_false]
 by_cases a12:k=12
 ·rw [decide_eq_true a12,cond_true,Dk.extK,if_neg a4,if_neg a15,if_neg a5,if_neg a7,if_neg a9,if_neg a11,if_pos a12]
  have e7':v7=b.drop 12:=e7
  have e9':v9=b.take 12:=e9
  by_cases s:12≤b.length
  ·have l7:v7.length≤b.length:=by rw [e7',List.length_drop];omega
   have l9:v9.length≤b.length:=by rw [e9',List.length_take];omega
   rw [decide_eq_true (show (12:Int)≤b.length by omega),cond_true] at e8
   rw [decide_eq_true (show (12:Int)≤b.length by omega),ck_of (by rw [cut_ok (show (0:Int)≤12 by omega) (show (12:Int)≤b.length by omega) (by omega)];rfl),ck_of (by rw [decide_eq_true (show v7.length≤1099511627776 by omega)];rfl),ck_of (by rfl),e8]
   by_cases w:Utf.whole v7=true
   ·rw [w,cond_true,ck_of (cut_ok (by omega) (by omega) (by omega)),ck_of (big_ap (by omega) (by omega)),ck_of (cut_ok (by omega) (by omega) (by omega)),dk_ext.j2_eq,if_pos ⟨s,by rw [←e7'];exact w⟩,←e7',←e9',a12];rfl
   ·rw [Bool.not_eq_true] at w
    rw [w,cond_false,dk_ext.j2_eq,if_neg (fun h=>by rw [←e7',w] at h;exact absurd h.2 (by decide)),a12];rfl
  ·rw [decide_eq_false (show ¬(12:Int)≤b.length by omega),cond_false] at e8
   rw [decide_eq_false (show ¬(12:Int)≤b.length by omega),ck_of (by rfl),ck_of (by rfl),ck_of (by rfl),e8,cond_false,dk_ext.j2_eq,if_neg (fun h=>s h.1),a12];rfl
 rw [decide_eq_false a12,cond_false]
 by_cases a13:k=13
 ·rw [decide_eq_true a13,cond_true]
  exact dk_ext.j4_ok n R b k _ x4 hb (by rw [decide_eq_true (Or.inl a13)]) a4 a15 a5 a7 a9 a11 a12
 ·rw [decide_eq_false a13,cond_false]
  exact dk_ext.j4_ok n R b k _ x4 hb (decide_eq_decide.2 ⟨.inr,fun h=>h.resolve_left a13⟩) a4 a15 a5 a7 a9 a11 a12
end Go.Eng
namespace Go.Eng
open Go.IntWalk
namespace Dk
theorem kids_le (d:Nat) (v:Val) (c:Str) (h0:v.kids=[]) (hb:c.length≤536870912):(readV d v c).1.kids.length≤1099511627776:=by
 rw [readV_of]
 cases h:inn d c with
 | none=>show ([]:List Fld).length≤_;simp
 | some l =>
  have:=inn_len h
  show l.length≤_
  omega
theorem size4_of (b:Str) (h:4≤b.length):(UInt64.ofInt (IntKind.i64.wrap ((b.length:Int) - 4))<Cur.be (b.take 4))=(b.length<4+size4 b)∨536870912<b.length:=by
 by_cases hb:b.length≤536870912
 ·left
  apply propext
  rw [i64_in _ (by omega),UInt64.lt_iff_toNat_lt]
  have e:(UInt64.ofInt ((b.length:Int) - 4)).toNat=b.length - 4:=by
   rw [show (b.length:Int) - 4=((b.length - 4:Nat):Int) by omega,u64_nat];omega
  rw [e]
  unfold size4
  omega
 ·right;omega
theorem text4_of (b:Str):List.drop 4 (List.take (4+size4 b) b)=text4 b:=by
 unfold text4
 rw [List.drop_take,show 4+size4 b - 4=size4 b by omega]
end Dk
theorem dk_ext.j1_ok (n:Nat) (within:Int) (b:Str) (k:Int) (x3:Val) (hb:b.length≤536870912) (hw:0≤within∧within≤200) (hn:4 * b.length+2<n+1) :
  dk_ext.j1 n within b false x3 k 0 0 0 [] [] 0 []=some (Dk.two (if 200≤within then (Db.zero,false) else Dk.extK (Dk.readV (199 - within).toNat) k b)):=by
 refine dk_ext.j1_in _ _ _ _ _ _ _ _ _ _ _ _ _ ?_
 intro v1 e1 v2 e2 v3 e3 v4 e4 v5 e5 v6 e6 v7 e7 v8 e8 v9 e9 v10 e10 v11 e11 v12 e12 v13 e13 v14 e14 v15 e15 v16 e16
 by_cases w:200≤within
 ·rw [decide_eq_true w,cond_true,if_pos w];rfl
 rw [decide_eq_false w,cond_false,if_neg w]
 by_cases a4:k=4
 ·have hk:=Dk.kids_le (199 - within).toNat (Val.mk k 0 0 0 [] [] 0 [] []) b rfl hb
  rw [←e1] at hk
  rw [decide_eq_true a4,cond_true,decide_eq_true (show b.length≤536870912∧0≤within∧within<200 by omega),decide_eq_true (show 4 * b.length+1<n by omega),Bool.and_self,ck_true,decide_eq_true hk]
  simp only [Bool.and_true,Bool.not_or_self,ck_true]
  rw [Dk.extK,if_pos a4]
  rw [a4] at e1 e2
  rw [show (Dk.readV (199 - within).toNat (Db.doc 4 []) b).1=v1 from e1.symm,show (Dk.readV (199 - within).toNat (Db.doc 4 []) b).2=v2 from e2.symm,←e3]
  cases v2 <;> rfl
 rw [decide_eq_false a4,cond_false]
 by_cases a15:k=15
 ·rw [decide_eq_true a15,cond_true,Dk.extK,if_neg a4,if_pos a15]
  by_cases s:b.length<4
  ·have e6':v6=true:=by rw [e6,decide_eq_true (show (b.length:Int)<4 by omega)];rfl
   rw [decide_eq_true (show (b.length:Int)<4 by omega),e6',cond_true,if_pos (.inl s)]
   rfl
  ·have l4:v4.length≤1099511627776:=by rw [e4,List.length_take];omega
   have hs:=(Dk.size4_of b (by omega)).resolve_right (by omega)
   have e4':v4=b.take 4:=e4
   rw [←e5,←e4'] at hs
   rw [decide_eq_false (show ¬(b.length:Int)<4 by omega),cond_false] at e6
   rw [decide_eq_false (show ¬(b.length:Int)<4 by omega)]
   simp only [Bool.not_false,Bool.not_true,Bool.false_or,Bool.true_and,ck_true,cut_ok (show (0:Int)≤0 by omega) (show (0:Int)≤4 by omega) (show (4:Int)≤b.length by omega),decide_eq_true l4]
   by_cases t:b.length<4+Dk.size4 b
   ·have e6':v6=true:=by rw [e6];exact decide_eq_true (by rw [hs];exact t)
    rw [e6',cond_true,if_pos (.inr t)]
    rfl
   ·have e6':v6=false:=by rw [e6];exact decide_eq_false (by rw [hs];exact t)
    have e7':v7=(Dk.size4 b:Int):=by
     have:Cur.be v4=Cur.be (b.take 4):=by rw [e4']
     rw [e7,this,show (Cur.be (b.take 4)).toNat=Dk.size4 b from rfl,i64_in _ (by omega)]
    have e8':v8=((4+Dk.size4 b:Nat):Int):=by rw [e8,e7',i64_in _ (by omega)];omega
    have ev:v8.toNat=4+Dk.size4 b:=by omega
    have e9':v9=Dk.text4 b:=by rw [e9,ev];exact Dk.text4_of b
    have l9:v9.length≤b.length:=by rw [e9',Dk.text4,List.length_take,List.length_drop];omega
    rw [ev,e9',a15] at e10 e11
    rw [e6',cond_false,if_neg (by omega),ck_of (cut_ok (by omega) (by omega) (by omega)),ck_of (cut_ok (by omega) (by omega) (by omega)),ev,decide_eq_true (show (b.drop (4+Dk.size4 b)).length≤536870912∧0≤within∧within<200 from ⟨by rw [List.length_drop];omega,by omega,by omega⟩),decide_eq_true (show 4 * (b.drop (4+Dk.size4 b)).length+1<n by rw [List.length_drop];omega),Bool.and_self,ck_true,
     cut_ok (show (0:Int)≤4 by omega) (show (4:Int)≤v8 by omega) (show v8≤b.length by omega),decide_eq_true (show v9.length≤1099511627776 by omega)]
    simp only [Bool.and_true,Bool.and_self,Bool.not_or_self,ck_true]
    rw [show (Dk.readV (199 - within).toNat (Db.doc 15 (Dk.text4 b)) (b.drop (4+Dk.size4 b))).1=v10 from e10.symm,show (Dk.readV (199 - within).toNat (Db.doc 15 (Dk.text4 b)) (b.drop (4+Dk.size4 b))).2=v11 from e11.symm,e12,e9']
    cases v11 <;> rfl
 rw [decide_eq_false a15,cond_false]
 by_cases a5:k=5
 ·rw [decide_eq_true a5,cond_true,Dk.extK,if_neg a4,if_neg a15,if_pos a5]
  have e13':v13=b.getD 0 0:=e13
  by_cases s:0<b.length
  ·have e15':v15=(v13.toNat:Int):=by have:=v13.toNat_lt;rw [e15,i64_in _ (by omega)]
   have e16':v16=b.drop 1:=e16
   rw [decide_eq_true (show (0:Int)<b.length by omega),cond_true] at e14
   rw [decide_eq_true (show (0:Int)<b.length by omega),idx_ok (show (0:Int)≤0 by omega) (show (0:Int)<b.length by omega)]
   simp only [Bool.and_self,Bool.not_or_self,ck_true]
   by_cases z:v13=0
   ·have e14':v14=false:=by rw [e14,decide_eq_true z];rfl
    rw [e14',cond_false,dk_ext.j2_eq,if_neg (fun h=>h.2 (by rw [←e13'];exact z)),a5];rfl
   ·have e14':v14=true:=by rw [e14,decide_eq_false z];rfl
    rw [e14',cond_true,ck_of (cut_ok (by omega) (by omega) (by omega)),ck_of (big_ap (by rw [e16',List.length_drop];omega) (by rw [e16',List.length_drop];omega)),dk_ext.j2_eq,if_pos ⟨s,by rw [←e13'];exact z⟩,a5,e15',e16',e13'];rfl
  ·rw [decide_eq_false (show ¬(0:Int)<b.length by omega),cond_false] at e14
   rw [decide_eq_false (show ¬(0:Int)<b.length by omega),e14]
   simp only [Bool.not_false,Bool.true_or,ck_true,cond_false]
   rw [dk_ext.j2_eq,if_neg (fun h=>s h.1),a5];rfl
 rw [decide_eq_false a5,cond_false]
 by_cases a7:k=7
 ·rw [decide_eq_true a7,cond_true,Dk.extK,if_neg a4,if_neg a15,if_neg a5,if_pos a7,ck_of (big_ap (by omega) (by omega)),dk_ext.j2_eq,a7,show decide ((b.length:Int)=12)=decide (b.length=12) from decide_eq_decide.2 (by omega)];rfl
 rw [decide_eq_false a7,cond_false]
 by_cases a9:k=9
 ·rw [decide_eq_true a9,cond_true]
  exact dk_ext.j3_ok n _ b k _ x3 hb (by rw [decide_eq_true (Or.inl a9)]) a4 a15 a5 a7
 rw [decide_eq_false a9,cond_false]
 by_cases a17:k=17
 ·rw [decide_eq_true a17,cond_true]
  exact dk_ext.j3_ok n _ b k _ x3 hb (by rw [decide_eq_true (Or.inr (Or.inl a17))]) a4 a15 a5 a7
 rw [decide_eq_false a17,cond_false]
 exact dk_ext.j3_ok n _ b k _ x3 hb (decide_eq_decide.2 ⟨fun h => .inr (.inr h),fun h=>(h.resolve_left a9).resolve_left a17⟩) a4 a15 a5 a7
theorem Dk.extV_of (within:Int) (n:UInt64) (b:Str) (hw:0≤within∧within≤200):Dk.extV (200 - within).toNat n b=if 200≤within then (Db.zero,false) else Dk.extK (Dk.readV (199 - within).toNat) (Dk.kindOf n) b:=by
 by_cases w:200≤within
 ·rw [if_pos w,show (200 - within).toNat=0 by omega];rfl
 ·rw [if_neg w,show (200 - within).toNat=(199 - within).toNat+1 by omega];rfl
theorem dk_ext.goal (n:Nat) (it:Itv) (within:Int) (hp:(decide (it.bytes.length≤536870912∧it.n≤127∧0≤within∧within≤200)&&decide ((4 * it.bytes.length+2)<n+1))=true):dk_ext.F n it within=some (Dk.two (Dk.extV (200 - within).toNat it.n it.bytes)):=by
 simp only [Bool.and_eq_true,decide_eq_true_eq] at hp
 obtain ⟨⟨hb,hn,hw⟩,hm⟩:=hp
 rw [Dk.extV_of within _ _ hw]
 refine dk_ext.F_in _ _ _ ?_
 intro v1 e1
 have h1:it.n.toNat≤127:=UInt64.le_iff_toNat_le.1 hn
 have e1':v1=(it.n.toNat:Int):=by rw [e1,i64_in _ (by omega)]
 have e126:(126:UInt64).toNat=126:=rfl
 rw [dk_ext.j1_ok n within it.bytes 255 _ hb hw hm,dk_ext.j1_ok n within it.bytes v1 _ hb hw hm,Dk.kindOf,e1']
 by_cases a:it.n=126
 ·rw [decide_eq_true (show (it.n.toNat:Int)=126 by rw [a];rfl),cond_true,if_pos a]
 ·rw [decide_eq_false (show ¬(it.n.toNat:Int)=126 from fun h=>a (UInt64.toNat_inj.1 (by omega))),cond_false,if_neg a]
theorem dk_Value.goal (it:Itv) (hp:decide (Itm.bulk (Itm.of it)≤1048576)=true):dk_Value.F it=some [.ag (Val.cells (Dk.dec (Itm.of it)).1),.ag (Flt.cells (Dk.dec (Itm.of it)).2)]:=by
 have hb:=of_decide_eq_true hp
 have hl:=Mp.lay_len (Itm.of it)
 refine dk_Value.F_in _ ?_
 intro v1 e1 v2 e2 v3 e3
 rw [ck_of (decide_eq_true (by omega))]
 unfold Dk.dec
 by_cases a:Mp.chk (Itm.of it)=0
 ·rw [decide_eq_true a,Bool.not_true,cond_false,if_neg (by simpa using a)]
  by_cases k:it.kind=6
  ·have hm:=Dk.map_facts a (show (Itm.of it).kind=6 from k)
   have hm1:Mp.chks it.kids=0:=hm.1
   have hm2:it.kids.length % 2=0:=hm.2.1
   have hm3:(Mp.lays it.kids).length+1≤(Mp.lay (Itm.of it)).length:=hm.2.2
   rw [decide_eq_true k,Bool.not_true,cond_false,if_neg (show ¬(Itm.of it).kind≠6 from fun h=>h k),decide_eq_true (show (Mp.lays it.kids).length+([]:List Int).length≤536870912 by simp only [List.length_nil];omega),decide_eq_true (show Mp.chks it.kids=0∧it.kids.length % 2=0∧(0:Int)≤0∧(0:Int)≤200 from ⟨hm1,hm2,by omega,by omega⟩),Bool.and_self,ck_true,e2,e3,Dk.value_of,if_pos k];rfl
  ·rw [decide_eq_false k,Bool.not_false,cond_true,if_pos (show (Itm.of it).kind≠6 from k),ck_of (by decide),e1];rfl
 ·rw [decide_eq_false a,Bool.not_false,cond_true,if_pos a];rfl
end Go.Eng
namespace Go.Eng
open Go.IntWalk
namespace Dk
open Db (Got Gots)
end Dk
theorem law31_awake.goal:law31_awake.F=some [.b true]:=by
 refine law31_awake.F_in ?_
 intro v1 h1 v2 h2 v3 h3 v4 h4 v5 h5 v6 h6 v7 h7 v8 h8 v9 h9 v10 h10 v11 h11 v12 h12 v13 h13 v14 h14 v15 h15 v16 h16 v17 h17
 subst h1
 have e2:v2.err=0:=by rw [h2];decide +kernel
 have e4:v4.err=12:=by rw [h4];decide +kernel
 have e5:v5=6:=by rw [h5];decide +kernel
 have e7:v7.length=2:=by rw [h7];decide +kernel
 have e9:v9=[97]:=by rw [h9,h7];decide +kernel
 have e11:v11=10:=by rw [h11,h7];decide +kernel
 have e13:v13=18:=by rw [h13,h7];decide +kernel
 have e15:v15.length=8:=by rw [h15,h7];decide +kernel
 have t6:v6=true:=by rw [h6,e2,e5];rfl
 have t8:v8=true:=by rw [h8,t6,e7];rfl
 have t10:v10=true:=by rw [h10,t8,e9];rfl
 have t12:v12=true:=by rw [h12,t10,e11];rfl
 have t14:v14=true:=by rw [h14,t12,e13];rfl
 have t16:v16=true:=by rw [h16,t14,e15];rfl
 have t17:v17=true:=by rw [h17,t16,e4];rfl
 have i0:idxOK (0:Int) v7.length=true:=by rw [e7];rfl
 have i1:idxOK (1:Int) v7.length=true:=by rw [e7];rfl
 rw [ck_of (by decide +kernel),ck_of (by decide +kernel)]
 simp only [i0,i1,t17,Bool.and_true,Bool.not_or_self,ck_true]
end Go.Eng
namespace Go.Eng
open Go.RowKit Go.Maps Go.Proofs
set_option maxRecDepth 100000
set_option maxHeartbeats 1000000
theorem wpList_insert_own {H:Type} {P:Program} (w:World) {ops:Array Oper} {rest:List Oper} {o:Oper} {a:Act} {Q:Exit→Act→World→Prop}
  (hg:o.guard=none) (m x v:Operand) (t:TypeId) (hop:o.op=Op.insert t m x v)
  (k e:TypeId) (K:Keyed P k) (ht:P.underlying t=some (.map k e)) (R:Value→Option (DataW H × List MemPlace)) (b n:Nat) (D:DataW H)
  (hm:a.eval m = .map (some b)) (hown:w.ownsMap P k R b n D) (hn:n<maxLen) (key val:Value) (kl:Lit) (hx:a.eval x=key) (hv:a.eval v=val) (hkey:keyOf P k key=some kl)
  (d:DataW H) (ps:List MemPlace) (hval:R val=some (d,ps))
  (hK:∀w',w'.ownsMap P k R b (n+1) (D.put kl d)→w.grownBy w' (some b)→wpList P ops Q rest (a.put o.dst undef) w') :
  wpList P ops Q (o :: rest) a w:=by
 refine wpList_plain hg fun K' hK'=>?_
 obtain ⟨w',hrun,r1,r2⟩:=hown.update K ht hn hkey hval
 unfold Oper.wp
 simp [execOp,hop,hm,hx,hv,hrun,Result.andThen]
 exact hK' _ _ (hK w' r1 r2)
theorem alloc_size (w:World) (o:Obj):(w.alloc o).heap.size=w.heap.size+1:=Array.size_push ..
theorem sz_l3:Keyed Tryd.prog 3:=int_keyed Tryd.underlying3
theorem sz_z3 (w:World):(zeroValue 3).run Tryd.prog w = .ok (.int .i64 0) w:=by kernel_rfl
structure Sz (w w':World):Prop where
 b:w'.heap[w.heap.size]?=some (.cells #[.int .i64 0,.int .i64 0] 115)
 o:Below w.heap.size w w'
 s:w.heap.size+1≤w'.heap.size
theorem Sz.c0 {w w':World} (h:Sz w w'):w'.cell? ⟨w.heap.size,0,none⟩=some (.int .i64 0):=by simp [World.cell?,h.b]
theorem Sz.c1 {w w':World} (h:Sz w w'):w'.cell? ⟨w.heap.size,1,none⟩=some (.int .i64 0):=by simp [World.cell?,h.b]
theorem Sz.f {w w':World} (h:Sz w w') (i:Nat):w'.frozen? ⟨w.heap.size,i,none⟩=false:=by simp [World.frozen?,h.b]
theorem sz_start (w:World):Sz w ((w.alloc (.cells #[.int .i64 0,.int .i64 0] 115)).alloc (.map #[] 0)):=by
 refine ⟨?_,((Below.refl _ _).alloc (Nat.le_refl _) _).alloc (by rw [alloc_size];omega) _,by rw [alloc_size,alloc_size];omega⟩
 rw [Below.heap_alloc _ _ _ (by rw [alloc_size];omega)]
 exact Array.getElem?_push_size
theorem sz_step {w w1 w2:World} (h:Sz w w1) (hg:w1.grownBy w2 (some (w.heap.size+1))):Sz w w2 :=
 ⟨(hg.block _ (by have:=h.s;omega) (by simp)).trans h.b,h.o.grown hg (by have:=h.s;omega) (fun k e=>by cases e;omega),Nat.le_trans h.s hg.size⟩
theorem sz_p (n:Int) (h:(Lit.int .i64 n).wf=true):plainElem (H:=Unit) Tryd.prog 3 (.int .i64 n)=some (.lit (.int .i64 n),[]):=plainElem_int Tryd.underlying3 h
theorem sz_made (w:World) (o:Obj):((w.alloc o).alloc (.map #[] 0)).ownsMap Tryd.prog 3 (plainElem (H:=Unit) Tryd.prog 3) (w.heap.size+1) 0 (.map []):=by
 have:=World.ownsMap_made (H:=Unit) (w.alloc o) Tryd.prog 3 (plainElem Tryd.prog 3)
 rw [alloc_size] at this;exact this
theorem sz_res (tmps:Array Value) (W:World) (B:Nat) (x y:Int) (ht:tmps[4]?.getD undef = .pointer (some ⟨B,0,none⟩)) (hb:W.heap[B]?=some (.cells #[.int .i64 x,.int .i64 y] 115)):(results Tryd.f82 tmps).run Tryd.prog W = .ok (.agg #[.int .i64 x,.int .i64 y]) W:=by
 have c0:W.cell? ⟨B,0,none⟩=some (.int .i64 x):=by simp [World.cell?,hb]
 have c1:W.cell? ⟨B,1,none⟩=some (.int .i64 y):=by simp [World.cell?,hb]
 simp [results,Tryd.results82,go_sem,ht,c0,c1]
theorem sz_set {w3:World} {B:Nat} {x y:Int} (hb:w3.heap[B]?=some (.cells #[.int .i64 0,.int .i64 0] 115)):((w3.setCell ⟨B,0,none⟩ (.int .i64 x)).setCell ⟨B,1,none⟩ (.int .i64 y)).heap[B]?=some (.cells #[.int .i64 x,.int .i64 y] 115):=by
 simp [World.setCell,Array.getElem?_modify,hb]
theorem sz_fin {a:Act} {Q:Ending→World→Prop} {W:World} {B:Nat} {x y:Int} (ht:a.tmps[4]?.getD undef = .pointer (some ⟨B,0,none⟩)) (hd:a.defers=[]) (hb:W.heap[B]?=some (.cells #[.int .i64 x,.int .i64 y] 115)) (hQ:Q (.returned (.agg #[.int .i64 x,.int .i64 y])) W):bodyPost Tryd.prog Tryd.f82 Q .ret a W :=
 bodyPost_ret (sz_res a.tmps W B x y ht hb) hd hQ
theorem sz_one (w:World) (o:Obj):(w.alloc o).heap[w.heap.size]?=some o:=Array.getElem?_push_size
theorem sz_eq {a b:Int} {p:Int × Int} (h:(a,b)=p):Ending.returned (.agg #[.int .i64 a,.int .i64 b]) = .returned (.agg #[.int .i64 p.1,.int .i64 p.2]):=by cases h;rfl
theorem sz_wrap {n:Int} (h0:0≤n) (h1:n<4294967296):wrap64 n=n:=by simp only [wrap64];omega
theorem szt0 {n:Int} (h:n<32):(160+n,0)=Mp.sized 4 n:=by simp [Mp.sized,Mp.fixed,Mp.fix,Mp.tab,Mp.base];omega
theorem szt1 {n:Int} (h:32≤n) (h2:n<256):(217,1)=Mp.sized 4 n:=by simp [Mp.sized,Mp.fixed,Mp.fix,Mp.tab,Mp.base];rw [if_neg (by omega),if_pos h2]
theorem szt2 {n:Int} (h:256≤n) (h2:n<65536):(218,2)=Mp.sized 4 n:=by simp [Mp.sized,Mp.fixed,Mp.fix,Mp.tab,Mp.base];rw [if_neg (by omega),if_neg (by omega),if_pos h2]
theorem szt3 {n:Int} (h:65536≤n):(219,4)=Mp.sized 4 n:=by simp [Mp.sized,Mp.fixed,Mp.fix,Mp.tab,Mp.base];rw [if_neg (by omega),if_neg (by omega),if_neg (by omega)]
theorem szb1 {n:Int} (h0:0≤n) (h2:n<256):(196,1)=Mp.sized 3 n:=by simp [Mp.sized,Mp.fixed,Mp.fix,Mp.tab,Mp.base];rw [if_neg (by omega),if_pos h2]
theorem szb2 {n:Int} (h:256≤n) (h2:n<65536):(197,2)=Mp.sized 3 n:=by simp [Mp.sized,Mp.fixed,Mp.fix,Mp.tab,Mp.base];rw [if_neg (by omega),if_neg (by omega),if_pos h2]
theorem szb3 {n:Int} (h:65536≤n):(198,4)=Mp.sized 3 n:=by simp [Mp.sized,Mp.fixed,Mp.fix,Mp.tab,Mp.base];rw [if_neg (by omega),if_neg (by omega),if_neg (by omega)]
theorem sze1 {n:Int} (h:(n == 1)=true):(212,0)=Mp.sized 10 n:=by rw [beq_iff_eq] at h;subst h;rfl
theorem sze2 {n:Int} (h:(n == 2)=true):(213,0)=Mp.sized 10 n:=by rw [beq_iff_eq] at h;subst h;rfl
theorem sze4 {n:Int} (h:(n == 4)=true):(214,0)=Mp.sized 10 n:=by rw [beq_iff_eq] at h;subst h;rfl
theorem sze8 {n:Int} (h:(n == 8)=true):(215,0)=Mp.sized 10 n:=by rw [beq_iff_eq] at h;subst h;rfl
theorem sze16 {n:Int} (h:(n == 16)=true):(216,0)=Mp.sized 10 n:=by rw [beq_iff_eq] at h;subst h;rfl
theorem szen {n a b:Int} (h0:0≤n) (h1:(n == 1)=false) (h2:(n == 2)=false) (h3:(n == 4)=false) (h4:(n == 8)=false) (h5:(n == 16)=false) (h:(n<256∧a=199∧b=1)∨(256≤n∧n<65536∧a=200∧b=2)∨(65536≤n∧a=201∧b=4)):(a,b)=Mp.sized 10 n:=by
 simp at h1 h2 h3 h4 h5
 simp [Mp.sized,Mp.fixed,Mp.fix,Mp.tab,Mp.base,h1,h2,h3,h4,h5]
 rw [if_neg (by omega)]
 rcases h with ⟨h,rfl,rfl⟩ | ⟨h,h',rfl,rfl⟩ | ⟨h,rfl,rfl⟩
 ·rw [if_pos h]
 ·rw [if_neg (by omega),if_pos h']
 ·rw [if_neg (by omega),if_neg (by omega)]
theorem szl50 {n:Int} (h:n<16):(144+n,0)=Mp.sized 5 n:=by simp [Mp.sized,Mp.fixed,Mp.fix,Mp.tab,Mp.base];omega
theorem szl51 {n:Int} (h:16≤n) (h2:n<65536):(220,2)=Mp.sized 5 n:=by simp [Mp.sized,Mp.fixed,Mp.fix,Mp.tab,Mp.base];rw [if_neg (by omega),if_pos h2]
theorem szl52 {n:Int} (h:65536≤n):(221,4)=Mp.sized 5 n:=by simp [Mp.sized,Mp.fixed,Mp.fix,Mp.tab,Mp.base];rw [if_neg (by omega),if_neg (by omega)]
theorem szl60 {n:Int} (h:n<16):(128+n,0)=Mp.sized 6 n:=by simp [Mp.sized,Mp.fixed,Mp.fix,Mp.tab,Mp.base];omega
theorem szl61 {n:Int} (h:16≤n) (h2:n<65536):(222,2)=Mp.sized 6 n:=by simp [Mp.sized,Mp.fixed,Mp.fix,Mp.tab,Mp.base];rw [if_neg (by omega),if_pos h2]
theorem szl62 {n:Int} (h:65536≤n):(223,4)=Mp.sized 6 n:=by simp [Mp.sized,Mp.fixed,Mp.fix,Mp.tab,Mp.base];rw [if_neg (by omega),if_neg (by omega)]
theorem sz_c4 {c:Int} (hat:((((DataW.map []).put (Lit.int .i64 4) (DataW.lit (H:=Unit) (Lit.int .i64 160))).put (Lit.int .i64 5) (DataW.lit (Lit.int .i64 144))).put (Lit.int .i64 6) (DataW.lit (Lit.int .i64 128))).atKey (Lit.int .i64 4) (DataW.lit (Lit.int .i64 0))=DataW.lit (Lit.int .i64 c)):c=160:=by
 have e:((((DataW.map []).put (Lit.int .i64 4) (DataW.lit (H:=Unit) (Lit.int .i64 160))).put (Lit.int .i64 5) (DataW.lit (Lit.int .i64 144))).put (Lit.int .i64 6) (DataW.lit (Lit.int .i64 128))).atKey (Lit.int .i64 4) (DataW.lit (Lit.int .i64 0))=DataW.lit (Lit.int .i64 160):=rfl
 rw [e] at hat;cases hat;rfl
theorem sz_c5 {c:Int} (hat:((((DataW.map []).put (Lit.int .i64 4) (DataW.lit (H:=Unit) (Lit.int .i64 160))).put (Lit.int .i64 5) (DataW.lit (Lit.int .i64 144))).put (Lit.int .i64 6) (DataW.lit (Lit.int .i64 128))).atKey (Lit.int .i64 5) (DataW.lit (Lit.int .i64 0))=DataW.lit (Lit.int .i64 c)):c=144:=by
 have e:((((DataW.map []).put (Lit.int .i64 4) (DataW.lit (H:=Unit) (Lit.int .i64 160))).put (Lit.int .i64 5) (DataW.lit (Lit.int .i64 144))).put (Lit.int .i64 6) (DataW.lit (Lit.int .i64 128))).atKey (Lit.int .i64 5) (DataW.lit (Lit.int .i64 0))=DataW.lit (Lit.int .i64 144):=rfl
 rw [e] at hat;cases hat;rfl
theorem sz_c6 {c:Int} (hat:((((DataW.map []).put (Lit.int .i64 4) (DataW.lit (H:=Unit) (Lit.int .i64 160))).put (Lit.int .i64 5) (DataW.lit (Lit.int .i64 144))).put (Lit.int .i64 6) (DataW.lit (Lit.int .i64 128))).atKey (Lit.int .i64 6) (DataW.lit (Lit.int .i64 0))=DataW.lit (Lit.int .i64 c)):c=128:=by
 have e:((((DataW.map []).put (Lit.int .i64 4) (DataW.lit (H:=Unit) (Lit.int .i64 160))).put (Lit.int .i64 5) (DataW.lit (Lit.int .i64 144))).put (Lit.int .i64 6) (DataW.lit (Lit.int .i64 128))).atKey (Lit.int .i64 6) (DataW.lit (Lit.int .i64 0))=DataW.lit (Lit.int .i64 128):=rfl
 rw [e] at hat;cases hat;rfl
theorem sz_text (n : Int) (hn0 : 0 ≤ n) (hn1 : n < 4294967296) (w : World) : Calls Tryd.prog 82 #[.int .i64 4, .int .i64 n] w fun e w' => e = .returned (.agg #[.int .i64 (Mp.sized 4 n).1, .int .i64 (Mp.sized 4 n).2]) ∧ Below w.heap.size w w' := by
  have hmm := @run_makeMap Tryd.prog
  go_enter Tryd.func82, Tryd.ntmps82
  go_wp2_with (first
      | (refine wpList_insert_own _ rfl (.tmp 34) (.const (.int .i64 4)) (.const (.int .i64 160)) 135 rfl 3 3 sz_l3 Tryd.underlying135 (plainElem (H := Unit) Tryd.prog 3) ?hb1 0 ?hD1 ?hm1 ?ho1 ?hn1 (.int .i64 4) (.int .i64 160) (.int .i64 4) ?hx1 ?hv1 ?hk1 (.lit (.int .i64 160)) [] ?hp1 ?hK1
         case hm1 => rfl
         case ho1 => exact sz_made w _
         case hn1 => unfold maxLen; omega
         case hx1 => rfl
         case hv1 => rfl
         case hk1 => exact keyOf_int_mk Tryd.underlying3 (by decide)
         case hp1 => exact sz_p _ (by decide)
         intro w1 ho1 hg1
         have hz1 := sz_step (sz_start w) hg1)
      | (refine wpList_insert_own _ rfl (.tmp 34) (.const (.int .i64 5)) (.const (.int .i64 144)) 135 rfl 3 3 sz_l3 Tryd.underlying135 (plainElem (H := Unit) Tryd.prog 3) ?hb2 1 ?hD2 ?hm2 ?ho2 ?hn2 (.int .i64 5) (.int .i64 144) (.int .i64 5) ?hx2 ?hv2 ?hk2 (.lit (.int .i64 144)) [] ?hp2 ?hK2
         case hm2 => rfl
         case ho2 => exact ho1
         case hn2 => unfold maxLen; omega
         case hx2 => rfl
         case hv2 => rfl
         case hk2 => exact keyOf_int_mk Tryd.underlying3 (by decide)
         case hp2 => exact sz_p _ (by decide)
         intro w2 ho2 hg2
         have hz2 := sz_step hz1 hg2)
      | (refine wpList_insert_own _ rfl (.tmp 34) (.const (.int .i64 6)) (.const (.int .i64 128)) 135 rfl 3 3 sz_l3 Tryd.underlying135 (plainElem (H := Unit) Tryd.prog 3) ?hb3 2 ?hD3 ?hm3 ?ho3 ?hn3 (.int .i64 6) (.int .i64 128) (.int .i64 6) ?hx3 ?hv3 ?hk3 (.lit (.int .i64 128)) [] ?hp3 ?hK3
         case hm3 => rfl
         case ho3 => exact ho2
         case hn3 => unfold maxLen; omega
         case hx3 => rfl
         case hv3 => rfl
         case hk3 => exact keyOf_int_mk Tryd.underlying3 (by decide)
         case hp3 => exact sz_p _ (by decide)
         intro w3 ho3 hg3
         have hz3 := sz_step hz2 hg3
         have c0 := hz3.c0
         have c1 := hz3.c1
         have f0 := hz3.f 0
         have f1 := hz3.f 1)
      | (at_lookup
         refine wpList_lookup_own_int (H := Unit) _ rfl (.tmp 35) (.tmp 36) 135 rfl 3 3 .i64 sz_l3 Tryd.underlying135 Tryd.underlying3 (sz_z3 _) ?hb4 3 ?hD4 ?hm4 ?ho4 (.int .i64 4) (.int .i64 4) ?hx4 ?hk4 ?hK4
         case hk4 => exact keyOf_int_mk Tryd.underlying3 (by decide)
         case hm4 => rfl
         case ho4 => exact ho3
         case hx4 => rfl
         intro c hat hwc)
      | go_in)
  all_goals clear hmm
  all_goals first | refine sz_fin rfl rfl (sz_one _ _) ⟨?_, (Below.refl _ _).alloc (Nat.le_refl _) _⟩ | refine sz_fin rfl rfl (sz_set hz3.b) ⟨?_, (hz3.o.setCell (Nat.le_refl _) _).setCell (Nat.le_refl _) _⟩
  · have hc : c = 160 := sz_c4 hat
    subst hc
    rw [sz_wrap (by omega) (by omega)]
    exact sz_eq (szt0 (by omega))
  · exact sz_eq (szt1 (by omega) (by omega))
  · exact sz_eq (szt2 (by omega) (by omega))
  · exact sz_eq (szt3 (by omega))
theorem sz_ext (n : Int) (hn0 : 0 ≤ n) (hn1 : n < 4294967296) (w : World) : Calls Tryd.prog 82 #[.int .i64 10, .int .i64 n] w fun e w' => e = .returned (.agg #[.int .i64 (Mp.sized 10 n).1, .int .i64 (Mp.sized 10 n).2]) ∧ Below w.heap.size w w' := by
  have hmm := @run_makeMap Tryd.prog
  go_enter Tryd.func82, Tryd.ntmps82
  go_wp2_with (first
      | (refine wpList_insert_own _ rfl (.tmp 34) (.const (.int .i64 4)) (.const (.int .i64 160)) 135 rfl 3 3 sz_l3 Tryd.underlying135 (plainElem (H := Unit) Tryd.prog 3) ?hb1 0 ?hD1 ?hm1 ?ho1 ?hn1 (.int .i64 4) (.int .i64 160) (.int .i64 4) ?hx1 ?hv1 ?hk1 (.lit (.int .i64 160)) [] ?hp1 ?hK1
         case hm1 => rfl
         case ho1 => exact sz_made w _
         case hn1 => unfold maxLen; omega
         case hx1 => rfl
         case hv1 => rfl
         case hk1 => exact keyOf_int_mk Tryd.underlying3 (by decide)
         case hp1 => exact sz_p _ (by decide)
         intro w1 ho1 hg1
         have hz1 := sz_step (sz_start w) hg1)
      | (refine wpList_insert_own _ rfl (.tmp 34) (.const (.int .i64 5)) (.const (.int .i64 144)) 135 rfl 3 3 sz_l3 Tryd.underlying135 (plainElem (H := Unit) Tryd.prog 3) ?hb2 1 ?hD2 ?hm2 ?ho2 ?hn2 (.int .i64 5) (.int .i64 144) (.int .i64 5) ?hx2 ?hv2 ?hk2 (.lit (.int .i64 144)) [] ?hp2 ?hK2
         case hm2 => rfl
         case ho2 => exact ho1
         case hn2 => unfold maxLen; omega
         case hx2 => rfl
         case hv2 => rfl
         case hk2 => exact keyOf_int_mk Tryd.underlying3 (by decide)
         case hp2 => exact sz_p _ (by decide)
         intro w2 ho2 hg2
         have hz2 := sz_step hz1 hg2)
      | (refine wpList_insert_own _ rfl (.tmp 34) (.const (.int .i64 6)) (.const (.int .i64 128)) 135 rfl 3 3 sz_l3 Tryd.underlying135 (plainElem (H := Unit) Tryd.prog 3) ?hb3 2 ?hD3 ?hm3 ?ho3 ?hn3 (.int .i64 6) (.int .i64 128) (.int .i64 6) ?hx3 ?hv3 ?hk3 (.lit (.int .i64 128)) [] ?hp3 ?hK3
         case hm3 => rfl
         case ho3 => exact ho2
         case hn3 => unfold maxLen; omega
         case hx3 => rfl
         case hv3 => rfl
         case hk3 => exact keyOf_int_mk Tryd.underlying3 (by decide)
         case hp3 => exact sz_p _ (by decide)
         intro w3 ho3 hg3
         have hz3 := sz_step hz2 hg3
         have c0 := hz3.c0
         have c1 := hz3.c1
         have f0 := hz3.f 0
         have f1 := hz3.f 1)
      | (at_lookup
         refine wpList_lookup_own_int (H := Unit) _ rfl (.tmp 35) (.tmp 36) 135 rfl 3 3 .i64 sz_l3 Tryd.underlying135 Tryd.underlying3 (sz_z3 _) ?hb4 3 ?hD4 ?hm4 ?ho4 (.int .i64 10) (.int .i64 10) ?hx4 ?hk4 ?hK4
         case hk4 => exact keyOf_int_mk Tryd.underlying3 (by decide)
         case hm4 => rfl
         case ho4 => exact ho3
         case hx4 => rfl
         intro c hat hwc)
      | go_in)
  refine wp_loop_rounds 6 ?_
  rw [rounds_succ]
  go_wp2
  all_goals try rw [rounds_succ]
  all_goals try go_wp2
  all_goals try rw [rounds_succ]
  all_goals try go_wp2
  all_goals try rw [rounds_succ]
  all_goals try go_wp2
  all_goals try rw [rounds_succ]
  all_goals try go_wp2
  all_goals try rw [rounds_succ]
  all_goals try go_wp2
  all_goals clear hmm
  all_goals first | refine sz_fin rfl rfl (sz_one _ _) ⟨?_, (Below.refl _ _).alloc (Nat.le_refl _) _⟩ | refine sz_fin rfl rfl (sz_set hz3.b) ⟨?_, (hz3.o.setCell (Nat.le_refl _) _).setCell (Nat.le_refl _) _⟩
  · exact sz_eq (sze1 ‹_›)
  · exact sz_eq (sze2 ‹_›)
  · exact sz_eq (sze4 ‹_›)
  · exact sz_eq (sze8 ‹_›)
  · exact sz_eq (sze16 ‹_›)
  · exact sz_eq (szen hn0 ‹(n == 1) = false› ‹(n == 2) = false› ‹(n == 4) = false› ‹(n == 8) = false› ‹(n == 16) = false› (by simp; omega))
  · exact sz_eq (szen hn0 ‹(n == 1) = false› ‹(n == 2) = false› ‹(n == 4) = false› ‹(n == 8) = false› ‹(n == 16) = false› (by simp; omega))
  · exact sz_eq (szen hn0 ‹(n == 1) = false› ‹(n == 2) = false› ‹(n == 4) = false› ‹(n == 8) = false› ‹(n == 16) = false› (by simp; omega))
theorem sz_bytes (n : Int) (hn0 : 0 ≤ n) (hn1 : n < 4294967296) (w : World) : Calls Tryd.prog 82 #[.int .i64 3, .int .i64 n] w fun e w' => e = .returned (.agg #[.int .i64 (Mp.sized 3 n).1, .int .i64 (Mp.sized 3 n).2]) ∧ Below w.heap.size w w' := by
  have hmm := @run_makeMap Tryd.prog
  go_enter Tryd.func82, Tryd.ntmps82
  go_wp2_with (first
      | (refine wpList_insert_own _ rfl (.tmp 34) (.const (.int .i64 4)) (.const (.int .i64 160)) 135 rfl 3 3 sz_l3 Tryd.underlying135 (plainElem (H := Unit) Tryd.prog 3) ?hb1 0 ?hD1 ?hm1 ?ho1 ?hn1 (.int .i64 4) (.int .i64 160) (.int .i64 4) ?hx1 ?hv1 ?hk1 (.lit (.int .i64 160)) [] ?hp1 ?hK1
         case hm1 => rfl
         case ho1 => exact sz_made w _
         case hn1 => unfold maxLen; omega
         case hx1 => rfl
         case hv1 => rfl
         case hk1 => exact keyOf_int_mk Tryd.underlying3 (by decide)
         case hp1 => exact sz_p _ (by decide)
         intro w1 ho1 hg1
         have hz1 := sz_step (sz_start w) hg1)
      | (refine wpList_insert_own _ rfl (.tmp 34) (.const (.int .i64 5)) (.const (.int .i64 144)) 135 rfl 3 3 sz_l3 Tryd.underlying135 (plainElem (H := Unit) Tryd.prog 3) ?hb2 1 ?hD2 ?hm2 ?ho2 ?hn2 (.int .i64 5) (.int .i64 144) (.int .i64 5) ?hx2 ?hv2 ?hk2 (.lit (.int .i64 144)) [] ?hp2 ?hK2
         case hm2 => rfl
         case ho2 => exact ho1
         case hn2 => unfold maxLen; omega
         case hx2 => rfl
         case hv2 => rfl
         case hk2 => exact keyOf_int_mk Tryd.underlying3 (by decide)
         case hp2 => exact sz_p _ (by decide)
         intro w2 ho2 hg2
         have hz2 := sz_step hz1 hg2)
      | (refine wpList_insert_own _ rfl (.tmp 34) (.const (.int .i64 6)) (.const (.int .i64 128)) 135 rfl 3 3 sz_l3 Tryd.underlying135 (plainElem (H := Unit) Tryd.prog 3) ?hb3 2 ?hD3 ?hm3 ?ho3 ?hn3 (.int .i64 6) (.int .i64 128) (.int .i64 6) ?hx3 ?hv3 ?hk3 (.lit (.int .i64 128)) [] ?hp3 ?hK3
         case hm3 => rfl
         case ho3 => exact ho2
         case hn3 => unfold maxLen; omega
         case hx3 => rfl
         case hv3 => rfl
         case hk3 => exact keyOf_int_mk Tryd.underlying3 (by decide)
         case hp3 => exact sz_p _ (by decide)
         intro w3 ho3 hg3
         have hz3 := sz_step hz2 hg3
         have c0 := hz3.c0
         have c1 := hz3.c1
         have f0 := hz3.f 0
         have f1 := hz3.f 1)
      | (at_lookup
         refine wpList_lookup_own_int (H := Unit) _ rfl (.tmp 35) (.tmp 36) 135 rfl 3 3 .i64 sz_l3 Tryd.underlying135 Tryd.underlying3 (sz_z3 _) ?hb4 3 ?hD4 ?hm4 ?ho4 (.int .i64 3) (.int .i64 3) ?hx4 ?hk4 ?hK4
         case hk4 => exact keyOf_int_mk Tryd.underlying3 (by decide)
         case hm4 => rfl
         case ho4 => exact ho3
         case hx4 => rfl
         intro c hat hwc)
      | go_in)
  all_goals clear hmm
  all_goals first | refine sz_fin rfl rfl (sz_one _ _) ⟨?_, (Below.refl _ _).alloc (Nat.le_refl _) _⟩ | refine sz_fin rfl rfl (sz_set hz3.b) ⟨?_, (hz3.o.setCell (Nat.le_refl _) _).setCell (Nat.le_refl _) _⟩
  · exact sz_eq (szb1 (by omega) (by omega))
  · exact sz_eq (szb2 (by omega) (by omega))
  · exact sz_eq (szb3 (by omega))
theorem sz_list (n : Int) (hn0 : 0 ≤ n) (hn1 : n < 4294967296) (w : World) : Calls Tryd.prog 82 #[.int .i64 5, .int .i64 n] w fun e w' => e = .returned (.agg #[.int .i64 (Mp.sized 5 n).1, .int .i64 (Mp.sized 5 n).2]) ∧ Below w.heap.size w w' := by
  have hmm := @run_makeMap Tryd.prog
  go_enter Tryd.func82, Tryd.ntmps82
  go_wp2_with (first
      | (refine wpList_insert_own _ rfl (.tmp 34) (.const (.int .i64 4)) (.const (.int .i64 160)) 135 rfl 3 3 sz_l3 Tryd.underlying135 (plainElem (H := Unit) Tryd.prog 3) ?hb1 0 ?hD1 ?hm1 ?ho1 ?hn1 (.int .i64 4) (.int .i64 160) (.int .i64 4) ?hx1 ?hv1 ?hk1 (.lit (.int .i64 160)) [] ?hp1 ?hK1
         case hm1 => rfl
         case ho1 => exact sz_made w _
         case hn1 => unfold maxLen; omega
         case hx1 => rfl
         case hv1 => rfl
         case hk1 => exact keyOf_int_mk Tryd.underlying3 (by decide)
         case hp1 => exact sz_p _ (by decide)
         intro w1 ho1 hg1
         have hz1 := sz_step (sz_start w) hg1)
      | (refine wpList_insert_own _ rfl (.tmp 34) (.const (.int .i64 5)) (.const (.int .i64 144)) 135 rfl 3 3 sz_l3 Tryd.underlying135 (plainElem (H := Unit) Tryd.prog 3) ?hb2 1 ?hD2 ?hm2 ?ho2 ?hn2 (.int .i64 5) (.int .i64 144) (.int .i64 5) ?hx2 ?hv2 ?hk2 (.lit (.int .i64 144)) [] ?hp2 ?hK2
         case hm2 => rfl
         case ho2 => exact ho1
         case hn2 => unfold maxLen; omega
         case hx2 => rfl
         case hv2 => rfl
         case hk2 => exact keyOf_int_mk Tryd.underlying3 (by decide)
         case hp2 => exact sz_p _ (by decide)
         intro w2 ho2 hg2
         have hz2 := sz_step hz1 hg2)
      | (refine wpList_insert_own _ rfl (.tmp 34) (.const (.int .i64 6)) (.const (.int .i64 128)) 135 rfl 3 3 sz_l3 Tryd.underlying135 (plainElem (H := Unit) Tryd.prog 3) ?hb3 2 ?hD3 ?hm3 ?ho3 ?hn3 (.int .i64 6) (.int .i64 128) (.int .i64 6) ?hx3 ?hv3 ?hk3 (.lit (.int .i64 128)) [] ?hp3 ?hK3
         case hm3 => rfl
         case ho3 => exact ho2
         case hn3 => unfold maxLen; omega
         case hx3 => rfl
         case hv3 => rfl
         case hk3 => exact keyOf_int_mk Tryd.underlying3 (by decide)
         case hp3 => exact sz_p _ (by decide)
         intro w3 ho3 hg3
         have hz3 := sz_step hz2 hg3
         have c0 := hz3.c0
         have c1 := hz3.c1
         have f0 := hz3.f 0
         have f1 := hz3.f 1)
      | (at_lookup
         refine wpList_lookup_own_int (H := Unit) _ rfl (.tmp 35) (.tmp 36) 135 rfl 3 3 .i64 sz_l3 Tryd.underlying135 Tryd.underlying3 (sz_z3 _) ?hb4 3 ?hD4 ?hm4 ?ho4 (.int .i64 5) (.int .i64 5) ?hx4 ?hk4 ?hK4
         case hk4 => exact keyOf_int_mk Tryd.underlying3 (by decide)
         case hm4 => rfl
         case ho4 => exact ho3
         case hx4 => rfl
         intro c hat hwc)
      | go_in)
  all_goals clear hmm
  all_goals first | refine sz_fin rfl rfl (sz_one _ _) ⟨?_, (Below.refl _ _).alloc (Nat.le_refl _) _⟩ | refine sz_fin rfl rfl (sz_set hz3.b) ⟨?_, (hz3.o.setCell (Nat.le_refl _) _).setCell (Nat.le_refl _) _⟩
  · have hc : c = 144 := sz_c5 hat
    subst hc
    rw [sz_wrap (by omega) (by omega)]
    exact sz_eq (szl50 (by omega))
  · exact sz_eq (szl51 (by omega) (by omega))
  · exact sz_eq (szl52 (by omega))
theorem sz_map (n : Int) (hn0 : 0 ≤ n) (hn1 : n < 4294967296) (w : World) : Calls Tryd.prog 82 #[.int .i64 6, .int .i64 n] w fun e w' => e = .returned (.agg #[.int .i64 (Mp.sized 6 n).1, .int .i64 (Mp.sized 6 n).2]) ∧ Below w.heap.size w w' := by
  have hmm := @run_makeMap Tryd.prog
  go_enter Tryd.func82, Tryd.ntmps82
  go_wp2_with (first
      | (refine wpList_insert_own _ rfl (.tmp 34) (.const (.int .i64 4)) (.const (.int .i64 160)) 135 rfl 3 3 sz_l3 Tryd.underlying135 (plainElem (H := Unit) Tryd.prog 3) ?hb1 0 ?hD1 ?hm1 ?ho1 ?hn1 (.int .i64 4) (.int .i64 160) (.int .i64 4) ?hx1 ?hv1 ?hk1 (.lit (.int .i64 160)) [] ?hp1 ?hK1
         case hm1 => rfl
         case ho1 => exact sz_made w _
         case hn1 => unfold maxLen; omega
         case hx1 => rfl
         case hv1 => rfl
         case hk1 => exact keyOf_int_mk Tryd.underlying3 (by decide)
         case hp1 => exact sz_p _ (by decide)
         intro w1 ho1 hg1
         have hz1 := sz_step (sz_start w) hg1)
      | (refine wpList_insert_own _ rfl (.tmp 34) (.const (.int .i64 5)) (.const (.int .i64 144)) 135 rfl 3 3 sz_l3 Tryd.underlying135 (plainElem (H := Unit) Tryd.prog 3) ?hb2 1 ?hD2 ?hm2 ?ho2 ?hn2 (.int .i64 5) (.int .i64 144) (.int .i64 5) ?hx2 ?hv2 ?hk2 (.lit (.int .i64 144)) [] ?hp2 ?hK2
         case hm2 => rfl
         case ho2 => exact ho1
         case hn2 => unfold maxLen; omega
         case hx2 => rfl
         case hv2 => rfl
         case hk2 => exact keyOf_int_mk Tryd.underlying3 (by decide)
         case hp2 => exact sz_p _ (by decide)
         intro w2 ho2 hg2
         have hz2 := sz_step hz1 hg2)
      | (refine wpList_insert_own _ rfl (.tmp 34) (.const (.int .i64 6)) (.const (.int .i64 128)) 135 rfl 3 3 sz_l3 Tryd.underlying135 (plainElem (H := Unit) Tryd.prog 3) ?hb3 2 ?hD3 ?hm3 ?ho3 ?hn3 (.int .i64 6) (.int .i64 128) (.int .i64 6) ?hx3 ?hv3 ?hk3 (.lit (.int .i64 128)) [] ?hp3 ?hK3
         case hm3 => rfl
         case ho3 => exact ho2
         case hn3 => unfold maxLen; omega
         case hx3 => rfl
         case hv3 => rfl
         case hk3 => exact keyOf_int_mk Tryd.underlying3 (by decide)
         case hp3 => exact sz_p _ (by decide)
         intro w3 ho3 hg3
         have hz3 := sz_step hz2 hg3
         have c0 := hz3.c0
         have c1 := hz3.c1
         have f0 := hz3.f 0
         have f1 := hz3.f 1)
      | (at_lookup
         refine wpList_lookup_own_int (H := Unit) _ rfl (.tmp 35) (.tmp 36) 135 rfl 3 3 .i64 sz_l3 Tryd.underlying135 Tryd.underlying3 (sz_z3 _) ?hb4 3 ?hD4 ?hm4 ?ho4 (.int .i64 6) (.int .i64 6) ?hx4 ?hk4 ?hK4
         case hk4 => exact keyOf_int_mk Tryd.underlying3 (by decide)
         case hm4 => rfl
         case ho4 => exact ho3
         case hx4 => rfl
         intro c hat hwc)
      | go_in)
  all_goals clear hmm
  all_goals first | refine sz_fin rfl rfl (sz_one _ _) ⟨?_, (Below.refl _ _).alloc (Nat.le_refl _) _⟩ | refine sz_fin rfl rfl (sz_set hz3.b) ⟨?_, (hz3.o.setCell (Nat.le_refl _) _).setCell (Nat.le_refl _) _⟩
  · have hc : c = 128 := sz_c6 hat
    subst hc
    rw [sz_wrap (by omega) (by omega)]
    exact sz_eq (szl60 (by omega))
  · exact sz_eq (szl61 (by omega) (by omega))
  · exact sz_eq (szl62 (by omega))
theorem mp_sized.ok:KO 82 (mp_sized.c) mp_sized.sg:=by
 refine spec_plain fun ti to_ w R xs hc ha hR hgl=>?_
 unfold mp_sized.c at hc
 split at hc
 ·rename_i k n
  obtain ⟨hp,rfl⟩:=hc
  simp only [Bool.and_eq_true,decide_eq_true_eq,Mp.sizeds] at hp
  obtain ⟨hk,h0,h1⟩:=hp
  have hxs:xs=[.int .i64 k,.int .i64 n]:=by
   have hq:RepT R w [.v (.int .i64 k),.v (.int .i64 n)] xs:=ha
   clear ha
   cases hq with
   | cons a1 q1=>cases q1 with
    | cons a2 q2=>cases q2;cases a1;cases a2;rfl
  subst hxs
  have fin:∀{S:Int × Int},Calls Go.Proofs.Tryd.prog 82 #[.int .i64 k,.int .i64 n] w (fun e w'=>e = .returned (.agg #[.int .i64 S.1,.int .i64 S.2])∧Below w.heap.size w w') →
    Calls Go.Proofs.Tryd.prog 82 ⟨[.int .i64 k,.int .i64 n]⟩ w fun e w'=>∃x,e = .returned x∧Below w.heap.size w w'∧∀R w',RepT R w' ([(TV.ag [.i .i64 S.1,.i .i64 S.2])].map TV.av) [x]:=by
   intro S h
   refine h.mono ?_
   rintro e w' ⟨rfl,hb⟩
   exact ⟨_,rfl,hb,fun R w' => .cons (.ag (.cons rfl (.v _) (.cons rfl (.v _) .nil))) .nil⟩
  rcases hk with rfl | rfl | rfl | rfl | rfl
  ·exact fin (sz_bytes n h0 h1 w)
  ·exact fin (sz_text n h0 h1 w)
  ·exact fin (sz_list n h0 h1 w)
  ·exact fin (sz_map n h0 h1 w)
  ·exact fin (sz_ext n h0 h1 w)
 ·exact hc.elim
end Go.Eng
