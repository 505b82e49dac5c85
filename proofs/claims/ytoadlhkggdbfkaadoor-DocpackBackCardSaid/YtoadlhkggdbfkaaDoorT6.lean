/- Texts of my own, one behind the other: DdOK, DdDb2, DdR4, DdR5, DdR6, DdR8, DdR9, DdLBack, DdQBack, DdOKBack. -/
import Derived.Test.YtoadlhkggdbfkaaDoorT5
set_option linter.unusedVariables false
set_option linter.unusedSimpArgs false
namespace Go.Eng
theorem utf_is.fit (r:Int):FT utf_is.d (envL trydGl utf_is.env) [.i .i64 r] [(.b (Utf.isRune r))] :=
 ⟨by kernel_rfl,Eq.trans (b:=utf_is.F r) (by kernel_rfl) (Eq.trans (utf_is.goal r) (by kernel_rfl))⟩
theorem utf_is.ok:KO 56 (utf_is.c) utf_is.sg :=
 meets (l:=utf_is.env) all_nil utf_is.chk (by
   intro ins outs h
   unfold utf_is.c at h
   split at h
   ·cases h;exact utf_is.fit _
   ·exact h.elim)
theorem utf_Rune.fit (b:List UInt8) (at_:Int) (hp:(decide (b.length≤1099511627776))=true):FT utf_Rune.d (envL trydGl utf_Rune.env) [.sl .bs b,.i .i64 at_] [(.i .i64 ((Utf.runeAt b at_).1)),(.i .i64 ((Utf.runeAt b at_).2))] :=
 ⟨by kernel_rfl,Eq.trans (b:=utf_Rune.F b at_) (by kernel_rfl) (Eq.trans (utf_Rune.goal b at_ hp) (by kernel_rfl))⟩
theorem utf_Rune.ok:KO 47 (utf_Rune.c) utf_Rune.sg :=
 meets (l:=utf_Rune.env) (all_cons utf_is.ok all_nil) utf_Rune.chk (by
   intro ins outs h
   unfold utf_Rune.c at h
   split at h
   ·obtain ⟨hp,rfl⟩:=h;exact utf_Rune.fit _ _ hp
   ·exact h.elim)
theorem utf_look.fit (b:List UInt8) (hp:(decide (b.length≤1099511627776))=true):FT utf_look.d (envL trydGl utf_look.env) [.sl .bs b] [(.i .i64 (((Utf.look b).1:Int))),(.i .i64 (((Utf.look b).2:Int)))] :=
 ⟨by kernel_rfl,Eq.trans (b:=utf_look.F b) (by kernel_rfl) (Eq.trans (utf_look.goal b hp) (by kernel_rfl))⟩
theorem utf_look.ok:KO 40 (utf_look.c) utf_look.sg :=
 meets (l:=utf_look.env) (all_cons utf_Rune.ok all_nil) utf_look.chk (by
   intro ins outs h
   unfold utf_look.c at h
   split at h
   ·obtain ⟨hp,rfl⟩:=h;exact utf_look.fit _ hp
   ·exact h.elim)
theorem utf_Check.fit (b:List UInt8) (hp:(decide (b.length≤1099511627776))=true):FT utf_Check.d (envL trydGl utf_Check.env) [.sl .bs b] [(.i .i64 (((Utf.look b).1:Int))),(.b (Utf.whole b))] :=
 ⟨by kernel_rfl,Eq.trans (b:=utf_Check.F b) (by kernel_rfl) (Eq.trans (utf_Check.goal b hp) (by kernel_rfl))⟩
theorem utf_Check.ok:KO 25 (utf_Check.c) utf_Check.sg :=
 meets (l:=utf_Check.env) (all_cons utf_look.ok all_nil) utf_Check.chk (by
   intro ins outs h
   unfold utf_Check.c at h
   split at h
   ·obtain ⟨hp,rfl⟩:=h;exact utf_Check.fit _ hp
   ·exact h.elim)
theorem ref2_Rune.fit (b:List UInt8) (at_:Int) (hp:(decide (b.length≤1099511627776))=true):FT ref2_Rune.d (envL trydGl ref2_Rune.env) [.sl .bs b,.i .i64 at_] [(.i .i64 ((Utf.runeAt b at_).1)),(.i .i64 ((Utf.runeAt b at_).2))] :=
 ⟨by kernel_rfl,Eq.trans (b:=ref2_Rune.F b at_) (by kernel_rfl) (Eq.trans (ref2_Rune.goal b at_ hp) (by kernel_rfl))⟩
theorem ref2_Rune.ok:KO 54 (ref2_Rune.c) ref2_Rune.sg :=
 meets (l:=ref2_Rune.env) all_nil ref2_Rune.chk (by
   intro ins outs h
   unfold ref2_Rune.c at h
   split at h
   ·obtain ⟨hp,rfl⟩:=h;exact ref2_Rune.fit _ _ hp
   ·exact h.elim)
theorem ref2_Check.fit (b:List UInt8) (hp:(decide (b.length≤1099511627776))=true):FT ref2_Check.d (envL trydGl ref2_Check.env) [.sl .bs b] [(.i .i64 (((Utf.look b).1:Int))),(.b (Utf.whole b))] :=
 ⟨by kernel_rfl,Eq.trans (b:=ref2_Check.F b) (by kernel_rfl) (Eq.trans (ref2_Check.goal b hp) (by kernel_rfl))⟩
theorem ref2_Check.ok:KO 44 (ref2_Check.c) ref2_Check.sg :=
 meets (l:=ref2_Check.env) (all_cons ref2_Rune.ok all_nil) ref2_Check.chk (by
   intro ins outs h
   unfold ref2_Check.c at h
   split at h
   ·obtain ⟨hp,rfl⟩:=h;exact ref2_Check.fit _ hp
   ·exact h.elim)
theorem ref2_Whole.fit (s:Str) (hp:(decide (s.length≤1099511627776))=true):FT ref2_Whole.d (envL trydGl ref2_Whole.env) [.s s] [(.b (Utf.whole s))] :=
 ⟨by kernel_rfl,Eq.trans (b:=ref2_Whole.F s) (by kernel_rfl) (Eq.trans (ref2_Whole.goal s hp) (by kernel_rfl))⟩
theorem ref2_Whole.ok:KO 29 (ref2_Whole.c) ref2_Whole.sg :=
 meets (l:=ref2_Whole.env) (all_cons ref2_Check.ok all_nil) ref2_Whole.chk (by
   intro ins outs h
   unfold ref2_Whole.c at h
   split at h
   ·obtain ⟨hp,rfl⟩:=h;exact ref2_Whole.fit _ hp
   ·exact h.elim)
theorem rd_At.fit (r_b:List UInt8) (r_at:Int):FT rd_At.d (envL trydGl rd_At.env) [.ro (.ag [.sl .bs r_b,.i .i64 r_at])] [(.i .i64 ((((Rdr.mk r_b r_at)).at_)))] :=
 ⟨by kernel_rfl,Eq.trans (b:=rd_At.F (Rdr.mk r_b r_at)) (by kernel_rfl) (Eq.trans (rd_At.goal (Rdr.mk r_b r_at)) (by kernel_rfl))⟩
theorem rd_At.ok:KO 77 (rd_At.c) rd_At.sg :=
 meets (l:=rd_At.env) all_nil rd_At.chk (by
   intro ins outs h
   unfold rd_At.c at h
   split at h
   ·cases h;exact rd_At.fit _ _
   ·exact h.elim)
theorem rd_Left.fit (r_b:List UInt8) (r_at:Int) (hp:(Cur.good (Rdr.mk r_b r_at))=true):FT rd_Left.d (envL trydGl rd_Left.env) [.ro (.ag [.sl .bs r_b,.i .i64 r_at])] [(.i .i64 (Cur.left (Rdr.mk r_b r_at)))] :=
 ⟨by kernel_rfl,Eq.trans (b:=rd_Left.F (Rdr.mk r_b r_at)) (by kernel_rfl) (Eq.trans (rd_Left.goal (Rdr.mk r_b r_at) hp) (by kernel_rfl))⟩
theorem rd_Left.ok:KO 76 (rd_Left.c) rd_Left.sg :=
 meets (l:=rd_Left.env) all_nil rd_Left.chk (by
   intro ins outs h
   unfold rd_Left.c at h
   split at h
   ·obtain ⟨hp,rfl⟩:=h;exact rd_Left.fit _ _ hp
   ·exact h.elim)
theorem rd_Byte.fit (r_b:List UInt8) (r_at:Int) (hp:(Cur.good (Rdr.mk r_b r_at))=true):FT rd_Byte.d (envL trydGl rd_Byte.env) [.ag [.sl .bs r_b,.i .i64 r_at]] [(.i .i64 (Cur.byte (Rdr.mk r_b r_at))),(.b (Cur.more (Rdr.mk r_b r_at))),(.ag (Rdr.cells (Cur.adv (Rdr.mk r_b r_at) 1 (Cur.more (Rdr.mk r_b r_at)))))] :=
 ⟨by kernel_rfl,Eq.trans (b:=rd_Byte.F (Rdr.mk r_b r_at)) (by kernel_rfl) (Eq.trans (rd_Byte.goal (Rdr.mk r_b r_at) hp) (by kernel_rfl))⟩
theorem rd_Byte.ok:KO 89 (rd_Byte.c) rd_Byte.sg :=
 meets (l:=rd_Byte.env) all_nil rd_Byte.chk (by
   intro ins outs h
   unfold rd_Byte.c at h
   split at h
   ·obtain ⟨hp,rfl⟩:=h;exact rd_Byte.fit _ _ hp
   ·exact h.elim)
theorem rd_next.fit (r_b:List UInt8) (r_at:Int) (n:Int) (hp:(Cur.good (Rdr.mk r_b r_at))=true):FT rd_next.d (envL trydGl rd_next.env) [.ag [.sl .bs r_b,.i .i64 r_at],.i .i64 n] [(.sl .bs (Cur.nx (Rdr.mk r_b r_at) n (Cur.ok8 (Rdr.mk r_b r_at) n))),(.b (Cur.ok8 (Rdr.mk r_b r_at) n)),(.ag (Rdr.cells (Cur.adv (Rdr.mk r_b r_at) n (Cur.ok8 (Rdr.mk r_b r_at) n))))] :=
 ⟨by kernel_rfl,Eq.trans (b:=rd_next.F (Rdr.mk r_b r_at) n) (by kernel_rfl) (Eq.trans (rd_next.goal (Rdr.mk r_b r_at) n hp) (by kernel_rfl))⟩
theorem rd_next.ok:KO 98 (rd_next.c) rd_next.sg :=
 meets (l:=rd_next.env) (all_cons rd_Left.ok all_nil) rd_next.chk (by
   intro ins outs h
   unfold rd_next.c at h
   split at h
   ·obtain ⟨hp,rfl⟩:=h;exact rd_next.fit _ _ _ hp
   ·exact h.elim)
theorem rd_Take.fit (r_b:List UInt8) (r_at:Int) (n:Int) (hp:(Cur.good (Rdr.mk r_b r_at))=true):FT rd_Take.d (envL trydGl rd_Take.env) [.ag [.sl .bs r_b,.i .i64 r_at],.i .i64 n] [(.sl .bs (Cur.nx (Rdr.mk r_b r_at) n (Cur.okT (Rdr.mk r_b r_at) n))),(.b (Cur.okT (Rdr.mk r_b r_at) n)),(.ag (Rdr.cells (Cur.adv (Rdr.mk r_b r_at) n (Cur.okT (Rdr.mk r_b r_at) n))))] :=
 ⟨by kernel_rfl,Eq.trans (b:=rd_Take.F (Rdr.mk r_b r_at) n) (by kernel_rfl) (Eq.trans (rd_Take.goal (Rdr.mk r_b r_at) n hp) (by kernel_rfl))⟩
theorem rd_Take.ok:KO 99 (rd_Take.c) rd_Take.sg :=
 meets (l:=rd_Take.env) (all_cons clone_bs.ok (all_cons rd_Left.ok all_nil)) rd_Take.chk (by
   intro ins outs h
   unfold rd_Take.c at h
   split at h
   ·obtain ⟨hp,rfl⟩:=h;exact rd_Take.fit _ _ _ hp
   ·exact h.elim)
theorem rd_High.fit (r_b:List UInt8) (r_at:Int) (n:Int) (hp:(Cur.good (Rdr.mk r_b r_at))=true):FT rd_High.d (envL trydGl rd_High.env) [.ag [.sl .bs r_b,.i .i64 r_at],.i .i64 n] [(.u64 (Cur.be (Cur.nx (Rdr.mk r_b r_at) n (Cur.ok8 (Rdr.mk r_b r_at) n)))),(.b (Cur.ok8 (Rdr.mk r_b r_at) n)),(.ag (Rdr.cells (Cur.adv (Rdr.mk r_b r_at) n (Cur.ok8 (Rdr.mk r_b r_at) n))))] :=
 ⟨by kernel_rfl,Eq.trans (b:=rd_High.F (Rdr.mk r_b r_at) n) (by kernel_rfl) (Eq.trans (rd_High.goal (Rdr.mk r_b r_at) n hp) (by kernel_rfl))⟩
theorem rd_High.ok:KO 91 (rd_High.c) rd_High.sg :=
 meets (l:=rd_High.env) (all_cons rd_next.ok all_nil) rd_High.chk (by
   intro ins outs h
   unfold rd_High.c at h
   split at h
   ·obtain ⟨hp,rfl⟩:=h;exact rd_High.fit _ _ _ hp
   ·exact h.elim)
theorem cur_New.fit (b:List UInt8) (hp:(decide ((b).length≤1099511627776))=true):FT cur_New.d (envL trydGl cur_New.env) [.sl .bs b] [.pt,(.ag (Rdr.cells ((Rdr.mk b 0))))] :=
 ⟨by kernel_rfl,Eq.trans (b:=cur_New.F b) (by kernel_rfl) (Eq.trans (cur_New.goal b hp) (by kernel_rfl))⟩
theorem cur_New.ok:KO 74 (cur_New.c) cur_New.sg :=
 meets (l:=cur_New.env) (all_cons clone_bs.ok all_nil) cur_New.chk (by
   intro ins outs h
   unfold cur_New.c at h
   split at h
   ·obtain ⟨hp,rfl⟩:=h;exact cur_New.fit _ hp
   ·exact h.elim)
theorem cur_number.fit (n:Int):FT cur_number.d (envL trydGl cur_number.env) [.i .i64 n] [(.b (decide (1≤n∧n≤8)))] :=
 ⟨by kernel_rfl,Eq.trans (b:=cur_number.F n) (by kernel_rfl) (Eq.trans (cur_number.goal n) (by kernel_rfl))⟩
theorem cur_number.ok:KO 100 (cur_number.c) cur_number.sg :=
 meets (l:=cur_number.env) all_nil cur_number.chk (by
   intro ins outs h
   unfold cur_number.c at h
   split at h
   ·cases h;exact cur_number.fit _
   ·exact h.elim)
theorem cur_Lay.fit:([]:List TV).length=cur_Lay.d.np∧cur_Lay.d.run (envL trydGl cur_Lay.env) []=some (([.pt,(.ag (Wtr.cells ((Wtr.mk []))))]:List TV)++cur_Lay.d.ps.toList.map fun q=>([]:List TV).getD q.1 .dead) :=
 ⟨by kernel_rfl,Eq.trans (b:=cur_Lay.F ) (by kernel_rfl) (Eq.trans (cur_Lay.goal ) (by kernel_rfl))⟩
theorem cur_Lay.ok:KO 64 (cur_Lay.c) cur_Lay.sg :=
 meets (l:=cur_Lay.env) all_nil cur_Lay.chk (by
   intro ins outs h
   unfold cur_Lay.c at h
   split at h
   ·cases h;exact cur_Lay.fit
   ·exact h.elim)
theorem wr_Byte.fit (w_b:List UInt8) (v:Int) (hp:(decide (((Wtr.mk w_b)).b.length≤1099511627776))=true):FT wr_Byte.d (envL trydGl wr_Byte.env) [.ag [.sl .bs w_b],.i .i64 v] [(.ag (Wtr.cells ((Wtr.mk (((Wtr.mk w_b)).b++[UInt8.ofInt v])))))] :=
 ⟨by kernel_rfl,Eq.trans (b:=wr_Byte.F (Wtr.mk w_b) v) (by kernel_rfl) (Eq.trans (wr_Byte.goal (Wtr.mk w_b) v hp) (by kernel_rfl))⟩
theorem wr_Byte.ok:KO 81 (wr_Byte.c) wr_Byte.sg :=
 meets (l:=wr_Byte.env) all_nil wr_Byte.chk (by
   intro ins outs h
   unfold wr_Byte.c at h
   split at h
   ·obtain ⟨hp,rfl⟩:=h;exact wr_Byte.fit _ _ hp
   ·exact h.elim)
theorem wr_Raw.fit (w_b:List UInt8) (b:List UInt8) (hp:(decide (((Wtr.mk w_b)).b.length+(b).length≤1099511627776))=true):FT wr_Raw.d (envL trydGl wr_Raw.env) [.ag [.sl .bs w_b],.sl .bs b] [(.ag (Wtr.cells ((Wtr.mk (((Wtr.mk w_b)).b++b)))))] :=
 ⟨by kernel_rfl,Eq.trans (b:=wr_Raw.F (Wtr.mk w_b) b) (by kernel_rfl) (Eq.trans (wr_Raw.goal (Wtr.mk w_b) b hp) (by kernel_rfl))⟩
theorem wr_Raw.ok:KO 83 (wr_Raw.c) wr_Raw.sg :=
 meets (l:=wr_Raw.env) all_nil wr_Raw.chk (by
   intro ins outs h
   unfold wr_Raw.c at h
   split at h
   ·obtain ⟨hp,rfl⟩:=h;exact wr_Raw.fit _ _ hp
   ·exact h.elim)
theorem wr_High.fit (w_b:List UInt8) (v:UInt64) (n:Int) (hp:(decide (((Wtr.mk w_b)).b.length≤1099511627776))=true):FT wr_High.d (envL trydGl wr_High.env) [.ag [.sl .bs w_b],.u64 v,.i .i64 n] [(.ag (Wtr.cells ((Wtr.mk (((Wtr.mk w_b)).b++Cur.high v n)))))] :=
 ⟨by kernel_rfl,Eq.trans (b:=wr_High.F (Wtr.mk w_b) v n) (by kernel_rfl) (Eq.trans (wr_High.goal (Wtr.mk w_b) v n hp) (by kernel_rfl))⟩
theorem wr_High.ok:KO 95 (wr_High.c) wr_High.sg :=
 meets (l:=wr_High.env) (all_cons cur_number.ok all_nil) wr_High.chk (by
   intro ins outs h
   unfold wr_High.c at h
   split at h
   ·obtain ⟨hp,rfl⟩:=h;exact wr_High.fit _ _ _ hp
   ·exact h.elim)
theorem wr_Bytes.fit (w_b:List UInt8) (hp:(decide (((Wtr.mk w_b)).b.length≤1099511627776))=true):FT wr_Bytes.d (envL trydGl wr_Bytes.env) [.ag [.sl .bs w_b]] [(.sl .bs ((((Wtr.mk w_b)).b))),(.ag (Wtr.cells ((Wtr.mk w_b))))] :=
 ⟨by kernel_rfl,Eq.trans (b:=wr_Bytes.F (Wtr.mk w_b)) (by kernel_rfl) (Eq.trans (wr_Bytes.goal (Wtr.mk w_b) hp) (by kernel_rfl))⟩
theorem wr_Bytes.ok:KO 66 (wr_Bytes.c) wr_Bytes.sg :=
 meets (l:=wr_Bytes.env) (all_cons clone_bs.ok all_nil) wr_Bytes.chk (by
   intro ins outs h
   unfold wr_Bytes.c at h
   split at h
   ·obtain ⟨hp,rfl⟩:=h;exact wr_Bytes.fit _ hp
   ·exact h.elim)
theorem mp_few.fit (n:Int) (hp:(decide (0≤n∧n≤1099511627776))=true):FT mp_few.d (envL trydGl mp_few.env) [.i .i64 n] [(.b (decide (n<4294967296)))] :=
 ⟨by kernel_rfl,Eq.trans (b:=mp_few.F n) (by kernel_rfl) (Eq.trans (mp_few.goal n hp) (by kernel_rfl))⟩
theorem mp_few.ok:KO 39 (mp_few.c) mp_few.sg :=
 meets (l:=mp_few.env) all_nil mp_few.chk (by
   intro ins outs h
   unfold mp_few.c at h
   split at h
   ·obtain ⟨hp,rfl⟩:=h;exact mp_few.fit _ hp
   ·exact h.elim)
theorem mp_fields.fit (it9k:Int) (it9n:UInt64) (it9y:List UInt8) (it9t:Str) (it9d:List Itm) (hp:(decide (Itm.bulk (Itm.of (Itv.mk it9k it9n it9y it9t it9d))≤1099511627776))=true):FT mp_fields.d (envL trydGl mp_fields.env) [.ag [.i .i64 it9k,.u64 it9n,.sl .bs it9y,.s it9t,.sl .il it9d]] [(.b (Mp.fieldsOK (Itm.of (Itv.mk it9k it9n it9y it9t it9d))))] :=
 ⟨by kernel_rfl,Eq.trans (b:=mp_fields.F (Itv.mk it9k it9n it9y it9t it9d)) (by kernel_rfl) (Eq.trans (mp_fields.goal (Itv.mk it9k it9n it9y it9t it9d) hp) (by kernel_rfl))⟩
theorem mp_fields.ok:KO 24 (mp_fields.c) mp_fields.sg :=
 meets (l:=mp_fields.env) (all_cons mp_few.ok all_nil) mp_fields.chk (by
   intro ins outs h
   unfold mp_fields.c at h
   split at h
   ·obtain ⟨hp,rfl⟩:=h;exact mp_fields.fit _ _ _ _ _ hp
   ·exact h.elim)
theorem mp_Check.fit (n:Nat) (it9k:Int) (it9n:UInt64) (it9y:List UInt8) (it9t:Str) (it9d:List Itm) (hp:((decide (Itm.bulk (Itm.of (Itv.mk it9k it9n it9y it9t it9d))≤1099511627776))&&decide ((Itm.bulk (Itm.of (Itv.mk it9k it9n it9y it9t it9d)))<n+1))=true):FT mp_Check.d (envL trydGl (mp_Check.env n)) [.ag [.i .i64 it9k,.u64 it9n,.sl .bs it9y,.s it9t,.sl .il it9d]] [(.i .i64 (Mp.chk (Itm.of (Itv.mk it9k it9n it9y it9t it9d))))] :=
 ⟨by kernel_rfl,Eq.trans (b:=mp_Check.F n (Itv.mk it9k it9n it9y it9t it9d)) (by kernel_rfl) (Eq.trans (mp_Check.goal n (Itv.mk it9k it9n it9y it9t it9d) hp) (by kernel_rfl))⟩
theorem mcheck.oks:∀n:Nat,(KO 15 (mp_Check.cn n) mp_Check.sg):=by
 intro n
 induction n with
 | zero=>exact spec_zero (by
   intro ti to_ h
   unfold mp_Check.cn at h
   split at h
   ·obtain ⟨h,_⟩:=h;simp at h
   ·exact h.elim)
 | succ n ih =>
  have ih0:=ih
  exact meets (l:=mp_Check.env n) (all_cons ih0 (all_cons mp_fields.ok (all_cons utf_Check.ok all_nil))) (mp_Check.chk n) (by
   intro ins outs h
   unfold mp_Check.cn at h
   split at h
   ·obtain ⟨hp,rfl⟩:=h;exact mp_Check.fit n _ _ _ _ _ hp
   ·exact h.elim)
theorem mp_Check.ok:KO 15 (mp_Check.c) mp_Check.sg:=spec_sub fun ti to_ h=>by
 unfold mp_Check.c at h
 split at h
 ·obtain ⟨hp,rfl⟩:=h;exact ⟨mp_Check.cn (_+1),(mcheck.oks _),Bool.and_eq_true_iff.2 ⟨hp,decide_eq_true (Nat.lt_succ_self _)⟩,rfl⟩
 ·exact h.elim
theorem mp_wrong.fit (e:Int) (at_:Int):FT mp_wrong.d (envL trydGl mp_wrong.env) [.i .i64 e,.i .i64 at_] [(.ag (Itv.cells (Itm.val (Mp.zero)))),(.ag (Flt.cells ((Flt.mk e at_ []))))] :=
 ⟨by kernel_rfl,Eq.trans (b:=mp_wrong.F e at_) (by kernel_rfl) (Eq.trans (mp_wrong.goal e at_) (by kernel_rfl))⟩
theorem mp_wrong.ok:KO 73 (mp_wrong.c) mp_wrong.sg :=
 meets (l:=mp_wrong.env) all_nil mp_wrong.chk (by
   intro ins outs h
   unfold mp_wrong.c at h
   split at h
   ·cases h;exact mp_wrong.fit _ _
   ·exact h.elim)
theorem mp_unsigned.fit (n:UInt64):FT mp_unsigned.d (envL trydGl mp_unsigned.env) [.u64 n] [(.ag [(.i .i64 (Mp.unsigned n).1),(.i .i64 (Mp.unsigned n).2)])] :=
 ⟨by kernel_rfl,Eq.trans (b:=mp_unsigned.F n) (by kernel_rfl) (Eq.trans (mp_unsigned.goal n) (by kernel_rfl))⟩
theorem mp_unsigned.ok:KO 79 (mp_unsigned.c) mp_unsigned.sg :=
 meets (l:=mp_unsigned.env) all_nil mp_unsigned.chk (by
   intro ins outs h
   unfold mp_unsigned.c at h
   split at h
   ·cases h;exact mp_unsigned.fit _
   ·exact h.elim)
theorem mp_signed.fit (n:UInt64):FT mp_signed.d (envL trydGl mp_signed.env) [.u64 n] [(.ag [(.i .i64 (Mp.signed n).1),(.i .i64 (Mp.signed n).2)])] :=
 ⟨by kernel_rfl,Eq.trans (b:=mp_signed.F n) (by kernel_rfl) (Eq.trans (mp_signed.goal n) (by kernel_rfl))⟩
theorem mp_signed.ok:KO 80 (mp_signed.c) mp_signed.sg :=
 meets (l:=mp_signed.env) all_nil mp_signed.chk (by
   intro ins outs h
   unfold mp_signed.c at h
   split at h
   ·cases h;exact mp_signed.fit _
   ·exact h.elim)
theorem mp_put.fit (w_b:List UInt8) (f_at:Int) (f_end:Int) (n:UInt64) (hp:(decide (((Wtr.mk w_b)).b.length+10≤1099511627776))=true):FT mp_put.d (envL trydGl mp_put.env) [.ag [.sl .bs w_b],.ag [.i .i64 f_at,.i .i64 f_end],.u64 n] [(.ag (Wtr.cells ((Wtr.mk (((Wtr.mk w_b)).b++Mp.put (((Spn.mk f_at f_end)).at_,((Spn.mk f_at f_end)).end_) n)))))] :=
 ⟨by kernel_rfl,Eq.trans (b:=mp_put.F (Wtr.mk w_b) (Spn.mk f_at f_end) n) (by kernel_rfl) (Eq.trans (mp_put.goal (Wtr.mk w_b) (Spn.mk f_at f_end) n hp) (by kernel_rfl))⟩
theorem mp_put.ok:KO 78 (mp_put.c) mp_put.sg :=
 meets (l:=mp_put.env) (all_cons wr_Byte.ok (all_cons wr_High.ok all_nil)) mp_put.chk (by
   intro ins outs h
   unfold mp_put.c at h
   split at h
   ·obtain ⟨hp,rfl⟩:=h;exact mp_put.fit _ _ _ _ hp
   ·exact h.elim)
theorem mp_lay.fit (n:Nat) (w_b:List UInt8) (it9k:Int) (it9n:UInt64) (it9y:List UInt8) (it9t:Str) (it9d:List Itm) (hp:((decide (((Wtr.mk w_b)).b.length+16 * Itm.bulk (Itm.of (Itv.mk it9k it9n it9y it9t it9d))≤1099511627776)&&decide (Mp.chk (Itm.of (Itv.mk it9k it9n it9y it9t it9d))=0))&&decide ((Itm.bulk (Itm.of (Itv.mk it9k it9n it9y it9t it9d)))<n+1))=true):FT mp_lay.d (envL trydGl (mp_lay.env n)) [.ag [.sl .bs w_b],.ag [.i .i64 it9k,.u64 it9n,.sl .bs it9y,.s it9t,.sl .il it9d]] [(.ag (Wtr.cells ((Wtr.mk (((Wtr.mk w_b)).b++Mp.lay (Itm.of (Itv.mk it9k it9n it9y it9t it9d)))))))] :=
 ⟨by kernel_rfl,Eq.trans (b:=mp_lay.F n (Wtr.mk w_b) (Itv.mk it9k it9n it9y it9t it9d)) (by kernel_rfl) (Eq.trans (mp_lay.goal n (Wtr.mk w_b) (Itv.mk it9k it9n it9y it9t it9d) hp) (by kernel_rfl))⟩
theorem mlay.oks:∀n:Nat,(KO 65 (mp_lay.cn n) mp_lay.sg):=by
 intro n
 induction n with
 | zero=>exact spec_zero (by
   intro ti to_ h
   unfold mp_lay.cn at h
   split at h
   ·obtain ⟨h,_⟩:=h;simp at h
   ·exact h.elim)
 | succ n ih =>
  have ih0:=ih
  exact meets (l:=mp_lay.env n) (all_cons ih0 (all_cons mp_put.ok (all_cons mp_unsigned.ok (all_cons mp_signed.ok (all_cons wr_Byte.ok (all_cons mp_sized.ok (all_cons wr_Raw.ok all_nil))))))) (mp_lay.chk n) (by
   intro ins outs h
   unfold mp_lay.cn at h
   split at h
   ·obtain ⟨hp,rfl⟩:=h;exact mp_lay.fit n _ _ _ _ _ _ hp
   ·exact h.elim)
theorem mp_lay.ok:KO 65 (mp_lay.c) mp_lay.sg:=spec_sub fun ti to_ h=>by
 unfold mp_lay.c at h
 split at h
 ·obtain ⟨hp,rfl⟩:=h;exact ⟨mp_lay.cn (_+1),(mlay.oks _),Bool.and_eq_true_iff.2 ⟨hp,decide_eq_true (Nat.lt_succ_self _)⟩,rfl⟩
 ·exact h.elim
theorem mp_Encode.fit (it9k:Int) (it9n:UInt64) (it9y:List UInt8) (it9t:Str) (it9d:List Itm) (hp:(decide (Itm.bulk (Itm.of (Itv.mk it9k it9n it9y it9t it9d))≤1073741824))=true):FT mp_Encode.d (envL trydGl mp_Encode.env) [.ag [.i .i64 it9k,.u64 it9n,.sl .bs it9y,.s it9t,.sl .il it9d]] [(.sl .bs (Mp.enc (Itm.of (Itv.mk it9k it9n it9y it9t it9d)))),(.i .i64 (Mp.chk (Itm.of (Itv.mk it9k it9n it9y it9t it9d))))] :=
 ⟨by kernel_rfl,Eq.trans (b:=mp_Encode.F (Itv.mk it9k it9n it9y it9t it9d)) (by kernel_rfl) (Eq.trans (mp_Encode.goal (Itv.mk it9k it9n it9y it9t it9d) hp) (by kernel_rfl))⟩
theorem mp_Encode.ok:KO 55 (mp_Encode.c) mp_Encode.sg :=
 meets (l:=mp_Encode.env) (all_cons mp_Check.ok (all_cons cur_Lay.ok (all_cons mp_lay.ok (all_cons wr_Bytes.ok all_nil)))) mp_Encode.chk (by
   intro ins outs h
   unfold mp_Encode.c at h
   split at h
   ·obtain ⟨hp,rfl⟩:=h;exact mp_Encode.fit _ _ _ _ _ hp
   ·exact h.elim)
theorem mp_first.fit (c:Int) (hp:(decide (0≤c∧c≤255))=true):FT mp_first.d (envL trydGl mp_first.env) [.i .i64 c] [(.i .i64 ((Mp.first c).1)),(.u64 ((Mp.first c).2.1)),(.i .i64 ((Mp.first c).2.2))] :=
 ⟨by kernel_rfl,Eq.trans (b:=mp_first.F c) (by kernel_rfl) (Eq.trans (mp_first.goal c hp) (by kernel_rfl))⟩
theorem mp_first.ok:KO 90 (mp_first.c) mp_first.sg :=
 meets (l:=mp_first.env) all_nil mp_first.chk (by
   intro ins outs h
   unfold mp_first.c at h
   split at h
   ·obtain ⟨hp,rfl⟩:=h;exact mp_first.fit _ hp
   ·exact h.elim)
theorem mp_number.fit (it9k:Int) (it9n:UInt64) (it9y:List UInt8) (it9t:Str) (it9d:List Itm) (p:Int) (c:Int) (f_at:Int) (f_end:Int):FT mp_number.d (envL trydGl mp_number.env) [.ag [.i .i64 it9k,.u64 it9n,.sl .bs it9y,.s it9t,.sl .il it9d],.i .i64 p,.i .i64 c,.ag [.i .i64 f_at,.i .i64 f_end]] [(.ag (Itv.cells (Itm.val ((Mp.num (Itm.of (Itv.mk it9k it9n it9y it9t it9d)) p c ((Spn.mk f_at f_end)).at_ 0).it)))),(.ag (Flt.cells ((Flt.mk (Mp.num (Itm.of (Itv.mk it9k it9n it9y it9t it9d)) p c ((Spn.mk f_at f_end)).at_ 0).err (Mp.num (Itm.of (Itv.mk it9k it9n it9y it9t it9d)) p c ((Spn.mk f_at f_end)).at_ 0).at_ []))))] :=
 ⟨by kernel_rfl,Eq.trans (b:=mp_number.F (Itv.mk it9k it9n it9y it9t it9d) p c (Spn.mk f_at f_end)) (by kernel_rfl) (Eq.trans (mp_number.goal (Itv.mk it9k it9n it9y it9t it9d) p c (Spn.mk f_at f_end)) (by kernel_rfl))⟩
theorem mp_number.ok:KO 92 (mp_number.c) mp_number.sg :=
 meets (l:=mp_number.env) (all_cons mp_wrong.ok all_nil) mp_number.chk (by
   intro ins outs h
   unfold mp_number.c at h
   split at h
   ·cases h;exact mp_number.fit _ _ _ _ _ _ _ _ _
   ·exact h.elim)
theorem mp_number.okw:KO 92 (mp_number.cw) mp_number.sg:=spec_wk rfl (by decide) mp_number.ok
theorem mp_row.fit (r_b:List UInt8) (r_at:Int) (it9k:Int) (it9n:UInt64) (it9y:List UInt8) (it9t:Str) (it9d:List Itm) (p:Int) (n:Int) (hp:(Cur.good (Rdr.mk r_b r_at))=true):FT mp_row.d (envL trydGl mp_row.env) [.ag [.sl .bs r_b,.i .i64 r_at],.ag [.i .i64 it9k,.u64 it9n,.sl .bs it9y,.s it9t,.sl .il it9d],.i .i64 p,.i .i64 n] [(.ag (Itv.cells (Itm.val ((Mp.row ((Rdr.mk r_b r_at)).b (Itm.of (Itv.mk it9k it9n it9y it9t it9d)) p ((Rdr.mk r_b r_at)).at_ n).it)))),(.ag (Flt.cells ((Flt.mk (Mp.row ((Rdr.mk r_b r_at)).b (Itm.of (Itv.mk it9k it9n it9y it9t it9d)) p ((Rdr.mk r_b r_at)).at_ n).err (Mp.row ((Rdr.mk r_b r_at)).b (Itm.of (Itv.mk it9k it9n it9y it9t it9d)) p ((Rdr.mk r_b r_at)).at_ n).at_ [])))),(.ag (Rdr.cells ((Rdr.mk ((Rdr.mk r_b r_at)).b (Mp.row ((Rdr.mk r_b r_at)).b (Itm.of (Itv.mk it9k it9n it9y it9t it9d)) p ((Rdr.mk r_b r_at)).at_ n).pos))))] :=
 ⟨by kernel_rfl,Eq.trans (b:=mp_row.F (Rdr.mk r_b r_at) (Itv.mk it9k it9n it9y it9t it9d) p n) (by kernel_rfl) (Eq.trans (mp_row.goal (Rdr.mk r_b r_at) (Itv.mk it9k it9n it9y it9t it9d) p n hp) (by kernel_rfl))⟩
theorem mp_row.ok:KO 94 (mp_row.c) mp_row.sg :=
 meets (l:=mp_row.env) (all_cons utf_Check.ok (all_cons mp_wrong.ok (all_cons rd_Take.ok all_nil))) mp_row.chk (by
   intro ins outs h
   unfold mp_row.c at h
   split at h
   ·obtain ⟨hp,rfl⟩:=h;exact mp_row.fit _ _ _ _ _ _ _ _ _ hp
   ·exact h.elim)
theorem mp_row.okw:KO 94 (mp_row.cw) mp_row.sg:=spec_wk rfl (by decide) mp_row.ok
theorem mp_kids.fit (n:Nat) (r_b:List UInt8) (r_at:Int) (it9k:Int) (it9n:UInt64) (it9t:Str) (m:Int) (depth:Int) (hp:((Cur.good (Rdr.mk r_b r_at)&&decide (0≤m∧m≤4294967296∧1≤depth∧depth≤1000))&&decide ((2 * (depth).toNat)<n+1))=true):FT mp_kids.d (envL trydGl (mp_kids.env n)) [.ag [.sl .bs r_b,.i .i64 r_at],.ag [.i .i64 it9k,.u64 it9n,.c (.slice none 0 0),.s it9t,.c (.slice none 0 0)],.i .i64 m,.i .i64 depth] [(.ag (Itv.cells (Itm.val ((Mp.kids (Mp.read ((Rdr.mk r_b r_at)).b (depth - 1).toNat) (Itm.of (Itv.mk it9k it9n [] it9t [])) (Mp.many ((Itv.mk it9k it9n [] it9t [])).kind m) ((Rdr.mk r_b r_at)).at_).it)))),(.ag (Flt.cells ((Flt.mk (Mp.kids (Mp.read ((Rdr.mk r_b r_at)).b (depth - 1).toNat) (Itm.of (Itv.mk it9k it9n [] it9t [])) (Mp.many ((Itv.mk it9k it9n [] it9t [])).kind m) ((Rdr.mk r_b r_at)).at_).err (Mp.kids (Mp.read ((Rdr.mk r_b r_at)).b (depth - 1).toNat) (Itm.of (Itv.mk it9k it9n [] it9t [])) (Mp.many ((Itv.mk it9k it9n [] it9t [])).kind m) ((Rdr.mk r_b r_at)).at_).at_ [])))),(.ag (Rdr.cells ((Rdr.mk ((Rdr.mk r_b r_at)).b (Mp.kids (Mp.read ((Rdr.mk r_b r_at)).b (depth - 1).toNat) (Itm.of (Itv.mk it9k it9n [] it9t [])) (Mp.many ((Itv.mk it9k it9n [] it9t [])).kind m) ((Rdr.mk r_b r_at)).at_).pos))))] :=
 ⟨by kernel_rfl,Eq.trans (b:=mp_kids.F n (Rdr.mk r_b r_at) (Itv.mk it9k it9n [] it9t []) m depth) (by kernel_rfl) (Eq.trans (mp_kids.goal n (Rdr.mk r_b r_at) (Itv.mk it9k it9n [] it9t []) m depth hp) (by kernel_rfl))⟩
theorem mp_read.fit (n:Nat) (r_b:List UInt8) (r_at:Int) (depth:Int) (hp:((Cur.good (Rdr.mk r_b r_at)&&decide (0≤depth∧depth≤1000))&&decide ((2 * (depth).toNat+1)<n+1))=true):FT mp_read.d (envL trydGl (mp_read.env n)) [.ag [.sl .bs r_b,.i .i64 r_at],.i .i64 depth] [(.ag (Itv.cells (Itm.val ((Mp.read ((Rdr.mk r_b r_at)).b (depth).toNat ((Rdr.mk r_b r_at)).at_).it)))),(.ag (Flt.cells ((Flt.mk (Mp.read ((Rdr.mk r_b r_at)).b (depth).toNat ((Rdr.mk r_b r_at)).at_).err (Mp.read ((Rdr.mk r_b r_at)).b (depth).toNat ((Rdr.mk r_b r_at)).at_).at_ [])))),(.ag (Rdr.cells ((Rdr.mk ((Rdr.mk r_b r_at)).b (Mp.read ((Rdr.mk r_b r_at)).b (depth).toNat ((Rdr.mk r_b r_at)).at_).pos))))] :=
 ⟨by kernel_rfl,Eq.trans (b:=mp_read.F n (Rdr.mk r_b r_at) depth) (by kernel_rfl) (Eq.trans (mp_read.goal n (Rdr.mk r_b r_at) depth hp) (by kernel_rfl))⟩
theorem mread.oks:∀n:Nat,(KO 93 (mp_kids.cn n) mp_kids.sg)∧(KO 75 (mp_read.cn n) mp_read.sg):=by
 intro n
 induction n with
 | zero=>exact ⟨spec_zero (by
   intro ti to_ h
   unfold mp_kids.cn at h
   split at h
   ·obtain ⟨h,_⟩:=h;simp at h
   ·exact h.elim),spec_zero (by
   intro ti to_ h
   unfold mp_read.cn at h
   split at h
   ·obtain ⟨h,_⟩:=h;simp at h
   ·exact h.elim)⟩
 | succ n ih =>
  obtain ⟨ih0,ih1⟩:=ih
  exact ⟨meets (l:=mp_kids.env n) (all_cons ih1 all_nil) (mp_kids.chk n) (by
   intro ins outs h
   unfold mp_kids.cn at h
   split at h
   ·obtain ⟨hp,rfl⟩:=h;exact mp_kids.fit n _ _ _ _ _ _ _ hp
   ·exact h.elim),meets (l:=mp_read.env n) (all_cons mp_wrong.ok (all_cons rd_At.ok (all_cons mp_unsigned.ok (all_cons mp_signed.ok (all_cons mp_sized.ok (all_cons rd_Byte.ok (all_cons mp_first.ok (all_cons rd_High.ok (all_cons mp_number.okw (all_cons ih0 (all_cons mp_row.okw all_nil))))))))))) (mp_read.chk n) (by
   intro ins outs h
   unfold mp_read.cn at h
   split at h
   ·obtain ⟨hp,rfl⟩:=h;exact mp_read.fit n _ _ _ hp
   ·exact h.elim)⟩
theorem mp_read.ok:KO 75 (mp_read.c) mp_read.sg:=spec_sub fun ti to_ h=>by
 unfold mp_read.c at h
 split at h
 ·obtain ⟨hp,rfl⟩:=h;exact ⟨mp_read.cn (_+1),(mread.oks _).2,Bool.and_eq_true_iff.2 ⟨hp,decide_eq_true (Nat.lt_succ_self _)⟩,rfl⟩
 ·exact h.elim
theorem mp_Decode.fit (b:List UInt8) (depth:Int) (hp:(decide ((b).length≤1099511627776))=true):FT mp_Decode.d (envL trydGl mp_Decode.env) [.sl .bs b,.i .i64 depth] [(.ag (Itv.cells (Itm.val ((Mp.dec b depth).1)))),(.ag (Flt.cells ((Mp.dec b depth).2)))] :=
 ⟨by kernel_rfl,Eq.trans (b:=mp_Decode.F b depth) (by kernel_rfl) (Eq.trans (mp_Decode.goal b depth hp) (by kernel_rfl))⟩
theorem mp_Decode.ok:KO 62 (mp_Decode.c) mp_Decode.sg :=
 meets (l:=mp_Decode.env) (all_cons mp_wrong.ok (all_cons cur_New.ok (all_cons mp_read.ok (all_cons rd_Left.ok (all_cons rd_At.ok all_nil))))) mp_Decode.chk (by
   intro ins outs h
   unfold mp_Decode.c at h
   split at h
   ·obtain ⟨hp,rfl⟩:=h;exact mp_Decode.fit _ _ hp
   ·exact h.elim)
theorem ref29_own.fit (it9k:Int) (it9n:UInt64) (it9y:List UInt8) (it9t:Str) (it9d:List Itm) (hp:(decide (Itm.bulk (Itm.of (Itv.mk it9k it9n it9y it9t it9d))≤1099511627776))=true):FT ref29_own.d (envL trydGl ref29_own.env) [.ag [.i .i64 it9k,.u64 it9n,.sl .bs it9y,.s it9t,.sl .il it9d]] [(.i .i64 (Mp.own (Itm.of (Itv.mk it9k it9n it9y it9t it9d))))] :=
 ⟨by kernel_rfl,Eq.trans (b:=ref29_own.F (Itv.mk it9k it9n it9y it9t it9d)) (by kernel_rfl) (Eq.trans (ref29_own.goal (Itv.mk it9k it9n it9y it9t it9d) hp) (by kernel_rfl))⟩
theorem ref29_own.ok:KO 19 (ref29_own.c) ref29_own.sg :=
 meets (l:=ref29_own.env) (all_cons ref2_Whole.ok all_nil) ref29_own.chk (by
   intro ins outs h
   unfold ref29_own.c at h
   split at h
   ·obtain ⟨hp,rfl⟩:=h;exact ref29_own.fit _ _ _ _ _ hp
   ·exact h.elim)
theorem ref29_Check.fit (n:Nat) (it9k:Int) (it9n:UInt64) (it9y:List UInt8) (it9t:Str) (it9d:List Itm) (hp:((decide (Itm.bulk (Itm.of (Itv.mk it9k it9n it9y it9t it9d))≤1099511627776))&&decide ((Itm.bulk (Itm.of (Itv.mk it9k it9n it9y it9t it9d)))<n+1))=true):FT ref29_Check.d (envL trydGl (ref29_Check.env n)) [.ag [.i .i64 it9k,.u64 it9n,.sl .bs it9y,.s it9t,.sl .il it9d]] [(.i .i64 (Mp.chk (Itm.of (Itv.mk it9k it9n it9y it9t it9d))))] :=
 ⟨by kernel_rfl,Eq.trans (b:=ref29_Check.F n (Itv.mk it9k it9n it9y it9t it9d)) (by kernel_rfl) (Eq.trans (ref29_Check.goal n (Itv.mk it9k it9n it9y it9t it9d) hp) (by kernel_rfl))⟩
theorem rcheck29.oks:∀n:Nat,(KO 10 (ref29_Check.cn n) ref29_Check.sg):=by
 intro n
 induction n with
 | zero=>exact spec_zero (by
   intro ti to_ h
   unfold ref29_Check.cn at h
   split at h
   ·obtain ⟨h,_⟩:=h;simp at h
   ·exact h.elim)
 | succ n ih =>
  have ih0:=ih
  exact meets (l:=ref29_Check.env n) (all_cons ih0 (all_cons ref29_own.ok all_nil)) (ref29_Check.chk n) (by
   intro ins outs h
   unfold ref29_Check.cn at h
   split at h
   ·obtain ⟨hp,rfl⟩:=h;exact ref29_Check.fit n _ _ _ _ _ hp
   ·exact h.elim)
theorem ref29_Check.ok:KO 10 (ref29_Check.c) ref29_Check.sg:=spec_sub fun ti to_ h=>by
 unfold ref29_Check.c at h
 split at h
 ·obtain ⟨hp,rfl⟩:=h;exact ⟨ref29_Check.cn (_+1),(rcheck29.oks _),Bool.and_eq_true_iff.2 ⟨hp,decide_eq_true (Nat.lt_succ_self _)⟩,rfl⟩
 ·exact h.elim
theorem ref28_Same.fit (n:Nat) (a9k:Int) (a9n:UInt64) (a9y:List UInt8) (a9t:Str) (a9d:List Itm) (b9k:Int) (b9n:UInt64) (b9y:List UInt8) (b9t:Str) (b9d:List Itm) (hp:((decide (Itm.bulk (Itm.of (Itv.mk a9k a9n a9y a9t a9d))≤1099511627776))&&decide ((Itm.bulk (Itm.of (Itv.mk a9k a9n a9y a9t a9d)))<n+1))=true):FT ref28_Same.d (envL trydGl (ref28_Same.env n)) [.ag [.i .i64 a9k,.u64 a9n,.sl .bs a9y,.s a9t,.sl .il a9d],.ag [.i .i64 b9k,.u64 b9n,.sl .bs b9y,.s b9t,.sl .il b9d]] [(.b (Itm.same (Itm.of (Itv.mk a9k a9n a9y a9t a9d)) (Itm.of (Itv.mk b9k b9n b9y b9t b9d))))] :=
 ⟨by kernel_rfl,Eq.trans (b:=ref28_Same.F n (Itv.mk a9k a9n a9y a9t a9d) (Itv.mk b9k b9n b9y b9t b9d)) (by kernel_rfl) (Eq.trans (ref28_Same.goal n (Itv.mk a9k a9n a9y a9t a9d) (Itv.mk b9k b9n b9y b9t b9d) hp) (by kernel_rfl))⟩
theorem rsame28.oks:∀n:Nat,(KO 7 (ref28_Same.cn n) ref28_Same.sg):=by
 intro n
 induction n with
 | zero=>exact spec_zero (by
   intro ti to_ h
   unfold ref28_Same.cn at h
   split at h
   ·obtain ⟨h,_⟩:=h;simp at h
   ·exact h.elim)
 | succ n ih =>
  have ih0:=ih
  exact meets (l:=ref28_Same.env n) (all_cons ih0 all_nil) (ref28_Same.chk n) (by
   intro ins outs h
   unfold ref28_Same.cn at h
   split at h
   ·obtain ⟨hp,rfl⟩:=h;exact ref28_Same.fit n _ _ _ _ _ _ _ _ _ _ hp
   ·exact h.elim)
theorem ref28_Same.ok:KO 7 (ref28_Same.c) ref28_Same.sg:=spec_sub fun ti to_ h=>by
 unfold ref28_Same.c at h
 split at h
 ·obtain ⟨hp,rfl⟩:=h;exact ⟨ref28_Same.cn (_+1),(rsame28.oks _),Bool.and_eq_true_iff.2 ⟨hp,decide_eq_true (Nat.lt_succ_self _)⟩,rfl⟩
 ·exact h.elim
theorem book_Room.fit (left:Int) (sizes:List Int) (hp:(decide (left≤10000∧sizes.length≤10)&&sizes.all (fun s=>decide (0≤s)))=true):FT book_Room.d (envL trydGl book_Room.env) [.i .i64 left,.sl .is sizes] [(.i .i64 (Book.room left sizes))] :=
 ⟨by kernel_rfl,Eq.trans (b:=book_Room.F left sizes) (by kernel_rfl) (Eq.trans (book_Room.goal left sizes hp) (by kernel_rfl))⟩
theorem book_Room.ok:KO 20 (book_Room.c) book_Room.sg :=
 meets (l:=book_Room.env) all_nil book_Room.chk (by
   intro ins outs h
   unfold book_Room.c at h
   split at h
   ·obtain ⟨hp,rfl⟩:=h;exact book_Room.fit _ _ hp
   ·exact h.elim)
theorem sl_IndexByte.fit (s:Str) (c:UInt8):FT sl_IndexByte.d (envL trydGl sl_IndexByte.env) [.s s,.u8 c] [(.i .i64 (Lib.indexByte s c))] :=
 ⟨by kernel_rfl,Eq.trans (b:=sl_IndexByte.F s c) (by kernel_rfl) (Eq.trans (sl_IndexByte.goal s c) (by kernel_rfl))⟩
theorem sl_IndexByte.ok:KO 57 (sl_IndexByte.c) sl_IndexByte.sg :=
 meets (l:=sl_IndexByte.env) all_nil sl_IndexByte.chk (by
   intro ins outs h
   unfold sl_IndexByte.c at h
   split at h
   ·cases h;exact sl_IndexByte.fit _ _
   ·exact h.elim)
theorem sl_Index.fit (s:Str) (t:Str) (hp:(decide (t.length=1))=true):FT sl_Index.d (envL trydGl sl_Index.env) [.s s,.s t] [(.i .i64 (Lib.indexByte s (t.getD 0 0)))] :=
 ⟨by kernel_rfl,Eq.trans (b:=sl_Index.F s t) (by kernel_rfl) (Eq.trans (sl_Index.goal s t hp) (by kernel_rfl))⟩
theorem sl_Index.ok:KO 48 (sl_Index.c) sl_Index.sg :=
 meets (l:=sl_Index.env) (all_cons sl_IndexByte.ok all_nil) sl_Index.chk (by
   intro ins outs h
   unfold sl_Index.c at h
   split at h
   ·obtain ⟨hp,rfl⟩:=h;exact sl_Index.fit _ _ hp
   ·exact h.elim)
theorem st_Index.fit (s:Str) (t:Str) (hp:(decide (t.length=1))=true):FT st_Index.d (envL trydGl st_Index.env) [.s s,.s t] [(.i .i64 (Lib.indexByte s (t.getD 0 0)))] :=
 ⟨by kernel_rfl,Eq.trans (b:=st_Index.F s t) (by kernel_rfl) (Eq.trans (st_Index.goal s t hp) (by kernel_rfl))⟩
theorem st_Index.ok:KO 41 (st_Index.c) st_Index.sg :=
 meets (l:=st_Index.env) (all_cons sl_Index.ok all_nil) st_Index.chk (by
   intro ins outs h
   unfold st_Index.c at h
   split at h
   ·obtain ⟨hp,rfl⟩:=h;exact st_Index.fit _ _ hp
   ·exact h.elim)
theorem st_Contains.fit (s:Str) (t:Str) (hp:(decide (t.length=1))=true):FT st_Contains.d (envL trydGl st_Contains.env) [.s s,.s t] [(.b (decide (0≤Lib.indexByte s (t.getD 0 0))))] :=
 ⟨by kernel_rfl,Eq.trans (b:=st_Contains.F s t) (by kernel_rfl) (Eq.trans (st_Contains.goal s t hp) (by kernel_rfl))⟩
theorem st_Contains.ok:KO 27 (st_Contains.c) st_Contains.sg :=
 meets (l:=st_Contains.env) (all_cons st_Index.ok all_nil) st_Contains.chk (by
   intro ins outs h
   unfold st_Contains.c at h
   split at h
   ·obtain ⟨hp,rfl⟩:=h;exact st_Contains.fit _ _ hp
   ·exact h.elim)
theorem tree_Name.fit (k:Int):FT tree_Name.d (envL trydGl tree_Name.env) [.i .i64 k] [(.s (Tree.name k))] :=
 ⟨by kernel_rfl,Eq.trans (b:=tree_Name.F k) (by kernel_rfl) (Eq.trans (tree_Name.goal k) (by kernel_rfl))⟩
theorem tree_Name.ok:KO 30 (tree_Name.c) tree_Name.sg :=
 meets (l:=tree_Name.env) all_nil tree_Name.chk (by
   intro ins outs h
   unfold tree_Name.c at h
   split at h
   ·cases h;exact tree_Name.fit _
   ·exact h.elim)
theorem tree_fields.fit (v9k:Int) (v9b:UInt64) (v9h:UInt64) (v9l:UInt64) (v9t:Str) (v9m:Str) (v9s:Int) (v9y:List UInt8) (v9d:List Fld):FT tree_fields.d (envL trydGl tree_fields.env) [.ag [.i .i64 v9k,.u64 v9b,.u64 v9h,.u64 v9l,.s v9t,.s v9m,.i .i64 v9s,.sl .bs v9y,.sl .fl v9d]] [(.b (Tree.fieldsOK (Val.mk v9k v9b v9h v9l v9t v9m v9s v9y v9d)))] :=
 ⟨by kernel_rfl,Eq.trans (b:=tree_fields.F (Val.mk v9k v9b v9h v9l v9t v9m v9s v9y v9d)) (by kernel_rfl) (Eq.trans (tree_fields.goal (Val.mk v9k v9b v9h v9l v9t v9m v9s v9y v9d)) (by kernel_rfl))⟩
theorem tree_fields.ok:KO 31 (tree_fields.c) tree_fields.sg :=
 meets (l:=tree_fields.env) all_nil tree_fields.chk (by
   intro ins outs h
   unfold tree_fields.c at h
   split at h
   ·cases h;exact tree_fields.fit _ _ _ _ _ _ _ _ _
   ·exact h.elim)
theorem tree_whole.fit (s:Str) (plain:Bool) (hp:(decide (s.length≤1099511627776))=true):FT tree_whole.d (envL trydGl tree_whole.env) [.s s,.b plain] [(.b (Tree.wholeT s plain))] :=
 ⟨by kernel_rfl,Eq.trans (b:=tree_whole.F s plain) (by kernel_rfl) (Eq.trans (tree_whole.goal s plain hp) (by kernel_rfl))⟩
theorem tree_whole.ok:KO 32 (tree_whole.c) tree_whole.sg :=
 meets (l:=tree_whole.env) (all_cons utf_Check.ok (all_cons st_Contains.ok all_nil)) tree_whole.chk (by
   intro ins outs h
   unfold tree_whole.c at h
   split at h
   ·obtain ⟨hp,rfl⟩:=h;exact tree_whole.fit _ _ hp
   ·exact h.elim)
theorem tree_check.fit (n:Nat) (v9k:Int) (v9b:UInt64) (v9h:UInt64) (v9l:UInt64) (v9t:Str) (v9m:Str) (v9s:Int) (v9y:List UInt8) (v9d:List Fld) (name:Str) (path:List Int) (hp:((decide (Fld.bulk (Fld.of name (Val.mk v9k v9b v9h v9l v9t v9m v9s v9y v9d))+path.length≤1099511627776))&&decide ((Fld.bulk (Fld.of name (Val.mk v9k v9b v9h v9l v9t v9m v9s v9y v9d)))<n+1))=true):FT tree_check.d (envL trydGl (tree_check.env n)) [.ag [.i .i64 v9k,.u64 v9b,.u64 v9h,.u64 v9l,.s v9t,.s v9m,.i .i64 v9s,.sl .bs v9y,.sl .fl v9d],.s name,.sl .is path] [(.sl .is ((Tree.chkF (Fld.of name (Val.mk v9k v9b v9h v9l v9t v9m v9s v9y v9d)) path).1)),(.i .i64 ((Tree.chkF (Fld.of name (Val.mk v9k v9b v9h v9l v9t v9m v9s v9y v9d)) path).2))] :=
 ⟨by kernel_rfl,Eq.trans (b:=tree_check.F n (Val.mk v9k v9b v9h v9l v9t v9m v9s v9y v9d) name path) (by kernel_rfl) (Eq.trans (tree_check.goal n (Val.mk v9k v9b v9h v9l v9t v9m v9s v9y v9d) name path hp) (by kernel_rfl))⟩
theorem tcheck.oks:∀n:Nat,(KO 21 (tree_check.cn n) tree_check.sg):=by
 intro n
 induction n with
 | zero=>exact spec_zero (by
   intro ti to_ h
   unfold tree_check.cn at h
   split at h
   ·obtain ⟨h,_⟩:=h;simp at h
   ·exact h.elim)
 | succ n ih =>
  have ih0:=ih
  exact meets (l:=tree_check.env n) (all_cons ih0 (all_cons clone_is.ok (all_cons tree_Name.ok (all_cons tree_fields.ok (all_cons tree_whole.ok all_nil))))) (tree_check.chk n) (by
   intro ins outs h
   unfold tree_check.cn at h
   split at h
   ·obtain ⟨hp,rfl⟩:=h;exact tree_check.fit n _ _ _ _ _ _ _ _ _ _ _ hp
   ·exact h.elim)
theorem tree_check.ok:KO 21 (tree_check.c) tree_check.sg:=spec_sub fun ti to_ h=>by
 unfold tree_check.c at h
 split at h
 ·obtain ⟨hp,rfl⟩:=h;exact ⟨tree_check.cn (_+1),(tcheck.oks _),Bool.and_eq_true_iff.2 ⟨hp,decide_eq_true (Nat.lt_succ_self _)⟩,rfl⟩
 ·exact h.elim
theorem tree_Check.fit (v9k:Int) (v9b:UInt64) (v9h:UInt64) (v9l:UInt64) (v9t:Str) (v9m:Str) (v9s:Int) (v9y:List UInt8) (v9d:List Fld) (hp:(decide (Fld.bulk (Fld.of [] (Val.mk v9k v9b v9h v9l v9t v9m v9s v9y v9d))≤1099511627776))=true):FT tree_Check.d (envL trydGl tree_Check.env) [.ag [.i .i64 v9k,.u64 v9b,.u64 v9h,.u64 v9l,.s v9t,.s v9m,.i .i64 v9s,.sl .bs v9y,.sl .fl v9d]] [(.sl .is ((Tree.chkF (Fld.of [] (Val.mk v9k v9b v9h v9l v9t v9m v9s v9y v9d)) []).1)),(.i .i64 ((Tree.chkF (Fld.of [] (Val.mk v9k v9b v9h v9l v9t v9m v9s v9y v9d)) []).2))] :=
 ⟨by kernel_rfl,Eq.trans (b:=tree_Check.F (Val.mk v9k v9b v9h v9l v9t v9m v9s v9y v9d)) (by kernel_rfl) (Eq.trans (tree_Check.goal (Val.mk v9k v9b v9h v9l v9t v9m v9s v9y v9d) hp) (by kernel_rfl))⟩
theorem tree_Check.ok:KO 12 (tree_Check.c) tree_Check.sg :=
 meets (l:=tree_Check.env) (all_cons tree_check.ok all_nil) tree_Check.chk (by
   intro ins outs h
   unfold tree_Check.c at h
   split at h
   ·obtain ⟨hp,rfl⟩:=h;exact tree_Check.fit _ _ _ _ _ _ _ _ _ hp
   ·exact h.elim)
theorem tree_Depth.fit (n:Nat) (v9k:Int) (v9b:UInt64) (v9h:UInt64) (v9l:UInt64) (v9t:Str) (v9m:Str) (v9s:Int) (v9y:List UInt8) (v9d:List Fld) (hp:((decide (Fld.bulk (Fld.of [] (Val.mk v9k v9b v9h v9l v9t v9m v9s v9y v9d))≤1099511627776))&&decide ((Fld.bulk (Fld.of [] (Val.mk v9k v9b v9h v9l v9t v9m v9s v9y v9d)))<n+1))=true):FT tree_Depth.d (envL trydGl (tree_Depth.env n)) [.ag [.i .i64 v9k,.u64 v9b,.u64 v9h,.u64 v9l,.s v9t,.s v9m,.i .i64 v9s,.sl .bs v9y,.sl .fl v9d]] [(.i .i64 ((Tree.depth (Fld.of [] (Val.mk v9k v9b v9h v9l v9t v9m v9s v9y v9d)):Int)))] :=
 ⟨by kernel_rfl,Eq.trans (b:=tree_Depth.F n (Val.mk v9k v9b v9h v9l v9t v9m v9s v9y v9d)) (by kernel_rfl) (Eq.trans (tree_Depth.goal n (Val.mk v9k v9b v9h v9l v9t v9m v9s v9y v9d) hp) (by kernel_rfl))⟩
theorem tdepth.oks:∀n:Nat,(KO 13 (tree_Depth.cn n) tree_Depth.sg):=by
 intro n
 induction n with
 | zero=>exact spec_zero (by
   intro ti to_ h
   unfold tree_Depth.cn at h
   split at h
   ·obtain ⟨h,_⟩:=h;simp at h
   ·exact h.elim)
 | succ n ih =>
  have ih0:=ih
  exact meets (l:=tree_Depth.env n) (all_cons ih0 all_nil) (tree_Depth.chk n) (by
   intro ins outs h
   unfold tree_Depth.cn at h
   split at h
   ·obtain ⟨hp,rfl⟩:=h;exact tree_Depth.fit n _ _ _ _ _ _ _ _ _ hp
   ·exact h.elim)
theorem tree_Depth.ok:KO 13 (tree_Depth.c) tree_Depth.sg:=spec_sub fun ti to_ h=>by
 unfold tree_Depth.c at h
 split at h
 ·obtain ⟨hp,rfl⟩:=h;exact ⟨tree_Depth.cn (_+1),(tdepth.oks _),Bool.and_eq_true_iff.2 ⟨hp,decide_eq_true (Nat.lt_succ_self _)⟩,rfl⟩
 ·exact h.elim
theorem ref17_Own.fit (a9k:Int) (a9b:UInt64) (a9h:UInt64) (a9l:UInt64) (a9t:Str) (a9m:Str) (a9s:Int) (a9y:List UInt8) (a9d:List Fld) (b9k:Int) (b9b:UInt64) (b9h:UInt64) (b9l:UInt64) (b9t:Str) (b9m:Str) (b9s:Int) (b9y:List UInt8) (b9d:List Fld):FT ref17_Own.d (envL trydGl ref17_Own.env) [.ag [.i .i64 a9k,.u64 a9b,.u64 a9h,.u64 a9l,.s a9t,.s a9m,.i .i64 a9s,.sl .bs a9y,.sl .fl a9d],.ag [.i .i64 b9k,.u64 b9b,.u64 b9h,.u64 b9l,.s b9t,.s b9m,.i .i64 b9s,.sl .bs b9y,.sl .fl b9d]] [(.b (Tree.ownSame (Val.mk a9k a9b a9h a9l a9t a9m a9s a9y a9d) (Val.mk b9k b9b b9h b9l b9t b9m b9s b9y b9d)))] :=
 ⟨by kernel_rfl,Eq.trans (b:=ref17_Own.F (Val.mk a9k a9b a9h a9l a9t a9m a9s a9y a9d) (Val.mk b9k b9b b9h b9l b9t b9m b9s b9y b9d)) (by kernel_rfl) (Eq.trans (ref17_Own.goal (Val.mk a9k a9b a9h a9l a9t a9m a9s a9y a9d) (Val.mk b9k b9b b9h b9l b9t b9m b9s b9y b9d)) (by kernel_rfl))⟩
theorem ref17_Own.ok:KO 18 (ref17_Own.c) ref17_Own.sg :=
 meets (l:=ref17_Own.env) all_nil ref17_Own.chk (by
   intro ins outs h
   unfold ref17_Own.c at h
   split at h
   ·cases h;exact ref17_Own.fit _ _ _ _ _ _ _ _ _ _ _ _ _ _ _ _ _ _
   ·exact h.elim)
theorem ref17_Same.fit (n:Nat) (a9k:Int) (a9b:UInt64) (a9h:UInt64) (a9l:UInt64) (a9t:Str) (a9m:Str) (a9s:Int) (a9y:List UInt8) (a9d:List Fld) (b9k:Int) (b9b:UInt64) (b9h:UInt64) (b9l:UInt64) (b9t:Str) (b9m:Str) (b9s:Int) (b9y:List UInt8) (b9d:List Fld) (hp:((decide (Fld.bulk (Fld.of [] (Val.mk a9k a9b a9h a9l a9t a9m a9s a9y a9d))≤1099511627776))&&decide ((Fld.bulk (Fld.of [] (Val.mk a9k a9b a9h a9l a9t a9m a9s a9y a9d)))<n+1))=true):FT ref17_Same.d (envL trydGl (ref17_Same.env n)) [.ag [.i .i64 a9k,.u64 a9b,.u64 a9h,.u64 a9l,.s a9t,.s a9m,.i .i64 a9s,.sl .bs a9y,.sl .fl a9d],.ag [.i .i64 b9k,.u64 b9b,.u64 b9h,.u64 b9l,.s b9t,.s b9m,.i .i64 b9s,.sl .bs b9y,.sl .fl b9d]] [(.b (Tree.same (Val.mk a9k a9b a9h a9l a9t a9m a9s a9y a9d) (Val.mk b9k b9b b9h b9l b9t b9m b9s b9y b9d)))] :=
 ⟨by kernel_rfl,Eq.trans (b:=ref17_Same.F n (Val.mk a9k a9b a9h a9l a9t a9m a9s a9y a9d) (Val.mk b9k b9b b9h b9l b9t b9m b9s b9y b9d)) (by kernel_rfl) (Eq.trans (ref17_Same.goal n (Val.mk a9k a9b a9h a9l a9t a9m a9s a9y a9d) (Val.mk b9k b9b b9h b9l b9t b9m b9s b9y b9d) hp) (by kernel_rfl))⟩
theorem rsame.oks:∀n:Nat,(KO 9 (ref17_Same.cn n) ref17_Same.sg):=by
 intro n
 induction n with
 | zero=>exact spec_zero (by
   intro ti to_ h
   unfold ref17_Same.cn at h
   split at h
   ·obtain ⟨h,_⟩:=h;simp at h
   ·exact h.elim)
 | succ n ih =>
  have ih0:=ih
  exact meets (l:=ref17_Same.env n) (all_cons ih0 (all_cons ref17_Own.ok all_nil)) (ref17_Same.chk n) (by
   intro ins outs h
   unfold ref17_Same.cn at h
   split at h
   ·obtain ⟨hp,rfl⟩:=h;exact ref17_Same.fit n _ _ _ _ _ _ _ _ _ _ _ _ _ _ _ _ _ _ hp
   ·exact h.elim)
theorem ref17_Same.ok:KO 9 (ref17_Same.c) ref17_Same.sg:=spec_sub fun ti to_ h=>by
 unfold ref17_Same.c at h
 split at h
 ·obtain ⟨hp,rfl⟩:=h;exact ⟨ref17_Same.cn (_+1),(rsame.oks _),Bool.and_eq_true_iff.2 ⟨hp,decide_eq_true (Nat.lt_succ_self _)⟩,rfl⟩
 ·exact h.elim
theorem book_Value.fit (n:Nat) (left:Int) (v9k:Int) (v9b:UInt64) (v9h:UInt64) (v9l:UInt64) (v9t:Str) (v9m:Str) (v9s:Int) (v9y:List UInt8) (v9d:List Fld) (hp:((decide (left≤10000))&&decide ((Fld.bulk (Fld.of [] (Val.mk v9k v9b v9h v9l v9t v9m v9s v9y v9d)))<n+1))=true):FT book_Value.d (envL trydGl (book_Value.env n)) [.i .i64 left,.ag [.i .i64 v9k,.u64 v9b,.u64 v9h,.u64 v9l,.s v9t,.s v9m,.i .i64 v9s,.sl .bs v9y,.sl .fl v9d]] [(.i .i64 (Book.value left (Fld.of [] (Val.mk v9k v9b v9h v9l v9t v9m v9s v9y v9d))))] :=
 ⟨by kernel_rfl,Eq.trans (b:=book_Value.F n left (Val.mk v9k v9b v9h v9l v9t v9m v9s v9y v9d)) (by kernel_rfl) (Eq.trans (book_Value.goal n left (Val.mk v9k v9b v9h v9l v9t v9m v9s v9y v9d) hp) (by kernel_rfl))⟩
theorem bvalue.oks:∀n:Nat,(KO 11 (book_Value.cn n) book_Value.sg):=by
 intro n
 induction n with
 | zero=>exact spec_zero (by
   intro ti to_ h
   unfold book_Value.cn at h
   split at h
   ·obtain ⟨h,_⟩:=h;simp at h
   ·exact h.elim)
 | succ n ih =>
  have ih0:=ih
  exact meets (l:=book_Value.env n) (all_cons ih0 (all_cons book_Room.ok all_nil)) (book_Value.chk n) (by
   intro ins outs h
   unfold book_Value.cn at h
   split at h
   ·obtain ⟨hp,rfl⟩:=h;exact book_Value.fit n _ _ _ _ _ _ _ _ _ _ hp
   ·exact h.elim)
theorem book_Value.ok:KO 11 (book_Value.c) book_Value.sg:=spec_sub fun ti to_ h=>by
 unfold book_Value.c at h
 split at h
 ·obtain ⟨hp,rfl⟩:=h;exact ⟨book_Value.cn (_+1),(bvalue.oks _),Bool.and_eq_true_iff.2 ⟨hp,decide_eq_true (Nat.lt_succ_self _)⟩,rfl⟩
 ·exact h.elim
theorem book_Small.fit (v9k:Int) (v9b:UInt64) (v9h:UInt64) (v9l:UInt64) (v9t:Str) (v9m:Str) (v9s:Int) (v9y:List UInt8) (v9d:List Fld):FT book_Small.d (envL trydGl book_Small.env) [.ag [.i .i64 v9k,.u64 v9b,.u64 v9h,.u64 v9l,.s v9t,.s v9m,.i .i64 v9s,.sl .bs v9y,.sl .fl v9d]] [(.b (decide (0≤Book.value 1200 (Fld.of [] (Val.mk v9k v9b v9h v9l v9t v9m v9s v9y v9d)))))] :=
 ⟨by kernel_rfl,Eq.trans (b:=book_Small.F (Val.mk v9k v9b v9h v9l v9t v9m v9s v9y v9d)) (by kernel_rfl) (Eq.trans (book_Small.goal (Val.mk v9k v9b v9h v9l v9t v9m v9s v9y v9d)) (by kernel_rfl))⟩
theorem book_Small.ok:KO 5 (book_Small.c) book_Small.sg :=
 meets (l:=book_Small.env) (all_cons book_Value.ok all_nil) book_Small.chk (by
   intro ins outs h
   unfold book_Small.c at h
   split at h
   ·cases h;exact book_Small.fit _ _ _ _ _ _ _ _ _
   ·exact h.elim)
theorem tree_Regular.fit (l:List Fld) (hp:(decide (l.length≤1099511627776))=true):FT tree_Regular.d (envL trydGl tree_Regular.env) [.sl .fl l] [(.b (Tree.regular l))] :=
 ⟨by kernel_rfl,Eq.trans (b:=tree_Regular.F l) (by kernel_rfl) (Eq.trans (tree_Regular.goal l hp) (by kernel_rfl))⟩
theorem tree_Regular.ok:KO 33 (tree_Regular.c) tree_Regular.sg :=
 meets (l:=tree_Regular.env) (all_cons sc_Itoa.ok all_nil) tree_Regular.chk (by
   intro ins outs h
   unfold tree_Regular.c at h
   split at h
   ·obtain ⟨hp,rfl⟩:=h;exact tree_Regular.fit _ hp
   ·exact h.elim)
theorem sl_Cut.fit (s:Str) (t:Str) (hp:(decide (t.length=1∧s.length≤1099511627776))=true):FT sl_Cut.d (envL trydGl sl_Cut.env) [.s s,.s t] [(.s ((Dk.cut s (t.getD 0 0)).1)),(.s ((Dk.cut s (t.getD 0 0)).2.1)),(.b ((Dk.cut s (t.getD 0 0)).2.2))] :=
 ⟨by kernel_rfl,Eq.trans (b:=sl_Cut.F s t) (by kernel_rfl) (Eq.trans (sl_Cut.goal s t hp) (by kernel_rfl))⟩
theorem sl_Cut.ok:KO 63 (sl_Cut.c) sl_Cut.sg :=
 meets (l:=sl_Cut.env) (all_cons sl_Index.ok all_nil) sl_Cut.chk (by
   intro ins outs h
   unfold sl_Cut.c at h
   split at h
   ·obtain ⟨hp,rfl⟩:=h;exact sl_Cut.fit _ _ hp
   ·exact h.elim)
theorem st_Cut.fit (s:Str) (t:Str) (hp:(decide (t.length=1∧s.length≤1099511627776))=true):FT st_Cut.d (envL trydGl st_Cut.env) [.s s,.s t] [(.s ((Dk.cut s (t.getD 0 0)).1)),(.s ((Dk.cut s (t.getD 0 0)).2.1)),(.b ((Dk.cut s (t.getD 0 0)).2.2))] :=
 ⟨by kernel_rfl,Eq.trans (b:=st_Cut.F s t) (by kernel_rfl) (Eq.trans (st_Cut.goal s t hp) (by kernel_rfl))⟩
theorem st_Cut.ok:KO 53 (st_Cut.c) st_Cut.sg :=
 meets (l:=st_Cut.env) (all_cons sl_Cut.ok all_nil) st_Cut.chk (by
   intro ins outs h
   unfold st_Cut.c at h
   split at h
   ·obtain ⟨hp,rfl⟩:=h;exact st_Cut.fit _ _ hp
   ·exact h.elim)
theorem dk_text.fit (s:Str):FT dk_text.d (envL trydGl dk_text.env) [.s s] [(.ag (Itv.cells (Itm.val (Db.text s))))] :=
 ⟨by kernel_rfl,Eq.trans (b:=dk_text.F s) (by kernel_rfl) (Eq.trans (dk_text.goal s) (by kernel_rfl))⟩
theorem dk_text.ok:KO 22 (dk_text.c) dk_text.sg :=
 meets (l:=dk_text.env) all_nil dk_text.chk (by
   intro ins outs h
   unfold dk_text.c at h
   split at h
   ·cases h;exact dk_text.fit _
   ·exact h.elim)
theorem dk_simple.fit (n:UInt64):FT dk_simple.d (envL trydGl dk_simple.env) [.u64 n] [(.ag (Itv.cells (Itm.val (Db.simple n))))] :=
 ⟨by kernel_rfl,Eq.trans (b:=dk_simple.F n) (by kernel_rfl) (Eq.trans (dk_simple.goal n) (by kernel_rfl))⟩
theorem dk_simple.ok:KO 35 (dk_simple.c) dk_simple.sg :=
 meets (l:=dk_simple.env) all_nil dk_simple.chk (by
   intro ins outs h
   unfold dk_simple.c at h
   split at h
   ·cases h;exact dk_simple.fit _
   ·exact h.elim)
theorem dk_high.fit (v:UInt64) (n:Int) (hp:(decide (0≤n∧n≤8))=true):FT dk_high.d (envL trydGl dk_high.env) [.u64 v,.i .i64 n] [(.sl .bs (Cur.putHigh v (n).toNat))] :=
 ⟨by kernel_rfl,Eq.trans (b:=dk_high.F v n) (by kernel_rfl) (Eq.trans (dk_high.goal v n hp) (by kernel_rfl))⟩
theorem dk_high.ok:KO 46 (dk_high.c) dk_high.sg :=
 meets (l:=dk_high.env) all_nil dk_high.chk (by
   intro ins outs h
   unfold dk_high.c at h
   split at h
   ·obtain ⟨hp,rfl⟩:=h;exact dk_high.fit _ _ hp
   ·exact h.elim)
theorem dk_integer.fit (v:Int) (hp:(decide (-9223372036854775808≤v∧v≤9223372036854775807))=true):FT dk_integer.d (envL trydGl dk_integer.env) [.i .i64 v] [(.ag (Itv.cells (Itm.val (Db.integer v))))] :=
 ⟨by kernel_rfl,Eq.trans (b:=dk_integer.F v) (by kernel_rfl) (Eq.trans (dk_integer.goal v hp) (by kernel_rfl))⟩
theorem dk_integer.ok:KO 36 (dk_integer.c) dk_integer.sg :=
 meets (l:=dk_integer.env) all_nil dk_integer.chk (by
   intro ins outs h
   unfold dk_integer.c at h
   split at h
   ·obtain ⟨hp,rfl⟩:=h;exact dk_integer.fit _ hp
   ·exact h.elim)
theorem dk_sort.fit (k:Int):FT dk_sort.d (envL trydGl dk_sort.env) [.i .i64 k] [(.u64 (Dk.sort k))] :=
 ⟨by kernel_rfl,Eq.trans (b:=dk_sort.F k) (by kernel_rfl) (Eq.trans (dk_sort.goal k) (by kernel_rfl))⟩
theorem dk_sort.ok:KO 37 (dk_sort.c) dk_sort.sg :=
 meets (l:=dk_sort.env) all_nil dk_sort.chk (by
   intro ins outs h
   unfold dk_sort.c at h
   split at h
   ·cases h;exact dk_sort.fit _
   ·exact h.elim)
theorem dk_mapped.fit (n:Nat) (l:List Fld) (hp:((decide (Fld.bulks l≤1048576)&&Tree.fines l)&&decide ((4 * Fld.bulks l+3)<n+1))=true):FT dk_mapped.d (envL trydGl (dk_mapped.env n)) [.sl .fl l] [(.ag (Itv.cells (Itm.val (Db.map (Dk.mapped l)))))] :=
 ⟨by kernel_rfl,Eq.trans (b:=dk_mapped.F n l) (by kernel_rfl) (Eq.trans (dk_mapped.goal n l hp) (by kernel_rfl))⟩
theorem dk_laid.fit (n:Nat) (l:List Fld) (hp:((decide (Fld.bulks l≤1048576)&&Tree.fines l)&&decide ((4 * Fld.bulks l+4)<n+1))=true):FT dk_laid.d (envL trydGl (dk_laid.env n)) [.sl .fl l] [(.sl .bs (Mp.lay (Db.map (Dk.mapped l))))] :=
 ⟨by kernel_rfl,Eq.trans (b:=dk_laid.F n l) (by kernel_rfl) (Eq.trans (dk_laid.goal n l hp) (by kernel_rfl))⟩
theorem dk_item.fit (n:Nat) (v9k:Int) (v9b:UInt64) (v9h:UInt64) (v9l:UInt64) (v9t:Str) (v9m:Str) (v9s:Int) (v9y:List UInt8) (v9d:List Fld) (hp:((decide (Fld.bulk (Fld.of [] (Val.mk v9k v9b v9h v9l v9t v9m v9s v9y v9d))≤1048576)&&Tree.fine (Fld.of [] (Val.mk v9k v9b v9h v9l v9t v9m v9s v9y v9d)))&&decide ((4 * Fld.bulk (Fld.of [] (Val.mk v9k v9b v9h v9l v9t v9m v9s v9y v9d))+2)<n+1))=true):FT dk_item.d (envL trydGl (dk_item.env n)) [.ag [.i .i64 v9k,.u64 v9b,.u64 v9h,.u64 v9l,.s v9t,.s v9m,.i .i64 v9s,.sl .bs v9y,.sl .fl v9d]] [(.ag (Itv.cells (Itm.val (Dk.item (Fld.of [] (Val.mk v9k v9b v9h v9l v9t v9m v9s v9y v9d))))))] :=
 ⟨by kernel_rfl,Eq.trans (b:=dk_item.F n (Val.mk v9k v9b v9h v9l v9t v9m v9s v9y v9d)) (by kernel_rfl) (Eq.trans (dk_item.goal n (Val.mk v9k v9b v9h v9l v9t v9m v9s v9y v9d) hp) (by kernel_rfl))⟩
theorem dk_inner.fit (n:Nat) (v9k:Int) (v9b:UInt64) (v9h:UInt64) (v9l:UInt64) (v9t:Str) (v9m:Str) (v9s:Int) (v9y:List UInt8) (v9d:List Fld) (hp:((decide (Fld.bulk (Fld.of [] (Val.mk v9k v9b v9h v9l v9t v9m v9s v9y v9d))≤1048576)&&Tree.fine (Fld.of [] (Val.mk v9k v9b v9h v9l v9t v9m v9s v9y v9d)))&&decide ((4 * Fld.bulk (Fld.of [] (Val.mk v9k v9b v9h v9l v9t v9m v9s v9y v9d))+1)<n+1))=true):FT dk_inner.d (envL trydGl (dk_inner.env n)) [.ag [.i .i64 v9k,.u64 v9b,.u64 v9h,.u64 v9l,.s v9t,.s v9m,.i .i64 v9s,.sl .bs v9y,.sl .fl v9d]] [(.sl .bs (Dk.inner (Val.mk v9k v9b v9h v9l v9t v9m v9s v9y v9d) (Mp.lay (Db.map (Dk.mapped ((Val.mk v9k v9b v9h v9l v9t v9m v9s v9y v9d)).kids)))))] :=
 ⟨by kernel_rfl,Eq.trans (b:=dk_inner.F n (Val.mk v9k v9b v9h v9l v9t v9m v9s v9y v9d)) (by kernel_rfl) (Eq.trans (dk_inner.goal n (Val.mk v9k v9b v9h v9l v9t v9m v9s v9y v9d) hp) (by kernel_rfl))⟩
theorem dkitem.oks:∀n:Nat,(KO 14 (dk_mapped.cn n) dk_mapped.sg)∧(KO 45 (dk_laid.cn n) dk_laid.sg)∧(KO 23 (dk_item.cn n) dk_item.sg)∧(KO 38 (dk_inner.cn n) dk_inner.sg):=by
 intro n
 induction n with
 | zero=>exact ⟨spec_zero (by
   intro ti to_ h
   unfold dk_mapped.cn at h
   split at h
   ·obtain ⟨h,_⟩:=h;simp at h
   ·exact h.elim),spec_zero (by
   intro ti to_ h
   unfold dk_laid.cn at h
   split at h
   ·obtain ⟨h,_⟩:=h;simp at h
   ·exact h.elim),spec_zero (by
   intro ti to_ h
   unfold dk_item.cn at h
   split at h
   ·obtain ⟨h,_⟩:=h;simp at h
   ·exact h.elim),spec_zero (by
   intro ti to_ h
   unfold dk_inner.cn at h
   split at h
   ·obtain ⟨h,_⟩:=h;simp at h
   ·exact h.elim)⟩
 | succ n ih =>
  obtain ⟨ih0,ih1,ih2,ih3⟩:=ih
  exact ⟨meets (l:=dk_mapped.env n) (all_cons dk_text.ok (all_cons ih2 all_nil)) (dk_mapped.chk n) (by
   intro ins outs h
   unfold dk_mapped.cn at h
   split at h
   ·obtain ⟨hp,rfl⟩:=h;exact dk_mapped.fit n _ hp
   ·exact h.elim),meets (l:=dk_laid.env n) (all_cons ih0 (all_cons mp_Encode.ok all_nil)) (dk_laid.chk n) (by
   intro ins outs h
   unfold dk_laid.cn at h
   split at h
   ·obtain ⟨hp,rfl⟩:=h;exact dk_laid.fit n _ hp
   ·exact h.elim),meets (l:=dk_item.env n) (all_cons ih0 (all_cons dk_text.ok (all_cons ih2 (all_cons tree_Regular.ok (all_cons clone_bs.ok (all_cons dk_simple.ok (all_cons dk_integer.ok (all_cons dk_sort.ok (all_cons ih3 all_nil))))))))) (dk_item.chk n) (by
   intro ins outs h
   unfold dk_item.cn at h
   split at h
   ·obtain ⟨hp,rfl⟩:=h;exact dk_item.fit n _ _ _ _ _ _ _ _ _ hp
   ·exact h.elim),meets (l:=dk_inner.env n) (all_cons clone_bs.ok (all_cons ih1 (all_cons dk_high.ok all_nil))) (dk_inner.chk n) (by
   intro ins outs h
   unfold dk_inner.cn at h
   split at h
   ·obtain ⟨hp,rfl⟩:=h;exact dk_inner.fit n _ _ _ _ _ _ _ _ _ hp
   ·exact h.elim)⟩
theorem dk_mapped.ok:KO 14 (dk_mapped.c) dk_mapped.sg:=spec_sub fun ti to_ h=>by
 unfold dk_mapped.c at h
 split at h
 ·obtain ⟨hp,rfl⟩:=h;exact ⟨dk_mapped.cn (_+1),(dkitem.oks _).1,Bool.and_eq_true_iff.2 ⟨hp,decide_eq_true (Nat.lt_succ_self _)⟩,rfl⟩
 ·exact h.elim
theorem dk_Item.fit (v9k:Int) (v9b:UInt64) (v9h:UInt64) (v9l:UInt64) (v9t:Str) (v9m:Str) (v9s:Int) (v9y:List UInt8) (v9d:List Fld) (hp:(decide (Fld.bulk (Fld.of [] (Val.mk v9k v9b v9h v9l v9t v9m v9s v9y v9d))≤1048576))=true):FT dk_Item.d (envL trydGl dk_Item.env) [.ag [.i .i64 v9k,.u64 v9b,.u64 v9h,.u64 v9l,.s v9t,.s v9m,.i .i64 v9s,.sl .bs v9y,.sl .fl v9d]] [(.ag (Itv.cells (Itm.val ((Dk.enc (Val.mk v9k v9b v9h v9l v9t v9m v9s v9y v9d)).1)))),(.ag (Flt.cells ((Dk.enc (Val.mk v9k v9b v9h v9l v9t v9m v9s v9y v9d)).2)))] :=
 ⟨by kernel_rfl,Eq.trans (b:=dk_Item.F (Val.mk v9k v9b v9h v9l v9t v9m v9s v9y v9d)) (by kernel_rfl) (Eq.trans (dk_Item.goal (Val.mk v9k v9b v9h v9l v9t v9m v9s v9y v9d) hp) (by kernel_rfl))⟩
theorem dk_Item.ok:KO 6 (dk_Item.c) dk_Item.sg :=
 meets (l:=dk_Item.env) (all_cons tree_Check.ok (all_cons tree_Depth.ok (all_cons dk_mapped.ok all_nil))) dk_Item.chk (by
   intro ins outs h
   unfold dk_Item.c at h
   split at h
   ·obtain ⟨hp,rfl⟩:=h;exact dk_Item.fit _ _ _ _ _ _ _ _ _ hp
   ·exact h.elim)
theorem dk_none.fit (path:List Int) (hp:(decide ((path).length≤1099511627776))=true):FT dk_none.d (envL trydGl dk_none.env) [.sl .is path] [(.ag (Flt.cells ((Flt.mk 12 0 path))))] :=
 ⟨by kernel_rfl,Eq.trans (b:=dk_none.F path) (by kernel_rfl) (Eq.trans (dk_none.goal path hp) (by kernel_rfl))⟩
theorem dk_none.ok:KO 16 (dk_none.c) dk_none.sg :=
 meets (l:=dk_none.env) (all_cons clone_is.ok all_nil) dk_none.chk (by
   intro ins outs h
   unfold dk_none.c at h
   split at h
   ·obtain ⟨hp,rfl⟩:=h;exact dk_none.fit _ hp
   ·exact h.elim)
theorem dk_word.fit (b:List UInt8) (hp:(decide ((b).length≤1099511627776))=true):FT dk_word.d (envL trydGl dk_word.env) [.sl .bs b] [(.u64 (Cur.be b))] :=
 ⟨by kernel_rfl,Eq.trans (b:=dk_word.F b) (by kernel_rfl) (Eq.trans (dk_word.goal b hp) (by kernel_rfl))⟩
theorem dk_word.ok:KO 51 (dk_word.c) dk_word.sg :=
 meets (l:=dk_word.env) all_nil dk_word.chk (by
   intro ins outs h
   unfold dk_word.c at h
   split at h
   ·obtain ⟨hp,rfl⟩:=h;exact dk_word.fit _ hp
   ·exact h.elim)
theorem dk_whole.fit (b:List UInt8) (hp:(decide ((b).length≤1099511627776))=true):FT dk_whole.d (envL trydGl dk_whole.env) [.sl .bs b] [(.b (Utf.whole b))] :=
 ⟨by kernel_rfl,Eq.trans (b:=dk_whole.F b) (by kernel_rfl) (Eq.trans (dk_whole.goal b hp) (by kernel_rfl))⟩
theorem dk_whole.ok:KO 52 (dk_whole.c) dk_whole.sg :=
 meets (l:=dk_whole.env) (all_cons utf_Check.ok all_nil) dk_whole.chk (by
   intro ins outs h
   unfold dk_whole.c at h
   split at h
   ·obtain ⟨hp,rfl⟩:=h;exact dk_whole.fit _ hp
   ·exact h.elim)
theorem dk_with.fit (n:Nat) (v9k:Int) (v9b:UInt64) (v9h:UInt64) (v9l:UInt64) (v9t:Str) (v9m:Str) (v9s:Int) (v9y:List UInt8) (l:List Itm) (path:List Int) (within:Int) (hp:((decide ((Mp.lays l).length+(path).length≤536870912)&&decide (Mp.chks l=0∧(l).length % 2=0∧0≤within∧within≤200))&&decide ((4 * (Mp.lays l).length+3)<n+1))=true):FT dk_with.d (envL trydGl (dk_with.env n)) [.ag [.i .i64 v9k,.u64 v9b,.u64 v9h,.u64 v9l,.s v9t,.s v9m,.i .i64 v9s,.sl .bs v9y,.c (.slice none 0 0)],.sl .il l,.sl .is path,.i .i64 within] [(.ag (Val.cells (Db.Got.val (Db.Gots.got (Val.mk v9k v9b v9h v9l v9t v9m v9s v9y []) (Dk.fields (200 - within).toNat l 0 path))))),(.ag (Flt.cells (Db.Got.flt (Db.Gots.got (Val.mk v9k v9b v9h v9l v9t v9m v9s v9y []) (Dk.fields (200 - within).toNat l 0 path)))))] :=
 ⟨by kernel_rfl,Eq.trans (b:=dk_with.F n (Val.mk v9k v9b v9h v9l v9t v9m v9s v9y []) l path within) (by kernel_rfl) (Eq.trans (dk_with.goal n (Val.mk v9k v9b v9h v9l v9t v9m v9s v9y []) l path within hp) (by kernel_rfl))⟩
theorem dk_value.fit (n:Nat) (it9k:Int) (it9n:UInt64) (it9y:List UInt8) (it9t:Str) (it9d:List Itm) (path:List Int) (within:Int) (hp:((decide ((Mp.lay (Itm.of (Itv.mk it9k it9n it9y it9t it9d))).length+(path).length≤536870912)&&decide (Mp.chk (Itm.of (Itv.mk it9k it9n it9y it9t it9d))=0∧0≤within∧within≤200))&&decide ((4 * (Mp.lay (Itm.of (Itv.mk it9k it9n it9y it9t it9d))).length)<n+1))=true):FT dk_value.d (envL trydGl (dk_value.env n)) [.ag [.i .i64 it9k,.u64 it9n,.sl .bs it9y,.s it9t,.sl .il it9d],.sl .is path,.i .i64 within] [(.ag (Val.cells (Db.Got.val (Dk.value (200 - within).toNat (Itm.of (Itv.mk it9k it9n it9y it9t it9d)) path)))),(.ag (Flt.cells (Db.Got.flt (Dk.value (200 - within).toNat (Itm.of (Itv.mk it9k it9n it9y it9t it9d)) path))))] :=
 ⟨by kernel_rfl,Eq.trans (b:=dk_value.F n (Itv.mk it9k it9n it9y it9t it9d) path within) (by kernel_rfl) (Eq.trans (dk_value.goal n (Itv.mk it9k it9n it9y it9t it9d) path within hp) (by kernel_rfl))⟩
theorem dk_ext.fit (n:Nat) (it9k:Int) (it9n:UInt64) (it9y:List UInt8) (it9t:Str) (it9d:List Itm) (within:Int) (hp:((decide (((Itv.mk it9k it9n it9y it9t it9d)).bytes.length≤536870912∧((Itv.mk it9k it9n it9y it9t it9d)).n≤127∧0≤within∧within≤200))&&decide ((4 * ((Itv.mk it9k it9n it9y it9t it9d)).bytes.length+2)<n+1))=true):FT dk_ext.d (envL trydGl (dk_ext.env n)) [.ag [.i .i64 it9k,.u64 it9n,.sl .bs it9y,.s it9t,.sl .il it9d],.i .i64 within] [(.ag (Val.cells ((Dk.extV (200 - within).toNat ((Itv.mk it9k it9n it9y it9t it9d)).n ((Itv.mk it9k it9n it9y it9t it9d)).bytes).1))),(.b ((Dk.extV (200 - within).toNat ((Itv.mk it9k it9n it9y it9t it9d)).n ((Itv.mk it9k it9n it9y it9t it9d)).bytes).2))] :=
 ⟨by kernel_rfl,Eq.trans (b:=dk_ext.F n (Itv.mk it9k it9n it9y it9t it9d) within) (by kernel_rfl) (Eq.trans (dk_ext.goal n (Itv.mk it9k it9n it9y it9t it9d) within hp) (by kernel_rfl))⟩
theorem dk_read.fit (n:Nat) (v9k:Int) (v9b:UInt64) (v9h:UInt64) (v9l:UInt64) (v9t:Str) (v9m:Str) (v9s:Int) (v9y:List UInt8) (b:List UInt8) (within:Int) (hp:((decide ((b).length≤536870912∧0≤within∧within<200))&&decide ((4 * (b).length+1)<n+1))=true):FT dk_read.d (envL trydGl (dk_read.env n)) [.ag [.i .i64 v9k,.u64 v9b,.u64 v9h,.u64 v9l,.s v9t,.s v9m,.i .i64 v9s,.sl .bs v9y,.c (.slice none 0 0)],.sl .bs b,.i .i64 within] [(.ag (Val.cells ((Dk.readV (199 - within).toNat (Val.mk v9k v9b v9h v9l v9t v9m v9s v9y []) b).1))),(.b ((Dk.readV (199 - within).toNat (Val.mk v9k v9b v9h v9l v9t v9m v9s v9y []) b).2))] :=
 ⟨by kernel_rfl,Eq.trans (b:=dk_read.F n (Val.mk v9k v9b v9h v9l v9t v9m v9s v9y []) b within) (by kernel_rfl) (Eq.trans (dk_read.goal n (Val.mk v9k v9b v9h v9l v9t v9m v9s v9y []) b within hp) (by kernel_rfl))⟩
theorem dkvalue.oks:∀n:Nat,(KO 17 (dk_with.cn n) dk_with.sg)∧(KO 28 (dk_value.cn n) dk_value.sg)∧(KO 43 (dk_ext.cn n) dk_ext.sg)∧(KO 50 (dk_read.cn n) dk_read.sg):=by
 intro n
 induction n with
 | zero=>exact ⟨spec_zero (by
   intro ti to_ h
   unfold dk_with.cn at h
   split at h
   ·obtain ⟨h,_⟩:=h;simp at h
   ·exact h.elim),spec_zero (by
   intro ti to_ h
   unfold dk_value.cn at h
   split at h
   ·obtain ⟨h,_⟩:=h;simp at h
   ·exact h.elim),spec_zero (by
   intro ti to_ h
   unfold dk_ext.cn at h
   split at h
   ·obtain ⟨h,_⟩:=h;simp at h
   ·exact h.elim),spec_zero (by
   intro ti to_ h
   unfold dk_read.cn at h
   split at h
   ·obtain ⟨h,_⟩:=h;simp at h
   ·exact h.elim)⟩
 | succ n ih =>
  obtain ⟨ih0,ih1,ih2,ih3⟩:=ih
  exact ⟨meets (l:=dk_with.env n) (all_cons dk_none.ok (all_cons st_Contains.ok (all_cons ih1 all_nil))) (dk_with.chk n) (by
   intro ins outs h
   unfold dk_with.cn at h
   split at h
   ·obtain ⟨hp,rfl⟩:=h;exact dk_with.fit n _ _ _ _ _ _ _ _ _ _ _ hp
   ·exact h.elim),meets (l:=dk_value.env n) (all_cons dk_none.ok (all_cons ih0 (all_cons ih1 (all_cons clone_bs.ok (all_cons sc_Itoa.ok (all_cons ih2 all_nil)))))) (dk_value.chk n) (by
   intro ins outs h
   unfold dk_value.cn at h
   split at h
   ·obtain ⟨hp,rfl⟩:=h;exact dk_value.fit n _ _ _ _ _ _ _ hp
   ·exact h.elim),meets (l:=dk_ext.env n) (all_cons st_Contains.ok (all_cons tree_Regular.ok (all_cons clone_bs.ok (all_cons ih3 (all_cons dk_word.ok (all_cons dk_whole.ok (all_cons st_Cut.ok all_nil))))))) (dk_ext.chk n) (by
   intro ins outs h
   unfold dk_ext.cn at h
   split at h
   ·obtain ⟨hp,rfl⟩:=h;exact dk_ext.fit n _ _ _ _ _ _ hp
   ·exact h.elim),meets (l:=dk_read.env n) (all_cons ih0 (all_cons mp_Decode.ok all_nil)) (dk_read.chk n) (by
   intro ins outs h
   unfold dk_read.cn at h
   split at h
   ·obtain ⟨hp,rfl⟩:=h;exact dk_read.fit n _ _ _ _ _ _ _ _ _ _ hp
   ·exact h.elim)⟩
theorem dk_with.ok:KO 17 (dk_with.c) dk_with.sg:=spec_sub fun ti to_ h=>by
 unfold dk_with.c at h
 split at h
 ·obtain ⟨hp,rfl⟩:=h;exact ⟨dk_with.cn (_+1),(dkvalue.oks _).1,Bool.and_eq_true_iff.2 ⟨hp,decide_eq_true (Nat.lt_succ_self _)⟩,rfl⟩
 ·exact h.elim
theorem dk_Value.fit (it9k:Int) (it9n:UInt64) (it9y:List UInt8) (it9t:Str) (it9d:List Itm) (hp:(decide (Itm.bulk (Itm.of (Itv.mk it9k it9n it9y it9t it9d))≤1048576))=true):FT dk_Value.d (envL trydGl dk_Value.env) [.ag [.i .i64 it9k,.u64 it9n,.sl .bs it9y,.s it9t,.sl .il it9d]] [(.ag (Val.cells ((Dk.dec (Itm.of (Itv.mk it9k it9n it9y it9t it9d))).1))),(.ag (Flt.cells ((Dk.dec (Itm.of (Itv.mk it9k it9n it9y it9t it9d))).2)))] :=
 ⟨by kernel_rfl,Eq.trans (b:=dk_Value.F (Itv.mk it9k it9n it9y it9t it9d)) (by kernel_rfl) (Eq.trans (dk_Value.goal (Itv.mk it9k it9n it9y it9t it9d) hp) (by kernel_rfl))⟩
theorem dk_Value.ok:KO 8 (dk_Value.c) dk_Value.sg :=
 meets (l:=dk_Value.env) (all_cons mp_Check.ok (all_cons dk_none.ok (all_cons dk_with.ok all_nil))) dk_Value.chk (by
   intro ins outs h
   unfold dk_Value.c at h
   split at h
   ·obtain ⟨hp,rfl⟩:=h;exact dk_Value.fit _ _ _ _ _ hp
   ·exact h.elim)
theorem law31_awake.fit:([]:List TV).length=law31_awake.d.np∧law31_awake.d.run (envL trydGl law31_awake.env) []=some (([(.b (true))]:List TV)++law31_awake.d.ps.toList.map fun q=>([]:List TV).getD q.1 .dead) :=
 ⟨by kernel_rfl,Eq.trans (b:=law31_awake.F ) (by kernel_rfl) (Eq.trans (law31_awake.goal ) (by kernel_rfl))⟩
theorem law31_awake.ok:KO 4 (law31_awake.c) law31_awake.sg :=
 meets (l:=law31_awake.env) (all_cons dk_Item.ok (all_cons dk_Value.ok all_nil)) law31_awake.chk (by
   intro ins outs h
   unfold law31_awake.c at h
   split at h
   ·cases h;exact law31_awake.fit
   ·exact h.elim)
end Go.Eng
namespace Go.Eng
open Go.IntWalk
theorem digs_small:∀(n:Nat),∀c∈digs n,48≤c.toNat∧c.toNat<58:=by
 intro n
 induction n using Nat.strongRecOn with
 | ind n ih =>
  have one:∀m,m<10→48≤(UInt8.ofNat (48+m)).toNat∧(UInt8.ofNat (48+m)).toNat<58:=by
   intro m hm
   rw [UInt8.toNat_ofNat'];omega
  intro c hc
  by_cases a:n<10
  ·rw [digs_lt a,List.mem_singleton] at hc
   rw [hc];exact one n a
  ·rw [digs_ge a,List.mem_append,List.mem_singleton] at hc
   rcases hc with h | h
   ·exact ih (n / 10) (by omega) c h
   ·rw [h];exact one _ (by omega)
theorem Utf.lookN_ascii:∀(n:Nat) (l:Str),l.length≤n→(∀c∈l,c.toNat<128)→(Utf.lookN n l).1=l.length
 | 0,l,h,_=>by cases l with | nil=>rfl | cons a r=>simp at h
 | n+1,[],_,_=>by rw [Utf.lookN,Utf.rune,if_pos rfl];rfl
 | n+1,c :: l,h,hc=>by
  have e:Utf.rune (c :: l)=((c.toNat:Int),1):=by rw [Utf.rune,if_pos (hc c (by simp))]
  rw [Utf.lookN,e,if_neg (show ¬(1:Int)=0 by decide)]
  have:=Utf.lookN_ascii n l (by simpa using h) (fun x hx=>hc x (by simp [hx]))
  show (Utf.lookN n l).1+1=l.length+1
  rw [this]
theorem digs_name (n:Nat):Utf.whole (digs n)=true∧Utf.zero (digs n)=false:=by
 constructor
 ·unfold Utf.whole Utf.look
  exact decide_eq_true (Utf.lookN_ascii _ _ (Nat.le_refl _) fun c hc=>by have:=digs_small n c hc;omega)
 ·unfold Utf.zero
  apply Bool.eq_false_iff.2
  intro h
  have:=digs_small n 0 (by simpa using h)
  exact absurd this.1 (by decide)
end Go.Eng
namespace Go.Eng
open Go.IntWalk
namespace Dk
open Db (Got Gots)
theorem got_ok {g:Gots} {w v:Val} (h:g.got w = .ok v):∃l,g = .ok l∧v={ w with kids:=l }:=by
 cases g with
 | ok l=>exact ⟨l,rfl,by injection h with h;exact h.symm⟩
 | bad p=>cases h
end Dk
end Go.Eng
namespace Go.Eng
open Go.IntWalk
namespace Dk
theorem own_ok {k:Int} {b h l:UInt64} {t m:Str} {s:Int} {y:List UInt8} {ks:List Fld} (hn:Tree.name k≠[]) (hf:Tree.fieldsOK ⟨k,b,h,l,t,m,s,y,ks⟩=true) (ht:Tree.wholeT t (decide (k=11))=true) (hm:Tree.wholeT m (decide (k=11))=true):Tree.own ⟨k,b,h,l,t,m,s,y,ks⟩=0:=by
 unfold Tree.own
 rw [if_neg hn,if_neg (by rw [hf];decide),if_neg (by simp only [ht,hm];decide)]
theorem wholeT_of {s:Str} (h:Utf.whole s=true):Tree.wholeT s false=true:=by unfold Tree.wholeT;rw [h];rfl
inductive Shape:Itm→Prop where
 | plus (n:UInt64):Shape (.mk 1 n [] [] [])
 | neg (n:UInt64) (h:¬9223372036854775808≤n):Shape (.mk 2 n [] [] [])
 | raw (b:Str):Shape (.mk 3 0 b [] [])
 | text (t:Str) (h:Utf.whole t=true):Shape (.mk 4 0 [] t [])
 | list (l:List Itm) (h:Mp.chks l=0):Shape (.mk 5 0 [] [] l)
 | map (l:List Itm) (h:Mp.chks l=0) (he:l.length % 2=0):Shape (.mk 6 0 [] [] l)
 | simple (n:UInt64) (h:20≤n∧n≤22):Shape (.mk 8 n [] [] [])
 | float (n:UInt64):Shape (.mk 9 n [] [] [])
 | ext (n:UInt64) (b:Str) (h:n≤127):Shape (.mk 10 n b [] [])
theorem shape (x:Itm) (h:Mp.chk x=0):Shape x:=by
 have h1:=Mp.chkI x.val (by rw [Itm.of_val];exact h)
 obtain ⟨o1,o2,o3,o4,o5,o6,o7,o8,o9,o10⟩:=Mp.has0 x.val h1.1
 have hc:=h1.2
 obtain ⟨k,n,b,t,ks⟩:=x
 simp only [Itm.val,Itm.kind,Itm.n,Itm.bytes,Itm.text,Itm.kids] at o1 o2 o3 o4 o5 o6 o7 o8 o9 o10 hc
 have hk:k=1∨k=2∨k=3∨k=4∨k=5∨k=6∨k=8∨k=9∨k=10:=by omega
 rcases hk with rfl | rfl | rfl | rfl | rfl | rfl | rfl | rfl | rfl
 ·rw [o3 (by decide) (by decide),o4 (by decide),o5 (by decide) (by decide)];exact .plus n
 ·rw [o3 (by decide) (by decide),o4 (by decide),o5 (by decide) (by decide)];exact .neg n (o6 rfl)
 ·rw [o2 (by decide),o4 (by decide),o5 (by decide) (by decide)];exact .raw b
 ·rw [o2 (by decide),o3 (by decide) (by decide),o5 (by decide) (by decide)];exact .text t o10
 ·rw [o2 (by decide),o3 (by decide) (by decide),o4 (by decide)];exact .list ks hc
 ·rw [o2 (by decide),o3 (by decide) (by decide),o4 (by decide)];exact .map ks hc (o9 rfl)
 ·rw [o3 (by decide) (by decide),o4 (by decide),o5 (by decide) (by decide)];exact .simple n (o7 rfl)
 ·rw [o3 (by decide) (by decide),o4 (by decide),o5 (by decide) (by decide)];exact .float n
 ·rw [o4 (by decide),o5 (by decide) (by decide)];exact .ext n b (o8 rfl)
def Just (v:Val) (x:Itm):Prop:=Tree.own v=0∧Tree.fines v.kids=true∧itemOf v (mapped v.kids) (items v.kids)=x
theorem number_back {x:Itm} {z:Int} (h:Db.number x=some z) (hx:Mp.chk x=0):Db.integer z=x∧-9223372036854775808≤z∧z≤9223372036854775807:=by
 unfold Db.number at h
 by_cases a:9223372036854775808≤x.n
 ·rw [if_pos a] at h;cases h
 rw [if_neg a] at h
 have hb:x.n.toNat<9223372036854775808:=by
  have:¬(9223372036854775808:UInt64).toNat≤x.n.toNat:=fun h=>a (UInt64.le_iff_toNat_le.2 h)
  have e:(9223372036854775808:UInt64).toNat=9223372036854775808:=rfl
  omega
 have oi:∀n:UInt64,UInt64.ofInt (n.toNat:Int)=n:=fun n=>by
  apply UInt64.toNat_inj.1
  have:=n.toNat_lt
  rw [u64_nat];omega
 cases shape x hx with
 | plus n =>
  rw [if_pos (show (Itm.mk 1 n [] [] []).kind=1 from rfl)] at h
  injection h with h
  have h:(n.toNat:Int)=z:=h
  have hb:n.toNat<9223372036854775808:=hb
  refine ⟨?_,by omega,by omega⟩
  rw [Db.integer,if_neg (by omega),←h,oi]
 | neg n hn =>
  rw [if_neg (show ¬(Itm.mk 2 n [] [] []).kind=1 from fun h=>absurd (show (2:Int)=1 from h) (by decide)),if_pos (show (Itm.mk 2 n [] [] []).kind=2 from rfl)] at h
  injection h with h
  have h : -1 - (n.toNat:Int)=z:=h
  have hb:n.toNat<9223372036854775808:=hb
  refine ⟨?_,by omega,by omega⟩
  rw [Db.integer,if_pos (by omega),←h,show -(-1 - (n.toNat:Int)+1)=(n.toNat:Int) by omega,oi]
 | _=>rw [if_neg (by simp [Itm.kind]),if_neg (by simp [Itm.kind])] at h;cases h
theorem i32_ofInt (z:Int) (h : -2147483648≤z∧z<2147483648):Db.i32 (UInt64.ofInt (z % 4294967296))=z∧(UInt64.ofInt (z % 4294967296)).toNat<4294967296:=by
 have e:=u64_ofInt (z % 4294967296)
 rw [wrap_u64'] at e
 refine ⟨?_,by omega⟩
 unfold Db.i32
 rw [e]
 simp only [IntKind.wrap,IntKind.bits,IntKind.signed]
 simp
 omega
theorem just_half {x:Itm} (hx:Mp.chk x=0) (hh:(Db.half x).2=true):Just (Db.half x).1 x:=by
 have hh':((Db.number x).isSome&&decide (-2147483648≤Db.numberI x∧Db.numberI x<2147483648))=true:=hh
 rw [Bool.and_eq_true] at hh'
 obtain ⟨z,hz⟩:=Option.isSome_iff_exists.1 hh'.1
 have hi:Db.numberI x=z:=by rw [Db.numberI_eq x hh'.1,hz];rfl
 have hr:=of_decide_eq_true hh'.2
 rw [hi] at hr
 obtain ⟨he,_⟩:=number_back hz hx
 have hb:=i32_ofInt z hr
 have e:(Db.half x).1=⟨16,UInt64.ofInt (z % 4294967296),0,0,[],[],0,[],[]⟩:=by rw [Db.half,hi]
 rw [e]
 refine ⟨own_ok (by decide) ?_ (by decide) (by decide),rfl,?_⟩
 ·simp [Tree.fieldsOK,Tree.hasN]
  exact UInt64.lt_iff_toNat_lt.2 hb.2
 ·rw [show itemOf ⟨16,UInt64.ofInt (z % 4294967296),0,0,[],[],0,[],[]⟩ (mapped []) (items [])=Db.integer (Db.i32 (UInt64.ofInt (z % 4294967296))) from rfl,hb.1,he]
theorem just_leaf {k:Int} {n:UInt64} {b t:Str} {ks:List Itm} {v:Val} (h:Db.leaf k n b t=some v) (hx:Mp.chk (.mk k n b t ks)=0) (h5:k≠5) (h6:k≠6) (h10:k≠10):Just v (.mk k n b t ks):=by
 have hs:=shape _ hx
 cases hs with
 | list=>exact absurd rfl h5
 | map=>exact absurd rfl h6
 | ext=>exact absurd rfl h10
 | plus n =>
  unfold Db.leaf at h
  rw [if_neg (by decide),if_neg (by decide),if_neg (by decide),if_neg (by decide)] at h
  by_cases a:(Db.half (.mk 1 n [] [] [])).2=true
  ·rw [if_pos a] at h;injection h with h;subst h;exact just_half hx a
  ·rw [if_neg a] at h;cases h
 | neg n =>
  unfold Db.leaf at h
  rw [if_neg (by decide),if_neg (by decide),if_neg (by decide),if_neg (by decide)] at h
  by_cases a:(Db.half (.mk 2 n [] [] [])).2=true
  ·rw [if_pos a] at h;injection h with h;subst h;exact just_half hx a
  ·rw [if_neg a] at h;cases h
 | raw b =>
  rw [Db.leaf,if_neg (by decide),if_neg (by decide),if_pos rfl] at h;injection h with h;subst h
  exact ⟨own_ok (by decide) (by simp [Tree.fieldsOK,Tree.hasN]) (by decide) (by decide),rfl,rfl⟩
 | text t ht =>
  rw [Db.leaf,if_neg (by decide),if_pos rfl] at h;injection h with h;subst h
  exact ⟨own_ok (by decide) (by simp [Tree.fieldsOK,Tree.hasN]) (wholeT_of ht) (by decide),rfl,rfl⟩
 | float n =>
  rw [Db.leaf,if_pos rfl] at h;injection h with h;subst h
  exact ⟨own_ok (by decide) (by simp [Tree.fieldsOK,Tree.hasN]) (by decide) (by decide),rfl,rfl⟩
 | simple n hn =>
  rw [Db.leaf,if_neg (by decide),if_neg (by decide),if_neg (by decide),if_pos rfl] at h;injection h with h
  rcases u64_range3 hn with rfl | rfl | rfl
  ·subst h;exact ⟨own_ok (by decide) (by decide) (by decide) (by decide),rfl,by kernel_rfl⟩
  ·subst h;exact ⟨own_ok (by decide) (by decide) (by decide) (by decide),rfl,by kernel_rfl⟩
  ·subst h;exact ⟨own_ok (by decide) (by decide) (by decide) (by decide),rfl,by kernel_rfl⟩
end Dk
end Go.Eng
namespace Go.Eng
open Go.IntWalk
namespace Dk
theorem cut_join:∀(s:Str) (c:UInt8),0≤Lib.indexByte s c→s.take (Lib.indexByte s c).toNat++c :: s.drop ((Lib.indexByte s c).toNat+1)=s∧(s.take (Lib.indexByte s c).toNat).contains c=false
 | [],c,h=>by rw [Lib.indexByte] at h;exact absurd h (by decide)
 | b :: l,c,h=>by
  have hg:=Lib.indexByte_ge l c
  by_cases a:b=c
  ·subst a
   have e:Lib.indexByte (b :: l) b=0:=by rw [Lib.indexByte,if_pos (by simp)]
   rw [e];exact ⟨rfl,rfl⟩
  ·have e:Lib.indexByte (b :: l) c=if (Lib.indexByte l c == -1)=true then -1 else Lib.indexByte l c+1:=by rw [Lib.indexByte,if_neg (by simpa using a)]
   by_cases d:Lib.indexByte l c=-1
   ·rw [e,if_pos (by simpa using d)] at h;exact absurd h (by decide)
   ·rw [if_neg (by simpa using d)] at e
    obtain ⟨h1,h2⟩:=cut_join l c (by omega)
    rw [e,show (Lib.indexByte l c+1).toNat=(Lib.indexByte l c).toNat+1 by omega,List.take_succ_cons,List.drop_succ_cons,List.cons_append,h1]
    refine ⟨rfl,?_⟩
    rw [List.contains_cons,h2,Bool.or_false,beq_eq_false_iff_ne]
    exact fun e=>a e.symm
def Good (R:Val→Str→Val × Bool):Prop:=∀v c,(R v c).2=true→∃l,(R v c).1={ v with kids:=l }∧Tree.fines l=true∧Mp.lay (Db.map (mapped l))=c
theorem u64_back (n:UInt64):UInt64.ofInt (n.toNat:Int)=n:=by
 apply UInt64.toNat_inj.1
 have:=n.toNat_lt
 rw [u64_nat];omega
theorem sort_kindOf {n:UInt64} (hn:n≤127):sort (kindOf n)=n:=by
 unfold sort kindOf
 by_cases a:n=126
 ·rw [if_pos a,if_pos rfl,a]
 ·have h:n.toNat≤127:=UInt64.le_iff_toNat_le.1 hn
  rw [if_neg a,if_neg (by omega),u64_back]
theorem just_far {v:Val} {k:Int} {n:UInt64} {b:Str} (hk:k=kindOf n) (hv:v.kind=k) (hn:n≤127) (ho:Tree.own v=0) (hf:Tree.fines v.kids=true) (h:k≠1∧k≠2∧k≠3∧k≠10∧k≠8∧k≠16) (h4:k=4→¬Tree.regular v.kids=true) (h5:k=5→v.sub≠0) (hi:inner v (Mp.lay (Db.map (mapped v.kids)))=b):Just v (.mk 10 n b [] []):=by
 refine ⟨ho,hf,?_⟩
 unfold itemOf
 rw [hv,if_neg h.1,if_neg h.2.1,if_neg h.2.2.1,if_neg (fun a=>h4 a.1 a.2),if_neg (fun a=>h5 a.1 a.2),if_neg h.2.2.2.1,if_neg h.2.2.2.2.1,if_neg h.2.2.2.2.2,hi,ext,hk,sort_kindOf hn]
theorem just_ext {R:Val→Str→Val × Bool} (hR:Good R) {n:UInt64} {b:Str} (hn:n≤127) (h:(extK R (kindOf n) b).2=true):Just (extK R (kindOf n) b).1 (.mk 10 n b [] []):=by
 obtain ⟨k,hk⟩:∃k,kindOf n=k:=⟨_,rfl⟩
 rw [hk] at h ⊢
 unfold extK at h ⊢
 by_cases a4:k=4
 ·subst a4
  rw [if_pos rfl] at h ⊢
  simp only [Bool.and_eq_true,Bool.not_eq_true'] at h
  obtain ⟨l,hw,hf,hl⟩:=hR _ _ h.1
  rw [hw] at h ⊢
  have h2:Tree.regular l=false:=h.2
  show Just ⟨4,0,0,0,[],[],0,[],l⟩ _
  exact just_far hk.symm rfl hn (own_ok (by decide) (by simp [Tree.fieldsOK,Tree.hasN]) (by decide) (by decide)) hf (by decide) (fun _ e=>by rw [show Tree.regular l=true from e] at h2;cases h2) (fun e=>absurd e (by decide)) hl
 rw [if_neg a4] at h ⊢
 by_cases a15:k=15
 ·subst a15
  rw [if_pos rfl] at h ⊢
  by_cases c:b.length<4∨b.length<4+size4 b
  ·rw [if_pos c] at h;cases h
  rw [if_neg c] at h ⊢
  simp only [Bool.and_eq_true] at h
  obtain ⟨l,hw,hf,hl⟩:=hR _ _ h.1
  rw [hw]
  show Just ⟨15,0,0,0,text4 b,[],0,[],l⟩ _
  refine just_far hk.symm rfl hn (own_ok (by decide) (by simp [Tree.fieldsOK,Tree.hasN]) (wholeT_of h.2) (by decide)) hf (by decide) (fun e=>absurd e (by decide)) (fun e=>absurd e (by decide)) ?_
  show Cur.putHigh (UInt64.ofInt ((text4 b).length:Int)) 4++text4 b++Mp.lay (Db.map (mapped l))=b
  have e1:(text4 b).length=size4 b:=by unfold text4;rw [List.length_take,List.length_drop];omega
  have e2:Cur.putHigh (UInt64.ofInt (size4 b:Int)) 4=b.take 4:=by rw [size4,u64_back,Cur.put_be 4 _ (by rw [List.length_take];omega) (by decide)]
  rw [hl,e1,e2,text4,List.append_assoc,←List.drop_drop,List.take_append_drop,List.take_append_drop]
 rw [if_neg a15] at h ⊢
 by_cases a5:k=5
 ·subst a5
  rw [if_pos rfl] at h ⊢
  by_cases c:0<b.length∧b.getD 0 0≠0
  ·rw [if_pos c]
   match b,c with
   | x :: r,c =>
    have hx:x.toNat<256:=x.toNat_lt
    have e1:UInt8.ofInt (x.toNat:Int)=x:=by
     apply UInt8.toNat_inj.1
     rw [u8_nat];omega
    refine just_far hk.symm rfl hn (own_ok (by decide) ?_ (by decide) (by decide)) rfl (by decide) (fun e=>absurd e (by decide)) (fun _ e=>c.2 ?_) ?_
    ·simp [Tree.fieldsOK,Tree.hasN];omega
    ·have e:(x.toNat:Int)=0:=e
     apply UInt8.toNat_inj.1
     show x.toNat=0
     omega
    ·show UInt8.ofInt (x.toNat:Int) :: r=x :: r
     rw [e1]
   | [],c=>exact absurd c.1 (by decide)
  ·rw [if_neg c] at h;cases h
 rw [if_neg a5] at h ⊢
 by_cases a7:k=7
 ·subst a7
  rw [if_pos rfl] at h ⊢
  have h:=of_decide_eq_true h
  exact just_far hk.symm rfl hn (own_ok (by decide) (by simp [Tree.fieldsOK,Tree.hasN,h]) (by decide) (by decide)) rfl (by decide) (fun e=>absurd e (by decide)) (fun e=>absurd e (by decide)) rfl
 rw [if_neg a7] at h ⊢
 by_cases a9:k=9∨k=17∨k=18
 ·rw [if_pos a9] at h ⊢
  have h8:b.length=8:=of_decide_eq_true h
  rcases a9 with rfl | rfl | rfl
  all_goals
   refine just_far hk.symm rfl hn (own_ok (by decide) (by simp [Tree.fieldsOK,Tree.hasN]) (by decide) (by decide)) rfl (by decide) (fun e=>absurd e (by decide)) (fun e=>absurd e (by decide)) ?_
   show Cur.putHigh (Cur.be b) 8=b
   exact Cur.put_be 8 b h8 (by decide)
 rw [if_neg a9] at h ⊢
 by_cases a11:k=11
 ·subst a11
  rw [if_pos rfl] at h ⊢
  simp only [Bool.and_eq_true,Bool.not_eq_true'] at h
  obtain ⟨⟨⟨h1,h2⟩,h3⟩,h4⟩:=h
  by_cases c:0≤Lib.indexByte b 0
  ·obtain ⟨j1,j2⟩:=cut_join b 0 c
   have e:cut b 0=(b.take (Lib.indexByte b 0).toNat,b.drop ((Lib.indexByte b 0).toNat+1),true):=by unfold cut;rw [if_pos c]
   rw [e] at h2 h3 h4 ⊢
   refine just_far hk.symm rfl hn (own_ok (by decide) (by simp [Tree.fieldsOK,Tree.hasN]) ?_ ?_) rfl (by decide) (fun e=>absurd e (by decide)) (fun e=>absurd e (by decide)) j1
   ·unfold Tree.wholeT;rw [show Utf.whole (b.take (Lib.indexByte b 0).toNat)=true from h3,show Utf.zero (b.take (Lib.indexByte b 0).toNat)=false from j2];rfl
   ·unfold Tree.wholeT;rw [show Utf.whole (b.drop ((Lib.indexByte b 0).toNat+1))=true from h4,show Utf.zero (b.drop ((Lib.indexByte b 0).toNat+1))=false from h2];rfl
  ·unfold cut at h1;rw [if_neg c] at h1;cases h1
 rw [if_neg a11] at h ⊢
 by_cases a12:k=12
 ·subst a12
  rw [if_pos rfl] at h ⊢
  by_cases c:12≤b.length∧Utf.whole (b.drop 12)=true
  ·rw [if_pos c]
   have e:(b.take 12).length=12:=by rw [List.length_take];omega
   exact just_far hk.symm rfl hn (own_ok (by decide) (by simp [Tree.fieldsOK,Tree.hasN,e]) (wholeT_of c.2) (by decide)) rfl (by decide) (fun e=>absurd e (by decide)) (fun e=>absurd e (by decide)) (List.take_append_drop 12 b)
  ·rw [if_neg c] at h;cases h
 rw [if_neg a12] at h ⊢
 by_cases a13:k=13∨k=14
 ·rw [if_pos a13] at h ⊢
  rcases a13 with rfl | rfl
  all_goals
   exact just_far hk.symm rfl hn (own_ok (by decide) (by simp [Tree.fieldsOK,Tree.hasN]) (wholeT_of h) (by decide)) rfl (by decide) (fun e=>absurd e (by decide)) (fun e=>absurd e (by decide)) rfl
 rw [if_neg a13] at h ⊢
 by_cases a19:k=19
 ·subst a19
  rw [if_pos rfl] at h ⊢
  by_cases c:b.length=16
  ·rw [if_pos c]
   refine just_far hk.symm rfl hn (own_ok (by decide) (by simp [Tree.fieldsOK,Tree.hasN]) (by decide) (by decide)) rfl (by decide) (fun e=>absurd e (by decide)) (fun e=>absurd e (by decide)) ?_
   show Cur.putHigh (Cur.be (b.take 8)) 8++Cur.putHigh (Cur.be (b.drop 8)) 8=b
   rw [Cur.put_be 8 _ (by rw [List.length_take];omega) (by decide),Cur.put_be 8 _ (by rw [List.length_drop];omega) (by decide),List.take_append_drop]
  ·rw [if_neg c] at h;cases h
 rw [if_neg a19] at h ⊢
 by_cases a6:k=6∨k=127∨k=255
 ·rw [if_pos a6] at h ⊢
  have h:=List.eq_nil_of_length_eq_zero (of_decide_eq_true h)
  subst h
  rcases a6 with rfl | rfl | rfl
  all_goals
   exact just_far hk.symm rfl hn (own_ok (by decide) (by decide) (by decide) (by decide)) rfl (by decide) (fun e=>absurd e (by decide)) (fun e=>absurd e (by decide)) rfl
 rw [if_neg a6] at h;cases h
def GoodE (E:UInt64→Str→Val × Bool):Prop:=∀n b,n≤127→(E n b).2=true→Just (E n b).1 (.mk 10 n b [] [])
theorem item_fld (n:Str) (v:Val):item (Fld.of n v)=itemOf v (mapped v.kids) (items v.kids):=by cases v;rw [Fld.of,item]
theorem chks_cons {x:Itm} {r:List Itm} (h:Mp.chks (x :: r)=0):Mp.chk x=0∧Mp.chks r=0:=by
 rw [Mp.chks] at h
 by_cases a:Mp.chk x=0
 ·rw [if_pos a] at h;exact ⟨a,h⟩
 ·rw [if_neg a] at h;exact absurd h a
theorem chk_kids {x:Itm} (h:Mp.chk x=0):Mp.chks x.kids=0:=by
 have:=(Mp.chkI x.val (by rw [Itm.of_val];exact h)).2
 cases x;exact this
theorem map_of {x:Itm} (h:Mp.chk x=0) (hk:x.kind=6):x=Db.map x.kids:=by
 cases shape x h with
 | map l=>rfl
 | _=>exact absurd hk (by simp [Itm.kind])
theorem list_of {x:Itm} (h:Mp.chk x=0) (hk:x.kind=5):x=Db.list x.kids:=by
 cases shape x h with
 | list l=>rfl
 | _=>exact absurd hk (by simp [Itm.kind])
theorem text_of {x:Itm} (h:Mp.chk x=0) (hk:x.kind=4):x=Db.text x.text∧Utf.whole x.text=true:=by
 cases shape x h with
 | text t ht=>exact ⟨rfl,ht⟩
 | _=>exact absurd hk (by simp [Itm.kind])
theorem just_map {ks:List Itm} {l:List Fld} (hm:mapped l=ks) (hl:Tree.fines l=true):Just ⟨3,0,0,0,[],[],0,[],l⟩ (Db.map ks) :=
 ⟨own_ok (by decide) (by simp [Tree.fieldsOK,Tree.hasN]) (by decide) (by decide),hl,by rw [←hm];rfl⟩
theorem just_list {ks:List Itm} {l:List Fld} (hm:items l=ks) (hr:Tree.regular l=true) (hl:Tree.fines l=true):Just ⟨4,0,0,0,[],[],0,[],l⟩ (Db.list ks):=by
 refine ⟨own_ok (by decide) (by simp [Tree.fieldsOK,Tree.hasN]) (by decide) (by decide),hl,?_⟩
 show itemOf ⟨4,0,0,0,[],[],0,[],l⟩ (mapped l) (items l)=_
 rw [←hm];simp [itemOf,hr]
mutual
theorem just_value (E:UInt64→Str→Val × Bool) (hE:GoodE E):∀(x:Itm) (p:List Int) (v:Val),valueE E x p = .ok v→Mp.chk x=0→Just v x
 | .mk k n b t ks,p,v,h,hx=>by
  have hc:Mp.chks ks=0:=chk_kids hx
  rw [valueE] at h
  by_cases h6:k=6
  ·rw [if_pos h6] at h
   obtain ⟨l,hl,rfl⟩:=got_ok h
   have:=just_fields E hE ks 0 p l hl hc
   have e:Itm.mk k n b t ks=Db.map ks:=map_of hx h6
   rw [e]
   exact just_map this.1 this.2
  rw [if_neg h6] at h
  by_cases h5:k=5
  ·rw [if_pos h5] at h
   obtain ⟨l,hl,rfl⟩:=got_ok h
   have:=just_elems E hE ks 0 p l hl hc
   have e:Itm.mk k n b t ks=Db.list ks:=list_of hx h5
   rw [e]
   exact just_list this.1 this.2.1 this.2.2
  rw [if_neg h5] at h
  by_cases h10:k=10
  ·rw [if_pos h10] at h
   by_cases c:(E n b).2=true
   ·rw [if_pos c] at h
    have h:(E n b).1=v:=by injection h
    subst h
    have e:Itm.mk k n b t ks = .mk 10 n b [] []∧n≤127:=by
     subst h10
     cases shape _ hx with
     | ext _ _ hn=>exact ⟨rfl,hn⟩
    rw [e.1]
    exact hE n b e.2 c
   ·rw [if_neg c] at h;cases h
  rw [if_neg h10] at h
  cases hl:Db.leaf k n b t with
  | none=>rw [hl] at h;cases h
  | some w =>
   rw [hl] at h
   have h:w=v:=by injection h
   subst h
   exact just_leaf hl hx h5 h6 h10
termination_by structural x=>x
theorem just_fields (E:UInt64→Str→Val × Bool) (hE:GoodE E):∀(l:List Itm) (i:Nat) (p:List Int) (ks:List Fld),fieldsE E l i p = .ok ks→Mp.chks l=0→mapped ks=l∧Tree.fines ks=true
 | [],i,p,ks,h,_=>by rw [fieldsE] at h;injection h with h;subst h;exact ⟨rfl,rfl⟩
 | [_],i,p,ks,h,_=>by rw [fieldsE] at h;cases h
 | k :: x :: r,i,p,ks,h,hc=>by
  rw [fieldsE] at h
  by_cases a:k.kind≠4∨Utf.zero k.text=true
  ·rw [if_pos a] at h;cases h
  rw [if_neg a] at h
  simp only [not_or,Classical.not_not,Bool.not_eq_true] at a
  have c1:=chks_cons hc
  have c2:=chks_cons c1.2
  obtain ⟨t1,w1⟩:=text_of c1.1 a.1
  cases hv:valueE E x (p++[((i+1:Nat):Int)]) with
  | bad q=>rw [hv] at h;cases h
  | ok v =>
   rw [hv] at h
   cases hl:fieldsE E r (i+2) p with
   | bad q=>simp only [hl] at h;cases h
   | ok l =>
    simp only [hl] at h
    injection h with h;subst h
    have h1:=just_value E hE x _ v hv c2.1
    have h2:=just_fields E hE r _ p l hl c2.2
    refine ⟨?_,Tree.fine_cons.2 ⟨(Tree.fine_of _ v).2 ⟨h1.1,⟨w1,a.2⟩,h1.2.1⟩,h2.2⟩⟩
    rw [mapped,item_fld,h1.2.2,h2.1]
    congr 1
    rw [t1];cases v;rfl
termination_by structural l=>l
theorem just_elems (E:UInt64→Str→Val × Bool) (hE:GoodE E):∀(l:List Itm) (i:Nat) (p:List Int) (ks:List Fld),elemsE E l i p = .ok ks→Mp.chks l=0→items ks=l∧Tree.regularFrom i ks=true∧Tree.fines ks=true
 | [],i,p,ks,h,_=>by rw [elemsE] at h;injection h with h;subst h;exact ⟨rfl,rfl,rfl⟩
 | x :: r,i,p,ks,h,hc=>by
  rw [elemsE] at h
  have c1:=chks_cons hc
  cases hv:valueE E x (p++[(i:Int)]) with
  | bad q=>rw [hv] at h;cases h
  | ok v =>
   rw [hv] at h
   cases hl:elemsE E r (i+1) p with
   | bad q=>simp only [hl] at h;cases h
   | ok l =>
    simp only [hl] at h
    injection h with h;subst h
    have h1:=just_value E hE x _ v hv c1.1
    have h2:=just_elems E hE r _ p l hl c1.2
    refine ⟨?_,?_,Tree.fine_cons.2 ⟨(Tree.fine_of _ v).2 ⟨h1.1,digs_name i,h1.2.1⟩,h2.2.2⟩⟩
    ·rw [items,item_fld,h1.2.2,h2.1]
    ·rw [Tree.regularFrom,h2.2.1,Bool.and_true]
     exact decide_eq_true (by cases v;rfl)
termination_by structural l=>l
end
theorem good_read {E:UInt64→Str→Val × Bool} (hE:GoodE E):Good (readE E):=by
 intro v c h
 unfold readE innE at h ⊢
 by_cases a:(Mp.dec c 1000).2.err≠0∨(Mp.dec c 1000).1.kind≠6
 ·rw [if_pos a] at h;cases h
 rw [if_neg a] at h ⊢
 simp only [not_or,Classical.not_not,ne_eq] at a
 obtain ⟨h1,h2,_⟩:=(Mp.dec_just c 1000).1 a.1
 cases hf:fieldsE E (Mp.dec c 1000).1.kids 0 [] with
 | bad q=>rw [hf] at h;cases h
 | ok l =>
  have hj:=just_fields E hE _ 0 [] l hf (chk_kids h1)
  exact ⟨l,rfl,hj.2,by rw [hj.1,←map_of h1 a.2,h2]⟩
theorem goodV:∀d,GoodE (extV d)
 | 0=>fun n b _ h=>by cases h
 | d+1=>fun n b hn h=>just_ext (good_read (goodV d)) hn h
theorem dec_just (x:Itm) (h:(dec x).2.err=0):(Tree.chkF (Fld.of [] (dec x).1) []).2=0∧(Tree.depth (Fld.of [] (dec x).1)≤200→enc (dec x).1=(x,⟨0,0,[]⟩)):=by
 by_cases a:Mp.chk x=0
 ·by_cases b:x.kind=6
  ·have e:dec x=((value 200 x []).val,(value 200 x []).flt):=by unfold dec;rw [if_neg (by simpa using a),if_neg (by simpa using b)]
   rw [e] at h ⊢
   cases hv:value 200 x [] with
   | bad q=>rw [hv] at h;exact absurd h (by show ¬(12:Int)=0;decide)
   | ok v =>
    have hj:=just_value _ (goodV 200) x [] v hv a
    show (Tree.chkF (Fld.of [] v) []).2=0∧(Tree.depth (Fld.of [] v)≤200→enc v=(x,⟨0,0,[]⟩))
    have hc:(Tree.chkF (Fld.of [] v) []).2=0:=(Tree.fine_chk _ []).2 ((Tree.fine_of [] v).2 ⟨hj.1,⟨by decide,by decide⟩,hj.2.1⟩)
    refine ⟨hc,fun hd=>?_⟩
    have hk:v.kind=3:=by
     obtain ⟨k,n,bb,t,ks⟩:=x
     have b:k=6:=b
     subst b
     rw [value,valueE,if_pos rfl] at hv
     obtain ⟨l,_,rfl⟩:=got_ok hv
     rfl
    unfold enc
    rw [if_neg (by simpa using hc),if_neg (by simpa using hk),if_neg (by omega)]
    have h2:=hj.2.2
    rw [←h2]
    unfold itemOf
    rw [if_neg (by omega),if_neg (by omega),if_pos hk]
  ·exact absurd h (by unfold dec;rw [if_neg (by simpa using a),if_pos b];decide)
 ·exact absurd h (by unfold dec;rw [if_pos a];exact a)
end Dk
end Go.Eng
namespace Go.Eng
open Go.IntWalk
namespace Db
theorem number_integer (x:Int) (h0 : -9223372036854775808≤x) (h1:x≤9223372036854775807):number (integer x)=some x:=by
 unfold integer
 by_cases a:x<0
 ·have hn:(UInt64.ofInt (-(x+1))).toNat=(-(x+1)).toNat:=by
   obtain ⟨m,hm⟩:∃m:Nat,-(x+1)=m:=⟨(-(x+1)).toNat,by omega⟩
   rw [hm,u64_nat];omega
  rw [if_pos a,number,if_neg (show ¬(9223372036854775808:UInt64)≤(Itm.mk 2 (UInt64.ofInt (-(x+1))) [] [] []).n from fun h=>by
   have:=UInt64.le_iff_toNat_le.1 h
   rw [show (Itm.mk 2 (UInt64.ofInt (-(x+1))) [] [] []).n=UInt64.ofInt (-(x+1)) from rfl,hn] at this
   simp at this;omega),if_neg (show ¬(Itm.mk 2 (UInt64.ofInt (-(x+1))) [] [] []).kind=1 from fun h=>absurd (show (2:Int)=1 from h) (by decide)),if_pos (show (Itm.mk 2 (UInt64.ofInt (-(x+1))) [] [] []).kind=2 from rfl),
   show (Itm.mk 2 (UInt64.ofInt (-(x+1))) [] [] []).n=UInt64.ofInt (-(x+1)) from rfl,hn]
  congr 1;omega
 ·have hn:(UInt64.ofInt x).toNat=x.toNat:=by
   obtain ⟨m,hm⟩:∃m:Nat,x=m:=⟨x.toNat,by omega⟩
   rw [hm,u64_nat];omega
  rw [if_neg a,number,if_neg (show ¬(9223372036854775808:UInt64)≤(Itm.mk 1 (UInt64.ofInt x) [] [] []).n from fun h=>by
   have:=UInt64.le_iff_toNat_le.1 h
   rw [show (Itm.mk 1 (UInt64.ofInt x) [] [] []).n=UInt64.ofInt x from rfl,hn] at this
   simp at this;omega),if_pos (show (Itm.mk 1 (UInt64.ofInt x) [] [] []).kind=1 from rfl),show (Itm.mk 1 (UInt64.ofInt x) [] [] []).n=UInt64.ofInt x from rfl,hn]
  congr 1;omega
theorem half_integer (x:Int) (h : -2147483648≤x∧x<2147483648):half (integer x)=(⟨16,UInt64.ofInt (x % 4294967296),0,0,[],[],0,[],[]⟩,true):=by
 have hn:=number_integer x (by omega) (by omega)
 have hi:numberI (integer x)=x:=by rw [Db.numberI_eq _ (by rw [hn];rfl),hn];rfl
 unfold half
 rw [hi,hn];simp only [Option.isSome_some,Bool.true_and]
 rw [decide_eq_true h]
theorem be8 (v:UInt64):Cur.be (Cur.putHigh v 8)=v:=by
 apply UInt64.toNat_inj.1
 rw [Cur.be_put 8 v (by omega)]
 exact Nat.mod_eq_of_lt v.toNat_lt
theorem i32_bits (n:UInt64) (h:n.toNat<4294967296):UInt64.ofInt (i32 n % 4294967296)=n:=by
 have e:i32 n % 4294967296=(n.toNat:Int):=by
  unfold i32
  simp only [IntKind.wrap,IntKind.bits,IntKind.signed]
  simp
  omega
 rw [e,Dk.u64_back]
theorem i32_range (n:UInt64) : -2147483648≤i32 n∧i32 n<2147483648:=by
 unfold i32
 simp only [IntKind.wrap,IntKind.bits,IntKind.signed]
 simp
 omega
end Db
namespace Dk
theorem value_leaf (E:UInt64→Str→Val × Bool) (k:Int) (n:UInt64) (b t:Str) (q:List Int) (v:Val) (h6:k≠6) (h5:k≠5) (h10:k≠10) (h:Db.leaf k n b t=some v):valueE E (.mk k n b t []) q = .ok v:=by
 rw [valueE,if_neg h6,if_neg h5,if_neg h10,h];rfl
theorem value_integer (E:UInt64→Str→Val × Bool) (x:Int) (h : -2147483648≤x∧x<2147483648) (q:List Int):valueE E (Db.integer x) q = .ok ⟨16,UInt64.ofInt (x % 4294967296),0,0,[],[],0,[],[]⟩:=by
 have hh:=Db.half_integer x h
 unfold Db.integer at hh ⊢
 by_cases a:x<0
 ·rw [if_pos a] at hh ⊢
  exact value_leaf E 2 _ [] [] q _ (by decide) (by decide) (by decide) (by rw [Db.leaf,if_neg (by decide),if_neg (by decide),if_neg (by decide),if_neg (by decide),hh,if_pos rfl])
 ·rw [if_neg a] at hh ⊢
  exact value_leaf E 1 _ [] [] q _ (by decide) (by decide) (by decide) (by rw [Db.leaf,if_neg (by decide),if_neg (by decide),if_neg (by decide),if_neg (by decide),hh,if_pos rfl])
theorem value_ext {R:Val→Str→Val × Bool} (k:Int) (v:Val) (b:Str) (hk:kindOf (sort k)=k) (h:extK R k b=(v,true)) (q:List Int):valueE (fun n b=>extK R (kindOf n) b) (ext k b) q = .ok v:=by
 rw [ext,valueE,if_neg (by decide),if_neg (by decide),if_pos rfl,hk,h];rfl
theorem index_app:∀(t m:Str),Utf.zero t=false→Lib.indexByte (t++0 :: m) 0=t.length
 | [],m,_=>by rw [List.nil_append,Lib.indexByte,if_pos (by decide)];rfl
 | c :: t,m,h=>by
  have h':(c :: t).contains 0=false:=h
  rw [List.contains_cons,Bool.or_eq_false_iff] at h'
  have ih:=index_app t m h'.2
  rw [List.cons_append,Lib.indexByte,if_neg (by rw [beq_iff_eq];rintro rfl;exact absurd h'.1 (by decide)),ih,if_neg (by rw [beq_iff_eq];omega),List.length_cons];omega
theorem cut_app (t m:Str) (h:Utf.zero t=false):cut (t++0 :: m) 0=(t,m,true):=by
 unfold cut
 rw [index_app t m h,if_pos (by omega),Int.toNat_natCast,List.take_left' rfl,←List.drop_drop,List.drop_left' rfl];rfl
theorem itemOf_back {R:Val→Str→Val × Bool} (v:Val) (M L:List Itm) (ho:Tree.own v=0) (hb:v.text.length<4294967296) (hF:∀q,fieldsE (fun n b=>extK R (kindOf n) b) M 0 q = .ok v.kids) (hG:Tree.regular v.kids=true→∀q,elemsE (fun n b=>extK R (kindOf n) b) L 0 q = .ok v.kids)
  (hI:v.kind=4∨v.kind=15→∀w,R w (Mp.lay (Db.map M))=({ w with kids:=v.kids },true)):∀q,valueE (fun n b=>extK R (kindOf n) b) (itemOf v M L) q = .ok v:=by
 intro q
 unfold Tree.own at ho
 split at ho
 ·cases ho
 rename_i hname
 split at ho
 ·cases ho
 rename_i hfields
 split at ho
 ·cases ho
 rename_i htexts
 have hf:Tree.fieldsOK v=true:=by simpa using hfields
 have hk:v.kind∈Tree.kinds:=Classical.byContradiction fun h=>hname (Tree.name_none _ h)
 have ht:Tree.wholeT v.text (decide (v.kind=11))=true∧Tree.wholeT v.more (decide (v.kind=11))=true:=by
  constructor <;> apply Classical.byContradiction <;> intro h <;> exact htexts (by simp only [Bool.not_eq_true] at h;simp [h])
 clear hname hfields htexts ho
 obtain ⟨k,b,h,l,t,m,s,y,ks⟩:=v
 simp only at hk ht hF hG hI hb
 have wt:Utf.whole t=true:=by have:=ht.1;unfold Tree.wholeT at this;simp at this;exact this.1
 have wm:Utf.whole m=true:=by have:=ht.2;unfold Tree.wholeT at this;simp at this;exact this.1
 simp only [Tree.kinds,List.mem_cons,List.not_mem_nil,or_false] at hk
 rcases hk with rfl | rfl | rfl | rfl | rfl | rfl | rfl | rfl | rfl | rfl | rfl | rfl | rfl | rfl | rfl | rfl | rfl | rfl | rfl | rfl | rfl <;> simp [Tree.fieldsOK,Tree.hasN] at hf
 ·-- 1
  obtain ⟨⟨⟨⟨⟨⟨⟨rfl,rfl⟩,rfl⟩,rfl⟩,rfl⟩,rfl⟩,rfl⟩,_⟩:=hf
  exact value_leaf _ 9 b [] [] q _ (by decide) (by decide) (by decide) (by kernel_rfl)
 ·-- 2
  obtain ⟨⟨⟨⟨⟨⟨rfl,rfl,rfl⟩,rfl⟩,rfl⟩,rfl⟩,rfl⟩,_⟩:=hf
  exact value_leaf _ 4 0 [] t q _ (by decide) (by decide) (by decide) (by kernel_rfl)
 ·-- 3
  obtain ⟨⟨⟨⟨⟨⟨rfl,rfl,rfl⟩,rfl⟩,rfl⟩,rfl⟩,rfl⟩,_⟩:=hf
  rw [show itemOf ⟨3,0,0,0,[],[],0,[],ks⟩ M L=Db.map M by kernel_rfl,Db.map,valueE,if_pos rfl,hF];rfl
 ·-- 4
  obtain ⟨⟨⟨⟨⟨⟨rfl,rfl,rfl⟩,rfl⟩,rfl⟩,rfl⟩,rfl⟩,_⟩:=hf
  by_cases hr:Tree.regular ks=true
  ·rw [show itemOf ⟨4,0,0,0,[],[],0,[],ks⟩ M L=Db.list L by simp [itemOf,hr],Db.list,valueE,if_neg (by decide),if_pos rfl,hG hr];rfl
  ·rw [show itemOf ⟨4,0,0,0,[],[],0,[],ks⟩ M L=ext 4 (Mp.lay (Db.map M)) by simp [itemOf,hr,inner]]
   refine value_ext 4 ⟨4,0,0,0,[],[],0,[],ks⟩ (Mp.lay (Db.map M)) (by decide) ?_ q
   rw [extK,if_pos rfl,hI (.inl rfl)]
   simp only [Bool.not_eq_true] at hr
   show ((⟨4,0,0,0,[],[],0,[],ks⟩:Val),true&&!Tree.regular ks)=_
   rw [hr];rfl
 ·-- 5
  obtain ⟨⟨⟨⟨⟨rfl,rfl,rfl⟩,rfl⟩,rfl⟩,rfl⟩,h0,h1⟩:=hf
  by_cases hs:s=0
  ·subst hs
   exact value_leaf _ 3 0 y [] q _ (by decide) (by decide) (by decide) (by kernel_rfl)
  ·rw [show itemOf ⟨5,0,0,0,[],[],s,y,[]⟩ M L=ext 5 (UInt8.ofInt s :: y) by simp [itemOf,hs,inner]]
   refine value_ext 5 ⟨5,0,0,0,[],[],s,y,[]⟩ (UInt8.ofInt s :: y) (by decide) ?_ q
   have hn:((UInt8.ofInt s).toNat:Int)=s:=by
    obtain ⟨m,hm⟩:∃m:Nat,s=m:=⟨s.toNat,by omega⟩
    rw [hm,u8_nat];omega
   rw [extK,if_neg (by decide),if_neg (by decide),if_pos rfl,if_pos ⟨by rw [List.length_cons];omega,fun e=>hs (by rw [←hn,show UInt8.ofInt s=0 from e];rfl)⟩]
   show ((⟨5,0,0,0,[],[],((UInt8.ofInt s).toNat:Int),y,[]⟩:Val),true)=_
   rw [hn]
 ·-- 6
  obtain ⟨⟨⟨⟨⟨⟨⟨rfl,rfl,rfl⟩,rfl⟩,rfl⟩,rfl⟩,rfl⟩,rfl⟩,_⟩:=hf
  exact value_ext 6 ⟨6,0,0,0,[],[],0,[],[]⟩ [] (by decide) (by kernel_rfl) q
 ·-- 7
  obtain ⟨⟨⟨⟨⟨⟨⟨rfl,rfl,rfl⟩,rfl⟩,rfl⟩,rfl⟩,rfl⟩,_⟩,hy⟩:=hf
  exact value_ext 7 ⟨7,0,0,0,[],[],0,y,[]⟩ y (by decide) (by rw [extK,if_neg (by decide),if_neg (by decide),if_neg (by decide),if_pos rfl,decide_eq_true hy]) q
 ·-- 8
  obtain ⟨⟨⟨⟨⟨⟨⟨⟨rfl,rfl⟩,rfl⟩,rfl⟩,rfl⟩,rfl⟩,rfl⟩,hq⟩,_⟩:=hf
  have hb':b=0∨b=1:=by
   have h:=UInt64.lt_iff_toNat_lt.1 hq
   have h:b.toNat<2:=h
   rcases (by omega:b.toNat=0∨b.toNat=1) with e | e
   ·exact .inl (UInt64.toNat_inj.1 e)
   ·exact .inr (UInt64.toNat_inj.1 e)
  rcases hb' with rfl | rfl
  ·exact value_leaf _ 8 20 [] [] q _ (by decide) (by decide) (by decide) (by kernel_rfl)
  ·exact value_leaf _ 8 21 [] [] q _ (by decide) (by decide) (by decide) (by kernel_rfl)
 ·-- 9
  obtain ⟨⟨⟨⟨⟨⟨⟨rfl,rfl⟩,rfl⟩,rfl⟩,rfl⟩,rfl⟩,rfl⟩,_⟩:=hf
  exact value_ext 9 ⟨9,b,0,0,[],[],0,[],[]⟩ (Cur.putHigh b 8) (by decide) (by rw [extK,if_neg (by decide),if_neg (by decide),if_neg (by decide),if_neg (by decide),if_pos (by decide),Db.be8,decide_eq_true (Cur.putHigh_len b 8)]) q
 ·-- 10
  obtain ⟨⟨⟨⟨⟨⟨⟨rfl,rfl,rfl⟩,rfl⟩,rfl⟩,rfl⟩,rfl⟩,rfl⟩,_⟩:=hf
  exact value_leaf _ 8 22 [] [] q _ (by decide) (by decide) (by decide) (by kernel_rfl)
 ·-- 11
  obtain ⟨⟨⟨⟨⟨rfl,rfl,rfl⟩,rfl⟩,rfl⟩,rfl⟩,_⟩:=hf
  have zt:Utf.zero t=false:=by have:=ht.1;unfold Tree.wholeT at this;simp at this;simpa using this.2
  have zm:Utf.zero m=false:=by have:=ht.2;unfold Tree.wholeT at this;simp at this;simpa using this.2
  exact value_ext 11 ⟨11,0,0,0,t,m,0,[],[]⟩ (t++0 :: m) (by decide) (by rw [extK,if_neg (by decide),if_neg (by decide),if_neg (by decide),if_neg (by decide),if_neg (by decide),if_pos rfl,cut_app t m zt];show ((⟨11,0,0,0,t,m,0,[],[]⟩:Val),(true&&!Utf.zero m&&Utf.whole t&&Utf.whole m))=_;rw [zm,wt,wm];rfl) q
 ·-- 12
  obtain ⟨⟨⟨⟨⟨⟨rfl,rfl,rfl⟩,rfl⟩,rfl⟩,rfl⟩,_⟩,hy⟩:=hf
  exact value_ext 12 ⟨12,0,0,0,t,[],0,y,[]⟩ (y++t) (by decide) (by rw [extK,if_neg (by decide),if_neg (by decide),if_neg (by decide),if_neg (by decide),if_neg (by decide),if_neg (by decide),if_pos rfl,List.drop_left' hy,List.take_left' hy,if_pos ⟨by rw [List.length_append];omega,wt⟩]) q
 ·-- 13
  obtain ⟨⟨⟨⟨⟨⟨rfl,rfl,rfl⟩,rfl⟩,rfl⟩,rfl⟩,rfl⟩,_⟩:=hf
  exact value_ext 13 ⟨13,0,0,0,t,[],0,[],[]⟩ t (by decide) (by rw [extK,if_neg (by decide),if_neg (by decide),if_neg (by decide),if_neg (by decide),if_neg (by decide),if_neg (by decide),if_neg (by decide),if_pos (by decide),wt];rfl) q
 ·-- 14
  obtain ⟨⟨⟨⟨⟨⟨rfl,rfl,rfl⟩,rfl⟩,rfl⟩,rfl⟩,rfl⟩,_⟩:=hf
  exact value_ext 14 ⟨14,0,0,0,t,[],0,[],[]⟩ t (by decide) (by rw [extK,if_neg (by decide),if_neg (by decide),if_neg (by decide),if_neg (by decide),if_neg (by decide),if_neg (by decide),if_neg (by decide),if_pos (by decide),wt];rfl) q
 ·-- 15
  obtain ⟨⟨⟨⟨⟨rfl,rfl,rfl⟩,rfl⟩,rfl⟩,rfl⟩,_⟩:=hf
  refine value_ext 15 ⟨15,0,0,0,t,[],0,[],ks⟩ (Cur.putHigh (UInt64.ofInt (t.length:Int)) 4++t++Mp.lay (Db.map M)) (by decide) ?_ q
  have l4:=Cur.putHigh_len (UInt64.ofInt (t.length:Int)) 4
  have e1:size4 (Cur.putHigh (UInt64.ofInt (t.length:Int)) 4++t++Mp.lay (Db.map M))=t.length:=by
   rw [size4,List.append_assoc,List.take_left' l4,Cur.be_put 4 _ (by decide),u64_nat]
   omega
  have e2:text4 (Cur.putHigh (UInt64.ofInt (t.length:Int)) 4++t++Mp.lay (Db.map M))=t:=by
   rw [text4,e1,List.append_assoc,List.drop_left' l4,List.take_left' rfl]
  have e3:(Cur.putHigh (UInt64.ofInt (t.length:Int)) 4++t++Mp.lay (Db.map M)).drop (4+t.length)=Mp.lay (Db.map M):=List.drop_left' (by rw [List.length_append,l4])
  rw [extK,if_neg (by decide),if_pos rfl,e1,e2,e3,if_neg (by simp only [List.length_append,l4];omega),hI (.inr rfl),wt];rfl
 ·-- 16
  obtain ⟨⟨⟨⟨⟨⟨⟨⟨rfl,rfl⟩,rfl⟩,rfl⟩,rfl⟩,rfl⟩,rfl⟩,hq⟩,_⟩:=hf
  rw [show itemOf ⟨16,b,0,0,[],[],0,[],[]⟩ M L=Db.integer (Db.i32 b) by kernel_rfl,value_integer _ _ (Db.i32_range b),Db.i32_bits b (UInt64.lt_iff_toNat_lt.1 hq)]
 ·-- 17
  obtain ⟨⟨⟨⟨⟨⟨⟨rfl,rfl⟩,rfl⟩,rfl⟩,rfl⟩,rfl⟩,rfl⟩,_⟩:=hf
  exact value_ext 17 ⟨17,b,0,0,[],[],0,[],[]⟩ (Cur.putHigh b 8) (by decide) (by rw [extK,if_neg (by decide),if_neg (by decide),if_neg (by decide),if_neg (by decide),if_pos (by decide),Db.be8,decide_eq_true (Cur.putHigh_len b 8)]) q
 ·-- 18
  obtain ⟨⟨⟨⟨⟨⟨⟨rfl,rfl⟩,rfl⟩,rfl⟩,rfl⟩,rfl⟩,rfl⟩,_⟩:=hf
  exact value_ext 18 ⟨18,b,0,0,[],[],0,[],[]⟩ (Cur.putHigh b 8) (by decide) (by rw [extK,if_neg (by decide),if_neg (by decide),if_neg (by decide),if_neg (by decide),if_pos (by decide),Db.be8,decide_eq_true (Cur.putHigh_len b 8)]) q
 ·-- 19
  obtain ⟨⟨⟨⟨⟨⟨rfl,rfl⟩,rfl⟩,rfl⟩,rfl⟩,rfl⟩,_⟩:=hf
  have l8:=Cur.putHigh_len h 8
  exact value_ext 19 ⟨19,0,h,l,[],[],0,[],[]⟩ (Cur.putHigh h 8++Cur.putHigh l 8) (by decide) (by rw [extK,if_neg (by decide),if_neg (by decide),if_neg (by decide),if_neg (by decide),if_neg (by decide),if_neg (by decide),if_neg (by decide),if_neg (by decide),if_pos rfl,if_pos (by rw [List.length_append,l8,Cur.putHigh_len]),List.take_left' l8,List.drop_left' l8,Db.be8,Db.be8]) q
 ·-- 127
  obtain ⟨⟨⟨⟨⟨⟨⟨rfl,rfl,rfl⟩,rfl⟩,rfl⟩,rfl⟩,rfl⟩,rfl⟩,_⟩:=hf
  exact value_ext 127 ⟨127,0,0,0,[],[],0,[],[]⟩ [] (by decide) (by kernel_rfl) q
 ·-- 255
  obtain ⟨⟨⟨⟨⟨⟨⟨rfl,rfl,rfl⟩,rfl⟩,rfl⟩,rfl⟩,rfl⟩,rfl⟩,_⟩:=hf
  exact value_ext 255 ⟨255,0,0,0,[],[],0,[],[]⟩ [] (by decide) (by kernel_rfl) q
end Dk
end Go.Eng
namespace Go.Eng
open Go.IntWalk
namespace Dk
theorem itemOf_nest (v:Val) (M L:List Itm):Itm.nest (itemOf v M L)≤1∨v.kind=3∧itemOf v M L=Db.map M∨v.kind=4∧itemOf v M L=Db.list L:=by
 by_cases a3:v.kind=3
 ·exact .inr (.inl ⟨a3,by rw [itemOf,if_neg (by omega),if_neg (by omega),if_pos a3]⟩)
 by_cases a4:v.kind=4∧Tree.regular v.kids=true
 ·exact .inr (.inr ⟨a4.1,by rw [itemOf,if_neg (by omega),if_neg (by omega),if_neg a3,if_pos a4]⟩)
 refine .inl ?_
 unfold itemOf Db.integer
 rw [if_neg a3,if_neg a4]
 repeat' split
 all_goals exact Nat.le_refl 1
mutual
theorem nest_item:∀f:Fld,Itm.nest (item f)≤Tree.depth f+1
 | .mk n k b h lo t m s y ks=>by
  have h1:=nest_mapped ks
  have h2:=nest_items ks
  rw [item,Tree.depth]
  rcases itemOf_nest ⟨k,b,h,lo,t,m,s,y,ks⟩ (mapped ks) (items ks) with e | ⟨hk,e⟩ | ⟨hk,e⟩
  ·omega
  ·have hk:k=3:=hk
   rw [e,if_pos (.inl hk)]
   show Itm.nests (mapped ks)+1≤_
   omega
  ·have hk:k=4:=hk
   rw [e,if_pos (.inr (.inl hk))]
   show Itm.nests (items ks)+1≤_
   omega
theorem nest_mapped:∀l:List Fld,Itm.nests (mapped l)≤Tree.depthL l+1
 | []=>Nat.zero_le _
 | f :: r=>by
  have h1:=nest_item f
  have h2:=nest_mapped r
  have h3:Itm.nest (Db.text f.name)=1:=rfl
  simp only [mapped,Itm.nests,Tree.depthL,h3];omega
theorem nest_items:∀l:List Fld,Itm.nests (items l)≤Tree.depthL l+1
 | []=>Nat.zero_le _
 | f :: r=>by
  have h1:=nest_item f
  have h2:=nest_items r
  simp only [items,Itm.nests,Tree.depthL];omega
end
theorem read_back {E:UInt64→Str→Val × Bool} {ks:List Fld} (hf:Tree.fines ks=true) (hb:Fld.bulks ks≤1048576) (hn:Tree.depthL ks≤900) (hF:fieldsE E (mapped ks) 0 [] = .ok ks) (w:Val):readE E w (Mp.lay (Db.map (mapped ks)))=({ w with kids:=ks },true):=by
 have h1:=nest_mapped ks
 have e:=Mp.dec_lay (Db.map (mapped ks)) 1000 (map_chk ks hf hb) (by show ((Itm.nests (mapped ks)+1:Nat):Int)≤1000;omega) (by decide)
 have ei:innE E (Mp.lay (Db.map (mapped ks)))=some ks:=by
  unfold innE
  rw [e,if_neg (by rintro (h | h);exact h rfl;exact h rfl)]
  show (match fieldsE E (mapped ks) 0 [] with | .ok l=>some l | .bad _=>none)=some ks
  rw [hF]
 unfold readE
 rw [ei]
theorem own_kids {v:Val} (h:Tree.own v=0):(v.kind=3∨v.kind=4∨v.kind=15)∨v.kids=[]:=by
 have hf:=(kind_of h).2.1
 unfold Tree.fieldsOK at hf
 simp only [Bool.and_eq_true,Bool.or_eq_true,decide_eq_true_eq] at hf
 have:=hf.1.1.1.1.2
 simpa [Tree.hasN] using this
mutual
theorem back_item:∀(f:Fld) (d:Nat),Tree.fine f=true→Fld.bulk f≤1048576→Tree.depth f<d→d≤200→∀q,valueE (extV d) (item f) q = .ok f.val
 | .mk n k b h lo t m s y ks,d,hf,hb,hd,hx,q=>by
  cases d with
  | zero=>exact absurd hd (Nat.not_lt_zero _)
  | succ d =>
   obtain ⟨b1,b2,b3,b4,b5⟩:=fld_lens _ _ _ _ _ _ _ _ _ _ hb
   have hf':=(Tree.fine_of n ⟨k,b,h,lo,t,m,s,y,ks⟩).1 hf
   have hl:Tree.depthL ks<d+1:=by
    rw [Tree.depth] at hd
    rcases own_kids hf'.1 with e | e
    ·rw [if_pos e] at hd;omega
    ·have e:ks=[]:=e
     rw [e];exact Nat.succ_pos d
   have h1:=back_mapped ks (d+1) hf'.2.2 b5 hl hx
   have h2:=back_items ks (d+1) hf'.2.2 b5 hl hx
   have h3:k=4∨k=15→∀w,readE (extV d) w (Mp.lay (Db.map (mapped ks)))=({ w with kids:=ks },true):=fun hk w=>by
    rw [Tree.depth,if_pos (by omega)] at hd
    exact read_back hf'.2.2 b5 (show Tree.depthL ks≤900 by omega) (back_mapped ks d hf'.2.2 b5 (by omega) (by omega) 0 []) w
   rw [item]
   exact itemOf_back (R:=readE (extV d)) ⟨k,b,h,lo,t,m,s,y,ks⟩ (mapped ks) (items ks) hf'.1 (by show t.length<_;omega) (fun q=>h1 0 q) (fun hr q=>h2 0 q hr) h3 q
theorem back_mapped:∀(l:List Fld) (d:Nat),Tree.fines l=true→Fld.bulks l≤1048576→Tree.depthL l<d→d≤200→∀j q,fieldsE (extV d) (mapped l) j q = .ok l
 | [],_,_,_,_,_,_,_=>by rw [mapped,fieldsE]
 | f :: r,d,hf,hb,hd,hx,j,q=>by
  have hf':=Tree.fine_cons.1 hf
  simp only [Fld.bulks] at hb
  simp only [Tree.depthL] at hd
  have h1:=back_item f d hf'.1 (by omega) (by omega) hx
  have h2:=back_mapped r d hf'.2 (by omega) (by omega) hx
  have h3:Utf.whole f.name=true∧Utf.zero f.name=false:=by
   cases f with
   | mk n k b h lo t m s y ks=>exact ((Tree.fine_of n ⟨k,b,h,lo,t,m,s,y,ks⟩).1 hf'.1).2.1
  rw [mapped,fieldsE,if_neg (by rintro (h | h);exact h rfl;exact absurd h (by rw [show (Db.text f.name).text=f.name from rfl,h3.2];decide)),h1,h2]
  cases f;rfl
theorem back_items:∀(l:List Fld) (d:Nat),Tree.fines l=true→Fld.bulks l≤1048576→Tree.depthL l<d→d≤200→∀j q,Tree.regularFrom j l=true→elemsE (extV d) (items l) j q = .ok l
 | [],_,_,_,_,_,_,_,_=>by rw [items,elemsE]
 | f :: r,d,hf,hb,hd,hx,j,q,hr=>by
  have hf':=Tree.fine_cons.1 hf
  simp only [Fld.bulks] at hb
  simp only [Tree.depthL] at hd
  have h1:=back_item f d hf'.1 (by omega) (by omega) hx
  have h2:=back_items r d hf'.2 (by omega) (by omega) hx
  rw [Tree.regularFrom] at hr
  simp only [Bool.and_eq_true,decide_eq_true_eq] at hr
  rw [items,elemsE,h1,h2 _ _ hr.2,←hr.1]
  cases f;rfl
end
theorem enc_back (v:Val) (hb:Fld.bulk (Fld.of [] v)≤1048576) (h:(enc v).2.err=0):Mp.chk (enc v).1=0∧dec (enc v).1=(v,⟨0,0,[]⟩):=by
 by_cases a:(Tree.chkF (Fld.of [] v) []).2=0
 ·by_cases b:v.kind=3
  ·by_cases c:200<Tree.depth (Fld.of [] v)
   ·exact absurd h (by unfold enc;rw [if_neg (by simpa using a),if_neg (by simpa using b),if_pos c];decide)
   have e:enc v=(Db.map (mapped v.kids),⟨0,0,[]⟩):=by unfold enc;rw [if_neg (by simpa using a),if_neg (by simpa using b),if_neg c]
   have hf:=(Tree.fine_of [] v).1 ((Tree.fine_chk _ []).1 a)
   have hfo:=(kind_of hf.1).2.1
   obtain ⟨k,n,hh,l,t,m,s,y,ks⟩:=v
   have b:k=3:=b
   subst b
   have hbk:=(fld_lens _ _ _ _ _ _ _ _ _ _ hb).2.2.2.2
   have hd:Tree.depthL ks<200:=by
    rw [Fld.of,Tree.depth,if_pos (.inl rfl)] at c
    have c:¬200<Tree.depthL ks+1:=c
    omega
   have hc:=map_chk ks hf.2.2 hbk
   rw [e]
   refine ⟨hc,?_⟩
   simp [Tree.fieldsOK,Tree.hasN] at hfo
   obtain ⟨⟨⟨⟨⟨⟨rfl,rfl,rfl⟩,rfl⟩,rfl⟩,rfl⟩,rfl⟩,_⟩:=hfo
   have ev:value 200 (Db.map (mapped ks)) [] = .ok ⟨3,0,0,0,[],[],0,[],ks⟩:=by
    rw [value,Db.map,valueE,if_pos rfl,back_mapped ks 200 hf.2.2 hbk hd (Nat.le_refl 200)];rfl
   unfold dec
   rw [if_neg (by simpa using hc),if_neg (show ¬(Db.map (mapped ks)).kind≠6 from fun h=>h rfl),ev]
   rfl
  ·exact absurd h (by unfold enc;rw [if_neg (by simpa using a),if_pos b];decide)
 ·exact absurd h (by unfold enc;rw [if_pos a];exact a)
theorem enc_bad (v:Val) (h:(enc v).2.err≠0):(enc v).1=Mp.zero:=by
 unfold enc at h ⊢
 split
 ·rfl
 rename_i a
 rw [if_neg a] at h
 split
 ·rfl
 rename_i b
 rw [if_neg b] at h
 split
 ·rfl
 rename_i c
 rw [if_neg c] at h
 exact absurd rfl h
end Dk
end Go.Eng
namespace Go.Eng
noncomputable section
def DocpackBack.sg:FSig:={}
def DocpackBack.c:Ctr:=fun l=>match l with
 | [.ag [.i .i64 v9k,.u64 v9b,.u64 v9h,.u64 v9l,.s v9t,.s v9m,.i .i64 v9s,.sl .bs v9y,.sl .fl v9d]] => .ok [(.b (true))]
 | _ => .err
def DocpackBack.env:EV:=[(4,(law31_awake.c,law31_awake.sg)),(5,(book_Small.c,book_Small.sg)),(6,(dk_Item.c,dk_Item.sg)),(7,(ref28_Same.c,ref28_Same.sg)),(8,(dk_Value.c,dk_Value.sg)),(9,(ref17_Same.c,ref17_Same.sg)),(10,(ref29_Check.c,ref29_Check.sg))]
def DocpackBack.E:TEnv:=envL trydGl DocpackBack.env
def DocpackBack.m:TM:=oS [oK (.k (.bx 1041)) [0,1041] [1,1041],oW (.b false) 2] (.seq (oS [oC 4 0 1 [] 7,oK (.k (.un .not)) [7] [8]] (.cond (.s 8) [] (oS [oW (.b false) 2] .ret) .skip)) none (.seq (oS [oM 1041 0 9 1 9,oC 5 1 1 [9] 10,oK (.k (.un .not)) [10] [11]] (.cond (.s 11) [] (oS [oW (.b true) 2] .ret) .skip)) none (oS [oM 1041 0 9 1 13,oC 6 1 2 [13] 14,oV 14 12,oE 0 12 15,oE 1 12 16,oN 1042 zI 3,oN 1043 zT 4,oT 1042 0 5 3 15,oT 1043 0 3 4 16] (.seq (oS [oA 1043 0 0 4 17,oL 1043 0 1 17 18,oI .neq 18 (.i .i64 0) 19] (.cond (.s 19) [] (oS [oM 1042 0 5 3 20,oK (.bd zI []) [] [21],oC 7 2 1 [20,21] 22,oV 22 2] .ret) .skip)) none (oS [oM 1042 0 5 3 24,oC 8 1 2 [24] 25,oV 25 23,oE 0 23 26,oE 1 23 27,oN 1044 zV 5,oN 1045 zT 6,oT 1044 0 9 5 26,oT 1045 0 3 6 27] (oS [oA 1045 0 0 6 28,oL 1045 0 1 28 29,oI .eql 29 (.i .i64 0) 30,oV 30 31,oG 31 true (oM 1041 0 9 1 32),oG 31 true (oM 1044 0 9 5 33),oG 31 true (oC 9 2 1 [32,33] 34),oP 31 34 false 35,oV 35 36,oG 36 true (oM 1042 0 5 3 37),oG 36 true (oC 10 1 1 [37] 38),oG 36 true (oI .eql 38 (.i .i64 0) 39),oP 36 39 false 40,oV 40 2] .ret))))))
def DocpackBack.d:TFD:=D0 1 DocpackBack.m [.t 2]
def DocpackBack.F (v:Val):OT:=DocpackBack.d.run DocpackBack.E [(.ag (Val.cells v))]
theorem DocpackBack.F_in (v:Val) {ρ:OT} (K:∀(v1:Bool) (h1:v1=(Itm.same (Itm.of (Itm.val ((Dk.enc v).1))) (Itm.of (Itv.mk 0 0 [] [] [])))) (v2:Val) (h2:v2=((Dk.dec (Itm.of (Itm.val ((Dk.enc v).1)))).1)) (v3:Flt) (h3:v3=((Dk.dec (Itm.of (Itm.val ((Dk.enc v).1)))).2)) (v4:Bool) (h4:v4=(cond (decide ((Flt.err v3)=(0:Int))) (Tree.same v v2) false)) (v5:Int) (h5:v5=(Mp.chk (Itm.of (Itm.val ((Dk.enc v).1))))) (v6:Bool) (h6:v6=(cond v4 (decide (v5=(0:Int))) false)),cond (!(true))
  (some [(.b false)])
  (cond (!(decide (0≤Book.value 1200 (Fld.of [] v))))
  (some [(.b true)])
  (ck (decide (Fld.bulk (Fld.of [] v)≤1048576)) (cond (!decide ((Flt.err ((Dk.enc v).2))=(0:Int)))
  (ck (decide (Itm.bulk (Itm.of (Itm.val ((Dk.enc v).1)))≤1099511627776)) (some [(.b v1)]))
  (ck (decide (Itm.bulk (Itm.of (Itm.val ((Dk.enc v).1)))≤1048576)) (ck (!(decide ((Flt.err v3)=(0:Int))) || (((decide ((Flt.err v3)=(0:Int)))&&(decide ((Flt.err v3)=(0:Int))))&&(decide (Fld.bulk (Fld.of [] v)≤1099511627776)))) (ck (!(decide ((Flt.err v3)=(0:Int))) || (decide ((Flt.err v3)=(0:Int)))) (ck (!v4 || (v4&&(decide (Itm.bulk (Itm.of (Itm.val ((Dk.enc v).1)))≤1099511627776)))) (ck (!v4 || v4) (ck (!v4 || v4) (some [(.b v6)]))))))))))=ρ):DocpackBack.F v=ρ:=Eq.trans (by kernel_rfl) (K _ rfl _ rfl _ rfl _ rfl _ rfl _ rfl)
theorem DocpackBack.chk:CK 3 DocpackBack.env DocpackBack.d:=ckOf (by kernel_rfl)
end
end Go.Eng
namespace Go.Eng
open Go.IntWalk
theorem Dk.enc_small (v:Val) (hb:Fld.bulk (Fld.of [] v)≤10000):Itm.bulk (Dk.enc v).1≤1000000:=by
 have h1:=Dk.map_bulk v.kids
 have h2:=(Val.bounds (v:=v) (by omega)).2.2.2.1
 unfold Dk.enc
 repeat' split
 all_goals first | (show Itm.bulk Mp.zero≤_;decide) | skip
 show Itm.bulk (Db.map (Dk.mapped v.kids))≤_
 omega
theorem DocpackBack.goal (v:Val):DocpackBack.F v=some [.b true]:=by
 refine DocpackBack.F_in v ?_
 intro v1 h1 v2 h2 v3 h3 v4 h4 v5 h5 v6 h6
 rw [Itm.of_val] at h1 h2 h3 h5
 rw [Bool.not_true,cond_false]
 by_cases a:0≤Book.value 1200 (Fld.of [] v)
 ·have hb:=Book.small_bulk v a
  have h7:=Dk.enc_small v (by omega)
  rw [decide_eq_true a,Bool.not_true,cond_false,ck_of (decide_eq_true (by omega))]
  simp only [Itm.of_val]
  by_cases e:(Dk.enc v).2.err=0
  ·obtain ⟨g1,g2⟩:=Dk.enc_back v (by omega) e
   rw [g2] at h2 h3
   rw [g1] at h5
   have h2:=h2.symm;subst h2 h3 h5
   rw [(Tree.same_iff _ _).2 rfl] at h4
   have h4':v4=true:=by rw [h4];rfl
   have h6':v6=true:=by rw [h6,h4'];rfl
   rw [decide_eq_true e,Bool.not_true,cond_false,ck_of (decide_eq_true (by omega)),h4',h6',decide_eq_true (show Fld.bulk (Fld.of [] v)≤1099511627776 by omega),decide_eq_true (show Itm.bulk (Dk.enc v).1≤1099511627776 by omega)]
   rfl
  ·have h1':v1=true:=by rw [h1,Dk.enc_bad v e];exact Itm.same_refl _
   rw [decide_eq_false e,Bool.not_false,cond_true,ck_of (decide_eq_true (by omega)),h1']
 ·rw [decide_eq_false a];rfl
end Go.Eng
namespace Go.Eng
theorem DocpackBack.fit (v9k:Int) (v9b:UInt64) (v9h:UInt64) (v9l:UInt64) (v9t:Str) (v9m:Str) (v9s:Int) (v9y:List UInt8) (v9d:List Fld):FT DocpackBack.d (envL trydGl DocpackBack.env) [.ag [.i .i64 v9k,.u64 v9b,.u64 v9h,.u64 v9l,.s v9t,.s v9m,.i .i64 v9s,.sl .bs v9y,.sl .fl v9d]] [(.b (true))] :=
 ⟨by kernel_rfl,Eq.trans (b:=DocpackBack.F (Val.mk v9k v9b v9h v9l v9t v9m v9s v9y v9d)) (by kernel_rfl) (Eq.trans (DocpackBack.goal (Val.mk v9k v9b v9h v9l v9t v9m v9s v9y v9d)) (by kernel_rfl))⟩
theorem DocpackBack.ok:KO 3 (DocpackBack.c) DocpackBack.sg :=
 meets (l:=DocpackBack.env) (all_cons law31_awake.ok (all_cons book_Small.ok (all_cons dk_Item.ok (all_cons ref28_Same.ok (all_cons dk_Value.ok (all_cons ref17_Same.ok (all_cons ref29_Check.ok all_nil))))))) DocpackBack.chk (by
   intro ins outs h
   unfold DocpackBack.c at h
   split at h
   ·cases h;exact DocpackBack.fit _ _ _ _ _ _ _ _ _
   ·exact h.elim)
end Go.Eng
