/- Texts of my own, one behind the other: DkOK, DkDb2, DkR4, DkLItems, DkQItems, DkOKItems. -/
import Derived.Test.YtoadlhkggdbfkaaGreatDoorT5
set_option linter.unusedVariables false
set_option linter.unusedSimpArgs false
namespace Go.Eng
theorem utf_is.fit (r:Int):FT utf_is.d (envL tryzGl utf_is.env) [.i .i64 r] [(.b (Utf.isRune r))] :=
 ⟨by kernel_rfl,Eq.trans (b:=utf_is.F r) (by kernel_rfl) (Eq.trans (utf_is.goal r) (by kernel_rfl))⟩
theorem utf_is.ok:KO 97 (utf_is.c) utf_is.sg :=
 meets (l:=utf_is.env) all_nil utf_is.chk (by
   intro ins outs h
   unfold utf_is.c at h
   split at h
   ·cases h;exact utf_is.fit _
   ·exact h.elim)
theorem utf_Rune.fit (b:List UInt8) (at_:Int) (hp:(decide (b.length≤1099511627776))=true):FT utf_Rune.d (envL tryzGl utf_Rune.env) [.sl .bs b,.i .i64 at_] [(.i .i64 ((Utf.runeAt b at_).1)),(.i .i64 ((Utf.runeAt b at_).2))] :=
 ⟨by kernel_rfl,Eq.trans (b:=utf_Rune.F b at_) (by kernel_rfl) (Eq.trans (utf_Rune.goal b at_ hp) (by kernel_rfl))⟩
theorem utf_Rune.ok:KO 81 (utf_Rune.c) utf_Rune.sg :=
 meets (l:=utf_Rune.env) (all_cons utf_is.ok all_nil) utf_Rune.chk (by
   intro ins outs h
   unfold utf_Rune.c at h
   split at h
   ·obtain ⟨hp,rfl⟩:=h;exact utf_Rune.fit _ _ hp
   ·exact h.elim)
theorem utf_look.fit (b:List UInt8) (hp:(decide (b.length≤1099511627776))=true):FT utf_look.d (envL tryzGl utf_look.env) [.sl .bs b] [(.i .i64 (((Utf.look b).1:Int))),(.i .i64 (((Utf.look b).2:Int)))] :=
 ⟨by kernel_rfl,Eq.trans (b:=utf_look.F b) (by kernel_rfl) (Eq.trans (utf_look.goal b hp) (by kernel_rfl))⟩
theorem utf_look.ok:KO 67 (utf_look.c) utf_look.sg :=
 meets (l:=utf_look.env) (all_cons utf_Rune.ok all_nil) utf_look.chk (by
   intro ins outs h
   unfold utf_look.c at h
   split at h
   ·obtain ⟨hp,rfl⟩:=h;exact utf_look.fit _ hp
   ·exact h.elim)
theorem utf_Check.fit (b:List UInt8) (hp:(decide (b.length≤1099511627776))=true):FT utf_Check.d (envL tryzGl utf_Check.env) [.sl .bs b] [(.i .i64 (((Utf.look b).1:Int))),(.b (Utf.whole b))] :=
 ⟨by kernel_rfl,Eq.trans (b:=utf_Check.F b) (by kernel_rfl) (Eq.trans (utf_Check.goal b hp) (by kernel_rfl))⟩
theorem utf_Check.ok:KO 41 (utf_Check.c) utf_Check.sg :=
 meets (l:=utf_Check.env) (all_cons utf_look.ok all_nil) utf_Check.chk (by
   intro ins outs h
   unfold utf_Check.c at h
   split at h
   ·obtain ⟨hp,rfl⟩:=h;exact utf_Check.fit _ hp
   ·exact h.elim)
theorem ref2_Rune.fit (b:List UInt8) (at_:Int) (hp:(decide (b.length≤1099511627776))=true):FT ref2_Rune.d (envL tryzGl ref2_Rune.env) [.sl .bs b,.i .i64 at_] [(.i .i64 ((Utf.runeAt b at_).1)),(.i .i64 ((Utf.runeAt b at_).2))] :=
 ⟨by kernel_rfl,Eq.trans (b:=ref2_Rune.F b at_) (by kernel_rfl) (Eq.trans (ref2_Rune.goal b at_ hp) (by kernel_rfl))⟩
theorem ref2_Rune.ok:KO 105 (ref2_Rune.c) ref2_Rune.sg :=
 meets (l:=ref2_Rune.env) all_nil ref2_Rune.chk (by
   intro ins outs h
   unfold ref2_Rune.c at h
   split at h
   ·obtain ⟨hp,rfl⟩:=h;exact ref2_Rune.fit _ _ hp
   ·exact h.elim)
theorem ref2_Check.fit (b:List UInt8) (hp:(decide (b.length≤1099511627776))=true):FT ref2_Check.d (envL tryzGl ref2_Check.env) [.sl .bs b] [(.i .i64 (((Utf.look b).1:Int))),(.b (Utf.whole b))] :=
 ⟨by kernel_rfl,Eq.trans (b:=ref2_Check.F b) (by kernel_rfl) (Eq.trans (ref2_Check.goal b hp) (by kernel_rfl))⟩
theorem ref2_Check.ok:KO 88 (ref2_Check.c) ref2_Check.sg :=
 meets (l:=ref2_Check.env) (all_cons ref2_Rune.ok all_nil) ref2_Check.chk (by
   intro ins outs h
   unfold ref2_Check.c at h
   split at h
   ·obtain ⟨hp,rfl⟩:=h;exact ref2_Check.fit _ hp
   ·exact h.elim)
theorem ref2_Whole.fit (s:Str) (hp:(decide (s.length≤1099511627776))=true):FT ref2_Whole.d (envL tryzGl ref2_Whole.env) [.s s] [(.b (Utf.whole s))] :=
 ⟨by kernel_rfl,Eq.trans (b:=ref2_Whole.F s) (by kernel_rfl) (Eq.trans (ref2_Whole.goal s hp) (by kernel_rfl))⟩
theorem ref2_Whole.ok:KO 71 (ref2_Whole.c) ref2_Whole.sg :=
 meets (l:=ref2_Whole.env) (all_cons ref2_Check.ok all_nil) ref2_Whole.chk (by
   intro ins outs h
   unfold ref2_Whole.c at h
   split at h
   ·obtain ⟨hp,rfl⟩:=h;exact ref2_Whole.fit _ hp
   ·exact h.elim)
theorem ref2_Zero.fit (s:Str) (hp:(decide (s.length≤1099511627776))=true):FT ref2_Zero.d (envL tryzGl ref2_Zero.env) [.s s] [(.b (Utf.zero s))] :=
 ⟨by kernel_rfl,Eq.trans (b:=ref2_Zero.F s) (by kernel_rfl) (Eq.trans (ref2_Zero.goal s hp) (by kernel_rfl))⟩
theorem ref2_Zero.ok:KO 46 (ref2_Zero.c) ref2_Zero.sg :=
 meets (l:=ref2_Zero.env) all_nil ref2_Zero.chk (by
   intro ins outs h
   unfold ref2_Zero.c at h
   split at h
   ·obtain ⟨hp,rfl⟩:=h;exact ref2_Zero.fit _ hp
   ·exact h.elim)
theorem ref1_SameInts.fit (a:List Int) (b:List Int) (hp:(decide (a.length≤1099511627776))=true):FT ref1_SameInts.d (envL tryzGl ref1_SameInts.env) [.sl .is a,.sl .is b] [(.b (decide (a=b)))] :=
 ⟨by kernel_rfl,Eq.trans (b:=ref1_SameInts.F a b) (by kernel_rfl) (Eq.trans (ref1_SameInts.goal a b hp) (by kernel_rfl))⟩
theorem ref1_SameInts.ok:KO 24 (ref1_SameInts.c) ref1_SameInts.sg :=
 meets (l:=ref1_SameInts.env) all_nil ref1_SameInts.chk (by
   intro ins outs h
   unfold ref1_SameInts.c at h
   split at h
   ·obtain ⟨hp,rfl⟩:=h;exact ref1_SameInts.fit _ _ hp
   ·exact h.elim)
theorem rd_At.fit (r_b:List UInt8) (r_at:Int):FT rd_At.d (envL tryzGl rd_At.env) [.ro (.ag [.sl .bs r_b,.i .i64 r_at])] [(.i .i64 ((((Rdr.mk r_b r_at)).at_)))] :=
 ⟨by kernel_rfl,Eq.trans (b:=rd_At.F (Rdr.mk r_b r_at)) (by kernel_rfl) (Eq.trans (rd_At.goal (Rdr.mk r_b r_at)) (by kernel_rfl))⟩
theorem rd_At.ok:KO 122 (rd_At.c) rd_At.sg :=
 meets (l:=rd_At.env) all_nil rd_At.chk (by
   intro ins outs h
   unfold rd_At.c at h
   split at h
   ·cases h;exact rd_At.fit _ _
   ·exact h.elim)
theorem rd_Left.fit (r_b:List UInt8) (r_at:Int) (hp:(Cur.good (Rdr.mk r_b r_at))=true):FT rd_Left.d (envL tryzGl rd_Left.env) [.ro (.ag [.sl .bs r_b,.i .i64 r_at])] [(.i .i64 (Cur.left (Rdr.mk r_b r_at)))] :=
 ⟨by kernel_rfl,Eq.trans (b:=rd_Left.F (Rdr.mk r_b r_at)) (by kernel_rfl) (Eq.trans (rd_Left.goal (Rdr.mk r_b r_at) hp) (by kernel_rfl))⟩
theorem rd_Left.ok:KO 121 (rd_Left.c) rd_Left.sg :=
 meets (l:=rd_Left.env) all_nil rd_Left.chk (by
   intro ins outs h
   unfold rd_Left.c at h
   split at h
   ·obtain ⟨hp,rfl⟩:=h;exact rd_Left.fit _ _ hp
   ·exact h.elim)
theorem rd_Byte.fit (r_b:List UInt8) (r_at:Int) (hp:(Cur.good (Rdr.mk r_b r_at))=true):FT rd_Byte.d (envL tryzGl rd_Byte.env) [.ag [.sl .bs r_b,.i .i64 r_at]] [(.i .i64 (Cur.byte (Rdr.mk r_b r_at))),(.b (Cur.more (Rdr.mk r_b r_at))),(.ag (Rdr.cells (Cur.adv (Rdr.mk r_b r_at) 1 (Cur.more (Rdr.mk r_b r_at)))))] :=
 ⟨by kernel_rfl,Eq.trans (b:=rd_Byte.F (Rdr.mk r_b r_at)) (by kernel_rfl) (Eq.trans (rd_Byte.goal (Rdr.mk r_b r_at) hp) (by kernel_rfl))⟩
theorem rd_Byte.ok:KO 135 (rd_Byte.c) rd_Byte.sg :=
 meets (l:=rd_Byte.env) all_nil rd_Byte.chk (by
   intro ins outs h
   unfold rd_Byte.c at h
   split at h
   ·obtain ⟨hp,rfl⟩:=h;exact rd_Byte.fit _ _ hp
   ·exact h.elim)
theorem rd_next.fit (r_b:List UInt8) (r_at:Int) (n:Int) (hp:(Cur.good (Rdr.mk r_b r_at))=true):FT rd_next.d (envL tryzGl rd_next.env) [.ag [.sl .bs r_b,.i .i64 r_at],.i .i64 n] [(.sl .bs (Cur.nx (Rdr.mk r_b r_at) n (Cur.ok8 (Rdr.mk r_b r_at) n))),(.b (Cur.ok8 (Rdr.mk r_b r_at) n)),(.ag (Rdr.cells (Cur.adv (Rdr.mk r_b r_at) n (Cur.ok8 (Rdr.mk r_b r_at) n))))] :=
 ⟨by kernel_rfl,Eq.trans (b:=rd_next.F (Rdr.mk r_b r_at) n) (by kernel_rfl) (Eq.trans (rd_next.goal (Rdr.mk r_b r_at) n hp) (by kernel_rfl))⟩
theorem rd_next.ok:KO 147 (rd_next.c) rd_next.sg :=
 meets (l:=rd_next.env) (all_cons rd_Left.ok all_nil) rd_next.chk (by
   intro ins outs h
   unfold rd_next.c at h
   split at h
   ·obtain ⟨hp,rfl⟩:=h;exact rd_next.fit _ _ _ hp
   ·exact h.elim)
theorem rd_Take.fit (r_b:List UInt8) (r_at:Int) (n:Int) (hp:(Cur.good (Rdr.mk r_b r_at))=true):FT rd_Take.d (envL tryzGl rd_Take.env) [.ag [.sl .bs r_b,.i .i64 r_at],.i .i64 n] [(.sl .bs (Cur.nx (Rdr.mk r_b r_at) n (Cur.okT (Rdr.mk r_b r_at) n))),(.b (Cur.okT (Rdr.mk r_b r_at) n)),(.ag (Rdr.cells (Cur.adv (Rdr.mk r_b r_at) n (Cur.okT (Rdr.mk r_b r_at) n))))] :=
 ⟨by kernel_rfl,Eq.trans (b:=rd_Take.F (Rdr.mk r_b r_at) n) (by kernel_rfl) (Eq.trans (rd_Take.goal (Rdr.mk r_b r_at) n hp) (by kernel_rfl))⟩
theorem rd_Take.ok:KO 148 (rd_Take.c) rd_Take.sg :=
 meets (l:=rd_Take.env) (all_cons clone_bs.ok (all_cons rd_Left.ok all_nil)) rd_Take.chk (by
   intro ins outs h
   unfold rd_Take.c at h
   split at h
   ·obtain ⟨hp,rfl⟩:=h;exact rd_Take.fit _ _ _ hp
   ·exact h.elim)
theorem rd_High.fit (r_b:List UInt8) (r_at:Int) (n:Int) (hp:(Cur.good (Rdr.mk r_b r_at))=true):FT rd_High.d (envL tryzGl rd_High.env) [.ag [.sl .bs r_b,.i .i64 r_at],.i .i64 n] [(.u64 (Cur.be (Cur.nx (Rdr.mk r_b r_at) n (Cur.ok8 (Rdr.mk r_b r_at) n)))),(.b (Cur.ok8 (Rdr.mk r_b r_at) n)),(.ag (Rdr.cells (Cur.adv (Rdr.mk r_b r_at) n (Cur.ok8 (Rdr.mk r_b r_at) n))))] :=
 ⟨by kernel_rfl,Eq.trans (b:=rd_High.F (Rdr.mk r_b r_at) n) (by kernel_rfl) (Eq.trans (rd_High.goal (Rdr.mk r_b r_at) n hp) (by kernel_rfl))⟩
theorem rd_High.ok:KO 137 (rd_High.c) rd_High.sg :=
 meets (l:=rd_High.env) (all_cons rd_next.ok all_nil) rd_High.chk (by
   intro ins outs h
   unfold rd_High.c at h
   split at h
   ·obtain ⟨hp,rfl⟩:=h;exact rd_High.fit _ _ _ hp
   ·exact h.elim)
theorem cur_New.fit (b:List UInt8) (hp:(decide ((b).length≤1099511627776))=true):FT cur_New.d (envL tryzGl cur_New.env) [.sl .bs b] [.pt,(.ag (Rdr.cells ((Rdr.mk b 0))))] :=
 ⟨by kernel_rfl,Eq.trans (b:=cur_New.F b) (by kernel_rfl) (Eq.trans (cur_New.goal b hp) (by kernel_rfl))⟩
theorem cur_New.ok:KO 119 (cur_New.c) cur_New.sg :=
 meets (l:=cur_New.env) (all_cons clone_bs.ok all_nil) cur_New.chk (by
   intro ins outs h
   unfold cur_New.c at h
   split at h
   ·obtain ⟨hp,rfl⟩:=h;exact cur_New.fit _ hp
   ·exact h.elim)
theorem cur_number.fit (n:Int):FT cur_number.d (envL tryzGl cur_number.env) [.i .i64 n] [(.b (decide (1≤n∧n≤8)))] :=
 ⟨by kernel_rfl,Eq.trans (b:=cur_number.F n) (by kernel_rfl) (Eq.trans (cur_number.goal n) (by kernel_rfl))⟩
theorem cur_number.ok:KO 149 (cur_number.c) cur_number.sg :=
 meets (l:=cur_number.env) all_nil cur_number.chk (by
   intro ins outs h
   unfold cur_number.c at h
   split at h
   ·cases h;exact cur_number.fit _
   ·exact h.elim)
theorem cur_Lay.fit:([]:List TV).length=cur_Lay.d.np∧cur_Lay.d.run (envL tryzGl cur_Lay.env) []=some (([.pt,(.ag (Wtr.cells ((Wtr.mk []))))]:List TV)++cur_Lay.d.ps.toList.map fun q=>([]:List TV).getD q.1 .dead) :=
 ⟨by kernel_rfl,Eq.trans (b:=cur_Lay.F ) (by kernel_rfl) (Eq.trans (cur_Lay.goal ) (by kernel_rfl))⟩
theorem cur_Lay.ok:KO 107 (cur_Lay.c) cur_Lay.sg :=
 meets (l:=cur_Lay.env) all_nil cur_Lay.chk (by
   intro ins outs h
   unfold cur_Lay.c at h
   split at h
   ·cases h;exact cur_Lay.fit
   ·exact h.elim)
theorem wr_Byte.fit (w_b:List UInt8) (v:Int) (hp:(decide (((Wtr.mk w_b)).b.length≤1099511627776))=true):FT wr_Byte.d (envL tryzGl wr_Byte.env) [.ag [.sl .bs w_b],.i .i64 v] [(.ag (Wtr.cells ((Wtr.mk (((Wtr.mk w_b)).b++[UInt8.ofInt v])))))] :=
 ⟨by kernel_rfl,Eq.trans (b:=wr_Byte.F (Wtr.mk w_b) v) (by kernel_rfl) (Eq.trans (wr_Byte.goal (Wtr.mk w_b) v hp) (by kernel_rfl))⟩
theorem wr_Byte.ok:KO 127 (wr_Byte.c) wr_Byte.sg :=
 meets (l:=wr_Byte.env) all_nil wr_Byte.chk (by
   intro ins outs h
   unfold wr_Byte.c at h
   split at h
   ·obtain ⟨hp,rfl⟩:=h;exact wr_Byte.fit _ _ hp
   ·exact h.elim)
theorem wr_Raw.fit (w_b:List UInt8) (b:List UInt8) (hp:(decide (((Wtr.mk w_b)).b.length+(b).length≤1099511627776))=true):FT wr_Raw.d (envL tryzGl wr_Raw.env) [.ag [.sl .bs w_b],.sl .bs b] [(.ag (Wtr.cells ((Wtr.mk (((Wtr.mk w_b)).b++b)))))] :=
 ⟨by kernel_rfl,Eq.trans (b:=wr_Raw.F (Wtr.mk w_b) b) (by kernel_rfl) (Eq.trans (wr_Raw.goal (Wtr.mk w_b) b hp) (by kernel_rfl))⟩
theorem wr_Raw.ok:KO 129 (wr_Raw.c) wr_Raw.sg :=
 meets (l:=wr_Raw.env) all_nil wr_Raw.chk (by
   intro ins outs h
   unfold wr_Raw.c at h
   split at h
   ·obtain ⟨hp,rfl⟩:=h;exact wr_Raw.fit _ _ hp
   ·exact h.elim)
theorem wr_High.fit (w_b:List UInt8) (v:UInt64) (n:Int) (hp:(decide (((Wtr.mk w_b)).b.length≤1099511627776))=true):FT wr_High.d (envL tryzGl wr_High.env) [.ag [.sl .bs w_b],.u64 v,.i .i64 n] [(.ag (Wtr.cells ((Wtr.mk (((Wtr.mk w_b)).b++Cur.high v n)))))] :=
 ⟨by kernel_rfl,Eq.trans (b:=wr_High.F (Wtr.mk w_b) v n) (by kernel_rfl) (Eq.trans (wr_High.goal (Wtr.mk w_b) v n hp) (by kernel_rfl))⟩
theorem wr_High.ok:KO 144 (wr_High.c) wr_High.sg :=
 meets (l:=wr_High.env) (all_cons cur_number.ok all_nil) wr_High.chk (by
   intro ins outs h
   unfold wr_High.c at h
   split at h
   ·obtain ⟨hp,rfl⟩:=h;exact wr_High.fit _ _ _ hp
   ·exact h.elim)
theorem wr_Bytes.fit (w_b:List UInt8) (hp:(decide (((Wtr.mk w_b)).b.length≤1099511627776))=true):FT wr_Bytes.d (envL tryzGl wr_Bytes.env) [.ag [.sl .bs w_b]] [(.sl .bs ((((Wtr.mk w_b)).b))),(.ag (Wtr.cells ((Wtr.mk w_b))))] :=
 ⟨by kernel_rfl,Eq.trans (b:=wr_Bytes.F (Wtr.mk w_b)) (by kernel_rfl) (Eq.trans (wr_Bytes.goal (Wtr.mk w_b) hp) (by kernel_rfl))⟩
theorem wr_Bytes.ok:KO 109 (wr_Bytes.c) wr_Bytes.sg :=
 meets (l:=wr_Bytes.env) (all_cons clone_bs.ok all_nil) wr_Bytes.chk (by
   intro ins outs h
   unfold wr_Bytes.c at h
   split at h
   ·obtain ⟨hp,rfl⟩:=h;exact wr_Bytes.fit _ hp
   ·exact h.elim)
theorem mp_few.fit (n:Int) (hp:(decide (0≤n∧n≤1099511627776))=true):FT mp_few.d (envL tryzGl mp_few.env) [.i .i64 n] [(.b (decide (n<4294967296)))] :=
 ⟨by kernel_rfl,Eq.trans (b:=mp_few.F n) (by kernel_rfl) (Eq.trans (mp_few.goal n hp) (by kernel_rfl))⟩
theorem mp_few.ok:KO 66 (mp_few.c) mp_few.sg :=
 meets (l:=mp_few.env) all_nil mp_few.chk (by
   intro ins outs h
   unfold mp_few.c at h
   split at h
   ·obtain ⟨hp,rfl⟩:=h;exact mp_few.fit _ hp
   ·exact h.elim)
theorem mp_fields.fit (it9k:Int) (it9n:UInt64) (it9y:List UInt8) (it9t:Str) (it9d:List Itm) (hp:(decide (Itm.bulk (Itm.of (Itv.mk it9k it9n it9y it9t it9d))≤1099511627776))=true):FT mp_fields.d (envL tryzGl mp_fields.env) [.ag [.i .i64 it9k,.u64 it9n,.sl .bs it9y,.s it9t,.sl .il it9d]] [(.b (Mp.fieldsOK (Itm.of (Itv.mk it9k it9n it9y it9t it9d))))] :=
 ⟨by kernel_rfl,Eq.trans (b:=mp_fields.F (Itv.mk it9k it9n it9y it9t it9d)) (by kernel_rfl) (Eq.trans (mp_fields.goal (Itv.mk it9k it9n it9y it9t it9d) hp) (by kernel_rfl))⟩
theorem mp_fields.ok:KO 40 (mp_fields.c) mp_fields.sg :=
 meets (l:=mp_fields.env) (all_cons mp_few.ok all_nil) mp_fields.chk (by
   intro ins outs h
   unfold mp_fields.c at h
   split at h
   ·obtain ⟨hp,rfl⟩:=h;exact mp_fields.fit _ _ _ _ _ hp
   ·exact h.elim)
theorem mp_Check.fit (n:Nat) (it9k:Int) (it9n:UInt64) (it9y:List UInt8) (it9t:Str) (it9d:List Itm) (hp:((decide (Itm.bulk (Itm.of (Itv.mk it9k it9n it9y it9t it9d))≤1099511627776))&&decide ((Itm.bulk (Itm.of (Itv.mk it9k it9n it9y it9t it9d)))<n+1))=true):FT mp_Check.d (envL tryzGl (mp_Check.env n)) [.ag [.i .i64 it9k,.u64 it9n,.sl .bs it9y,.s it9t,.sl .il it9d]] [(.i .i64 (Mp.chk (Itm.of (Itv.mk it9k it9n it9y it9t it9d))))] :=
 ⟨by kernel_rfl,Eq.trans (b:=mp_Check.F n (Itv.mk it9k it9n it9y it9t it9d)) (by kernel_rfl) (Eq.trans (mp_Check.goal n (Itv.mk it9k it9n it9y it9t it9d) hp) (by kernel_rfl))⟩
theorem mcheck.oks:∀n:Nat,(KO 26 (mp_Check.cn n) mp_Check.sg):=by
 intro n
 induction n with
 | zero=>exact spec_zero (by
   intro ti to_ h
   unfold mp_Check.cn at h
   split at h
   ·obtain ⟨h,_⟩:=h;simp at h
   ·exact h.elim)
 | succ n ih =>
  have ih0:=ih
  exact meets (l:=mp_Check.env n) (all_cons ih0 (all_cons mp_fields.ok (all_cons utf_Check.ok all_nil))) (mp_Check.chk n) (by
   intro ins outs h
   unfold mp_Check.cn at h
   split at h
   ·obtain ⟨hp,rfl⟩:=h;exact mp_Check.fit n _ _ _ _ _ hp
   ·exact h.elim)
theorem mp_Check.ok:KO 26 (mp_Check.c) mp_Check.sg:=spec_sub fun ti to_ h=>by
 unfold mp_Check.c at h
 split at h
 ·obtain ⟨hp,rfl⟩:=h;exact ⟨mp_Check.cn (_+1),(mcheck.oks _),Bool.and_eq_true_iff.2 ⟨hp,decide_eq_true (Nat.lt_succ_self _)⟩,rfl⟩
 ·exact h.elim
theorem mp_wrong.fit (e:Int) (at_:Int):FT mp_wrong.d (envL tryzGl mp_wrong.env) [.i .i64 e,.i .i64 at_] [(.ag (Itv.cells (Itm.val (Mp.zero)))),(.ag (Flt.cells ((Flt.mk e at_ []))))] :=
 ⟨by kernel_rfl,Eq.trans (b:=mp_wrong.F e at_) (by kernel_rfl) (Eq.trans (mp_wrong.goal e at_) (by kernel_rfl))⟩
theorem mp_wrong.ok:KO 118 (mp_wrong.c) mp_wrong.sg :=
 meets (l:=mp_wrong.env) all_nil mp_wrong.chk (by
   intro ins outs h
   unfold mp_wrong.c at h
   split at h
   ·cases h;exact mp_wrong.fit _ _
   ·exact h.elim)
theorem mp_unsigned.fit (n:UInt64):FT mp_unsigned.d (envL tryzGl mp_unsigned.env) [.u64 n] [(.ag [(.i .i64 (Mp.unsigned n).1),(.i .i64 (Mp.unsigned n).2)])] :=
 ⟨by kernel_rfl,Eq.trans (b:=mp_unsigned.F n) (by kernel_rfl) (Eq.trans (mp_unsigned.goal n) (by kernel_rfl))⟩
theorem mp_unsigned.ok:KO 125 (mp_unsigned.c) mp_unsigned.sg :=
 meets (l:=mp_unsigned.env) all_nil mp_unsigned.chk (by
   intro ins outs h
   unfold mp_unsigned.c at h
   split at h
   ·cases h;exact mp_unsigned.fit _
   ·exact h.elim)
theorem mp_signed.fit (n:UInt64):FT mp_signed.d (envL tryzGl mp_signed.env) [.u64 n] [(.ag [(.i .i64 (Mp.signed n).1),(.i .i64 (Mp.signed n).2)])] :=
 ⟨by kernel_rfl,Eq.trans (b:=mp_signed.F n) (by kernel_rfl) (Eq.trans (mp_signed.goal n) (by kernel_rfl))⟩
theorem mp_signed.ok:KO 126 (mp_signed.c) mp_signed.sg :=
 meets (l:=mp_signed.env) all_nil mp_signed.chk (by
   intro ins outs h
   unfold mp_signed.c at h
   split at h
   ·cases h;exact mp_signed.fit _
   ·exact h.elim)
theorem mp_put.fit (w_b:List UInt8) (f_at:Int) (f_end:Int) (n:UInt64) (hp:(decide (((Wtr.mk w_b)).b.length+10≤1099511627776))=true):FT mp_put.d (envL tryzGl mp_put.env) [.ag [.sl .bs w_b],.ag [.i .i64 f_at,.i .i64 f_end],.u64 n] [(.ag (Wtr.cells ((Wtr.mk (((Wtr.mk w_b)).b++Mp.put (((Spn.mk f_at f_end)).at_,((Spn.mk f_at f_end)).end_) n)))))] :=
 ⟨by kernel_rfl,Eq.trans (b:=mp_put.F (Wtr.mk w_b) (Spn.mk f_at f_end) n) (by kernel_rfl) (Eq.trans (mp_put.goal (Wtr.mk w_b) (Spn.mk f_at f_end) n hp) (by kernel_rfl))⟩
theorem mp_put.ok:KO 124 (mp_put.c) mp_put.sg :=
 meets (l:=mp_put.env) (all_cons wr_Byte.ok (all_cons wr_High.ok all_nil)) mp_put.chk (by
   intro ins outs h
   unfold mp_put.c at h
   split at h
   ·obtain ⟨hp,rfl⟩:=h;exact mp_put.fit _ _ _ _ hp
   ·exact h.elim)
theorem mp_lay.fit (n:Nat) (w_b:List UInt8) (it9k:Int) (it9n:UInt64) (it9y:List UInt8) (it9t:Str) (it9d:List Itm) (hp:((decide (((Wtr.mk w_b)).b.length+16 * Itm.bulk (Itm.of (Itv.mk it9k it9n it9y it9t it9d))≤1099511627776)&&decide (Mp.chk (Itm.of (Itv.mk it9k it9n it9y it9t it9d))=0))&&decide ((Itm.bulk (Itm.of (Itv.mk it9k it9n it9y it9t it9d)))<n+1))=true):FT mp_lay.d (envL tryzGl (mp_lay.env n)) [.ag [.sl .bs w_b],.ag [.i .i64 it9k,.u64 it9n,.sl .bs it9y,.s it9t,.sl .il it9d]] [(.ag (Wtr.cells ((Wtr.mk (((Wtr.mk w_b)).b++Mp.lay (Itm.of (Itv.mk it9k it9n it9y it9t it9d)))))))] :=
 ⟨by kernel_rfl,Eq.trans (b:=mp_lay.F n (Wtr.mk w_b) (Itv.mk it9k it9n it9y it9t it9d)) (by kernel_rfl) (Eq.trans (mp_lay.goal n (Wtr.mk w_b) (Itv.mk it9k it9n it9y it9t it9d) hp) (by kernel_rfl))⟩
theorem mlay.oks:∀n:Nat,(KO 108 (mp_lay.cn n) mp_lay.sg):=by
 intro n
 induction n with
 | zero=>exact spec_zero (by
   intro ti to_ h
   unfold mp_lay.cn at h
   split at h
   ·obtain ⟨h,_⟩:=h;simp at h
   ·exact h.elim)
 | succ n ih =>
  have ih0:=ih
  exact meets (l:=mp_lay.env n) (all_cons ih0 (all_cons mp_put.ok (all_cons mp_unsigned.ok (all_cons mp_signed.ok (all_cons wr_Byte.ok (all_cons mp_sized.ok (all_cons wr_Raw.ok all_nil))))))) (mp_lay.chk n) (by
   intro ins outs h
   unfold mp_lay.cn at h
   split at h
   ·obtain ⟨hp,rfl⟩:=h;exact mp_lay.fit n _ _ _ _ _ _ hp
   ·exact h.elim)
theorem mp_lay.ok:KO 108 (mp_lay.c) mp_lay.sg:=spec_sub fun ti to_ h=>by
 unfold mp_lay.c at h
 split at h
 ·obtain ⟨hp,rfl⟩:=h;exact ⟨mp_lay.cn (_+1),(mlay.oks _),Bool.and_eq_true_iff.2 ⟨hp,decide_eq_true (Nat.lt_succ_self _)⟩,rfl⟩
 ·exact h.elim
theorem mp_Encode.fit (it9k:Int) (it9n:UInt64) (it9y:List UInt8) (it9t:Str) (it9d:List Itm) (hp:(decide (Itm.bulk (Itm.of (Itv.mk it9k it9n it9y it9t it9d))≤1073741824))=true):FT mp_Encode.d (envL tryzGl mp_Encode.env) [.ag [.i .i64 it9k,.u64 it9n,.sl .bs it9y,.s it9t,.sl .il it9d]] [(.sl .bs (Mp.enc (Itm.of (Itv.mk it9k it9n it9y it9t it9d)))),(.i .i64 (Mp.chk (Itm.of (Itv.mk it9k it9n it9y it9t it9d))))] :=
 ⟨by kernel_rfl,Eq.trans (b:=mp_Encode.F (Itv.mk it9k it9n it9y it9t it9d)) (by kernel_rfl) (Eq.trans (mp_Encode.goal (Itv.mk it9k it9n it9y it9t it9d) hp) (by kernel_rfl))⟩
theorem mp_Encode.ok:KO 93 (mp_Encode.c) mp_Encode.sg :=
 meets (l:=mp_Encode.env) (all_cons mp_Check.ok (all_cons cur_Lay.ok (all_cons mp_lay.ok (all_cons wr_Bytes.ok all_nil)))) mp_Encode.chk (by
   intro ins outs h
   unfold mp_Encode.c at h
   split at h
   ·obtain ⟨hp,rfl⟩:=h;exact mp_Encode.fit _ _ _ _ _ hp
   ·exact h.elim)
theorem mp_first.fit (c:Int) (hp:(decide (0≤c∧c≤255))=true):FT mp_first.d (envL tryzGl mp_first.env) [.i .i64 c] [(.i .i64 ((Mp.first c).1)),(.u64 ((Mp.first c).2.1)),(.i .i64 ((Mp.first c).2.2))] :=
 ⟨by kernel_rfl,Eq.trans (b:=mp_first.F c) (by kernel_rfl) (Eq.trans (mp_first.goal c hp) (by kernel_rfl))⟩
theorem mp_first.ok:KO 136 (mp_first.c) mp_first.sg :=
 meets (l:=mp_first.env) all_nil mp_first.chk (by
   intro ins outs h
   unfold mp_first.c at h
   split at h
   ·obtain ⟨hp,rfl⟩:=h;exact mp_first.fit _ hp
   ·exact h.elim)
theorem mp_number.fit (it9k:Int) (it9n:UInt64) (it9y:List UInt8) (it9t:Str) (it9d:List Itm) (p:Int) (c:Int) (f_at:Int) (f_end:Int):FT mp_number.d (envL tryzGl mp_number.env) [.ag [.i .i64 it9k,.u64 it9n,.sl .bs it9y,.s it9t,.sl .il it9d],.i .i64 p,.i .i64 c,.ag [.i .i64 f_at,.i .i64 f_end]] [(.ag (Itv.cells (Itm.val ((Mp.num (Itm.of (Itv.mk it9k it9n it9y it9t it9d)) p c ((Spn.mk f_at f_end)).at_ 0).it)))),(.ag (Flt.cells ((Flt.mk (Mp.num (Itm.of (Itv.mk it9k it9n it9y it9t it9d)) p c ((Spn.mk f_at f_end)).at_ 0).err (Mp.num (Itm.of (Itv.mk it9k it9n it9y it9t it9d)) p c ((Spn.mk f_at f_end)).at_ 0).at_ []))))] :=
 ⟨by kernel_rfl,Eq.trans (b:=mp_number.F (Itv.mk it9k it9n it9y it9t it9d) p c (Spn.mk f_at f_end)) (by kernel_rfl) (Eq.trans (mp_number.goal (Itv.mk it9k it9n it9y it9t it9d) p c (Spn.mk f_at f_end)) (by kernel_rfl))⟩
theorem mp_number.ok:KO 138 (mp_number.c) mp_number.sg :=
 meets (l:=mp_number.env) (all_cons mp_wrong.ok all_nil) mp_number.chk (by
   intro ins outs h
   unfold mp_number.c at h
   split at h
   ·cases h;exact mp_number.fit _ _ _ _ _ _ _ _ _
   ·exact h.elim)
theorem mp_number.okw:KO 138 (mp_number.cw) mp_number.sg:=spec_wk rfl (by decide) mp_number.ok
theorem mp_row.fit (r_b:List UInt8) (r_at:Int) (it9k:Int) (it9n:UInt64) (it9y:List UInt8) (it9t:Str) (it9d:List Itm) (p:Int) (n:Int) (hp:(Cur.good (Rdr.mk r_b r_at))=true):FT mp_row.d (envL tryzGl mp_row.env) [.ag [.sl .bs r_b,.i .i64 r_at],.ag [.i .i64 it9k,.u64 it9n,.sl .bs it9y,.s it9t,.sl .il it9d],.i .i64 p,.i .i64 n] [(.ag (Itv.cells (Itm.val ((Mp.row ((Rdr.mk r_b r_at)).b (Itm.of (Itv.mk it9k it9n it9y it9t it9d)) p ((Rdr.mk r_b r_at)).at_ n).it)))),(.ag (Flt.cells ((Flt.mk (Mp.row ((Rdr.mk r_b r_at)).b (Itm.of (Itv.mk it9k it9n it9y it9t it9d)) p ((Rdr.mk r_b r_at)).at_ n).err (Mp.row ((Rdr.mk r_b r_at)).b (Itm.of (Itv.mk it9k it9n it9y it9t it9d)) p ((Rdr.mk r_b r_at)).at_ n).at_ [])))),(.ag (Rdr.cells ((Rdr.mk ((Rdr.mk r_b r_at)).b (Mp.row ((Rdr.mk r_b r_at)).b (Itm.of (Itv.mk it9k it9n it9y it9t it9d)) p ((Rdr.mk r_b r_at)).at_ n).pos))))] :=
 ⟨by kernel_rfl,Eq.trans (b:=mp_row.F (Rdr.mk r_b r_at) (Itv.mk it9k it9n it9y it9t it9d) p n) (by kernel_rfl) (Eq.trans (mp_row.goal (Rdr.mk r_b r_at) (Itv.mk it9k it9n it9y it9t it9d) p n hp) (by kernel_rfl))⟩
theorem mp_row.ok:KO 140 (mp_row.c) mp_row.sg :=
 meets (l:=mp_row.env) (all_cons utf_Check.ok (all_cons mp_wrong.ok (all_cons rd_Take.ok all_nil))) mp_row.chk (by
   intro ins outs h
   unfold mp_row.c at h
   split at h
   ·obtain ⟨hp,rfl⟩:=h;exact mp_row.fit _ _ _ _ _ _ _ _ _ hp
   ·exact h.elim)
theorem mp_row.okw:KO 140 (mp_row.cw) mp_row.sg:=spec_wk rfl (by decide) mp_row.ok
theorem mp_kids.fit (n:Nat) (r_b:List UInt8) (r_at:Int) (it9k:Int) (it9n:UInt64) (it9t:Str) (m:Int) (depth:Int) (hp:((Cur.good (Rdr.mk r_b r_at)&&decide (0≤m∧m≤4294967296∧1≤depth∧depth≤1000))&&decide ((2 * (depth).toNat)<n+1))=true):FT mp_kids.d (envL tryzGl (mp_kids.env n)) [.ag [.sl .bs r_b,.i .i64 r_at],.ag [.i .i64 it9k,.u64 it9n,.c (.slice none 0 0),.s it9t,.c (.slice none 0 0)],.i .i64 m,.i .i64 depth] [(.ag (Itv.cells (Itm.val ((Mp.kids (Mp.read ((Rdr.mk r_b r_at)).b (depth - 1).toNat) (Itm.of (Itv.mk it9k it9n [] it9t [])) (Mp.many ((Itv.mk it9k it9n [] it9t [])).kind m) ((Rdr.mk r_b r_at)).at_).it)))),(.ag (Flt.cells ((Flt.mk (Mp.kids (Mp.read ((Rdr.mk r_b r_at)).b (depth - 1).toNat) (Itm.of (Itv.mk it9k it9n [] it9t [])) (Mp.many ((Itv.mk it9k it9n [] it9t [])).kind m) ((Rdr.mk r_b r_at)).at_).err (Mp.kids (Mp.read ((Rdr.mk r_b r_at)).b (depth - 1).toNat) (Itm.of (Itv.mk it9k it9n [] it9t [])) (Mp.many ((Itv.mk it9k it9n [] it9t [])).kind m) ((Rdr.mk r_b r_at)).at_).at_ [])))),(.ag (Rdr.cells ((Rdr.mk ((Rdr.mk r_b r_at)).b (Mp.kids (Mp.read ((Rdr.mk r_b r_at)).b (depth - 1).toNat) (Itm.of (Itv.mk it9k it9n [] it9t [])) (Mp.many ((Itv.mk it9k it9n [] it9t [])).kind m) ((Rdr.mk r_b r_at)).at_).pos))))] :=
 ⟨by kernel_rfl,Eq.trans (b:=mp_kids.F n (Rdr.mk r_b r_at) (Itv.mk it9k it9n [] it9t []) m depth) (by kernel_rfl) (Eq.trans (mp_kids.goal n (Rdr.mk r_b r_at) (Itv.mk it9k it9n [] it9t []) m depth hp) (by kernel_rfl))⟩
theorem mp_read.fit (n:Nat) (r_b:List UInt8) (r_at:Int) (depth:Int) (hp:((Cur.good (Rdr.mk r_b r_at)&&decide (0≤depth∧depth≤1000))&&decide ((2 * (depth).toNat+1)<n+1))=true):FT mp_read.d (envL tryzGl (mp_read.env n)) [.ag [.sl .bs r_b,.i .i64 r_at],.i .i64 depth] [(.ag (Itv.cells (Itm.val ((Mp.read ((Rdr.mk r_b r_at)).b (depth).toNat ((Rdr.mk r_b r_at)).at_).it)))),(.ag (Flt.cells ((Flt.mk (Mp.read ((Rdr.mk r_b r_at)).b (depth).toNat ((Rdr.mk r_b r_at)).at_).err (Mp.read ((Rdr.mk r_b r_at)).b (depth).toNat ((Rdr.mk r_b r_at)).at_).at_ [])))),(.ag (Rdr.cells ((Rdr.mk ((Rdr.mk r_b r_at)).b (Mp.read ((Rdr.mk r_b r_at)).b (depth).toNat ((Rdr.mk r_b r_at)).at_).pos))))] :=
 ⟨by kernel_rfl,Eq.trans (b:=mp_read.F n (Rdr.mk r_b r_at) depth) (by kernel_rfl) (Eq.trans (mp_read.goal n (Rdr.mk r_b r_at) depth hp) (by kernel_rfl))⟩
theorem mread.oks:∀n:Nat,(KO 139 (mp_kids.cn n) mp_kids.sg)∧(KO 120 (mp_read.cn n) mp_read.sg):=by
 intro n
 induction n with
 | zero=>exact ⟨spec_zero (by
   intro ti to_ h
   unfold mp_kids.cn at h
   split at h
   ·obtain ⟨h,_⟩:=h;simp at h
   ·exact h.elim),spec_zero (by
   intro ti to_ h
   unfold mp_read.cn at h
   split at h
   ·obtain ⟨h,_⟩:=h;simp at h
   ·exact h.elim)⟩
 | succ n ih =>
  obtain ⟨ih0,ih1⟩:=ih
  exact ⟨meets (l:=mp_kids.env n) (all_cons ih1 all_nil) (mp_kids.chk n) (by
   intro ins outs h
   unfold mp_kids.cn at h
   split at h
   ·obtain ⟨hp,rfl⟩:=h;exact mp_kids.fit n _ _ _ _ _ _ _ hp
   ·exact h.elim),meets (l:=mp_read.env n) (all_cons mp_wrong.ok (all_cons rd_At.ok (all_cons mp_unsigned.ok (all_cons mp_signed.ok (all_cons mp_sized.ok (all_cons rd_Byte.ok (all_cons mp_first.ok (all_cons rd_High.ok (all_cons mp_number.okw (all_cons ih0 (all_cons mp_row.okw all_nil))))))))))) (mp_read.chk n) (by
   intro ins outs h
   unfold mp_read.cn at h
   split at h
   ·obtain ⟨hp,rfl⟩:=h;exact mp_read.fit n _ _ _ hp
   ·exact h.elim)⟩
theorem mp_read.ok:KO 120 (mp_read.c) mp_read.sg:=spec_sub fun ti to_ h=>by
 unfold mp_read.c at h
 split at h
 ·obtain ⟨hp,rfl⟩:=h;exact ⟨mp_read.cn (_+1),(mread.oks _).2,Bool.and_eq_true_iff.2 ⟨hp,decide_eq_true (Nat.lt_succ_self _)⟩,rfl⟩
 ·exact h.elim
theorem mp_Decode.fit (b:List UInt8) (depth:Int) (hp:(decide ((b).length≤1099511627776))=true):FT mp_Decode.d (envL tryzGl mp_Decode.env) [.sl .bs b,.i .i64 depth] [(.ag (Itv.cells (Itm.val ((Mp.dec b depth).1)))),(.ag (Flt.cells ((Mp.dec b depth).2)))] :=
 ⟨by kernel_rfl,Eq.trans (b:=mp_Decode.F b depth) (by kernel_rfl) (Eq.trans (mp_Decode.goal b depth hp) (by kernel_rfl))⟩
theorem mp_Decode.ok:KO 103 (mp_Decode.c) mp_Decode.sg :=
 meets (l:=mp_Decode.env) (all_cons mp_wrong.ok (all_cons cur_New.ok (all_cons mp_read.ok (all_cons rd_Left.ok (all_cons rd_At.ok all_nil))))) mp_Decode.chk (by
   intro ins outs h
   unfold mp_Decode.c at h
   split at h
   ·obtain ⟨hp,rfl⟩:=h;exact mp_Decode.fit _ _ hp
   ·exact h.elim)
theorem ref1_PutLow.fit (v:UInt64) (n:Int) (hp:(decide (0≤n∧n≤8))=true):FT ref1_PutLow.d (envL tryzGl ref1_PutLow.env) [.u64 v,.i .i64 n] [(.sl .bs (Cur.putLow v (n).toNat))] :=
 ⟨by kernel_rfl,Eq.trans (b:=ref1_PutLow.F v n) (by kernel_rfl) (Eq.trans (ref1_PutLow.goal v n hp) (by kernel_rfl))⟩
theorem ref1_PutLow.ok:KO 80 (ref1_PutLow.c) ref1_PutLow.sg :=
 meets (l:=ref1_PutLow.env) all_nil ref1_PutLow.chk (by
   intro ins outs h
   unfold ref1_PutLow.c at h
   split at h
   ·obtain ⟨hp,rfl⟩:=h;exact ref1_PutLow.fit _ _ hp
   ·exact h.elim)
theorem ref1_PutHigh.fit (v:UInt64) (n:Int) (hp:(decide (0≤n∧n≤8))=true):FT ref1_PutHigh.d (envL tryzGl ref1_PutHigh.env) [.u64 v,.i .i64 n] [(.sl .bs (Cur.putHigh v (n).toNat))] :=
 ⟨by kernel_rfl,Eq.trans (b:=ref1_PutHigh.F v n) (by kernel_rfl) (Eq.trans (ref1_PutHigh.goal v n hp) (by kernel_rfl))⟩
theorem ref1_PutHigh.ok:KO 64 (ref1_PutHigh.c) ref1_PutHigh.sg :=
 meets (l:=ref1_PutHigh.env) (all_cons ref1_PutLow.ok all_nil) ref1_PutHigh.chk (by
   intro ins outs h
   unfold ref1_PutHigh.c at h
   split at h
   ·obtain ⟨hp,rfl⟩:=h;exact ref1_PutHigh.fit _ _ hp
   ·exact h.elim)
theorem ref29_wide.fit (n:UInt64):FT ref29_wide.d (envL tryzGl ref29_wide.env) [.u64 n] [(.i .i64 (Mp.wide n))] :=
 ⟨by kernel_rfl,Eq.trans (b:=ref29_wide.F n) (by kernel_rfl) (Eq.trans (ref29_wide.goal n) (by kernel_rfl))⟩
theorem ref29_wide.ok:KO 110 (ref29_wide.c) ref29_wide.sg :=
 meets (l:=ref29_wide.env) all_nil ref29_wide.chk (by
   intro ins outs h
   unfold ref29_wide.c at h
   split at h
   ·cases h;exact ref29_wide.fit _
   ·exact h.elim)
theorem ref29_step.fit (n:Int):FT ref29_step.d (envL tryzGl ref29_step.env) [.i .i64 n] [(.u8 (Mp.step n))] :=
 ⟨by kernel_rfl,Eq.trans (b:=ref29_step.F n) (by kernel_rfl) (Eq.trans (ref29_step.goal n) (by kernel_rfl))⟩
theorem ref29_step.ok:KO 111 (ref29_step.c) ref29_step.sg :=
 meets (l:=ref29_step.env) all_nil ref29_step.chk (by
   intro ins outs h
   unfold ref29_step.c at h
   split at h
   ·cases h;exact ref29_step.fit _
   ·exact h.elim)
theorem ref29_form.fit (f:UInt8) (n:UInt64) (least:Int) (hp:(decide (least≤8))=true):FT ref29_form.d (envL tryzGl ref29_form.env) [.u8 f,.u64 n,.i .i64 least] [(.sl .bs (Mp.form f n least))] :=
 ⟨by kernel_rfl,Eq.trans (b:=ref29_form.F f n least) (by kernel_rfl) (Eq.trans (ref29_form.goal f n least hp) (by kernel_rfl))⟩
theorem ref29_form.ok:KO 94 (ref29_form.c) ref29_form.sg :=
 meets (l:=ref29_form.env) (all_cons ref1_PutHigh.ok (all_cons ref29_wide.ok (all_cons ref29_step.ok all_nil))) ref29_form.chk (by
   intro ins outs h
   unfold ref29_form.c at h
   split at h
   ·obtain ⟨hp,rfl⟩:=h;exact ref29_form.fit _ _ _ hp
   ·exact h.elim)
theorem ref29_ext.fit (n:UInt64) (k:UInt64):FT ref29_ext.d (envL tryzGl ref29_ext.env) [.u64 n,.u64 k] [(.sl .bs (Mp.ext n k))] :=
 ⟨by kernel_rfl,Eq.trans (b:=ref29_ext.F n k) (by kernel_rfl) (Eq.trans (ref29_ext.goal n k) (by kernel_rfl))⟩
theorem ref29_ext.ok:KO 96 (ref29_ext.c) ref29_ext.sg :=
 meets (l:=ref29_ext.env) (all_cons ref29_form.ok all_nil) ref29_ext.chk (by
   intro ins outs h
   unfold ref29_ext.c at h
   split at h
   ·cases h;exact ref29_ext.fit _ _
   ·exact h.elim)
theorem ref29_negative.fit (n:UInt64):FT ref29_negative.d (envL tryzGl ref29_negative.env) [.u64 n] [(.sl .bs (Mp.put (Mp.signed n) (~~~ n)))] :=
 ⟨by kernel_rfl,Eq.trans (b:=ref29_negative.F n) (by kernel_rfl) (Eq.trans (ref29_negative.goal n) (by kernel_rfl))⟩
theorem ref29_negative.ok:KO 95 (ref29_negative.c) ref29_negative.sg :=
 meets (l:=ref29_negative.env) (all_cons ref1_PutHigh.ok all_nil) ref29_negative.chk (by
   intro ins outs h
   unfold ref29_negative.c at h
   split at h
   ·cases h;exact ref29_negative.fit _
   ·exact h.elim)
theorem ref29_head.fit (it9k:Int) (it9n:UInt64) (it9y:List UInt8) (it9t:Str) (it9d:List Itm) (hp:(decide (Itm.bulk (Itm.of (Itv.mk it9k it9n it9y it9t it9d))≤1099511627776)&&decide (Mp.own (Itm.of (Itv.mk it9k it9n it9y it9t it9d))=0))=true):FT ref29_head.d (envL tryzGl ref29_head.env) [.ag [.i .i64 it9k,.u64 it9n,.sl .bs it9y,.s it9t,.sl .il it9d]] [(.sl .bs (Mp.head (Itm.of (Itv.mk it9k it9n it9y it9t it9d))))] :=
 ⟨by kernel_rfl,Eq.trans (b:=ref29_head.F (Itv.mk it9k it9n it9y it9t it9d)) (by kernel_rfl) (Eq.trans (ref29_head.goal (Itv.mk it9k it9n it9y it9t it9d) hp) (by kernel_rfl))⟩
theorem ref29_head.ok:KO 79 (ref29_head.c) ref29_head.sg :=
 meets (l:=ref29_head.env) (all_cons ref1_PutHigh.ok (all_cons ref29_form.ok (all_cons ref29_negative.ok (all_cons ref29_ext.ok all_nil)))) ref29_head.chk (by
   intro ins outs h
   unfold ref29_head.c at h
   split at h
   ·obtain ⟨hp,rfl⟩:=h;exact ref29_head.fit _ _ _ _ _ hp
   ·exact h.elim)
theorem ref29_lay.fit (n:Nat) (it9k:Int) (it9n:UInt64) (it9y:List UInt8) (it9t:Str) (it9d:List Itm) (hp:((decide (16 * Itm.bulk (Itm.of (Itv.mk it9k it9n it9y it9t it9d))≤1099511627776)&&decide (Mp.chk (Itm.of (Itv.mk it9k it9n it9y it9t it9d))=0))&&decide ((Itm.bulk (Itm.of (Itv.mk it9k it9n it9y it9t it9d)))<n+1))=true):FT ref29_lay.d (envL tryzGl (ref29_lay.env n)) [.ag [.i .i64 it9k,.u64 it9n,.sl .bs it9y,.s it9t,.sl .il it9d]] [(.sl .bs (Mp.lay (Itm.of (Itv.mk it9k it9n it9y it9t it9d))))] :=
 ⟨by kernel_rfl,Eq.trans (b:=ref29_lay.F n (Itv.mk it9k it9n it9y it9t it9d)) (by kernel_rfl) (Eq.trans (ref29_lay.goal n (Itv.mk it9k it9n it9y it9t it9d) hp) (by kernel_rfl))⟩
theorem rlay29.oks:∀n:Nat,(KO 63 (ref29_lay.cn n) ref29_lay.sg):=by
 intro n
 induction n with
 | zero=>exact spec_zero (by
   intro ti to_ h
   unfold ref29_lay.cn at h
   split at h
   ·obtain ⟨h,_⟩:=h;simp at h
   ·exact h.elim)
 | succ n ih =>
  have ih0:=ih
  exact meets (l:=ref29_lay.env n) (all_cons ih0 (all_cons ref29_head.ok all_nil)) (ref29_lay.chk n) (by
   intro ins outs h
   unfold ref29_lay.cn at h
   split at h
   ·obtain ⟨hp,rfl⟩:=h;exact ref29_lay.fit n _ _ _ _ _ hp
   ·exact h.elim)
theorem ref29_lay.ok:KO 63 (ref29_lay.c) ref29_lay.sg:=spec_sub fun ti to_ h=>by
 unfold ref29_lay.c at h
 split at h
 ·obtain ⟨hp,rfl⟩:=h;exact ⟨ref29_lay.cn (_+1),(rlay29.oks _),Bool.and_eq_true_iff.2 ⟨hp,decide_eq_true (Nat.lt_succ_self _)⟩,rfl⟩
 ·exact h.elim
theorem ref5_Same.fit (f_err:Int) (f_at:Int) (f_path:List Int) (g_err:Int) (g_at:Int) (g_path:List Int) (hp:(decide (((Flt.mk f_err f_at f_path)).path.length≤1099511627776))=true):FT ref5_Same.d (envL tryzGl ref5_Same.env) [.ag [.i .i64 f_err,.i .i64 f_at,.sl .is f_path],.ag [.i .i64 g_err,.i .i64 g_at,.sl .is g_path]] [(.b (decide (((Flt.mk f_err f_at f_path)).err=((Flt.mk g_err g_at g_path)).err∧((Flt.mk f_err f_at f_path)).at_=((Flt.mk g_err g_at g_path)).at_∧((Flt.mk f_err f_at f_path)).path=((Flt.mk g_err g_at g_path)).path)))] :=
 ⟨by kernel_rfl,Eq.trans (b:=ref5_Same.F (Flt.mk f_err f_at f_path) (Flt.mk g_err g_at g_path)) (by kernel_rfl) (Eq.trans (ref5_Same.goal (Flt.mk f_err f_at f_path) (Flt.mk g_err g_at g_path) hp) (by kernel_rfl))⟩
theorem ref5_Same.ok:KO 11 (ref5_Same.c) ref5_Same.sg :=
 meets (l:=ref5_Same.env) (all_cons ref1_SameInts.ok all_nil) ref5_Same.chk (by
   intro ins outs h
   unfold ref5_Same.c at h
   split at h
   ·obtain ⟨hp,rfl⟩:=h;exact ref5_Same.fit _ _ _ _ _ _ hp
   ·exact h.elim)
theorem ref28_Same.fit (n:Nat) (a9k:Int) (a9n:UInt64) (a9y:List UInt8) (a9t:Str) (a9d:List Itm) (b9k:Int) (b9n:UInt64) (b9y:List UInt8) (b9t:Str) (b9d:List Itm) (hp:((decide (Itm.bulk (Itm.of (Itv.mk a9k a9n a9y a9t a9d))≤1099511627776))&&decide ((Itm.bulk (Itm.of (Itv.mk a9k a9n a9y a9t a9d)))<n+1))=true):FT ref28_Same.d (envL tryzGl (ref28_Same.env n)) [.ag [.i .i64 a9k,.u64 a9n,.sl .bs a9y,.s a9t,.sl .il a9d],.ag [.i .i64 b9k,.u64 b9n,.sl .bs b9y,.s b9t,.sl .il b9d]] [(.b (Itm.same (Itm.of (Itv.mk a9k a9n a9y a9t a9d)) (Itm.of (Itv.mk b9k b9n b9y b9t b9d))))] :=
 ⟨by kernel_rfl,Eq.trans (b:=ref28_Same.F n (Itv.mk a9k a9n a9y a9t a9d) (Itv.mk b9k b9n b9y b9t b9d)) (by kernel_rfl) (Eq.trans (ref28_Same.goal n (Itv.mk a9k a9n a9y a9t a9d) (Itv.mk b9k b9n b9y b9t b9d) hp) (by kernel_rfl))⟩
theorem rsame28.oks:∀n:Nat,(KO 12 (ref28_Same.cn n) ref28_Same.sg):=by
 intro n
 induction n with
 | zero=>exact spec_zero (by
   intro ti to_ h
   unfold ref28_Same.cn at h
   split at h
   ·obtain ⟨h,_⟩:=h;simp at h
   ·exact h.elim)
 | succ n ih =>
  have ih0:=ih
  exact meets (l:=ref28_Same.env n) (all_cons ih0 all_nil) (ref28_Same.chk n) (by
   intro ins outs h
   unfold ref28_Same.cn at h
   split at h
   ·obtain ⟨hp,rfl⟩:=h;exact ref28_Same.fit n _ _ _ _ _ _ _ _ _ _ hp
   ·exact h.elim)
theorem ref28_Same.ok:KO 12 (ref28_Same.c) ref28_Same.sg:=spec_sub fun ti to_ h=>by
 unfold ref28_Same.c at h
 split at h
 ·obtain ⟨hp,rfl⟩:=h;exact ⟨ref28_Same.cn (_+1),(rsame28.oks _),Bool.and_eq_true_iff.2 ⟨hp,decide_eq_true (Nat.lt_succ_self _)⟩,rfl⟩
 ·exact h.elim
theorem book_Room.fit (left:Int) (sizes:List Int) (hp:(decide (left≤10000∧sizes.length≤10)&&sizes.all (fun s=>decide (0≤s)))=true):FT book_Room.d (envL tryzGl book_Room.env) [.i .i64 left,.sl .is sizes] [(.i .i64 (Book.room left sizes))] :=
 ⟨by kernel_rfl,Eq.trans (b:=book_Room.F left sizes) (by kernel_rfl) (Eq.trans (book_Room.goal left sizes hp) (by kernel_rfl))⟩
theorem book_Room.ok:KO 34 (book_Room.c) book_Room.sg :=
 meets (l:=book_Room.env) all_nil book_Room.chk (by
   intro ins outs h
   unfold book_Room.c at h
   split at h
   ·obtain ⟨hp,rfl⟩:=h;exact book_Room.fit _ _ hp
   ·exact h.elim)
theorem sl_IndexByte.fit (s:Str) (c:UInt8):FT sl_IndexByte.d (envL tryzGl sl_IndexByte.env) [.s s,.u8 c] [(.i .i64 (Lib.indexByte s c))] :=
 ⟨by kernel_rfl,Eq.trans (b:=sl_IndexByte.F s c) (by kernel_rfl) (Eq.trans (sl_IndexByte.goal s c) (by kernel_rfl))⟩
theorem sl_IndexByte.ok:KO 98 (sl_IndexByte.c) sl_IndexByte.sg :=
 meets (l:=sl_IndexByte.env) all_nil sl_IndexByte.chk (by
   intro ins outs h
   unfold sl_IndexByte.c at h
   split at h
   ·cases h;exact sl_IndexByte.fit _ _
   ·exact h.elim)
theorem sl_Index.fit (s:Str) (t:Str) (hp:(decide (t.length=1))=true):FT sl_Index.d (envL tryzGl sl_Index.env) [.s s,.s t] [(.i .i64 (Lib.indexByte s (t.getD 0 0)))] :=
 ⟨by kernel_rfl,Eq.trans (b:=sl_Index.F s t) (by kernel_rfl) (Eq.trans (sl_Index.goal s t hp) (by kernel_rfl))⟩
theorem sl_Index.ok:KO 82 (sl_Index.c) sl_Index.sg :=
 meets (l:=sl_Index.env) (all_cons sl_IndexByte.ok all_nil) sl_Index.chk (by
   intro ins outs h
   unfold sl_Index.c at h
   split at h
   ·obtain ⟨hp,rfl⟩:=h;exact sl_Index.fit _ _ hp
   ·exact h.elim)
theorem st_Index.fit (s:Str) (t:Str) (hp:(decide (t.length=1))=true):FT st_Index.d (envL tryzGl st_Index.env) [.s s,.s t] [(.i .i64 (Lib.indexByte s (t.getD 0 0)))] :=
 ⟨by kernel_rfl,Eq.trans (b:=st_Index.F s t) (by kernel_rfl) (Eq.trans (st_Index.goal s t hp) (by kernel_rfl))⟩
theorem st_Index.ok:KO 68 (st_Index.c) st_Index.sg :=
 meets (l:=st_Index.env) (all_cons sl_Index.ok all_nil) st_Index.chk (by
   intro ins outs h
   unfold st_Index.c at h
   split at h
   ·obtain ⟨hp,rfl⟩:=h;exact st_Index.fit _ _ hp
   ·exact h.elim)
theorem st_Contains.fit (s:Str) (t:Str) (hp:(decide (t.length=1))=true):FT st_Contains.d (envL tryzGl st_Contains.env) [.s s,.s t] [(.b (decide (0≤Lib.indexByte s (t.getD 0 0))))] :=
 ⟨by kernel_rfl,Eq.trans (b:=st_Contains.F s t) (by kernel_rfl) (Eq.trans (st_Contains.goal s t hp) (by kernel_rfl))⟩
theorem st_Contains.ok:KO 43 (st_Contains.c) st_Contains.sg :=
 meets (l:=st_Contains.env) (all_cons st_Index.ok all_nil) st_Contains.chk (by
   intro ins outs h
   unfold st_Contains.c at h
   split at h
   ·obtain ⟨hp,rfl⟩:=h;exact st_Contains.fit _ _ hp
   ·exact h.elim)
theorem tree_Name.fit (k:Int):FT tree_Name.d (envL tryzGl tree_Name.env) [.i .i64 k] [(.s (Tree.name k))] :=
 ⟨by kernel_rfl,Eq.trans (b:=tree_Name.F k) (by kernel_rfl) (Eq.trans (tree_Name.goal k) (by kernel_rfl))⟩
theorem tree_Name.ok:KO 52 (tree_Name.c) tree_Name.sg :=
 meets (l:=tree_Name.env) all_nil tree_Name.chk (by
   intro ins outs h
   unfold tree_Name.c at h
   split at h
   ·cases h;exact tree_Name.fit _
   ·exact h.elim)
theorem tree_fields.fit (v9k:Int) (v9b:UInt64) (v9h:UInt64) (v9l:UInt64) (v9t:Str) (v9m:Str) (v9s:Int) (v9y:List UInt8) (v9d:List Fld):FT tree_fields.d (envL tryzGl tree_fields.env) [.ag [.i .i64 v9k,.u64 v9b,.u64 v9h,.u64 v9l,.s v9t,.s v9m,.i .i64 v9s,.sl .bs v9y,.sl .fl v9d]] [(.b (Tree.fieldsOK (Val.mk v9k v9b v9h v9l v9t v9m v9s v9y v9d)))] :=
 ⟨by kernel_rfl,Eq.trans (b:=tree_fields.F (Val.mk v9k v9b v9h v9l v9t v9m v9s v9y v9d)) (by kernel_rfl) (Eq.trans (tree_fields.goal (Val.mk v9k v9b v9h v9l v9t v9m v9s v9y v9d)) (by kernel_rfl))⟩
theorem tree_fields.ok:KO 53 (tree_fields.c) tree_fields.sg :=
 meets (l:=tree_fields.env) all_nil tree_fields.chk (by
   intro ins outs h
   unfold tree_fields.c at h
   split at h
   ·cases h;exact tree_fields.fit _ _ _ _ _ _ _ _ _
   ·exact h.elim)
theorem tree_whole.fit (s:Str) (plain:Bool) (hp:(decide (s.length≤1099511627776))=true):FT tree_whole.d (envL tryzGl tree_whole.env) [.s s,.b plain] [(.b (Tree.wholeT s plain))] :=
 ⟨by kernel_rfl,Eq.trans (b:=tree_whole.F s plain) (by kernel_rfl) (Eq.trans (tree_whole.goal s plain hp) (by kernel_rfl))⟩
theorem tree_whole.ok:KO 54 (tree_whole.c) tree_whole.sg :=
 meets (l:=tree_whole.env) (all_cons utf_Check.ok (all_cons st_Contains.ok all_nil)) tree_whole.chk (by
   intro ins outs h
   unfold tree_whole.c at h
   split at h
   ·obtain ⟨hp,rfl⟩:=h;exact tree_whole.fit _ _ hp
   ·exact h.elim)
theorem tree_check.fit (n:Nat) (v9k:Int) (v9b:UInt64) (v9h:UInt64) (v9l:UInt64) (v9t:Str) (v9m:Str) (v9s:Int) (v9y:List UInt8) (v9d:List Fld) (name:Str) (path:List Int) (hp:((decide (Fld.bulk (Fld.of name (Val.mk v9k v9b v9h v9l v9t v9m v9s v9y v9d))+path.length≤1099511627776))&&decide ((Fld.bulk (Fld.of name (Val.mk v9k v9b v9h v9l v9t v9m v9s v9y v9d)))<n+1))=true):FT tree_check.d (envL tryzGl (tree_check.env n)) [.ag [.i .i64 v9k,.u64 v9b,.u64 v9h,.u64 v9l,.s v9t,.s v9m,.i .i64 v9s,.sl .bs v9y,.sl .fl v9d],.s name,.sl .is path] [(.sl .is ((Tree.chkF (Fld.of name (Val.mk v9k v9b v9h v9l v9t v9m v9s v9y v9d)) path).1)),(.i .i64 ((Tree.chkF (Fld.of name (Val.mk v9k v9b v9h v9l v9t v9m v9s v9y v9d)) path).2))] :=
 ⟨by kernel_rfl,Eq.trans (b:=tree_check.F n (Val.mk v9k v9b v9h v9l v9t v9m v9s v9y v9d) name path) (by kernel_rfl) (Eq.trans (tree_check.goal n (Val.mk v9k v9b v9h v9l v9t v9m v9s v9y v9d) name path hp) (by kernel_rfl))⟩
theorem tcheck.oks:∀n:Nat,(KO 35 (tree_check.cn n) tree_check.sg):=by
 intro n
 induction n with
 | zero=>exact spec_zero (by
   intro ti to_ h
   unfold tree_check.cn at h
   split at h
   ·obtain ⟨h,_⟩:=h;simp at h
   ·exact h.elim)
 | succ n ih =>
  have ih0:=ih
  exact meets (l:=tree_check.env n) (all_cons ih0 (all_cons clone_is.ok (all_cons tree_Name.ok (all_cons tree_fields.ok (all_cons tree_whole.ok all_nil))))) (tree_check.chk n) (by
   intro ins outs h
   unfold tree_check.cn at h
   split at h
   ·obtain ⟨hp,rfl⟩:=h;exact tree_check.fit n _ _ _ _ _ _ _ _ _ _ _ hp
   ·exact h.elim)
theorem tree_check.ok:KO 35 (tree_check.c) tree_check.sg:=spec_sub fun ti to_ h=>by
 unfold tree_check.c at h
 split at h
 ·obtain ⟨hp,rfl⟩:=h;exact ⟨tree_check.cn (_+1),(tcheck.oks _),Bool.and_eq_true_iff.2 ⟨hp,decide_eq_true (Nat.lt_succ_self _)⟩,rfl⟩
 ·exact h.elim
theorem tree_Check.fit (v9k:Int) (v9b:UInt64) (v9h:UInt64) (v9l:UInt64) (v9t:Str) (v9m:Str) (v9s:Int) (v9y:List UInt8) (v9d:List Fld) (hp:(decide (Fld.bulk (Fld.of [] (Val.mk v9k v9b v9h v9l v9t v9m v9s v9y v9d))≤1099511627776))=true):FT tree_Check.d (envL tryzGl tree_Check.env) [.ag [.i .i64 v9k,.u64 v9b,.u64 v9h,.u64 v9l,.s v9t,.s v9m,.i .i64 v9s,.sl .bs v9y,.sl .fl v9d]] [(.sl .is ((Tree.chkF (Fld.of [] (Val.mk v9k v9b v9h v9l v9t v9m v9s v9y v9d)) []).1)),(.i .i64 ((Tree.chkF (Fld.of [] (Val.mk v9k v9b v9h v9l v9t v9m v9s v9y v9d)) []).2))] :=
 ⟨by kernel_rfl,Eq.trans (b:=tree_Check.F (Val.mk v9k v9b v9h v9l v9t v9m v9s v9y v9d)) (by kernel_rfl) (Eq.trans (tree_Check.goal (Val.mk v9k v9b v9h v9l v9t v9m v9s v9y v9d) hp) (by kernel_rfl))⟩
theorem tree_Check.ok:KO 20 (tree_Check.c) tree_Check.sg :=
 meets (l:=tree_Check.env) (all_cons tree_check.ok all_nil) tree_Check.chk (by
   intro ins outs h
   unfold tree_Check.c at h
   split at h
   ·obtain ⟨hp,rfl⟩:=h;exact tree_Check.fit _ _ _ _ _ _ _ _ _ hp
   ·exact h.elim)
theorem tree_Depth.fit (n:Nat) (v9k:Int) (v9b:UInt64) (v9h:UInt64) (v9l:UInt64) (v9t:Str) (v9m:Str) (v9s:Int) (v9y:List UInt8) (v9d:List Fld) (hp:((decide (Fld.bulk (Fld.of [] (Val.mk v9k v9b v9h v9l v9t v9m v9s v9y v9d))≤1099511627776))&&decide ((Fld.bulk (Fld.of [] (Val.mk v9k v9b v9h v9l v9t v9m v9s v9y v9d)))<n+1))=true):FT tree_Depth.d (envL tryzGl (tree_Depth.env n)) [.ag [.i .i64 v9k,.u64 v9b,.u64 v9h,.u64 v9l,.s v9t,.s v9m,.i .i64 v9s,.sl .bs v9y,.sl .fl v9d]] [(.i .i64 ((Tree.depth (Fld.of [] (Val.mk v9k v9b v9h v9l v9t v9m v9s v9y v9d)):Int)))] :=
 ⟨by kernel_rfl,Eq.trans (b:=tree_Depth.F n (Val.mk v9k v9b v9h v9l v9t v9m v9s v9y v9d)) (by kernel_rfl) (Eq.trans (tree_Depth.goal n (Val.mk v9k v9b v9h v9l v9t v9m v9s v9y v9d) hp) (by kernel_rfl))⟩
theorem tdepth.oks:∀n:Nat,(KO 21 (tree_Depth.cn n) tree_Depth.sg):=by
 intro n
 induction n with
 | zero=>exact spec_zero (by
   intro ti to_ h
   unfold tree_Depth.cn at h
   split at h
   ·obtain ⟨h,_⟩:=h;simp at h
   ·exact h.elim)
 | succ n ih =>
  have ih0:=ih
  exact meets (l:=tree_Depth.env n) (all_cons ih0 all_nil) (tree_Depth.chk n) (by
   intro ins outs h
   unfold tree_Depth.cn at h
   split at h
   ·obtain ⟨hp,rfl⟩:=h;exact tree_Depth.fit n _ _ _ _ _ _ _ _ _ hp
   ·exact h.elim)
theorem tree_Depth.ok:KO 21 (tree_Depth.c) tree_Depth.sg:=spec_sub fun ti to_ h=>by
 unfold tree_Depth.c at h
 split at h
 ·obtain ⟨hp,rfl⟩:=h;exact ⟨tree_Depth.cn (_+1),(tdepth.oks _),Bool.and_eq_true_iff.2 ⟨hp,decide_eq_true (Nat.lt_succ_self _)⟩,rfl⟩
 ·exact h.elim
theorem ref17_kinds.fit:([]:List TV).length=ref17_kinds.d.np∧ref17_kinds.d.run (envL tryzGl ref17_kinds.env) []=some (([(.sl .is (Tree.kinds))]:List TV)++ref17_kinds.d.ps.toList.map fun q=>([]:List TV).getD q.1 .dead) :=
 ⟨by kernel_rfl,Eq.trans (b:=ref17_kinds.F ) (by kernel_rfl) (Eq.trans (ref17_kinds.goal ) (by kernel_rfl))⟩
theorem ref17_kinds.ok:KO 92 (ref17_kinds.c) ref17_kinds.sg :=
 meets (l:=ref17_kinds.env) all_nil ref17_kinds.chk (by
   intro ins outs h
   unfold ref17_kinds.c at h
   split at h
   ·cases h;exact ref17_kinds.fit
   ·exact h.elim)
theorem ref17_Name.fit (k:Int):FT ref17_Name.d (envL tryzGl ref17_Name.env) [.i .i64 k] [(.s (Tree.name k))] :=
 ⟨by kernel_rfl,Eq.trans (b:=ref17_Name.F k) (by kernel_rfl) (Eq.trans (ref17_Name.goal k) (by kernel_rfl))⟩
theorem ref17_Name.ok:KO 75 (ref17_Name.c) ref17_Name.sg :=
 meets (l:=ref17_Name.env) (all_cons ref17_kinds.ok all_nil) ref17_Name.chk (by
   intro ins outs h
   unfold ref17_Name.c at h
   split at h
   ·cases h;exact ref17_Name.fit _
   ·exact h.elim)
theorem ref17_has.fit (k:Int):FT ref17_has.d (envL tryzGl ref17_has.env) [.i .i64 k] [(.b (Tree.hasN 0 k)),(.b (Tree.hasN 1 k)),(.b (Tree.hasN 2 k)),(.b (Tree.hasN 3 k)),(.b (Tree.hasN 4 k)),(.b (Tree.hasN 5 k)),(.b (Tree.hasN 6 k))] :=
 ⟨by kernel_rfl,Eq.trans (b:=ref17_has.F k) (by kernel_rfl) (Eq.trans (ref17_has.goal k) (by kernel_rfl))⟩
theorem ref17_has.ok:KO 76 (ref17_has.c) ref17_has.sg :=
 meets (l:=ref17_has.env) all_nil ref17_has.chk (by
   intro ins outs h
   unfold ref17_has.c at h
   split at h
   ·cases h;exact ref17_has.fit _
   ·exact h.elim)
theorem ref17_own.fit (v9k:Int) (v9b:UInt64) (v9h:UInt64) (v9l:UInt64) (v9t:Str) (v9m:Str) (v9s:Int) (v9y:List UInt8) (v9d:List Fld) (hp:(decide (Fld.bulk (Fld.of [] (Val.mk v9k v9b v9h v9l v9t v9m v9s v9y v9d))≤1099511627776))=true):FT ref17_own.d (envL tryzGl ref17_own.env) [.ag [.i .i64 v9k,.u64 v9b,.u64 v9h,.u64 v9l,.s v9t,.s v9m,.i .i64 v9s,.sl .bs v9y,.sl .fl v9d]] [(.i .i64 (Tree.own (Val.mk v9k v9b v9h v9l v9t v9m v9s v9y v9d)))] :=
 ⟨by kernel_rfl,Eq.trans (b:=ref17_own.F (Val.mk v9k v9b v9h v9l v9t v9m v9s v9y v9d)) (by kernel_rfl) (Eq.trans (ref17_own.goal (Val.mk v9k v9b v9h v9l v9t v9m v9s v9y v9d) hp) (by kernel_rfl))⟩
theorem ref17_own.ok:KO 49 (ref17_own.c) ref17_own.sg :=
 meets (l:=ref17_own.env) (all_cons ref2_Zero.ok (all_cons ref2_Whole.ok (all_cons ref17_Name.ok (all_cons ref17_has.ok all_nil)))) ref17_own.chk (by
   intro ins outs h
   unfold ref17_own.c at h
   split at h
   ·obtain ⟨hp,rfl⟩:=h;exact ref17_own.fit _ _ _ _ _ _ _ _ _ hp
   ·exact h.elim)
theorem ref17_Named.fit (s:Str) (hp:(decide (s.length≤1099511627776))=true):FT ref17_Named.d (envL tryzGl ref17_Named.env) [.s s] [(.b (Tree.wholeT s true))] :=
 ⟨by kernel_rfl,Eq.trans (b:=ref17_Named.F s) (by kernel_rfl) (Eq.trans (ref17_Named.goal s hp) (by kernel_rfl))⟩
theorem ref17_Named.ok:KO 50 (ref17_Named.c) ref17_Named.sg :=
 meets (l:=ref17_Named.env) (all_cons ref2_Zero.ok (all_cons ref2_Whole.ok all_nil)) ref17_Named.chk (by
   intro ins outs h
   unfold ref17_Named.c at h
   split at h
   ·obtain ⟨hp,rfl⟩:=h;exact ref17_Named.fit _ hp
   ·exact h.elim)
theorem ref17_longer.fit (p:List Int) (k:Int) (hp:(decide (p.length≤1099511627776))=true):FT ref17_longer.d (envL tryzGl ref17_longer.env) [.sl .is p,.i .i64 k] [(.sl .is ((p++[k])))] :=
 ⟨by kernel_rfl,Eq.trans (b:=ref17_longer.F p k) (by kernel_rfl) (Eq.trans (ref17_longer.goal p k hp) (by kernel_rfl))⟩
theorem ref17_longer.ok:KO 51 (ref17_longer.c) ref17_longer.sg :=
 meets (l:=ref17_longer.env) all_nil ref17_longer.chk (by
   intro ins outs h
   unfold ref17_longer.c at h
   split at h
   ·obtain ⟨hp,rfl⟩:=h;exact ref17_longer.fit _ _ hp
   ·exact h.elim)
theorem ref17_check.fit (n:Nat) (v9k:Int) (v9b:UInt64) (v9h:UInt64) (v9l:UInt64) (v9t:Str) (v9m:Str) (v9s:Int) (v9y:List UInt8) (v9d:List Fld) (name:Str) (p:List Int) (hp:((decide (Fld.bulk (Fld.of name (Val.mk v9k v9b v9h v9l v9t v9m v9s v9y v9d))+p.length≤1099511627776))&&decide ((Fld.bulk (Fld.of name (Val.mk v9k v9b v9h v9l v9t v9m v9s v9y v9d)))<n+1))=true):FT ref17_check.d (envL tryzGl (ref17_check.env n)) [.ag [.i .i64 v9k,.u64 v9b,.u64 v9h,.u64 v9l,.s v9t,.s v9m,.i .i64 v9s,.sl .bs v9y,.sl .fl v9d],.s name,.sl .is p] [(.sl .is ((Tree.chkF (Fld.of name (Val.mk v9k v9b v9h v9l v9t v9m v9s v9y v9d)) p).1)),(.i .i64 ((Tree.chkF (Fld.of name (Val.mk v9k v9b v9h v9l v9t v9m v9s v9y v9d)) p).2))] :=
 ⟨by kernel_rfl,Eq.trans (b:=ref17_check.F n (Val.mk v9k v9b v9h v9l v9t v9m v9s v9y v9d) name p) (by kernel_rfl) (Eq.trans (ref17_check.goal n (Val.mk v9k v9b v9h v9l v9t v9m v9s v9y v9d) name p hp) (by kernel_rfl))⟩
theorem rcheck.oks:∀n:Nat,(KO 33 (ref17_check.cn n) ref17_check.sg):=by
 intro n
 induction n with
 | zero=>exact spec_zero (by
   intro ti to_ h
   unfold ref17_check.cn at h
   split at h
   ·obtain ⟨h,_⟩:=h;simp at h
   ·exact h.elim)
 | succ n ih =>
  have ih0:=ih
  exact meets (l:=ref17_check.env n) (all_cons ih0 (all_cons ref17_own.ok (all_cons ref17_Named.ok (all_cons ref17_longer.ok all_nil)))) (ref17_check.chk n) (by
   intro ins outs h
   unfold ref17_check.cn at h
   split at h
   ·obtain ⟨hp,rfl⟩:=h;exact ref17_check.fit n _ _ _ _ _ _ _ _ _ _ _ hp
   ·exact h.elim)
theorem ref17_check.ok:KO 33 (ref17_check.c) ref17_check.sg:=spec_sub fun ti to_ h=>by
 unfold ref17_check.c at h
 split at h
 ·obtain ⟨hp,rfl⟩:=h;exact ⟨ref17_check.cn (_+1),(rcheck.oks _),Bool.and_eq_true_iff.2 ⟨hp,decide_eq_true (Nat.lt_succ_self _)⟩,rfl⟩
 ·exact h.elim
theorem ref17_Check.fit (v9k:Int) (v9b:UInt64) (v9h:UInt64) (v9l:UInt64) (v9t:Str) (v9m:Str) (v9s:Int) (v9y:List UInt8) (v9d:List Fld) (hp:(decide (Fld.bulk (Fld.of [] (Val.mk v9k v9b v9h v9l v9t v9m v9s v9y v9d))≤1099511627776))=true):FT ref17_Check.d (envL tryzGl ref17_Check.env) [.ag [.i .i64 v9k,.u64 v9b,.u64 v9h,.u64 v9l,.s v9t,.s v9m,.i .i64 v9s,.sl .bs v9y,.sl .fl v9d]] [(.sl .is ((Tree.chkF (Fld.of [] (Val.mk v9k v9b v9h v9l v9t v9m v9s v9y v9d)) []).1)),(.i .i64 ((Tree.chkF (Fld.of [] (Val.mk v9k v9b v9h v9l v9t v9m v9s v9y v9d)) []).2))] :=
 ⟨by kernel_rfl,Eq.trans (b:=ref17_Check.F (Val.mk v9k v9b v9h v9l v9t v9m v9s v9y v9d)) (by kernel_rfl) (Eq.trans (ref17_Check.goal (Val.mk v9k v9b v9h v9l v9t v9m v9s v9y v9d) hp) (by kernel_rfl))⟩
theorem ref17_Check.ok:KO 18 (ref17_Check.c) ref17_Check.sg :=
 meets (l:=ref17_Check.env) (all_cons ref17_check.ok all_nil) ref17_Check.chk (by
   intro ins outs h
   unfold ref17_Check.c at h
   split at h
   ·obtain ⟨hp,rfl⟩:=h;exact ref17_Check.fit _ _ _ _ _ _ _ _ _ hp
   ·exact h.elim)
theorem book_Value.fit (n:Nat) (left:Int) (v9k:Int) (v9b:UInt64) (v9h:UInt64) (v9l:UInt64) (v9t:Str) (v9m:Str) (v9s:Int) (v9y:List UInt8) (v9d:List Fld) (hp:((decide (left≤10000))&&decide ((Fld.bulk (Fld.of [] (Val.mk v9k v9b v9h v9l v9t v9m v9s v9y v9d)))<n+1))=true):FT book_Value.d (envL tryzGl (book_Value.env n)) [.i .i64 left,.ag [.i .i64 v9k,.u64 v9b,.u64 v9h,.u64 v9l,.s v9t,.s v9m,.i .i64 v9s,.sl .bs v9y,.sl .fl v9d]] [(.i .i64 (Book.value left (Fld.of [] (Val.mk v9k v9b v9h v9l v9t v9m v9s v9y v9d))))] :=
 ⟨by kernel_rfl,Eq.trans (b:=book_Value.F n left (Val.mk v9k v9b v9h v9l v9t v9m v9s v9y v9d)) (by kernel_rfl) (Eq.trans (book_Value.goal n left (Val.mk v9k v9b v9h v9l v9t v9m v9s v9y v9d) hp) (by kernel_rfl))⟩
theorem bvalue.oks:∀n:Nat,(KO 19 (book_Value.cn n) book_Value.sg):=by
 intro n
 induction n with
 | zero=>exact spec_zero (by
   intro ti to_ h
   unfold book_Value.cn at h
   split at h
   ·obtain ⟨h,_⟩:=h;simp at h
   ·exact h.elim)
 | succ n ih =>
  have ih0:=ih
  exact meets (l:=book_Value.env n) (all_cons ih0 (all_cons book_Room.ok all_nil)) (book_Value.chk n) (by
   intro ins outs h
   unfold book_Value.cn at h
   split at h
   ·obtain ⟨hp,rfl⟩:=h;exact book_Value.fit n _ _ _ _ _ _ _ _ _ _ hp
   ·exact h.elim)
theorem book_Value.ok:KO 19 (book_Value.c) book_Value.sg:=spec_sub fun ti to_ h=>by
 unfold book_Value.c at h
 split at h
 ·obtain ⟨hp,rfl⟩:=h;exact ⟨book_Value.cn (_+1),(bvalue.oks _),Bool.and_eq_true_iff.2 ⟨hp,decide_eq_true (Nat.lt_succ_self _)⟩,rfl⟩
 ·exact h.elim
theorem book_Small.fit (v9k:Int) (v9b:UInt64) (v9h:UInt64) (v9l:UInt64) (v9t:Str) (v9m:Str) (v9s:Int) (v9y:List UInt8) (v9d:List Fld):FT book_Small.d (envL tryzGl book_Small.env) [.ag [.i .i64 v9k,.u64 v9b,.u64 v9h,.u64 v9l,.s v9t,.s v9m,.i .i64 v9s,.sl .bs v9y,.sl .fl v9d]] [(.b (decide (0≤Book.value 1200 (Fld.of [] (Val.mk v9k v9b v9h v9l v9t v9m v9s v9y v9d)))))] :=
 ⟨by kernel_rfl,Eq.trans (b:=book_Small.F (Val.mk v9k v9b v9h v9l v9t v9m v9s v9y v9d)) (by kernel_rfl) (Eq.trans (book_Small.goal (Val.mk v9k v9b v9h v9l v9t v9m v9s v9y v9d)) (by kernel_rfl))⟩
theorem book_Small.ok:KO 8 (book_Small.c) book_Small.sg :=
 meets (l:=book_Small.env) (all_cons book_Value.ok all_nil) book_Small.chk (by
   intro ins outs h
   unfold book_Small.c at h
   split at h
   ·cases h;exact book_Small.fit _ _ _ _ _ _ _ _ _
   ·exact h.elim)
theorem ref5_Digits.fit (v:UInt64):FT ref5_Digits.d (envL tryzGl ref5_Digits.env) [.u64 v] [(.s (digs (v).toNat))] :=
 ⟨by kernel_rfl,Eq.trans (b:=ref5_Digits.F v) (by kernel_rfl) (Eq.trans (ref5_Digits.goal v) (by kernel_rfl))⟩
theorem ref5_Digits.ok:KO 73 (ref5_Digits.c) ref5_Digits.sg :=
 meets (l:=ref5_Digits.env) all_nil ref5_Digits.chk (by
   intro ins outs h
   unfold ref5_Digits.c at h
   split at h
   ·cases h;exact ref5_Digits.fit _
   ·exact h.elim)
theorem ref17_Kids.fit (k:Int):FT ref17_Kids.d (envL tryzGl ref17_Kids.env) [.i .i64 k] [(.b (decide (k=3∨k=4∨k=15)))] :=
 ⟨by kernel_rfl,Eq.trans (b:=ref17_Kids.F k) (by kernel_rfl) (Eq.trans (ref17_Kids.goal k) (by kernel_rfl))⟩
theorem ref17_Kids.ok:KO 32 (ref17_Kids.c) ref17_Kids.sg :=
 meets (l:=ref17_Kids.env) all_nil ref17_Kids.chk (by
   intro ins outs h
   unfold ref17_Kids.c at h
   split at h
   ·cases h;exact ref17_Kids.fit _
   ·exact h.elim)
theorem ref17_Depth.fit (n:Nat) (v9k:Int) (v9b:UInt64) (v9h:UInt64) (v9l:UInt64) (v9t:Str) (v9m:Str) (v9s:Int) (v9y:List UInt8) (v9d:List Fld) (hp:((decide (Fld.bulk (Fld.of [] (Val.mk v9k v9b v9h v9l v9t v9m v9s v9y v9d))≤1099511627776))&&decide ((Fld.bulk (Fld.of [] (Val.mk v9k v9b v9h v9l v9t v9m v9s v9y v9d)))<n+1))=true):FT ref17_Depth.d (envL tryzGl (ref17_Depth.env n)) [.ag [.i .i64 v9k,.u64 v9b,.u64 v9h,.u64 v9l,.s v9t,.s v9m,.i .i64 v9s,.sl .bs v9y,.sl .fl v9d]] [(.i .i64 ((Tree.depth (Fld.of [] (Val.mk v9k v9b v9h v9l v9t v9m v9s v9y v9d)):Int)))] :=
 ⟨by kernel_rfl,Eq.trans (b:=ref17_Depth.F n (Val.mk v9k v9b v9h v9l v9t v9m v9s v9y v9d)) (by kernel_rfl) (Eq.trans (ref17_Depth.goal n (Val.mk v9k v9b v9h v9l v9t v9m v9s v9y v9d) hp) (by kernel_rfl))⟩
theorem rdepth.oks:∀n:Nat,(KO 17 (ref17_Depth.cn n) ref17_Depth.sg):=by
 intro n
 induction n with
 | zero=>exact spec_zero (by
   intro ti to_ h
   unfold ref17_Depth.cn at h
   split at h
   ·obtain ⟨h,_⟩:=h;simp at h
   ·exact h.elim)
 | succ n ih =>
  have ih0:=ih
  exact meets (l:=ref17_Depth.env n) (all_cons ih0 (all_cons ref17_Kids.ok all_nil)) (ref17_Depth.chk n) (by
   intro ins outs h
   unfold ref17_Depth.cn at h
   split at h
   ·obtain ⟨hp,rfl⟩:=h;exact ref17_Depth.fit n _ _ _ _ _ _ _ _ _ hp
   ·exact h.elim)
theorem ref17_Depth.ok:KO 17 (ref17_Depth.c) ref17_Depth.sg:=spec_sub fun ti to_ h=>by
 unfold ref17_Depth.c at h
 split at h
 ·obtain ⟨hp,rfl⟩:=h;exact ⟨ref17_Depth.cn (_+1),(rdepth.oks _),Bool.and_eq_true_iff.2 ⟨hp,decide_eq_true (Nat.lt_succ_self _)⟩,rfl⟩
 ·exact h.elim
theorem tree_Regular.fit (l:List Fld) (hp:(decide (l.length≤1099511627776))=true):FT tree_Regular.d (envL tryzGl tree_Regular.env) [.sl .fl l] [(.b (Tree.regular l))] :=
 ⟨by kernel_rfl,Eq.trans (b:=tree_Regular.F l) (by kernel_rfl) (Eq.trans (tree_Regular.goal l hp) (by kernel_rfl))⟩
theorem tree_Regular.ok:KO 55 (tree_Regular.c) tree_Regular.sg :=
 meets (l:=tree_Regular.env) (all_cons sc_Itoa.ok all_nil) tree_Regular.chk (by
   intro ins outs h
   unfold tree_Regular.c at h
   split at h
   ·obtain ⟨hp,rfl⟩:=h;exact tree_Regular.fit _ hp
   ·exact h.elim)
theorem ref17_Regular.fit (l:List Fld) (hp:(decide (l.length≤1099511627776))=true):FT ref17_Regular.d (envL tryzGl ref17_Regular.env) [.sl .fl l] [(.b (Tree.regular l))] :=
 ⟨by kernel_rfl,Eq.trans (b:=ref17_Regular.F l) (by kernel_rfl) (Eq.trans (ref17_Regular.goal l hp) (by kernel_rfl))⟩
theorem ref17_Regular.ok:KO 61 (ref17_Regular.c) ref17_Regular.sg :=
 meets (l:=ref17_Regular.env) (all_cons ref5_Digits.ok all_nil) ref17_Regular.chk (by
   intro ins outs h
   unfold ref17_Regular.c at h
   split at h
   ·obtain ⟨hp,rfl⟩:=h;exact ref17_Regular.fit _ hp
   ·exact h.elim)
theorem ref28_Integer.fit (n:Int) (hp:(decide (-9223372036854775808≤n∧n≤9223372036854775807))=true):FT ref28_Integer.d (envL tryzGl ref28_Integer.env) [.i .i64 n] [(.ag (Itv.cells (Itm.val (Db.integer n))))] :=
 ⟨by kernel_rfl,Eq.trans (b:=ref28_Integer.F n) (by kernel_rfl) (Eq.trans (ref28_Integer.goal n hp) (by kernel_rfl))⟩
theorem ref28_Integer.ok:KO 65 (ref28_Integer.c) ref28_Integer.sg :=
 meets (l:=ref28_Integer.env) all_nil ref28_Integer.chk (by
   intro ins outs h
   unfold ref28_Integer.c at h
   split at h
   ·obtain ⟨hp,rfl⟩:=h;exact ref28_Integer.fit _ hp
   ·exact h.elim)
theorem sl_Cut.fit (s:Str) (t:Str) (hp:(decide (t.length=1∧s.length≤1099511627776))=true):FT sl_Cut.d (envL tryzGl sl_Cut.env) [.s s,.s t] [(.s ((Dk.cut s (t.getD 0 0)).1)),(.s ((Dk.cut s (t.getD 0 0)).2.1)),(.b ((Dk.cut s (t.getD 0 0)).2.2))] :=
 ⟨by kernel_rfl,Eq.trans (b:=sl_Cut.F s t) (by kernel_rfl) (Eq.trans (sl_Cut.goal s t hp) (by kernel_rfl))⟩
theorem sl_Cut.ok:KO 104 (sl_Cut.c) sl_Cut.sg :=
 meets (l:=sl_Cut.env) (all_cons sl_Index.ok all_nil) sl_Cut.chk (by
   intro ins outs h
   unfold sl_Cut.c at h
   split at h
   ·obtain ⟨hp,rfl⟩:=h;exact sl_Cut.fit _ _ hp
   ·exact h.elim)
theorem st_Cut.fit (s:Str) (t:Str) (hp:(decide (t.length=1∧s.length≤1099511627776))=true):FT st_Cut.d (envL tryzGl st_Cut.env) [.s s,.s t] [(.s ((Dk.cut s (t.getD 0 0)).1)),(.s ((Dk.cut s (t.getD 0 0)).2.1)),(.b ((Dk.cut s (t.getD 0 0)).2.2))] :=
 ⟨by kernel_rfl,Eq.trans (b:=st_Cut.F s t) (by kernel_rfl) (Eq.trans (st_Cut.goal s t hp) (by kernel_rfl))⟩
theorem st_Cut.ok:KO 87 (st_Cut.c) st_Cut.sg :=
 meets (l:=st_Cut.env) (all_cons sl_Cut.ok all_nil) st_Cut.chk (by
   intro ins outs h
   unfold st_Cut.c at h
   split at h
   ·obtain ⟨hp,rfl⟩:=h;exact st_Cut.fit _ _ hp
   ·exact h.elim)
theorem dk_text.fit (s:Str):FT dk_text.d (envL tryzGl dk_text.env) [.s s] [(.ag (Itv.cells (Itm.val (Db.text s))))] :=
 ⟨by kernel_rfl,Eq.trans (b:=dk_text.F s) (by kernel_rfl) (Eq.trans (dk_text.goal s) (by kernel_rfl))⟩
theorem dk_text.ok:KO 36 (dk_text.c) dk_text.sg :=
 meets (l:=dk_text.env) all_nil dk_text.chk (by
   intro ins outs h
   unfold dk_text.c at h
   split at h
   ·cases h;exact dk_text.fit _
   ·exact h.elim)
theorem dk_simple.fit (n:UInt64):FT dk_simple.d (envL tryzGl dk_simple.env) [.u64 n] [(.ag (Itv.cells (Itm.val (Db.simple n))))] :=
 ⟨by kernel_rfl,Eq.trans (b:=dk_simple.F n) (by kernel_rfl) (Eq.trans (dk_simple.goal n) (by kernel_rfl))⟩
theorem dk_simple.ok:KO 57 (dk_simple.c) dk_simple.sg :=
 meets (l:=dk_simple.env) all_nil dk_simple.chk (by
   intro ins outs h
   unfold dk_simple.c at h
   split at h
   ·cases h;exact dk_simple.fit _
   ·exact h.elim)
theorem dk_high.fit (v:UInt64) (n:Int) (hp:(decide (0≤n∧n≤8))=true):FT dk_high.d (envL tryzGl dk_high.env) [.u64 v,.i .i64 n] [(.sl .bs (Cur.putHigh v (n).toNat))] :=
 ⟨by kernel_rfl,Eq.trans (b:=dk_high.F v n) (by kernel_rfl) (Eq.trans (dk_high.goal v n hp) (by kernel_rfl))⟩
theorem dk_high.ok:KO 78 (dk_high.c) dk_high.sg :=
 meets (l:=dk_high.env) all_nil dk_high.chk (by
   intro ins outs h
   unfold dk_high.c at h
   split at h
   ·obtain ⟨hp,rfl⟩:=h;exact dk_high.fit _ _ hp
   ·exact h.elim)
theorem dk_integer.fit (v:Int) (hp:(decide (-9223372036854775808≤v∧v≤9223372036854775807))=true):FT dk_integer.d (envL tryzGl dk_integer.env) [.i .i64 v] [(.ag (Itv.cells (Itm.val (Db.integer v))))] :=
 ⟨by kernel_rfl,Eq.trans (b:=dk_integer.F v) (by kernel_rfl) (Eq.trans (dk_integer.goal v hp) (by kernel_rfl))⟩
theorem dk_integer.ok:KO 58 (dk_integer.c) dk_integer.sg :=
 meets (l:=dk_integer.env) all_nil dk_integer.chk (by
   intro ins outs h
   unfold dk_integer.c at h
   split at h
   ·obtain ⟨hp,rfl⟩:=h;exact dk_integer.fit _ hp
   ·exact h.elim)
theorem dk_sort.fit (k:Int):FT dk_sort.d (envL tryzGl dk_sort.env) [.i .i64 k] [(.u64 (Dk.sort k))] :=
 ⟨by kernel_rfl,Eq.trans (b:=dk_sort.F k) (by kernel_rfl) (Eq.trans (dk_sort.goal k) (by kernel_rfl))⟩
theorem dk_sort.ok:KO 59 (dk_sort.c) dk_sort.sg :=
 meets (l:=dk_sort.env) all_nil dk_sort.chk (by
   intro ins outs h
   unfold dk_sort.c at h
   split at h
   ·cases h;exact dk_sort.fit _
   ·exact h.elim)
theorem dk_mapped.fit (n:Nat) (l:List Fld) (hp:((decide (Fld.bulks l≤1048576)&&Tree.fines l)&&decide ((4 * Fld.bulks l+3)<n+1))=true):FT dk_mapped.d (envL tryzGl (dk_mapped.env n)) [.sl .fl l] [(.ag (Itv.cells (Itm.val (Db.map (Dk.mapped l)))))] :=
 ⟨by kernel_rfl,Eq.trans (b:=dk_mapped.F n l) (by kernel_rfl) (Eq.trans (dk_mapped.goal n l hp) (by kernel_rfl))⟩
theorem dk_laid.fit (n:Nat) (l:List Fld) (hp:((decide (Fld.bulks l≤1048576)&&Tree.fines l)&&decide ((4 * Fld.bulks l+4)<n+1))=true):FT dk_laid.d (envL tryzGl (dk_laid.env n)) [.sl .fl l] [(.sl .bs (Mp.lay (Db.map (Dk.mapped l))))] :=
 ⟨by kernel_rfl,Eq.trans (b:=dk_laid.F n l) (by kernel_rfl) (Eq.trans (dk_laid.goal n l hp) (by kernel_rfl))⟩
theorem dk_item.fit (n:Nat) (v9k:Int) (v9b:UInt64) (v9h:UInt64) (v9l:UInt64) (v9t:Str) (v9m:Str) (v9s:Int) (v9y:List UInt8) (v9d:List Fld) (hp:((decide (Fld.bulk (Fld.of [] (Val.mk v9k v9b v9h v9l v9t v9m v9s v9y v9d))≤1048576)&&Tree.fine (Fld.of [] (Val.mk v9k v9b v9h v9l v9t v9m v9s v9y v9d)))&&decide ((4 * Fld.bulk (Fld.of [] (Val.mk v9k v9b v9h v9l v9t v9m v9s v9y v9d))+2)<n+1))=true):FT dk_item.d (envL tryzGl (dk_item.env n)) [.ag [.i .i64 v9k,.u64 v9b,.u64 v9h,.u64 v9l,.s v9t,.s v9m,.i .i64 v9s,.sl .bs v9y,.sl .fl v9d]] [(.ag (Itv.cells (Itm.val (Dk.item (Fld.of [] (Val.mk v9k v9b v9h v9l v9t v9m v9s v9y v9d))))))] :=
 ⟨by kernel_rfl,Eq.trans (b:=dk_item.F n (Val.mk v9k v9b v9h v9l v9t v9m v9s v9y v9d)) (by kernel_rfl) (Eq.trans (dk_item.goal n (Val.mk v9k v9b v9h v9l v9t v9m v9s v9y v9d) hp) (by kernel_rfl))⟩
theorem dk_inner.fit (n:Nat) (v9k:Int) (v9b:UInt64) (v9h:UInt64) (v9l:UInt64) (v9t:Str) (v9m:Str) (v9s:Int) (v9y:List UInt8) (v9d:List Fld) (hp:((decide (Fld.bulk (Fld.of [] (Val.mk v9k v9b v9h v9l v9t v9m v9s v9y v9d))≤1048576)&&Tree.fine (Fld.of [] (Val.mk v9k v9b v9h v9l v9t v9m v9s v9y v9d)))&&decide ((4 * Fld.bulk (Fld.of [] (Val.mk v9k v9b v9h v9l v9t v9m v9s v9y v9d))+1)<n+1))=true):FT dk_inner.d (envL tryzGl (dk_inner.env n)) [.ag [.i .i64 v9k,.u64 v9b,.u64 v9h,.u64 v9l,.s v9t,.s v9m,.i .i64 v9s,.sl .bs v9y,.sl .fl v9d]] [(.sl .bs (Dk.inner (Val.mk v9k v9b v9h v9l v9t v9m v9s v9y v9d) (Mp.lay (Db.map (Dk.mapped ((Val.mk v9k v9b v9h v9l v9t v9m v9s v9y v9d)).kids)))))] :=
 ⟨by kernel_rfl,Eq.trans (b:=dk_inner.F n (Val.mk v9k v9b v9h v9l v9t v9m v9s v9y v9d)) (by kernel_rfl) (Eq.trans (dk_inner.goal n (Val.mk v9k v9b v9h v9l v9t v9m v9s v9y v9d) hp) (by kernel_rfl))⟩
theorem dkitem.oks:∀n:Nat,(KO 22 (dk_mapped.cn n) dk_mapped.sg)∧(KO 77 (dk_laid.cn n) dk_laid.sg)∧(KO 37 (dk_item.cn n) dk_item.sg)∧(KO 60 (dk_inner.cn n) dk_inner.sg):=by
 intro n
 induction n with
 | zero=>exact ⟨spec_zero (by
   intro ti to_ h
   unfold dk_mapped.cn at h
   split at h
   ·obtain ⟨h,_⟩:=h;simp at h
   ·exact h.elim),spec_zero (by
   intro ti to_ h
   unfold dk_laid.cn at h
   split at h
   ·obtain ⟨h,_⟩:=h;simp at h
   ·exact h.elim),spec_zero (by
   intro ti to_ h
   unfold dk_item.cn at h
   split at h
   ·obtain ⟨h,_⟩:=h;simp at h
   ·exact h.elim),spec_zero (by
   intro ti to_ h
   unfold dk_inner.cn at h
   split at h
   ·obtain ⟨h,_⟩:=h;simp at h
   ·exact h.elim)⟩
 | succ n ih =>
  obtain ⟨ih0,ih1,ih2,ih3⟩:=ih
  exact ⟨meets (l:=dk_mapped.env n) (all_cons dk_text.ok (all_cons ih2 all_nil)) (dk_mapped.chk n) (by
   intro ins outs h
   unfold dk_mapped.cn at h
   split at h
   ·obtain ⟨hp,rfl⟩:=h;exact dk_mapped.fit n _ hp
   ·exact h.elim),meets (l:=dk_laid.env n) (all_cons ih0 (all_cons mp_Encode.ok all_nil)) (dk_laid.chk n) (by
   intro ins outs h
   unfold dk_laid.cn at h
   split at h
   ·obtain ⟨hp,rfl⟩:=h;exact dk_laid.fit n _ hp
   ·exact h.elim),meets (l:=dk_item.env n) (all_cons ih0 (all_cons dk_text.ok (all_cons ih2 (all_cons tree_Regular.ok (all_cons clone_bs.ok (all_cons dk_simple.ok (all_cons dk_integer.ok (all_cons dk_sort.ok (all_cons ih3 all_nil))))))))) (dk_item.chk n) (by
   intro ins outs h
   unfold dk_item.cn at h
   split at h
   ·obtain ⟨hp,rfl⟩:=h;exact dk_item.fit n _ _ _ _ _ _ _ _ _ hp
   ·exact h.elim),meets (l:=dk_inner.env n) (all_cons clone_bs.ok (all_cons ih1 (all_cons dk_high.ok all_nil))) (dk_inner.chk n) (by
   intro ins outs h
   unfold dk_inner.cn at h
   split at h
   ·obtain ⟨hp,rfl⟩:=h;exact dk_inner.fit n _ _ _ _ _ _ _ _ _ hp
   ·exact h.elim)⟩
theorem dk_mapped.ok:KO 22 (dk_mapped.c) dk_mapped.sg:=spec_sub fun ti to_ h=>by
 unfold dk_mapped.c at h
 split at h
 ·obtain ⟨hp,rfl⟩:=h;exact ⟨dk_mapped.cn (_+1),(dkitem.oks _).1,Bool.and_eq_true_iff.2 ⟨hp,decide_eq_true (Nat.lt_succ_self _)⟩,rfl⟩
 ·exact h.elim
theorem dk_Item.fit (v9k:Int) (v9b:UInt64) (v9h:UInt64) (v9l:UInt64) (v9t:Str) (v9m:Str) (v9s:Int) (v9y:List UInt8) (v9d:List Fld) (hp:(decide (Fld.bulk (Fld.of [] (Val.mk v9k v9b v9h v9l v9t v9m v9s v9y v9d))≤1048576))=true):FT dk_Item.d (envL tryzGl dk_Item.env) [.ag [.i .i64 v9k,.u64 v9b,.u64 v9h,.u64 v9l,.s v9t,.s v9m,.i .i64 v9s,.sl .bs v9y,.sl .fl v9d]] [(.ag (Itv.cells (Itm.val ((Dk.enc (Val.mk v9k v9b v9h v9l v9t v9m v9s v9y v9d)).1)))),(.ag (Flt.cells ((Dk.enc (Val.mk v9k v9b v9h v9l v9t v9m v9s v9y v9d)).2)))] :=
 ⟨by kernel_rfl,Eq.trans (b:=dk_Item.F (Val.mk v9k v9b v9h v9l v9t v9m v9s v9y v9d)) (by kernel_rfl) (Eq.trans (dk_Item.goal (Val.mk v9k v9b v9h v9l v9t v9m v9s v9y v9d) hp) (by kernel_rfl))⟩
theorem dk_Item.ok:KO 9 (dk_Item.c) dk_Item.sg :=
 meets (l:=dk_Item.env) (all_cons tree_Check.ok (all_cons tree_Depth.ok (all_cons dk_mapped.ok all_nil))) dk_Item.chk (by
   intro ins outs h
   unfold dk_Item.c at h
   split at h
   ·obtain ⟨hp,rfl⟩:=h;exact dk_Item.fit _ _ _ _ _ _ _ _ _ hp
   ·exact h.elim)
theorem dk_none.fit (path:List Int) (hp:(decide ((path).length≤1099511627776))=true):FT dk_none.d (envL tryzGl dk_none.env) [.sl .is path] [(.ag (Flt.cells ((Flt.mk 12 0 path))))] :=
 ⟨by kernel_rfl,Eq.trans (b:=dk_none.F path) (by kernel_rfl) (Eq.trans (dk_none.goal path hp) (by kernel_rfl))⟩
theorem dk_none.ok:KO 27 (dk_none.c) dk_none.sg :=
 meets (l:=dk_none.env) (all_cons clone_is.ok all_nil) dk_none.chk (by
   intro ins outs h
   unfold dk_none.c at h
   split at h
   ·obtain ⟨hp,rfl⟩:=h;exact dk_none.fit _ hp
   ·exact h.elim)
theorem dk_word.fit (b:List UInt8) (hp:(decide ((b).length≤1099511627776))=true):FT dk_word.d (envL tryzGl dk_word.env) [.sl .bs b] [(.u64 (Cur.be b))] :=
 ⟨by kernel_rfl,Eq.trans (b:=dk_word.F b) (by kernel_rfl) (Eq.trans (dk_word.goal b hp) (by kernel_rfl))⟩
theorem dk_word.ok:KO 85 (dk_word.c) dk_word.sg :=
 meets (l:=dk_word.env) all_nil dk_word.chk (by
   intro ins outs h
   unfold dk_word.c at h
   split at h
   ·obtain ⟨hp,rfl⟩:=h;exact dk_word.fit _ hp
   ·exact h.elim)
theorem dk_whole.fit (b:List UInt8) (hp:(decide ((b).length≤1099511627776))=true):FT dk_whole.d (envL tryzGl dk_whole.env) [.sl .bs b] [(.b (Utf.whole b))] :=
 ⟨by kernel_rfl,Eq.trans (b:=dk_whole.F b) (by kernel_rfl) (Eq.trans (dk_whole.goal b hp) (by kernel_rfl))⟩
theorem dk_whole.ok:KO 86 (dk_whole.c) dk_whole.sg :=
 meets (l:=dk_whole.env) (all_cons utf_Check.ok all_nil) dk_whole.chk (by
   intro ins outs h
   unfold dk_whole.c at h
   split at h
   ·obtain ⟨hp,rfl⟩:=h;exact dk_whole.fit _ hp
   ·exact h.elim)
theorem dk_with.fit (n:Nat) (v9k:Int) (v9b:UInt64) (v9h:UInt64) (v9l:UInt64) (v9t:Str) (v9m:Str) (v9s:Int) (v9y:List UInt8) (l:List Itm) (path:List Int) (within:Int) (hp:((decide ((Mp.lays l).length+(path).length≤536870912)&&decide (Mp.chks l=0∧(l).length % 2=0∧0≤within∧within≤200))&&decide ((4 * (Mp.lays l).length+3)<n+1))=true):FT dk_with.d (envL tryzGl (dk_with.env n)) [.ag [.i .i64 v9k,.u64 v9b,.u64 v9h,.u64 v9l,.s v9t,.s v9m,.i .i64 v9s,.sl .bs v9y,.c (.slice none 0 0)],.sl .il l,.sl .is path,.i .i64 within] [(.ag (Val.cells (Db.Got.val (Db.Gots.got (Val.mk v9k v9b v9h v9l v9t v9m v9s v9y []) (Dk.fields (200 - within).toNat l 0 path))))),(.ag (Flt.cells (Db.Got.flt (Db.Gots.got (Val.mk v9k v9b v9h v9l v9t v9m v9s v9y []) (Dk.fields (200 - within).toNat l 0 path)))))] :=
 ⟨by kernel_rfl,Eq.trans (b:=dk_with.F n (Val.mk v9k v9b v9h v9l v9t v9m v9s v9y []) l path within) (by kernel_rfl) (Eq.trans (dk_with.goal n (Val.mk v9k v9b v9h v9l v9t v9m v9s v9y []) l path within hp) (by kernel_rfl))⟩
theorem dk_value.fit (n:Nat) (it9k:Int) (it9n:UInt64) (it9y:List UInt8) (it9t:Str) (it9d:List Itm) (path:List Int) (within:Int) (hp:((decide ((Mp.lay (Itm.of (Itv.mk it9k it9n it9y it9t it9d))).length+(path).length≤536870912)&&decide (Mp.chk (Itm.of (Itv.mk it9k it9n it9y it9t it9d))=0∧0≤within∧within≤200))&&decide ((4 * (Mp.lay (Itm.of (Itv.mk it9k it9n it9y it9t it9d))).length)<n+1))=true):FT dk_value.d (envL tryzGl (dk_value.env n)) [.ag [.i .i64 it9k,.u64 it9n,.sl .bs it9y,.s it9t,.sl .il it9d],.sl .is path,.i .i64 within] [(.ag (Val.cells (Db.Got.val (Dk.value (200 - within).toNat (Itm.of (Itv.mk it9k it9n it9y it9t it9d)) path)))),(.ag (Flt.cells (Db.Got.flt (Dk.value (200 - within).toNat (Itm.of (Itv.mk it9k it9n it9y it9t it9d)) path))))] :=
 ⟨by kernel_rfl,Eq.trans (b:=dk_value.F n (Itv.mk it9k it9n it9y it9t it9d) path within) (by kernel_rfl) (Eq.trans (dk_value.goal n (Itv.mk it9k it9n it9y it9t it9d) path within hp) (by kernel_rfl))⟩
theorem dk_ext.fit (n:Nat) (it9k:Int) (it9n:UInt64) (it9y:List UInt8) (it9t:Str) (it9d:List Itm) (within:Int) (hp:((decide (((Itv.mk it9k it9n it9y it9t it9d)).bytes.length≤536870912∧((Itv.mk it9k it9n it9y it9t it9d)).n≤127∧0≤within∧within≤200))&&decide ((4 * ((Itv.mk it9k it9n it9y it9t it9d)).bytes.length+2)<n+1))=true):FT dk_ext.d (envL tryzGl (dk_ext.env n)) [.ag [.i .i64 it9k,.u64 it9n,.sl .bs it9y,.s it9t,.sl .il it9d],.i .i64 within] [(.ag (Val.cells ((Dk.extV (200 - within).toNat ((Itv.mk it9k it9n it9y it9t it9d)).n ((Itv.mk it9k it9n it9y it9t it9d)).bytes).1))),(.b ((Dk.extV (200 - within).toNat ((Itv.mk it9k it9n it9y it9t it9d)).n ((Itv.mk it9k it9n it9y it9t it9d)).bytes).2))] :=
 ⟨by kernel_rfl,Eq.trans (b:=dk_ext.F n (Itv.mk it9k it9n it9y it9t it9d) within) (by kernel_rfl) (Eq.trans (dk_ext.goal n (Itv.mk it9k it9n it9y it9t it9d) within hp) (by kernel_rfl))⟩
theorem dk_read.fit (n:Nat) (v9k:Int) (v9b:UInt64) (v9h:UInt64) (v9l:UInt64) (v9t:Str) (v9m:Str) (v9s:Int) (v9y:List UInt8) (b:List UInt8) (within:Int) (hp:((decide ((b).length≤536870912∧0≤within∧within<200))&&decide ((4 * (b).length+1)<n+1))=true):FT dk_read.d (envL tryzGl (dk_read.env n)) [.ag [.i .i64 v9k,.u64 v9b,.u64 v9h,.u64 v9l,.s v9t,.s v9m,.i .i64 v9s,.sl .bs v9y,.c (.slice none 0 0)],.sl .bs b,.i .i64 within] [(.ag (Val.cells ((Dk.readV (199 - within).toNat (Val.mk v9k v9b v9h v9l v9t v9m v9s v9y []) b).1))),(.b ((Dk.readV (199 - within).toNat (Val.mk v9k v9b v9h v9l v9t v9m v9s v9y []) b).2))] :=
 ⟨by kernel_rfl,Eq.trans (b:=dk_read.F n (Val.mk v9k v9b v9h v9l v9t v9m v9s v9y []) b within) (by kernel_rfl) (Eq.trans (dk_read.goal n (Val.mk v9k v9b v9h v9l v9t v9m v9s v9y []) b within hp) (by kernel_rfl))⟩
theorem dkvalue.oks:∀n:Nat,(KO 28 (dk_with.cn n) dk_with.sg)∧(KO 44 (dk_value.cn n) dk_value.sg)∧(KO 70 (dk_ext.cn n) dk_ext.sg)∧(KO 84 (dk_read.cn n) dk_read.sg):=by
 intro n
 induction n with
 | zero=>exact ⟨spec_zero (by
   intro ti to_ h
   unfold dk_with.cn at h
   split at h
   ·obtain ⟨h,_⟩:=h;simp at h
   ·exact h.elim),spec_zero (by
   intro ti to_ h
   unfold dk_value.cn at h
   split at h
   ·obtain ⟨h,_⟩:=h;simp at h
   ·exact h.elim),spec_zero (by
   intro ti to_ h
   unfold dk_ext.cn at h
   split at h
   ·obtain ⟨h,_⟩:=h;simp at h
   ·exact h.elim),spec_zero (by
   intro ti to_ h
   unfold dk_read.cn at h
   split at h
   ·obtain ⟨h,_⟩:=h;simp at h
   ·exact h.elim)⟩
 | succ n ih =>
  obtain ⟨ih0,ih1,ih2,ih3⟩:=ih
  exact ⟨meets (l:=dk_with.env n) (all_cons dk_none.ok (all_cons st_Contains.ok (all_cons ih1 all_nil))) (dk_with.chk n) (by
   intro ins outs h
   unfold dk_with.cn at h
   split at h
   ·obtain ⟨hp,rfl⟩:=h;exact dk_with.fit n _ _ _ _ _ _ _ _ _ _ _ hp
   ·exact h.elim),meets (l:=dk_value.env n) (all_cons dk_none.ok (all_cons ih0 (all_cons ih1 (all_cons clone_bs.ok (all_cons sc_Itoa.ok (all_cons ih2 all_nil)))))) (dk_value.chk n) (by
   intro ins outs h
   unfold dk_value.cn at h
   split at h
   ·obtain ⟨hp,rfl⟩:=h;exact dk_value.fit n _ _ _ _ _ _ _ hp
   ·exact h.elim),meets (l:=dk_ext.env n) (all_cons st_Contains.ok (all_cons tree_Regular.ok (all_cons clone_bs.ok (all_cons ih3 (all_cons dk_word.ok (all_cons dk_whole.ok (all_cons st_Cut.ok all_nil))))))) (dk_ext.chk n) (by
   intro ins outs h
   unfold dk_ext.cn at h
   split at h
   ·obtain ⟨hp,rfl⟩:=h;exact dk_ext.fit n _ _ _ _ _ _ hp
   ·exact h.elim),meets (l:=dk_read.env n) (all_cons ih0 (all_cons mp_Decode.ok all_nil)) (dk_read.chk n) (by
   intro ins outs h
   unfold dk_read.cn at h
   split at h
   ·obtain ⟨hp,rfl⟩:=h;exact dk_read.fit n _ _ _ _ _ _ _ _ _ _ hp
   ·exact h.elim)⟩
theorem dk_with.ok:KO 28 (dk_with.c) dk_with.sg:=spec_sub fun ti to_ h=>by
 unfold dk_with.c at h
 split at h
 ·obtain ⟨hp,rfl⟩:=h;exact ⟨dk_with.cn (_+1),(dkvalue.oks _).1,Bool.and_eq_true_iff.2 ⟨hp,decide_eq_true (Nat.lt_succ_self _)⟩,rfl⟩
 ·exact h.elim
theorem dk_Value.fit (it9k:Int) (it9n:UInt64) (it9y:List UInt8) (it9t:Str) (it9d:List Itm) (hp:(decide (Itm.bulk (Itm.of (Itv.mk it9k it9n it9y it9t it9d))≤1048576))=true):FT dk_Value.d (envL tryzGl dk_Value.env) [.ag [.i .i64 it9k,.u64 it9n,.sl .bs it9y,.s it9t,.sl .il it9d]] [(.ag (Val.cells ((Dk.dec (Itm.of (Itv.mk it9k it9n it9y it9t it9d))).1))),(.ag (Flt.cells ((Dk.dec (Itm.of (Itv.mk it9k it9n it9y it9t it9d))).2)))] :=
 ⟨by kernel_rfl,Eq.trans (b:=dk_Value.F (Itv.mk it9k it9n it9y it9t it9d)) (by kernel_rfl) (Eq.trans (dk_Value.goal (Itv.mk it9k it9n it9y it9t it9d) hp) (by kernel_rfl))⟩
theorem dk_Value.ok:KO 14 (dk_Value.c) dk_Value.sg :=
 meets (l:=dk_Value.env) (all_cons mp_Check.ok (all_cons dk_none.ok (all_cons dk_with.ok all_nil))) dk_Value.chk (by
   intro ins outs h
   unfold dk_Value.c at h
   split at h
   ·obtain ⟨hp,rfl⟩:=h;exact dk_Value.fit _ _ _ _ _ hp
   ·exact h.elim)
theorem ref29_text.fit (s:Str):FT ref29_text.d (envL tryzGl ref29_text.env) [.s s] [(.ag (Itv.cells (Itm.val (Db.text s))))] :=
 ⟨by kernel_rfl,Eq.trans (b:=ref29_text.F s) (by kernel_rfl) (Eq.trans (ref29_text.goal s) (by kernel_rfl))⟩
theorem ref29_text.ok:KO 38 (ref29_text.c) ref29_text.sg :=
 meets (l:=ref29_text.env) all_nil ref29_text.chk (by
   intro ins outs h
   unfold ref29_text.c at h
   split at h
   ·cases h;exact ref29_text.fit _
   ·exact h.elim)
theorem ref29_exted.fit (k:Int) (b:List UInt8):FT ref29_exted.d (envL tryzGl ref29_exted.env) [.i .i64 k,.sl .bs b] [(.ag (Itv.cells (Itm.val (Dk.ext k b))))] :=
 ⟨by kernel_rfl,Eq.trans (b:=ref29_exted.F k b) (by kernel_rfl) (Eq.trans (ref29_exted.goal k b) (by kernel_rfl))⟩
theorem ref29_exted.ok:KO 62 (ref29_exted.c) ref29_exted.sg :=
 meets (l:=ref29_exted.env) all_nil ref29_exted.chk (by
   intro ins outs h
   unfold ref29_exted.c at h
   split at h
   ·cases h;exact ref29_exted.fit _ _
   ·exact h.elim)
theorem ref29_mapped.fit (n:Nat) (l:List Fld) (hp:((decide (Fld.bulks l≤1048576)&&Tree.fines l)&&decide ((2 * Fld.bulks l+2)<n+1))=true):FT ref29_mapped.d (envL tryzGl (ref29_mapped.env n)) [.sl .fl l] [(.ag (Itv.cells (Itm.val (Db.map (Dk.mapped l)))))] :=
 ⟨by kernel_rfl,Eq.trans (b:=ref29_mapped.F n l) (by kernel_rfl) (Eq.trans (ref29_mapped.goal n l hp) (by kernel_rfl))⟩
theorem ref29_item.fit (n:Nat) (v9k:Int) (v9b:UInt64) (v9h:UInt64) (v9l:UInt64) (v9t:Str) (v9m:Str) (v9s:Int) (v9y:List UInt8) (v9d:List Fld) (hp:((decide (Fld.bulk (Fld.of [] (Val.mk v9k v9b v9h v9l v9t v9m v9s v9y v9d))≤1048576)&&Tree.fine (Fld.of [] (Val.mk v9k v9b v9h v9l v9t v9m v9s v9y v9d)))&&decide ((2 * Fld.bulk (Fld.of [] (Val.mk v9k v9b v9h v9l v9t v9m v9s v9y v9d))+1)<n+1))=true):FT ref29_item.d (envL tryzGl (ref29_item.env n)) [.ag [.i .i64 v9k,.u64 v9b,.u64 v9h,.u64 v9l,.s v9t,.s v9m,.i .i64 v9s,.sl .bs v9y,.sl .fl v9d]] [(.ag (Itv.cells (Itm.val (Dk.item (Fld.of [] (Val.mk v9k v9b v9h v9l v9t v9m v9s v9y v9d))))))] :=
 ⟨by kernel_rfl,Eq.trans (b:=ref29_item.F n (Val.mk v9k v9b v9h v9l v9t v9m v9s v9y v9d)) (by kernel_rfl) (Eq.trans (ref29_item.goal n (Val.mk v9k v9b v9h v9l v9t v9m v9s v9y v9d) hp) (by kernel_rfl))⟩
theorem ritem29.oks:∀n:Nat,(KO 23 (ref29_mapped.cn n) ref29_mapped.sg)∧(KO 39 (ref29_item.cn n) ref29_item.sg):=by
 intro n
 induction n with
 | zero=>exact ⟨spec_zero (by
   intro ti to_ h
   unfold ref29_mapped.cn at h
   split at h
   ·obtain ⟨h,_⟩:=h;simp at h
   ·exact h.elim),spec_zero (by
   intro ti to_ h
   unfold ref29_item.cn at h
   split at h
   ·obtain ⟨h,_⟩:=h;simp at h
   ·exact h.elim)⟩
 | succ n ih =>
  obtain ⟨ih0,ih1⟩:=ih
  exact ⟨meets (l:=ref29_mapped.env n) (all_cons ref29_text.ok (all_cons ih1 all_nil)) (ref29_mapped.chk n) (by
   intro ins outs h
   unfold ref29_mapped.cn at h
   split at h
   ·obtain ⟨hp,rfl⟩:=h;exact ref29_mapped.fit n _ hp
   ·exact h.elim),meets (l:=ref29_item.env n) (all_cons ih0 (all_cons ref29_text.ok (all_cons ih1 (all_cons ref17_Regular.ok (all_cons ref29_exted.ok (all_cons ref29_lay.ok (all_cons ref1_PutHigh.ok (all_cons ref28_Integer.ok all_nil)))))))) (ref29_item.chk n) (by
   intro ins outs h
   unfold ref29_item.cn at h
   split at h
   ·obtain ⟨hp,rfl⟩:=h;exact ref29_item.fit n _ _ _ _ _ _ _ _ _ hp
   ·exact h.elim)⟩
theorem ref29_mapped.ok:KO 23 (ref29_mapped.c) ref29_mapped.sg:=spec_sub fun ti to_ h=>by
 unfold ref29_mapped.c at h
 split at h
 ·obtain ⟨hp,rfl⟩:=h;exact ⟨ref29_mapped.cn (_+1),(ritem29.oks _).1,Bool.and_eq_true_iff.2 ⟨hp,decide_eq_true (Nat.lt_succ_self _)⟩,rfl⟩
 ·exact h.elim
theorem ref29_Item.fit (v9k:Int) (v9b:UInt64) (v9h:UInt64) (v9l:UInt64) (v9t:Str) (v9m:Str) (v9s:Int) (v9y:List UInt8) (v9d:List Fld) (hp:(decide (Fld.bulk (Fld.of [] (Val.mk v9k v9b v9h v9l v9t v9m v9s v9y v9d))≤1048576))=true):FT ref29_Item.d (envL tryzGl ref29_Item.env) [.ag [.i .i64 v9k,.u64 v9b,.u64 v9h,.u64 v9l,.s v9t,.s v9m,.i .i64 v9s,.sl .bs v9y,.sl .fl v9d]] [(.ag (Itv.cells (Itm.val ((Dk.enc (Val.mk v9k v9b v9h v9l v9t v9m v9s v9y v9d)).1)))),(.ag (Flt.cells ((Dk.enc (Val.mk v9k v9b v9h v9l v9t v9m v9s v9y v9d)).2)))] :=
 ⟨by kernel_rfl,Eq.trans (b:=ref29_Item.F (Val.mk v9k v9b v9h v9l v9t v9m v9s v9y v9d)) (by kernel_rfl) (Eq.trans (ref29_Item.goal (Val.mk v9k v9b v9h v9l v9t v9m v9s v9y v9d) hp) (by kernel_rfl))⟩
theorem ref29_Item.ok:KO 10 (ref29_Item.c) ref29_Item.sg :=
 meets (l:=ref29_Item.env) (all_cons ref17_Depth.ok (all_cons ref17_Check.ok (all_cons ref29_mapped.ok all_nil))) ref29_Item.chk (by
   intro ins outs h
   unfold ref29_Item.c at h
   split at h
   ·obtain ⟨hp,rfl⟩:=h;exact ref29_Item.fit _ _ _ _ _ _ _ _ _ hp
   ·exact h.elim)
theorem law31_awake.fit:([]:List TV).length=law31_awake.d.np∧law31_awake.d.run (envL tryzGl law31_awake.env) []=some (([(.b (true))]:List TV)++law31_awake.d.ps.toList.map fun q=>([]:List TV).getD q.1 .dead) :=
 ⟨by kernel_rfl,Eq.trans (b:=law31_awake.F ) (by kernel_rfl) (Eq.trans (law31_awake.goal ) (by kernel_rfl))⟩
theorem law31_awake.ok:KO 7 (law31_awake.c) law31_awake.sg :=
 meets (l:=law31_awake.env) (all_cons dk_Item.ok (all_cons dk_Value.ok all_nil)) law31_awake.chk (by
   intro ins outs h
   unfold law31_awake.c at h
   split at h
   ·cases h;exact law31_awake.fit
   ·exact h.elim)
end Go.Eng
namespace Go.Eng
open Go.IntWalk
mutual
theorem Tree.chkF_len:∀(f:Fld) (p:List Int),(Tree.chkF f p).1.length≤p.length+Fld.bulk f
 | .mk n k b h l t m s y ks,p=>by
  have:=Tree.chkL_len ks 0 p
  simp only [Tree.chkF,Fld.bulk]
  split
  ·simp only;omega
  ·omega
theorem Tree.chkL_len:∀(ks:List Fld) (i:Nat) (p:List Int),(Tree.chkL ks i p).1.length≤p.length+1+Fld.bulks ks
 | [],i,p=>by simp [Tree.chkL]
 | f :: r,i,p=>by
  have h1:=Tree.chkF_len f (p++[(i:Int)])
  have h2:=Tree.chkL_len r (i+1) p
  simp only [Tree.chkL,Fld.bulks]
  simp only [List.length_append,List.length_singleton] at h1
  split <;> omega
end
end Go.Eng
namespace Go.Eng
open Go.IntWalk
namespace Dk
open Db (Got Gots)
theorem enc_bulk (v:Val) (hb:Fld.bulk (Fld.of [] v)≤1048576):Itm.bulk (enc v).1≤70000000:=by
 have h1:=map_bulk v.kids
 have h2:=(Val.bounds hb).2.2.2.1
 unfold enc
 repeat' split
 all_goals first | (show Itm.bulk Mp.zero≤_;decide) | skip
 show Itm.bulk (Db.map (mapped v.kids))≤_
 omega
theorem enc_path (v:Val):(enc v).2.path.length≤Fld.bulk (Fld.of [] v):=by
 have:=Tree.chkF_len (Fld.of [] v) []
 unfold enc
 repeat' split
 all_goals simp only [List.length_nil] at this ⊢
 all_goals omega
end Dk
end Go.Eng
namespace Go.Eng
noncomputable section
def DocpackItems.sg:FSig:={}
def DocpackItems.c:Ctr:=fun l=>match l with
 | [.ag [.i .i64 v9k,.u64 v9b,.u64 v9h,.u64 v9l,.s v9t,.s v9m,.i .i64 v9s,.sl .bs v9y,.sl .fl v9d]] => .ok [(.b (true))]
 | _ => .err
end
noncomputable section
def DocpackItems.env:List (Nat × (Ctr × FSig)):=[(7,(law31_awake.c,law31_awake.sg)),(8,(book_Small.c,book_Small.sg)),(9,(dk_Item.c,dk_Item.sg)),(10,(ref29_Item.c,ref29_Item.sg)),(11,(ref5_Same.c,ref5_Same.sg)),(12,(ref28_Same.c,ref28_Same.sg))]
def DocpackItems.E:TEnv:=envL tryzGl DocpackItems.env
def DocpackItems.m:TM:=oS [oK (.k (.bx 1030)) [0,1030] [1,1030],oW (.b false) 2] (.seq (oS [oC 7 0 1 [] 7,oK (.k (.un .not)) [7] [8]] (.cond (.s 8) [] (oS [oW (.b false) 2] .ret) .skip)) none (.seq (oS [oM 1030 0 9 1 9,oC 8 1 1 [9] 10,oK (.k (.un .not)) [10] [11]] (.cond (.s 11) [] (oS [oW (.b true) 2] .ret) .skip)) none (oS [oM 1030 0 9 1 13,oC 9 1 2 [13] 14,oV 14 12,oE 0 12 15,oE 1 12 16,oN 1031 zI 3,oN 1032 zT 4,oT 1031 0 5 3 15,oT 1032 0 3 4 16] (oS [oM 1030 0 9 1 18,oC 10 1 2 [18] 19,oV 19 17,oE 0 17 20,oE 1 17 21,oN 1033 zI 5,oN 1034 zT 6,oT 1033 0 5 5 20,oT 1034 0 3 6 21] (oS [oM 1032 0 3 4 22,oM 1034 0 3 6 23,oC 11 2 1 [22,23] 24,oV 24 25,oG 25 true (oM 1031 0 5 3 26),oG 25 true (oM 1033 0 5 5 27),oG 25 true (oC 12 2 1 [26,27] 28),oP 25 28 false 29,oV 29 2] .ret)))))
def DocpackItems.d:TFD:=D0 1 DocpackItems.m [.t 2]
noncomputable def DocpackItems.F (v:Val):Option (List TV):=DocpackItems.d.run DocpackItems.E [(.ag (Val.cells v))]
theorem DocpackItems.F_in (v:Val) {ρ:Option (List TV)} (K:∀(v1:Bool) (h1:v1=(decide ((((Dk.enc v).2)).err=(((Dk.enc v).2)).err∧(((Dk.enc v).2)).at_=(((Dk.enc v).2)).at_∧(((Dk.enc v).2)).path=(((Dk.enc v).2)).path))) (v2:Bool) (h2:v2=(Itm.same (Itm.of (Itm.val ((Dk.enc v).1))) (Itm.of (Itm.val ((Dk.enc v).1))))),cond (!(true))
  (some [(.b false)])
  (cond (!(decide (0≤Book.value 1200 (Fld.of [] v))))
  (some [(.b true)])
  (ck (decide (Fld.bulk (Fld.of [] v)≤1048576)) (ck (decide (Fld.bulk (Fld.of [] v)≤1048576)) (ck (decide ((((Dk.enc v).2)).path.length≤1099511627776)) (ck (!v1 || ((v1&&v1)&&(decide (Itm.bulk (Itm.of (Itm.val ((Dk.enc v).1)))≤1099511627776)))) (ck (!v1 || v1) (some [(.b (cond v1 v2 false))])))))))=ρ):DocpackItems.F v=ρ:=Eq.trans (by kernel_rfl) (K _ rfl _ rfl)
theorem DocpackItems.chk:CK 3 DocpackItems.env DocpackItems.d:=ckOf (by kernel_rfl)
end
end Go.Eng
namespace Go.Eng
open Go.IntWalk
theorem DocpackItems.goal (v:Val):DocpackItems.F v=some [.b true]:=by
 refine DocpackItems.F_in v ?_
 intro v1 h1 v2 h2
 rw [Bool.not_true,cond_false]
 by_cases a:0≤Book.value 1200 (Fld.of [] v)
 ·have hb:=Book.small_bulk v a
  have h3:=Dk.enc_bulk v (by omega)
  have h4:=Dk.enc_path v
  rw [Itm.of_val,Itm.same_refl] at h2
  have h1':v1=true:=by rw [h1];exact decide_eq_true ⟨rfl,rfl,rfl⟩
  rw [decide_eq_true a,Bool.not_true,cond_false,ck_of (decide_eq_true (by omega)),ck_of (decide_eq_true (by omega)),ck_of (decide_eq_true (by omega)),h1',h2,Itm.of_val,ck_of (by rw [decide_eq_true (show Itm.bulk (Dk.enc v).1≤1099511627776 by omega)];rfl)]
  rfl
 ·rw [decide_eq_false a];rfl
end Go.Eng
namespace Go.Eng
theorem DocpackItems.fit (v9k:Int) (v9b:UInt64) (v9h:UInt64) (v9l:UInt64) (v9t:Str) (v9m:Str) (v9s:Int) (v9y:List UInt8) (v9d:List Fld):FT DocpackItems.d (envL tryzGl DocpackItems.env) [.ag [.i .i64 v9k,.u64 v9b,.u64 v9h,.u64 v9l,.s v9t,.s v9m,.i .i64 v9s,.sl .bs v9y,.sl .fl v9d]] [(.b (true))] :=
 ⟨by kernel_rfl,Eq.trans (b:=DocpackItems.F (Val.mk v9k v9b v9h v9l v9t v9m v9s v9y v9d)) (by kernel_rfl) (Eq.trans (DocpackItems.goal (Val.mk v9k v9b v9h v9l v9t v9m v9s v9y v9d)) (by kernel_rfl))⟩
theorem DocpackItems.ok:KO 3 (DocpackItems.c) DocpackItems.sg :=
 meets (l:=DocpackItems.env) (all_cons law31_awake.ok (all_cons book_Small.ok (all_cons dk_Item.ok (all_cons ref29_Item.ok (all_cons ref5_Same.ok (all_cons ref28_Same.ok all_nil)))))) DocpackItems.chk (by
   intro ins outs h
   unfold DocpackItems.c at h
   split at h
   ·cases h;exact DocpackItems.fit _ _ _ _ _ _ _ _ _
   ·exact h.elim)
end Go.Eng
