/- Texts of my own, one behind the other: MpOK, MpR1, MpR2, MpR3, MpLCut, MpQCut, MpOKCut. -/
import Derived.Test.YtheedbianknplaaT5
set_option linter.unusedVariables false
set_option linter.unusedSimpArgs false
namespace Go.Eng
theorem utf_is.fit (r : Int) : ([.i .i64 r] : List TV).length = utf_is.d.np ∧ utf_is.d.run (envL noGl utf_is.env) [.i .i64 r] = some (([(.b (Utf.isRune r))] : List TV) ++ utf_is.d.ps.toList.map fun q => ([.i .i64 r] : List TV).getD q.1 .dead) :=
  ⟨by kernel_rfl, Eq.trans (b := utf_is.F r) (by kernel_rfl) (Eq.trans (utf_is.goal r) (by kernel_rfl))⟩
theorem utf_is.ok : SpecOK Go.Proofs.Try.prog (fun n => (noGl n).av) 71 (Ctr.fs (utf_is.c, utf_is.sg)) :=
  meets (l := utf_is.env) all_nil utf_is.chk (by
      intro ins outs h
      unfold utf_is.c at h
      split at h
      · cases h; exact utf_is.fit _
      · exact h.elim)
theorem utf_Rune.fit (b : List UInt8) (at_ : Int) (hp : (decide (b.length ≤ 1099511627776)) = true) : ([.sl .bs b, .i .i64 at_] : List TV).length = utf_Rune.d.np ∧ utf_Rune.d.run (envL noGl utf_Rune.env) [.sl .bs b, .i .i64 at_] = some (([(.i .i64 ((Utf.runeAt b at_).1)), (.i .i64 ((Utf.runeAt b at_).2))] : List TV) ++ utf_Rune.d.ps.toList.map fun q => ([.sl .bs b, .i .i64 at_] : List TV).getD q.1 .dead) :=
  ⟨by kernel_rfl, Eq.trans (b := utf_Rune.F b at_) (by kernel_rfl) (Eq.trans (utf_Rune.goal b at_ hp) (by kernel_rfl))⟩
theorem utf_Rune.ok : SpecOK Go.Proofs.Try.prog (fun n => (noGl n).av) 63 (Ctr.fs (utf_Rune.c, utf_Rune.sg)) :=
  meets (l := utf_Rune.env) (all_cons utf_is.ok all_nil) utf_Rune.chk (by
      intro ins outs h
      unfold utf_Rune.c at h
      split at h
      · obtain ⟨hp, rfl⟩ := h; exact utf_Rune.fit _ _ hp
      · exact h.elim)
theorem utf_look.fit (b : List UInt8) (hp : (decide (b.length ≤ 1099511627776)) = true) : ([.sl .bs b] : List TV).length = utf_look.d.np ∧ utf_look.d.run (envL noGl utf_look.env) [.sl .bs b] = some (([(.i .i64 (((Utf.look b).1 : Int))), (.i .i64 (((Utf.look b).2 : Int)))] : List TV) ++ utf_look.d.ps.toList.map fun q => ([.sl .bs b] : List TV).getD q.1 .dead) :=
  ⟨by kernel_rfl, Eq.trans (b := utf_look.F b) (by kernel_rfl) (Eq.trans (utf_look.goal b hp) (by kernel_rfl))⟩
theorem utf_look.ok : SpecOK Go.Proofs.Try.prog (fun n => (noGl n).av) 46 (Ctr.fs (utf_look.c, utf_look.sg)) :=
  meets (l := utf_look.env) (all_cons utf_Rune.ok all_nil) utf_look.chk (by
      intro ins outs h
      unfold utf_look.c at h
      split at h
      · obtain ⟨hp, rfl⟩ := h; exact utf_look.fit _ hp
      · exact h.elim)
theorem utf_Check.fit (b : List UInt8) (hp : (decide (b.length ≤ 1099511627776)) = true) : ([.sl .bs b] : List TV).length = utf_Check.d.np ∧ utf_Check.d.run (envL noGl utf_Check.env) [.sl .bs b] = some (([(.i .i64 (((Utf.look b).1 : Int))), (.b (Utf.whole b))] : List TV) ++ utf_Check.d.ps.toList.map fun q => ([.sl .bs b] : List TV).getD q.1 .dead) :=
  ⟨by kernel_rfl, Eq.trans (b := utf_Check.F b) (by kernel_rfl) (Eq.trans (utf_Check.goal b hp) (by kernel_rfl))⟩
theorem utf_Check.ok : SpecOK Go.Proofs.Try.prog (fun n => (noGl n).av) 27 (Ctr.fs (utf_Check.c, utf_Check.sg)) :=
  meets (l := utf_Check.env) (all_cons utf_look.ok all_nil) utf_Check.chk (by
      intro ins outs h
      unfold utf_Check.c at h
      split at h
      · obtain ⟨hp, rfl⟩ := h; exact utf_Check.fit _ hp
      · exact h.elim)
theorem ref2_Rune.fit (b : List UInt8) (at_ : Int) (hp : (decide (b.length ≤ 1099511627776)) = true) : ([.sl .bs b, .i .i64 at_] : List TV).length = ref2_Rune.d.np ∧ ref2_Rune.d.run (envL noGl ref2_Rune.env) [.sl .bs b, .i .i64 at_] = some (([(.i .i64 ((Utf.runeAt b at_).1)), (.i .i64 ((Utf.runeAt b at_).2))] : List TV) ++ ref2_Rune.d.ps.toList.map fun q => ([.sl .bs b, .i .i64 at_] : List TV).getD q.1 .dead) :=
  ⟨by kernel_rfl, Eq.trans (b := ref2_Rune.F b at_) (by kernel_rfl) (Eq.trans (ref2_Rune.goal b at_ hp) (by kernel_rfl))⟩
theorem ref2_Rune.ok : SpecOK Go.Proofs.Try.prog (fun n => (noGl n).av) 72 (Ctr.fs (ref2_Rune.c, ref2_Rune.sg)) :=
  meets (l := ref2_Rune.env) all_nil ref2_Rune.chk (by
      intro ins outs h
      unfold ref2_Rune.c at h
      split at h
      · obtain ⟨hp, rfl⟩ := h; exact ref2_Rune.fit _ _ hp
      · exact h.elim)
theorem ref2_Check.fit (b : List UInt8) (hp : (decide (b.length ≤ 1099511627776)) = true) : ([.sl .bs b] : List TV).length = ref2_Check.d.np ∧ ref2_Check.d.run (envL noGl ref2_Check.env) [.sl .bs b] = some (([(.i .i64 (((Utf.look b).1 : Int))), (.b (Utf.whole b))] : List TV) ++ ref2_Check.d.ps.toList.map fun q => ([.sl .bs b] : List TV).getD q.1 .dead) :=
  ⟨by kernel_rfl, Eq.trans (b := ref2_Check.F b) (by kernel_rfl) (Eq.trans (ref2_Check.goal b hp) (by kernel_rfl))⟩
theorem ref2_Check.ok : SpecOK Go.Proofs.Try.prog (fun n => (noGl n).av) 64 (Ctr.fs (ref2_Check.c, ref2_Check.sg)) :=
  meets (l := ref2_Check.env) (all_cons ref2_Rune.ok all_nil) ref2_Check.chk (by
      intro ins outs h
      unfold ref2_Check.c at h
      split at h
      · obtain ⟨hp, rfl⟩ := h; exact ref2_Check.fit _ hp
      · exact h.elim)
theorem ref2_Whole.fit (s : Str) (hp : (decide (s.length ≤ 1099511627776)) = true) : ([.s s] : List TV).length = ref2_Whole.d.np ∧ ref2_Whole.d.run (envL noGl ref2_Whole.env) [.s s] = some (([(.b (Utf.whole s))] : List TV) ++ ref2_Whole.d.ps.toList.map fun q => ([.s s] : List TV).getD q.1 .dead) :=
  ⟨by kernel_rfl, Eq.trans (b := ref2_Whole.F s) (by kernel_rfl) (Eq.trans (ref2_Whole.goal s hp) (by kernel_rfl))⟩
theorem ref2_Whole.ok : SpecOK Go.Proofs.Try.prog (fun n => (noGl n).av) 47 (Ctr.fs (ref2_Whole.c, ref2_Whole.sg)) :=
  meets (l := ref2_Whole.env) (all_cons ref2_Check.ok all_nil) ref2_Whole.chk (by
      intro ins outs h
      unfold ref2_Whole.c at h
      split at h
      · obtain ⟨hp, rfl⟩ := h; exact ref2_Whole.fit _ hp
      · exact h.elim)
theorem rd_At.fit (r_b : List UInt8) (r_at : Int) : ([.ro (.ag [.sl .bs r_b, .i .i64 r_at])] : List TV).length = rd_At.d.np ∧ rd_At.d.run (envL noGl rd_At.env) [.ro (.ag [.sl .bs r_b, .i .i64 r_at])] = some (([(.i .i64 ((((Rdr.mk r_b r_at)).at_)))] : List TV) ++ rd_At.d.ps.toList.map fun q => ([.ro (.ag [.sl .bs r_b, .i .i64 r_at])] : List TV).getD q.1 .dead) :=
  ⟨by kernel_rfl, Eq.trans (b := rd_At.F (Rdr.mk r_b r_at)) (by kernel_rfl) (Eq.trans (rd_At.goal (Rdr.mk r_b r_at)) (by kernel_rfl))⟩
theorem rd_At.ok : SpecOK Go.Proofs.Try.prog (fun n => (noGl n).av) 33 (Ctr.fs (rd_At.c, rd_At.sg)) :=
  meets (l := rd_At.env) all_nil rd_At.chk (by
      intro ins outs h
      unfold rd_At.c at h
      split at h
      · cases h; exact rd_At.fit _ _
      · exact h.elim)
theorem rd_Left.fit (r_b : List UInt8) (r_at : Int) (hp : (Cur.good (Rdr.mk r_b r_at)) = true) : ([.ro (.ag [.sl .bs r_b, .i .i64 r_at])] : List TV).length = rd_Left.d.np ∧ rd_Left.d.run (envL noGl rd_Left.env) [.ro (.ag [.sl .bs r_b, .i .i64 r_at])] = some (([(.i .i64 (Cur.left (Rdr.mk r_b r_at)))] : List TV) ++ rd_Left.d.ps.toList.map fun q => ([.ro (.ag [.sl .bs r_b, .i .i64 r_at])] : List TV).getD q.1 .dead) :=
  ⟨by kernel_rfl, Eq.trans (b := rd_Left.F (Rdr.mk r_b r_at)) (by kernel_rfl) (Eq.trans (rd_Left.goal (Rdr.mk r_b r_at) hp) (by kernel_rfl))⟩
theorem rd_Left.ok : SpecOK Go.Proofs.Try.prog (fun n => (noGl n).av) 32 (Ctr.fs (rd_Left.c, rd_Left.sg)) :=
  meets (l := rd_Left.env) all_nil rd_Left.chk (by
      intro ins outs h
      unfold rd_Left.c at h
      split at h
      · obtain ⟨hp, rfl⟩ := h; exact rd_Left.fit _ _ hp
      · exact h.elim)
theorem rd_Byte.fit (r_b : List UInt8) (r_at : Int) (hp : (Cur.good (Rdr.mk r_b r_at)) = true) : ([.ag [.sl .bs r_b, .i .i64 r_at]] : List TV).length = rd_Byte.d.np ∧ rd_Byte.d.run (envL noGl rd_Byte.env) [.ag [.sl .bs r_b, .i .i64 r_at]] = some (([(.i .i64 (Cur.byte (Rdr.mk r_b r_at))), (.b (Cur.more (Rdr.mk r_b r_at))), (.ag (Rdr.cells (Cur.adv (Rdr.mk r_b r_at) 1 (Cur.more (Rdr.mk r_b r_at)))))] : List TV) ++ rd_Byte.d.ps.toList.map fun q => ([.ag [.sl .bs r_b, .i .i64 r_at]] : List TV).getD q.1 .dead) :=
  ⟨by kernel_rfl, Eq.trans (b := rd_Byte.F (Rdr.mk r_b r_at)) (by kernel_rfl) (Eq.trans (rd_Byte.goal (Rdr.mk r_b r_at) hp) (by kernel_rfl))⟩
theorem rd_Byte.ok : SpecOK Go.Proofs.Try.prog (fun n => (noGl n).av) 48 (Ctr.fs (rd_Byte.c, rd_Byte.sg)) :=
  meets (l := rd_Byte.env) all_nil rd_Byte.chk (by
      intro ins outs h
      unfold rd_Byte.c at h
      split at h
      · obtain ⟨hp, rfl⟩ := h; exact rd_Byte.fit _ _ hp
      · exact h.elim)
theorem rd_next.fit (r_b : List UInt8) (r_at : Int) (n : Int) (hp : (Cur.good (Rdr.mk r_b r_at)) = true) : ([.ag [.sl .bs r_b, .i .i64 r_at], .i .i64 n] : List TV).length = rd_next.d.np ∧ rd_next.d.run (envL noGl rd_next.env) [.ag [.sl .bs r_b, .i .i64 r_at], .i .i64 n] = some (([(.sl .bs (Cur.nx (Rdr.mk r_b r_at) n (Cur.ok8 (Rdr.mk r_b r_at) n))), (.b (Cur.ok8 (Rdr.mk r_b r_at) n)), (.ag (Rdr.cells (Cur.adv (Rdr.mk r_b r_at) n (Cur.ok8 (Rdr.mk r_b r_at) n))))] : List TV) ++ rd_next.d.ps.toList.map fun q => ([.ag [.sl .bs r_b, .i .i64 r_at], .i .i64 n] : List TV).getD q.1 .dead) :=
  ⟨by kernel_rfl, Eq.trans (b := rd_next.F (Rdr.mk r_b r_at) n) (by kernel_rfl) (Eq.trans (rd_next.goal (Rdr.mk r_b r_at) n hp) (by kernel_rfl))⟩
theorem rd_next.ok : SpecOK Go.Proofs.Try.prog (fun n => (noGl n).av) 65 (Ctr.fs (rd_next.c, rd_next.sg)) :=
  meets (l := rd_next.env) (all_cons rd_Left.ok all_nil) rd_next.chk (by
      intro ins outs h
      unfold rd_next.c at h
      split at h
      · obtain ⟨hp, rfl⟩ := h; exact rd_next.fit _ _ _ hp
      · exact h.elim)
theorem rd_Take.fit (r_b : List UInt8) (r_at : Int) (n : Int) (hp : (Cur.good (Rdr.mk r_b r_at)) = true) : ([.ag [.sl .bs r_b, .i .i64 r_at], .i .i64 n] : List TV).length = rd_Take.d.np ∧ rd_Take.d.run (envL noGl rd_Take.env) [.ag [.sl .bs r_b, .i .i64 r_at], .i .i64 n] = some (([(.sl .bs (Cur.nx (Rdr.mk r_b r_at) n (Cur.okT (Rdr.mk r_b r_at) n))), (.b (Cur.okT (Rdr.mk r_b r_at) n)), (.ag (Rdr.cells (Cur.adv (Rdr.mk r_b r_at) n (Cur.okT (Rdr.mk r_b r_at) n))))] : List TV) ++ rd_Take.d.ps.toList.map fun q => ([.ag [.sl .bs r_b, .i .i64 r_at], .i .i64 n] : List TV).getD q.1 .dead) :=
  ⟨by kernel_rfl, Eq.trans (b := rd_Take.F (Rdr.mk r_b r_at) n) (by kernel_rfl) (Eq.trans (rd_Take.goal (Rdr.mk r_b r_at) n hp) (by kernel_rfl))⟩
theorem rd_Take.ok : SpecOK Go.Proofs.Try.prog (fun n => (noGl n).av) 66 (Ctr.fs (rd_Take.c, rd_Take.sg)) :=
  meets (l := rd_Take.env) (all_cons rd_Left.ok (all_cons clone_bs.ok all_nil)) rd_Take.chk (by
      intro ins outs h
      unfold rd_Take.c at h
      split at h
      · obtain ⟨hp, rfl⟩ := h; exact rd_Take.fit _ _ _ hp
      · exact h.elim)
theorem rd_High.fit (r_b : List UInt8) (r_at : Int) (n : Int) (hp : (Cur.good (Rdr.mk r_b r_at)) = true) : ([.ag [.sl .bs r_b, .i .i64 r_at], .i .i64 n] : List TV).length = rd_High.d.np ∧ rd_High.d.run (envL noGl rd_High.env) [.ag [.sl .bs r_b, .i .i64 r_at], .i .i64 n] = some (([(.u64 (Cur.be (Cur.nx (Rdr.mk r_b r_at) n (Cur.ok8 (Rdr.mk r_b r_at) n)))), (.b (Cur.ok8 (Rdr.mk r_b r_at) n)), (.ag (Rdr.cells (Cur.adv (Rdr.mk r_b r_at) n (Cur.ok8 (Rdr.mk r_b r_at) n))))] : List TV) ++ rd_High.d.ps.toList.map fun q => ([.ag [.sl .bs r_b, .i .i64 r_at], .i .i64 n] : List TV).getD q.1 .dead) :=
  ⟨by kernel_rfl, Eq.trans (b := rd_High.F (Rdr.mk r_b r_at) n) (by kernel_rfl) (Eq.trans (rd_High.goal (Rdr.mk r_b r_at) n hp) (by kernel_rfl))⟩
theorem rd_High.ok : SpecOK Go.Proofs.Try.prog (fun n => (noGl n).av) 50 (Ctr.fs (rd_High.c, rd_High.sg)) :=
  meets (l := rd_High.env) (all_cons rd_next.ok all_nil) rd_High.chk (by
      intro ins outs h
      unfold rd_High.c at h
      split at h
      · obtain ⟨hp, rfl⟩ := h; exact rd_High.fit _ _ _ hp
      · exact h.elim)
theorem cur_New.fit (b : List UInt8) (hp : (decide ((b).length ≤ 1099511627776)) = true) : ([.sl .bs b] : List TV).length = cur_New.d.np ∧ cur_New.d.run (envL noGl cur_New.env) [.sl .bs b] = some (([.pt, (.ag (Rdr.cells ((Rdr.mk b 0))))] : List TV) ++ cur_New.d.ps.toList.map fun q => ([.sl .bs b] : List TV).getD q.1 .dead) :=
  ⟨by kernel_rfl, Eq.trans (b := cur_New.F b) (by kernel_rfl) (Eq.trans (cur_New.goal b hp) (by kernel_rfl))⟩
theorem cur_New.ok : SpecOK Go.Proofs.Try.prog (fun n => (noGl n).av) 30 (Ctr.fs (cur_New.c, cur_New.sg)) :=
  meets (l := cur_New.env) (all_cons clone_bs.ok all_nil) cur_New.chk (by
      intro ins outs h
      unfold cur_New.c at h
      split at h
      · obtain ⟨hp, rfl⟩ := h; exact cur_New.fit _ hp
      · exact h.elim)
theorem cur_number.fit (n : Int) : ([.i .i64 n] : List TV).length = cur_number.d.np ∧ cur_number.d.run (envL noGl cur_number.env) [.i .i64 n] = some (([(.b (decide (1 ≤ n ∧ n ≤ 8)))] : List TV) ++ cur_number.d.ps.toList.map fun q => ([.i .i64 n] : List TV).getD q.1 .dead) :=
  ⟨by kernel_rfl, Eq.trans (b := cur_number.F n) (by kernel_rfl) (Eq.trans (cur_number.goal n) (by kernel_rfl))⟩
theorem cur_number.ok : SpecOK Go.Proofs.Try.prog (fun n => (noGl n).av) 67 (Ctr.fs (cur_number.c, cur_number.sg)) :=
  meets (l := cur_number.env) all_nil cur_number.chk (by
      intro ins outs h
      unfold cur_number.c at h
      split at h
      · cases h; exact cur_number.fit _
      · exact h.elim)
theorem cur_Lay.fit : ([] : List TV).length = cur_Lay.d.np ∧ cur_Lay.d.run (envL noGl cur_Lay.env) [] = some (([.pt, (.ag (Wtr.cells ((Wtr.mk []))))] : List TV) ++ cur_Lay.d.ps.toList.map fun q => ([] : List TV).getD q.1 .dead) :=
  ⟨by kernel_rfl, Eq.trans (b := cur_Lay.F ) (by kernel_rfl) (Eq.trans (cur_Lay.goal ) (by kernel_rfl))⟩
theorem cur_Lay.ok : SpecOK Go.Proofs.Try.prog (fun n => (noGl n).av) 22 (Ctr.fs (cur_Lay.c, cur_Lay.sg)) :=
  meets (l := cur_Lay.env) all_nil cur_Lay.chk (by
      intro ins outs h
      unfold cur_Lay.c at h
      split at h
      · cases h; exact cur_Lay.fit
      · exact h.elim)
theorem wr_Byte.fit (w_b : List UInt8) (v : Int) (hp : (decide (((Wtr.mk w_b)).b.length ≤ 1099511627776)) = true) : ([.ag [.sl .bs w_b], .i .i64 v] : List TV).length = wr_Byte.d.np ∧ wr_Byte.d.run (envL noGl wr_Byte.env) [.ag [.sl .bs w_b], .i .i64 v] = some (([(.ag (Wtr.cells ((Wtr.mk (((Wtr.mk w_b)).b ++ [UInt8.ofInt v])))))] : List TV) ++ wr_Byte.d.ps.toList.map fun q => ([.ag [.sl .bs w_b], .i .i64 v] : List TV).getD q.1 .dead) :=
  ⟨by kernel_rfl, Eq.trans (b := wr_Byte.F (Wtr.mk w_b) v) (by kernel_rfl) (Eq.trans (wr_Byte.goal (Wtr.mk w_b) v hp) (by kernel_rfl))⟩
theorem wr_Byte.ok : SpecOK Go.Proofs.Try.prog (fun n => (noGl n).av) 40 (Ctr.fs (wr_Byte.c, wr_Byte.sg)) :=
  meets (l := wr_Byte.env) all_nil wr_Byte.chk (by
      intro ins outs h
      unfold wr_Byte.c at h
      split at h
      · obtain ⟨hp, rfl⟩ := h; exact wr_Byte.fit _ _ hp
      · exact h.elim)
theorem wr_Raw.fit (w_b : List UInt8) (b : List UInt8) (hp : (decide (((Wtr.mk w_b)).b.length + (b).length ≤ 1099511627776)) = true) : ([.ag [.sl .bs w_b], .sl .bs b] : List TV).length = wr_Raw.d.np ∧ wr_Raw.d.run (envL noGl wr_Raw.env) [.ag [.sl .bs w_b], .sl .bs b] = some (([(.ag (Wtr.cells ((Wtr.mk (((Wtr.mk w_b)).b ++ b)))))] : List TV) ++ wr_Raw.d.ps.toList.map fun q => ([.ag [.sl .bs w_b], .sl .bs b] : List TV).getD q.1 .dead) :=
  ⟨by kernel_rfl, Eq.trans (b := wr_Raw.F (Wtr.mk w_b) b) (by kernel_rfl) (Eq.trans (wr_Raw.goal (Wtr.mk w_b) b hp) (by kernel_rfl))⟩
theorem wr_Raw.ok : SpecOK Go.Proofs.Try.prog (fun n => (noGl n).av) 42 (Ctr.fs (wr_Raw.c, wr_Raw.sg)) :=
  meets (l := wr_Raw.env) all_nil wr_Raw.chk (by
      intro ins outs h
      unfold wr_Raw.c at h
      split at h
      · obtain ⟨hp, rfl⟩ := h; exact wr_Raw.fit _ _ hp
      · exact h.elim)
theorem wr_High.fit (w_b : List UInt8) (v : UInt64) (n : Int) (hp : (decide (((Wtr.mk w_b)).b.length ≤ 1099511627776)) = true) : ([.ag [.sl .bs w_b], .u64 v, .i .i64 n] : List TV).length = wr_High.d.np ∧ wr_High.d.run (envL noGl wr_High.env) [.ag [.sl .bs w_b], .u64 v, .i .i64 n] = some (([(.ag (Wtr.cells ((Wtr.mk (((Wtr.mk w_b)).b ++ Cur.high v n)))))] : List TV) ++ wr_High.d.ps.toList.map fun q => ([.ag [.sl .bs w_b], .u64 v, .i .i64 n] : List TV).getD q.1 .dead) :=
  ⟨by kernel_rfl, Eq.trans (b := wr_High.F (Wtr.mk w_b) v n) (by kernel_rfl) (Eq.trans (wr_High.goal (Wtr.mk w_b) v n hp) (by kernel_rfl))⟩
theorem wr_High.ok : SpecOK Go.Proofs.Try.prog (fun n => (noGl n).av) 58 (Ctr.fs (wr_High.c, wr_High.sg)) :=
  meets (l := wr_High.env) (all_cons cur_number.ok all_nil) wr_High.chk (by
      intro ins outs h
      unfold wr_High.c at h
      split at h
      · obtain ⟨hp, rfl⟩ := h; exact wr_High.fit _ _ _ hp
      · exact h.elim)
theorem wr_Bytes.fit (w_b : List UInt8) (hp : (decide (((Wtr.mk w_b)).b.length ≤ 1099511627776)) = true) : ([.ag [.sl .bs w_b]] : List TV).length = wr_Bytes.d.np ∧ wr_Bytes.d.run (envL noGl wr_Bytes.env) [.ag [.sl .bs w_b]] = some (([(.sl .bs ((((Wtr.mk w_b)).b))), (.ag (Wtr.cells ((Wtr.mk w_b))))] : List TV) ++ wr_Bytes.d.ps.toList.map fun q => ([.ag [.sl .bs w_b]] : List TV).getD q.1 .dead) :=
  ⟨by kernel_rfl, Eq.trans (b := wr_Bytes.F (Wtr.mk w_b)) (by kernel_rfl) (Eq.trans (wr_Bytes.goal (Wtr.mk w_b) hp) (by kernel_rfl))⟩
theorem wr_Bytes.ok : SpecOK Go.Proofs.Try.prog (fun n => (noGl n).av) 24 (Ctr.fs (wr_Bytes.c, wr_Bytes.sg)) :=
  meets (l := wr_Bytes.env) (all_cons clone_bs.ok all_nil) wr_Bytes.chk (by
      intro ins outs h
      unfold wr_Bytes.c at h
      split at h
      · obtain ⟨hp, rfl⟩ := h; exact wr_Bytes.fit _ hp
      · exact h.elim)
theorem mp_few.fit (n : Int) (hp : (decide (0 ≤ n ∧ n ≤ 1099511627776)) = true) : ([.i .i64 n] : List TV).length = mp_few.d.np ∧ mp_few.d.run (envL noGl mp_few.env) [.i .i64 n] = some (([(.b (decide (n < 4294967296)))] : List TV) ++ mp_few.d.ps.toList.map fun q => ([.i .i64 n] : List TV).getD q.1 .dead) :=
  ⟨by kernel_rfl, Eq.trans (b := mp_few.F n) (by kernel_rfl) (Eq.trans (mp_few.goal n hp) (by kernel_rfl))⟩
theorem mp_few.ok : SpecOK Go.Proofs.Try.prog (fun n => (noGl n).av) 45 (Ctr.fs (mp_few.c, mp_few.sg)) :=
  meets (l := mp_few.env) all_nil mp_few.chk (by
      intro ins outs h
      unfold mp_few.c at h
      split at h
      · obtain ⟨hp, rfl⟩ := h; exact mp_few.fit _ hp
      · exact h.elim)
theorem mp_fields.fit (it_kind : Int) (it_n : UInt64) (it_bytes : List UInt8) (it_text : Str) (it_kids : List Itm) (hp : (decide (Itm.bulk (Itm.of (Itv.mk it_kind it_n it_bytes it_text it_kids)) ≤ 1099511627776)) = true) : ([.ag [.i .i64 it_kind, .u64 it_n, .sl .bs it_bytes, .s it_text, .sl .il it_kids]] : List TV).length = mp_fields.d.np ∧ mp_fields.d.run (envL noGl mp_fields.env) [.ag [.i .i64 it_kind, .u64 it_n, .sl .bs it_bytes, .s it_text, .sl .il it_kids]] = some (([(.b (Mp.fieldsOK (Itm.of (Itv.mk it_kind it_n it_bytes it_text it_kids))))] : List TV) ++ mp_fields.d.ps.toList.map fun q => ([.ag [.i .i64 it_kind, .u64 it_n, .sl .bs it_bytes, .s it_text, .sl .il it_kids]] : List TV).getD q.1 .dead) :=
  ⟨by kernel_rfl, Eq.trans (b := mp_fields.F (Itv.mk it_kind it_n it_bytes it_text it_kids)) (by kernel_rfl) (Eq.trans (mp_fields.goal (Itv.mk it_kind it_n it_bytes it_text it_kids) hp) (by kernel_rfl))⟩
theorem mp_fields.ok : SpecOK Go.Proofs.Try.prog (fun n => (noGl n).av) 26 (Ctr.fs (mp_fields.c, mp_fields.sg)) :=
  meets (l := mp_fields.env) (all_cons mp_few.ok all_nil) mp_fields.chk (by
      intro ins outs h
      unfold mp_fields.c at h
      split at h
      · obtain ⟨hp, rfl⟩ := h; exact mp_fields.fit _ _ _ _ _ hp
      · exact h.elim)
theorem mp_Check.fit (n : Nat) (it_kind : Int) (it_n : UInt64) (it_bytes : List UInt8) (it_text : Str) (it_kids : List Itm) (hp : ((decide (Itm.bulk (Itm.of (Itv.mk it_kind it_n it_bytes it_text it_kids)) ≤ 1099511627776)) && decide ((Itm.bulk (Itm.of (Itv.mk it_kind it_n it_bytes it_text it_kids))) < n + 1)) = true) : ([.ag [.i .i64 it_kind, .u64 it_n, .sl .bs it_bytes, .s it_text, .sl .il it_kids]] : List TV).length = mp_Check.d.np ∧ mp_Check.d.run (envL noGl (mp_Check.env n)) [.ag [.i .i64 it_kind, .u64 it_n, .sl .bs it_bytes, .s it_text, .sl .il it_kids]] = some (([(.i .i64 (Mp.chk (Itm.of (Itv.mk it_kind it_n it_bytes it_text it_kids))))] : List TV) ++ mp_Check.d.ps.toList.map fun q => ([.ag [.i .i64 it_kind, .u64 it_n, .sl .bs it_bytes, .s it_text, .sl .il it_kids]] : List TV).getD q.1 .dead) :=
  ⟨by kernel_rfl, Eq.trans (b := mp_Check.F n (Itv.mk it_kind it_n it_bytes it_text it_kids)) (by kernel_rfl) (Eq.trans (mp_Check.goal n (Itv.mk it_kind it_n it_bytes it_text it_kids) hp) (by kernel_rfl))⟩
theorem mcheck.oks : ∀ n : Nat, (SpecOK Go.Proofs.Try.prog (fun n => (noGl n).av) 13 (Ctr.fs (mp_Check.cn n, mp_Check.sg))) := by
  intro n
  induction n with
  | zero => exact spec_zero (by
      intro ti to_ h
      unfold mp_Check.cn at h
      split at h
      · obtain ⟨h, _⟩ := h; simp at h
      · exact h.elim)
  | succ n ih =>
    have ih0 := ih
    exact meets (l := mp_Check.env n) (all_cons ih0 (all_cons mp_fields.ok (all_cons utf_Check.ok all_nil))) (mp_Check.chk n) (by
      intro ins outs h
      unfold mp_Check.cn at h
      split at h
      · obtain ⟨hp, rfl⟩ := h; exact mp_Check.fit n _ _ _ _ _ hp
      · exact h.elim)
theorem mp_Check.ok : SpecOK Go.Proofs.Try.prog (fun n => (noGl n).av) 13 (Ctr.fs (mp_Check.c, mp_Check.sg)) := spec_sub fun ti to_ h => by
  unfold mp_Check.c at h
  split at h
  · obtain ⟨hp, rfl⟩ := h; exact ⟨mp_Check.cn (_ + 1), (mcheck.oks _), Bool.and_eq_true_iff.2 ⟨hp, decide_eq_true (Nat.lt_succ_self _)⟩, rfl⟩
  · exact h.elim
theorem mp_wrong.fit (e : Int) (at_ : Int) : ([.i .i64 e, .i .i64 at_] : List TV).length = mp_wrong.d.np ∧ mp_wrong.d.run (envL noGl mp_wrong.env) [.i .i64 e, .i .i64 at_] = some (([(.ag (Itv.cells (Itm.val (Mp.zero)))), (.ag (Flt.cells ((Flt.mk e at_ []))))] : List TV) ++ mp_wrong.d.ps.toList.map fun q => ([.i .i64 e, .i .i64 at_] : List TV).getD q.1 .dead) :=
  ⟨by kernel_rfl, Eq.trans (b := mp_wrong.F e at_) (by kernel_rfl) (Eq.trans (mp_wrong.goal e at_) (by kernel_rfl))⟩
theorem mp_wrong.ok : SpecOK Go.Proofs.Try.prog (fun n => (noGl n).av) 29 (Ctr.fs (mp_wrong.c, mp_wrong.sg)) :=
  meets (l := mp_wrong.env) all_nil mp_wrong.chk (by
      intro ins outs h
      unfold mp_wrong.c at h
      split at h
      · cases h; exact mp_wrong.fit _ _
      · exact h.elim)
theorem mp_unsigned.fit (n : UInt64) : ([.u64 n] : List TV).length = mp_unsigned.d.np ∧ mp_unsigned.d.run (envL noGl mp_unsigned.env) [.u64 n] = some (([(.ag [(.i .i64 (Mp.unsigned n).1), (.i .i64 (Mp.unsigned n).2)])] : List TV) ++ mp_unsigned.d.ps.toList.map fun q => ([.u64 n] : List TV).getD q.1 .dead) :=
  ⟨by kernel_rfl, Eq.trans (b := mp_unsigned.F n) (by kernel_rfl) (Eq.trans (mp_unsigned.goal n) (by kernel_rfl))⟩
theorem mp_unsigned.ok : SpecOK Go.Proofs.Try.prog (fun n => (noGl n).av) 38 (Ctr.fs (mp_unsigned.c, mp_unsigned.sg)) :=
  meets (l := mp_unsigned.env) all_nil mp_unsigned.chk (by
      intro ins outs h
      unfold mp_unsigned.c at h
      split at h
      · cases h; exact mp_unsigned.fit _
      · exact h.elim)
theorem mp_signed.fit (n : UInt64) : ([.u64 n] : List TV).length = mp_signed.d.np ∧ mp_signed.d.run (envL noGl mp_signed.env) [.u64 n] = some (([(.ag [(.i .i64 (Mp.signed n).1), (.i .i64 (Mp.signed n).2)])] : List TV) ++ mp_signed.d.ps.toList.map fun q => ([.u64 n] : List TV).getD q.1 .dead) :=
  ⟨by kernel_rfl, Eq.trans (b := mp_signed.F n) (by kernel_rfl) (Eq.trans (mp_signed.goal n) (by kernel_rfl))⟩
theorem mp_signed.ok : SpecOK Go.Proofs.Try.prog (fun n => (noGl n).av) 39 (Ctr.fs (mp_signed.c, mp_signed.sg)) :=
  meets (l := mp_signed.env) all_nil mp_signed.chk (by
      intro ins outs h
      unfold mp_signed.c at h
      split at h
      · cases h; exact mp_signed.fit _
      · exact h.elim)
theorem mp_put.fit (w_b : List UInt8) (f_at : Int) (f_end : Int) (n : UInt64) (hp : (decide (((Wtr.mk w_b)).b.length + 10 ≤ 1099511627776)) = true) : ([.ag [.sl .bs w_b], .ag [.i .i64 f_at, .i .i64 f_end], .u64 n] : List TV).length = mp_put.d.np ∧ mp_put.d.run (envL noGl mp_put.env) [.ag [.sl .bs w_b], .ag [.i .i64 f_at, .i .i64 f_end], .u64 n] = some (([(.ag (Wtr.cells ((Wtr.mk (((Wtr.mk w_b)).b ++ Mp.put (((Spn.mk f_at f_end)).at_, ((Spn.mk f_at f_end)).end_) n)))))] : List TV) ++ mp_put.d.ps.toList.map fun q => ([.ag [.sl .bs w_b], .ag [.i .i64 f_at, .i .i64 f_end], .u64 n] : List TV).getD q.1 .dead) :=
  ⟨by kernel_rfl, Eq.trans (b := mp_put.F (Wtr.mk w_b) (Spn.mk f_at f_end) n) (by kernel_rfl) (Eq.trans (mp_put.goal (Wtr.mk w_b) (Spn.mk f_at f_end) n hp) (by kernel_rfl))⟩
theorem mp_put.ok : SpecOK Go.Proofs.Try.prog (fun n => (noGl n).av) 37 (Ctr.fs (mp_put.c, mp_put.sg)) :=
  meets (l := mp_put.env) (all_cons wr_Byte.ok (all_cons wr_High.ok all_nil)) mp_put.chk (by
      intro ins outs h
      unfold mp_put.c at h
      split at h
      · obtain ⟨hp, rfl⟩ := h; exact mp_put.fit _ _ _ _ hp
      · exact h.elim)
theorem mp_lay.fit (n : Nat) (w_b : List UInt8) (it_kind : Int) (it_n : UInt64) (it_bytes : List UInt8) (it_text : Str) (it_kids : List Itm) (hp : ((decide (((Wtr.mk w_b)).b.length + 16 * Itm.bulk (Itm.of (Itv.mk it_kind it_n it_bytes it_text it_kids)) ≤ 1099511627776) && decide (Mp.chk (Itm.of (Itv.mk it_kind it_n it_bytes it_text it_kids)) = 0)) && decide ((Itm.bulk (Itm.of (Itv.mk it_kind it_n it_bytes it_text it_kids))) < n + 1)) = true) : ([.ag [.sl .bs w_b], .ag [.i .i64 it_kind, .u64 it_n, .sl .bs it_bytes, .s it_text, .sl .il it_kids]] : List TV).length = mp_lay.d.np ∧ mp_lay.d.run (envL noGl (mp_lay.env n)) [.ag [.sl .bs w_b], .ag [.i .i64 it_kind, .u64 it_n, .sl .bs it_bytes, .s it_text, .sl .il it_kids]] = some (([(.ag (Wtr.cells ((Wtr.mk (((Wtr.mk w_b)).b ++ Mp.lay (Itm.of (Itv.mk it_kind it_n it_bytes it_text it_kids)))))))] : List TV) ++ mp_lay.d.ps.toList.map fun q => ([.ag [.sl .bs w_b], .ag [.i .i64 it_kind, .u64 it_n, .sl .bs it_bytes, .s it_text, .sl .il it_kids]] : List TV).getD q.1 .dead) :=
  ⟨by kernel_rfl, Eq.trans (b := mp_lay.F n (Wtr.mk w_b) (Itv.mk it_kind it_n it_bytes it_text it_kids)) (by kernel_rfl) (Eq.trans (mp_lay.goal n (Wtr.mk w_b) (Itv.mk it_kind it_n it_bytes it_text it_kids) hp) (by kernel_rfl))⟩
theorem mlay.oks : ∀ n : Nat, (SpecOK Go.Proofs.Try.prog (fun n => (noGl n).av) 23 (Ctr.fs (mp_lay.cn n, mp_lay.sg))) := by
  intro n
  induction n with
  | zero => exact spec_zero (by
      intro ti to_ h
      unfold mp_lay.cn at h
      split at h
      · obtain ⟨h, _⟩ := h; simp at h
      · exact h.elim)
  | succ n ih =>
    have ih0 := ih
    exact meets (l := mp_lay.env n) (all_cons ih0 (all_cons mp_put.ok (all_cons mp_unsigned.ok (all_cons mp_signed.ok (all_cons wr_Byte.ok (all_cons mp_sized.ok (all_cons wr_Raw.ok all_nil))))))) (mp_lay.chk n) (by
      intro ins outs h
      unfold mp_lay.cn at h
      split at h
      · obtain ⟨hp, rfl⟩ := h; exact mp_lay.fit n _ _ _ _ _ _ hp
      · exact h.elim)
theorem mp_lay.ok : SpecOK Go.Proofs.Try.prog (fun n => (noGl n).av) 23 (Ctr.fs (mp_lay.c, mp_lay.sg)) := spec_sub fun ti to_ h => by
  unfold mp_lay.c at h
  split at h
  · obtain ⟨hp, rfl⟩ := h; exact ⟨mp_lay.cn (_ + 1), (mlay.oks _), Bool.and_eq_true_iff.2 ⟨hp, decide_eq_true (Nat.lt_succ_self _)⟩, rfl⟩
  · exact h.elim
theorem mp_Encode.fit (it_kind : Int) (it_n : UInt64) (it_bytes : List UInt8) (it_text : Str) (it_kids : List Itm) (hp : (decide (Itm.bulk (Itm.of (Itv.mk it_kind it_n it_bytes it_text it_kids)) ≤ 1073741824)) = true) : ([.ag [.i .i64 it_kind, .u64 it_n, .sl .bs it_bytes, .s it_text, .sl .il it_kids]] : List TV).length = mp_Encode.d.np ∧ mp_Encode.d.run (envL noGl mp_Encode.env) [.ag [.i .i64 it_kind, .u64 it_n, .sl .bs it_bytes, .s it_text, .sl .il it_kids]] = some (([(.sl .bs (Mp.enc (Itm.of (Itv.mk it_kind it_n it_bytes it_text it_kids)))), (.i .i64 (Mp.chk (Itm.of (Itv.mk it_kind it_n it_bytes it_text it_kids))))] : List TV) ++ mp_Encode.d.ps.toList.map fun q => ([.ag [.i .i64 it_kind, .u64 it_n, .sl .bs it_bytes, .s it_text, .sl .il it_kids]] : List TV).getD q.1 .dead) :=
  ⟨by kernel_rfl, Eq.trans (b := mp_Encode.F (Itv.mk it_kind it_n it_bytes it_text it_kids)) (by kernel_rfl) (Eq.trans (mp_Encode.goal (Itv.mk it_kind it_n it_bytes it_text it_kids) hp) (by kernel_rfl))⟩
theorem mp_Encode.ok : SpecOK Go.Proofs.Try.prog (fun n => (noGl n).av) 11 (Ctr.fs (mp_Encode.c, mp_Encode.sg)) :=
  meets (l := mp_Encode.env) (all_cons mp_Check.ok (all_cons cur_Lay.ok (all_cons mp_lay.ok (all_cons wr_Bytes.ok all_nil)))) mp_Encode.chk (by
      intro ins outs h
      unfold mp_Encode.c at h
      split at h
      · obtain ⟨hp, rfl⟩ := h; exact mp_Encode.fit _ _ _ _ _ hp
      · exact h.elim)
theorem mp_first.fit (c : Int) (hp : (decide (0 ≤ c ∧ c ≤ 255)) = true) : ([.i .i64 c] : List TV).length = mp_first.d.np ∧ mp_first.d.run (envL noGl mp_first.env) [.i .i64 c] = some (([(.i .i64 ((Mp.first c).1)), (.u64 ((Mp.first c).2.1)), (.i .i64 ((Mp.first c).2.2))] : List TV) ++ mp_first.d.ps.toList.map fun q => ([.i .i64 c] : List TV).getD q.1 .dead) :=
  ⟨by kernel_rfl, Eq.trans (b := mp_first.F c) (by kernel_rfl) (Eq.trans (mp_first.goal c hp) (by kernel_rfl))⟩
theorem mp_first.ok : SpecOK Go.Proofs.Try.prog (fun n => (noGl n).av) 49 (Ctr.fs (mp_first.c, mp_first.sg)) :=
  meets (l := mp_first.env) all_nil mp_first.chk (by
      intro ins outs h
      unfold mp_first.c at h
      split at h
      · obtain ⟨hp, rfl⟩ := h; exact mp_first.fit _ hp
      · exact h.elim)
theorem mp_number.fit (it_kind : Int) (it_n : UInt64) (it_bytes : List UInt8) (it_text : Str) (it_kids : List Itm) (p : Int) (c : Int) (f_at : Int) (f_end : Int) : ([.ag [.i .i64 it_kind, .u64 it_n, .sl .bs it_bytes, .s it_text, .sl .il it_kids], .i .i64 p, .i .i64 c, .ag [.i .i64 f_at, .i .i64 f_end]] : List TV).length = mp_number.d.np ∧ mp_number.d.run (envL noGl mp_number.env) [.ag [.i .i64 it_kind, .u64 it_n, .sl .bs it_bytes, .s it_text, .sl .il it_kids], .i .i64 p, .i .i64 c, .ag [.i .i64 f_at, .i .i64 f_end]] = some (([(.ag (Itv.cells (Itm.val ((Mp.num (Itm.of (Itv.mk it_kind it_n it_bytes it_text it_kids)) p c ((Spn.mk f_at f_end)).at_ 0).it)))), (.ag (Flt.cells ((Flt.mk (Mp.num (Itm.of (Itv.mk it_kind it_n it_bytes it_text it_kids)) p c ((Spn.mk f_at f_end)).at_ 0).err (Mp.num (Itm.of (Itv.mk it_kind it_n it_bytes it_text it_kids)) p c ((Spn.mk f_at f_end)).at_ 0).at_ []))))] : List TV) ++ mp_number.d.ps.toList.map fun q => ([.ag [.i .i64 it_kind, .u64 it_n, .sl .bs it_bytes, .s it_text, .sl .il it_kids], .i .i64 p, .i .i64 c, .ag [.i .i64 f_at, .i .i64 f_end]] : List TV).getD q.1 .dead) :=
  ⟨by kernel_rfl, Eq.trans (b := mp_number.F (Itv.mk it_kind it_n it_bytes it_text it_kids) p c (Spn.mk f_at f_end)) (by kernel_rfl) (Eq.trans (mp_number.goal (Itv.mk it_kind it_n it_bytes it_text it_kids) p c (Spn.mk f_at f_end)) (by kernel_rfl))⟩
theorem mp_number.ok : SpecOK Go.Proofs.Try.prog (fun n => (noGl n).av) 51 (Ctr.fs (mp_number.c, mp_number.sg)) :=
  meets (l := mp_number.env) (all_cons mp_wrong.ok all_nil) mp_number.chk (by
      intro ins outs h
      unfold mp_number.c at h
      split at h
      · cases h; exact mp_number.fit _ _ _ _ _ _ _ _ _
      · exact h.elim)
theorem mp_number.okw : SpecOK Go.Proofs.Try.prog (fun n => (noGl n).av) 51 (Ctr.fs (mp_number.cw, mp_number.sg)) := spec_wk rfl (by decide) mp_number.ok
theorem mp_row.fit (r_b : List UInt8) (r_at : Int) (it_kind : Int) (it_n : UInt64) (it_bytes : List UInt8) (it_text : Str) (it_kids : List Itm) (p : Int) (n : Int) (hp : (Cur.good (Rdr.mk r_b r_at)) = true) : ([.ag [.sl .bs r_b, .i .i64 r_at], .ag [.i .i64 it_kind, .u64 it_n, .sl .bs it_bytes, .s it_text, .sl .il it_kids], .i .i64 p, .i .i64 n] : List TV).length = mp_row.d.np ∧ mp_row.d.run (envL noGl mp_row.env) [.ag [.sl .bs r_b, .i .i64 r_at], .ag [.i .i64 it_kind, .u64 it_n, .sl .bs it_bytes, .s it_text, .sl .il it_kids], .i .i64 p, .i .i64 n] = some (([(.ag (Itv.cells (Itm.val ((Mp.row ((Rdr.mk r_b r_at)).b (Itm.of (Itv.mk it_kind it_n it_bytes it_text it_kids)) p ((Rdr.mk r_b r_at)).at_ n).it)))), (.ag (Flt.cells ((Flt.mk (Mp.row ((Rdr.mk r_b r_at)).b (Itm.of (Itv.mk it_kind it_n it_bytes it_text it_kids)) p ((Rdr.mk r_b r_at)).at_ n).err (Mp.row ((Rdr.mk r_b r_at)).b (Itm.of (Itv.mk it_kind it_n it_bytes it_text it_kids)) p ((Rdr.mk r_b r_at)).at_ n).at_ [])))), (.ag (Rdr.cells ((Rdr.mk ((Rdr.mk r_b r_at)).b (Mp.row ((Rdr.mk r_b r_at)).b (Itm.of (Itv.mk it_kind it_n it_bytes it_text it_kids)) p ((Rdr.mk r_b r_at)).at_ n).pos))))] : List TV) ++ mp_row.d.ps.toList.map fun q => ([.ag [.sl .bs r_b, .i .i64 r_at], .ag [.i .i64 it_kind, .u64 it_n, .sl .bs it_bytes, .s it_text, .sl .il it_kids], .i .i64 p, .i .i64 n] : List TV).getD q.1 .dead) :=
  ⟨by kernel_rfl, Eq.trans (b := mp_row.F (Rdr.mk r_b r_at) (Itv.mk it_kind it_n it_bytes it_text it_kids) p n) (by kernel_rfl) (Eq.trans (mp_row.goal (Rdr.mk r_b r_at) (Itv.mk it_kind it_n it_bytes it_text it_kids) p n hp) (by kernel_rfl))⟩
theorem mp_row.ok : SpecOK Go.Proofs.Try.prog (fun n => (noGl n).av) 53 (Ctr.fs (mp_row.c, mp_row.sg)) :=
  meets (l := mp_row.env) (all_cons utf_Check.ok (all_cons mp_wrong.ok (all_cons rd_Take.ok all_nil))) mp_row.chk (by
      intro ins outs h
      unfold mp_row.c at h
      split at h
      · obtain ⟨hp, rfl⟩ := h; exact mp_row.fit _ _ _ _ _ _ _ _ _ hp
      · exact h.elim)
theorem mp_row.okw : SpecOK Go.Proofs.Try.prog (fun n => (noGl n).av) 53 (Ctr.fs (mp_row.cw, mp_row.sg)) := spec_wk rfl (by decide) mp_row.ok
theorem mp_kids.fit (n : Nat) (r_b : List UInt8) (r_at : Int) (it_kind : Int) (it_n : UInt64) (it_text : Str) (m : Int) (depth : Int) (hp : ((Cur.good (Rdr.mk r_b r_at) && decide (0 ≤ m ∧ m ≤ 4294967296 ∧ 1 ≤ depth ∧ depth ≤ 1000)) && decide ((2 * (depth).toNat) < n + 1)) = true) : ([.ag [.sl .bs r_b, .i .i64 r_at], .ag [.i .i64 it_kind, .u64 it_n, .c (.slice none 0 0), .s it_text, .c (.slice none 0 0)], .i .i64 m, .i .i64 depth] : List TV).length = mp_kids.d.np ∧ mp_kids.d.run (envL noGl (mp_kids.env n)) [.ag [.sl .bs r_b, .i .i64 r_at], .ag [.i .i64 it_kind, .u64 it_n, .c (.slice none 0 0), .s it_text, .c (.slice none 0 0)], .i .i64 m, .i .i64 depth] = some (([(.ag (Itv.cells (Itm.val ((Mp.kids (Mp.read ((Rdr.mk r_b r_at)).b (depth - 1).toNat) (Itm.of (Itv.mk it_kind it_n [] it_text [])) (Mp.many ((Itv.mk it_kind it_n [] it_text [])).kind m) ((Rdr.mk r_b r_at)).at_).it)))), (.ag (Flt.cells ((Flt.mk (Mp.kids (Mp.read ((Rdr.mk r_b r_at)).b (depth - 1).toNat) (Itm.of (Itv.mk it_kind it_n [] it_text [])) (Mp.many ((Itv.mk it_kind it_n [] it_text [])).kind m) ((Rdr.mk r_b r_at)).at_).err (Mp.kids (Mp.read ((Rdr.mk r_b r_at)).b (depth - 1).toNat) (Itm.of (Itv.mk it_kind it_n [] it_text [])) (Mp.many ((Itv.mk it_kind it_n [] it_text [])).kind m) ((Rdr.mk r_b r_at)).at_).at_ [])))), (.ag (Rdr.cells ((Rdr.mk ((Rdr.mk r_b r_at)).b (Mp.kids (Mp.read ((Rdr.mk r_b r_at)).b (depth - 1).toNat) (Itm.of (Itv.mk it_kind it_n [] it_text [])) (Mp.many ((Itv.mk it_kind it_n [] it_text [])).kind m) ((Rdr.mk r_b r_at)).at_).pos))))] : List TV) ++ mp_kids.d.ps.toList.map fun q => ([.ag [.sl .bs r_b, .i .i64 r_at], .ag [.i .i64 it_kind, .u64 it_n, .c (.slice none 0 0), .s it_text, .c (.slice none 0 0)], .i .i64 m, .i .i64 depth] : List TV).getD q.1 .dead) :=
  ⟨by kernel_rfl, Eq.trans (b := mp_kids.F n (Rdr.mk r_b r_at) (Itv.mk it_kind it_n [] it_text []) m depth) (by kernel_rfl) (Eq.trans (mp_kids.goal n (Rdr.mk r_b r_at) (Itv.mk it_kind it_n [] it_text []) m depth hp) (by kernel_rfl))⟩
theorem mp_read.fit (n : Nat) (r_b : List UInt8) (r_at : Int) (depth : Int) (hp : ((Cur.good (Rdr.mk r_b r_at) && decide (0 ≤ depth ∧ depth ≤ 1000)) && decide ((2 * (depth).toNat + 1) < n + 1)) = true) : ([.ag [.sl .bs r_b, .i .i64 r_at], .i .i64 depth] : List TV).length = mp_read.d.np ∧ mp_read.d.run (envL noGl (mp_read.env n)) [.ag [.sl .bs r_b, .i .i64 r_at], .i .i64 depth] = some (([(.ag (Itv.cells (Itm.val ((Mp.read ((Rdr.mk r_b r_at)).b (depth).toNat ((Rdr.mk r_b r_at)).at_).it)))), (.ag (Flt.cells ((Flt.mk (Mp.read ((Rdr.mk r_b r_at)).b (depth).toNat ((Rdr.mk r_b r_at)).at_).err (Mp.read ((Rdr.mk r_b r_at)).b (depth).toNat ((Rdr.mk r_b r_at)).at_).at_ [])))), (.ag (Rdr.cells ((Rdr.mk ((Rdr.mk r_b r_at)).b (Mp.read ((Rdr.mk r_b r_at)).b (depth).toNat ((Rdr.mk r_b r_at)).at_).pos))))] : List TV) ++ mp_read.d.ps.toList.map fun q => ([.ag [.sl .bs r_b, .i .i64 r_at], .i .i64 depth] : List TV).getD q.1 .dead) :=
  ⟨by kernel_rfl, Eq.trans (b := mp_read.F n (Rdr.mk r_b r_at) depth) (by kernel_rfl) (Eq.trans (mp_read.goal n (Rdr.mk r_b r_at) depth hp) (by kernel_rfl))⟩
theorem mread.oks : ∀ n : Nat, (SpecOK Go.Proofs.Try.prog (fun n => (noGl n).av) 52 (Ctr.fs (mp_kids.cn n, mp_kids.sg))) ∧ (SpecOK Go.Proofs.Try.prog (fun n => (noGl n).av) 31 (Ctr.fs (mp_read.cn n, mp_read.sg))) := by
  intro n
  induction n with
  | zero => exact ⟨spec_zero (by
      intro ti to_ h
      unfold mp_kids.cn at h
      split at h
      · obtain ⟨h, _⟩ := h; simp at h
      · exact h.elim), spec_zero (by
      intro ti to_ h
      unfold mp_read.cn at h
      split at h
      · obtain ⟨h, _⟩ := h; simp at h
      · exact h.elim)⟩
  | succ n ih =>
    obtain ⟨ih0, ih1⟩ := ih
    exact ⟨meets (l := mp_kids.env n) (all_cons ih1 all_nil) (mp_kids.chk n) (by
      intro ins outs h
      unfold mp_kids.cn at h
      split at h
      · obtain ⟨hp, rfl⟩ := h; exact mp_kids.fit n _ _ _ _ _ _ _ hp
      · exact h.elim), meets (l := mp_read.env n) (all_cons mp_wrong.ok (all_cons rd_At.ok (all_cons mp_unsigned.ok (all_cons mp_signed.ok (all_cons mp_sized.ok (all_cons rd_Byte.ok (all_cons mp_first.ok (all_cons rd_High.ok (all_cons mp_number.okw (all_cons ih0 (all_cons mp_row.okw all_nil))))))))))) (mp_read.chk n) (by
      intro ins outs h
      unfold mp_read.cn at h
      split at h
      · obtain ⟨hp, rfl⟩ := h; exact mp_read.fit n _ _ _ hp
      · exact h.elim)⟩
theorem mp_read.ok : SpecOK Go.Proofs.Try.prog (fun n => (noGl n).av) 31 (Ctr.fs (mp_read.c, mp_read.sg)) := spec_sub fun ti to_ h => by
  unfold mp_read.c at h
  split at h
  · obtain ⟨hp, rfl⟩ := h; exact ⟨mp_read.cn (_ + 1), (mread.oks _).2, Bool.and_eq_true_iff.2 ⟨hp, decide_eq_true (Nat.lt_succ_self _)⟩, rfl⟩
  · exact h.elim
theorem mp_Decode.fit (b : List UInt8) (depth : Int) (hp : (decide ((b).length ≤ 1099511627776)) = true) : ([.sl .bs b, .i .i64 depth] : List TV).length = mp_Decode.d.np ∧ mp_Decode.d.run (envL noGl mp_Decode.env) [.sl .bs b, .i .i64 depth] = some (([(.ag (Itv.cells (Itm.val ((Mp.dec b depth).1)))), (.ag (Flt.cells ((Mp.dec b depth).2)))] : List TV) ++ mp_Decode.d.ps.toList.map fun q => ([.sl .bs b, .i .i64 depth] : List TV).getD q.1 .dead) :=
  ⟨by kernel_rfl, Eq.trans (b := mp_Decode.F b depth) (by kernel_rfl) (Eq.trans (mp_Decode.goal b depth hp) (by kernel_rfl))⟩
theorem mp_Decode.ok : SpecOK Go.Proofs.Try.prog (fun n => (noGl n).av) 15 (Ctr.fs (mp_Decode.c, mp_Decode.sg)) :=
  meets (l := mp_Decode.env) (all_cons mp_wrong.ok (all_cons cur_New.ok (all_cons mp_read.ok (all_cons rd_Left.ok (all_cons rd_At.ok all_nil))))) mp_Decode.chk (by
      intro ins outs h
      unfold mp_Decode.c at h
      split at h
      · obtain ⟨hp, rfl⟩ := h; exact mp_Decode.fit _ _ hp
      · exact h.elim)
theorem ref1_PutLow.fit (v : UInt64) (n : Int) (hp : (decide (0 ≤ n ∧ n ≤ 8)) = true) : ([.u64 v, .i .i64 n] : List TV).length = ref1_PutLow.d.np ∧ ref1_PutLow.d.run (envL noGl ref1_PutLow.env) [.u64 v, .i .i64 n] = some (([(.sl .bs (Cur.putLow v (n).toNat))] : List TV) ++ ref1_PutLow.d.ps.toList.map fun q => ([.u64 v, .i .i64 n] : List TV).getD q.1 .dead) :=
  ⟨by kernel_rfl, Eq.trans (b := ref1_PutLow.F v n) (by kernel_rfl) (Eq.trans (ref1_PutLow.goal v n hp) (by kernel_rfl))⟩
theorem ref1_PutLow.ok : SpecOK Go.Proofs.Try.prog (fun n => (noGl n).av) 70 (Ctr.fs (ref1_PutLow.c, ref1_PutLow.sg)) :=
  meets (l := ref1_PutLow.env) all_nil ref1_PutLow.chk (by
      intro ins outs h
      unfold ref1_PutLow.c at h
      split at h
      · obtain ⟨hp, rfl⟩ := h; exact ref1_PutLow.fit _ _ hp
      · exact h.elim)
theorem ref1_PutHigh.fit (v : UInt64) (n : Int) (hp : (decide (0 ≤ n ∧ n ≤ 8)) = true) : ([.u64 v, .i .i64 n] : List TV).length = ref1_PutHigh.d.np ∧ ref1_PutHigh.d.run (envL noGl ref1_PutHigh.env) [.u64 v, .i .i64 n] = some (([(.sl .bs (Cur.putHigh v (n).toNat))] : List TV) ++ ref1_PutHigh.d.ps.toList.map fun q => ([.u64 v, .i .i64 n] : List TV).getD q.1 .dead) :=
  ⟨by kernel_rfl, Eq.trans (b := ref1_PutHigh.F v n) (by kernel_rfl) (Eq.trans (ref1_PutHigh.goal v n hp) (by kernel_rfl))⟩
theorem ref1_PutHigh.ok : SpecOK Go.Proofs.Try.prog (fun n => (noGl n).av) 61 (Ctr.fs (ref1_PutHigh.c, ref1_PutHigh.sg)) :=
  meets (l := ref1_PutHigh.env) (all_cons ref1_PutLow.ok all_nil) ref1_PutHigh.chk (by
      intro ins outs h
      unfold ref1_PutHigh.c at h
      split at h
      · obtain ⟨hp, rfl⟩ := h; exact ref1_PutHigh.fit _ _ hp
      · exact h.elim)
theorem ref29_own.fit (it_kind : Int) (it_n : UInt64) (it_bytes : List UInt8) (it_text : Str) (it_kids : List Itm) (hp : (decide (Itm.bulk (Itm.of (Itv.mk it_kind it_n it_bytes it_text it_kids)) ≤ 1099511627776)) = true) : ([.ag [.i .i64 it_kind, .u64 it_n, .sl .bs it_bytes, .s it_text, .sl .il it_kids]] : List TV).length = ref29_own.d.np ∧ ref29_own.d.run (envL noGl ref29_own.env) [.ag [.i .i64 it_kind, .u64 it_n, .sl .bs it_bytes, .s it_text, .sl .il it_kids]] = some (([(.i .i64 (Mp.own (Itm.of (Itv.mk it_kind it_n it_bytes it_text it_kids))))] : List TV) ++ ref29_own.d.ps.toList.map fun q => ([.ag [.i .i64 it_kind, .u64 it_n, .sl .bs it_bytes, .s it_text, .sl .il it_kids]] : List TV).getD q.1 .dead) :=
  ⟨by kernel_rfl, Eq.trans (b := ref29_own.F (Itv.mk it_kind it_n it_bytes it_text it_kids)) (by kernel_rfl) (Eq.trans (ref29_own.goal (Itv.mk it_kind it_n it_bytes it_text it_kids) hp) (by kernel_rfl))⟩
theorem ref29_own.ok : SpecOK Go.Proofs.Try.prog (fun n => (noGl n).av) 28 (Ctr.fs (ref29_own.c, ref29_own.sg)) :=
  meets (l := ref29_own.env) (all_cons ref2_Whole.ok all_nil) ref29_own.chk (by
      intro ins outs h
      unfold ref29_own.c at h
      split at h
      · obtain ⟨hp, rfl⟩ := h; exact ref29_own.fit _ _ _ _ _ hp
      · exact h.elim)
theorem ref29_Check.fit (n : Nat) (it_kind : Int) (it_n : UInt64) (it_bytes : List UInt8) (it_text : Str) (it_kids : List Itm) (hp : ((decide (Itm.bulk (Itm.of (Itv.mk it_kind it_n it_bytes it_text it_kids)) ≤ 1099511627776)) && decide ((Itm.bulk (Itm.of (Itv.mk it_kind it_n it_bytes it_text it_kids))) < n + 1)) = true) : ([.ag [.i .i64 it_kind, .u64 it_n, .sl .bs it_bytes, .s it_text, .sl .il it_kids]] : List TV).length = ref29_Check.d.np ∧ ref29_Check.d.run (envL noGl (ref29_Check.env n)) [.ag [.i .i64 it_kind, .u64 it_n, .sl .bs it_bytes, .s it_text, .sl .il it_kids]] = some (([(.i .i64 (Mp.chk (Itm.of (Itv.mk it_kind it_n it_bytes it_text it_kids))))] : List TV) ++ ref29_Check.d.ps.toList.map fun q => ([.ag [.i .i64 it_kind, .u64 it_n, .sl .bs it_bytes, .s it_text, .sl .il it_kids]] : List TV).getD q.1 .dead) :=
  ⟨by kernel_rfl, Eq.trans (b := ref29_Check.F n (Itv.mk it_kind it_n it_bytes it_text it_kids)) (by kernel_rfl) (Eq.trans (ref29_Check.goal n (Itv.mk it_kind it_n it_bytes it_text it_kids) hp) (by kernel_rfl))⟩
theorem rcheck29.oks : ∀ n : Nat, (SpecOK Go.Proofs.Try.prog (fun n => (noGl n).av) 14 (Ctr.fs (ref29_Check.cn n, ref29_Check.sg))) := by
  intro n
  induction n with
  | zero => exact spec_zero (by
      intro ti to_ h
      unfold ref29_Check.cn at h
      split at h
      · obtain ⟨h, _⟩ := h; simp at h
      · exact h.elim)
  | succ n ih =>
    have ih0 := ih
    exact meets (l := ref29_Check.env n) (all_cons ih0 (all_cons ref29_own.ok all_nil)) (ref29_Check.chk n) (by
      intro ins outs h
      unfold ref29_Check.cn at h
      split at h
      · obtain ⟨hp, rfl⟩ := h; exact ref29_Check.fit n _ _ _ _ _ hp
      · exact h.elim)
theorem ref29_Check.ok : SpecOK Go.Proofs.Try.prog (fun n => (noGl n).av) 14 (Ctr.fs (ref29_Check.c, ref29_Check.sg)) := spec_sub fun ti to_ h => by
  unfold ref29_Check.c at h
  split at h
  · obtain ⟨hp, rfl⟩ := h; exact ⟨ref29_Check.cn (_ + 1), (rcheck29.oks _), Bool.and_eq_true_iff.2 ⟨hp, decide_eq_true (Nat.lt_succ_self _)⟩, rfl⟩
  · exact h.elim
theorem ref29_wide.fit (n : UInt64) : ([.u64 n] : List TV).length = ref29_wide.d.np ∧ ref29_wide.d.run (envL noGl ref29_wide.env) [.u64 n] = some (([(.i .i64 (Mp.wide n))] : List TV) ++ ref29_wide.d.ps.toList.map fun q => ([.u64 n] : List TV).getD q.1 .dead) :=
  ⟨by kernel_rfl, Eq.trans (b := ref29_wide.F n) (by kernel_rfl) (Eq.trans (ref29_wide.goal n) (by kernel_rfl))⟩
theorem ref29_wide.ok : SpecOK Go.Proofs.Try.prog (fun n => (noGl n).av) 68 (Ctr.fs (ref29_wide.c, ref29_wide.sg)) :=
  meets (l := ref29_wide.env) all_nil ref29_wide.chk (by
      intro ins outs h
      unfold ref29_wide.c at h
      split at h
      · cases h; exact ref29_wide.fit _
      · exact h.elim)
theorem ref29_step.fit (n : Int) : ([.i .i64 n] : List TV).length = ref29_step.d.np ∧ ref29_step.d.run (envL noGl ref29_step.env) [.i .i64 n] = some (([(.u8 (Mp.step n))] : List TV) ++ ref29_step.d.ps.toList.map fun q => ([.i .i64 n] : List TV).getD q.1 .dead) :=
  ⟨by kernel_rfl, Eq.trans (b := ref29_step.F n) (by kernel_rfl) (Eq.trans (ref29_step.goal n) (by kernel_rfl))⟩
theorem ref29_step.ok : SpecOK Go.Proofs.Try.prog (fun n => (noGl n).av) 69 (Ctr.fs (ref29_step.c, ref29_step.sg)) :=
  meets (l := ref29_step.env) all_nil ref29_step.chk (by
      intro ins outs h
      unfold ref29_step.c at h
      split at h
      · cases h; exact ref29_step.fit _
      · exact h.elim)
theorem ref29_form.fit (f : UInt8) (n : UInt64) (least : Int) (hp : (decide (least ≤ 8)) = true) : ([.u8 f, .u64 n, .i .i64 least] : List TV).length = ref29_form.d.np ∧ ref29_form.d.run (envL noGl ref29_form.env) [.u8 f, .u64 n, .i .i64 least] = some (([(.sl .bs (Mp.form f n least))] : List TV) ++ ref29_form.d.ps.toList.map fun q => ([.u8 f, .u64 n, .i .i64 least] : List TV).getD q.1 .dead) :=
  ⟨by kernel_rfl, Eq.trans (b := ref29_form.F f n least) (by kernel_rfl) (Eq.trans (ref29_form.goal f n least hp) (by kernel_rfl))⟩
theorem ref29_form.ok : SpecOK Go.Proofs.Try.prog (fun n => (noGl n).av) 59 (Ctr.fs (ref29_form.c, ref29_form.sg)) :=
  meets (l := ref29_form.env) (all_cons ref1_PutHigh.ok (all_cons ref29_wide.ok (all_cons ref29_step.ok all_nil))) ref29_form.chk (by
      intro ins outs h
      unfold ref29_form.c at h
      split at h
      · obtain ⟨hp, rfl⟩ := h; exact ref29_form.fit _ _ _ hp
      · exact h.elim)
theorem ref29_ext.fit (n : UInt64) (k : UInt64) : ([.u64 n, .u64 k] : List TV).length = ref29_ext.d.np ∧ ref29_ext.d.run (envL noGl ref29_ext.env) [.u64 n, .u64 k] = some (([(.sl .bs (Mp.ext n k))] : List TV) ++ ref29_ext.d.ps.toList.map fun q => ([.u64 n, .u64 k] : List TV).getD q.1 .dead) :=
  ⟨by kernel_rfl, Eq.trans (b := ref29_ext.F n k) (by kernel_rfl) (Eq.trans (ref29_ext.goal n k) (by kernel_rfl))⟩
theorem ref29_ext.ok : SpecOK Go.Proofs.Try.prog (fun n => (noGl n).av) 62 (Ctr.fs (ref29_ext.c, ref29_ext.sg)) :=
  meets (l := ref29_ext.env) (all_cons ref29_form.ok all_nil) ref29_ext.chk (by
      intro ins outs h
      unfold ref29_ext.c at h
      split at h
      · cases h; exact ref29_ext.fit _ _
      · exact h.elim)
theorem ref29_negative.fit (n : UInt64) : ([.u64 n] : List TV).length = ref29_negative.d.np ∧ ref29_negative.d.run (envL noGl ref29_negative.env) [.u64 n] = some (([(.sl .bs (Mp.put (Mp.signed n) (~~~ n)))] : List TV) ++ ref29_negative.d.ps.toList.map fun q => ([.u64 n] : List TV).getD q.1 .dead) :=
  ⟨by kernel_rfl, Eq.trans (b := ref29_negative.F n) (by kernel_rfl) (Eq.trans (ref29_negative.goal n) (by kernel_rfl))⟩
theorem ref29_negative.ok : SpecOK Go.Proofs.Try.prog (fun n => (noGl n).av) 60 (Ctr.fs (ref29_negative.c, ref29_negative.sg)) :=
  meets (l := ref29_negative.env) (all_cons ref1_PutHigh.ok all_nil) ref29_negative.chk (by
      intro ins outs h
      unfold ref29_negative.c at h
      split at h
      · cases h; exact ref29_negative.fit _
      · exact h.elim)
theorem ref29_head.fit (it_kind : Int) (it_n : UInt64) (it_bytes : List UInt8) (it_text : Str) (it_kids : List Itm) (hp : (decide (Itm.bulk (Itm.of (Itv.mk it_kind it_n it_bytes it_text it_kids)) ≤ 1099511627776) && decide (Mp.own (Itm.of (Itv.mk it_kind it_n it_bytes it_text it_kids)) = 0)) = true) : ([.ag [.i .i64 it_kind, .u64 it_n, .sl .bs it_bytes, .s it_text, .sl .il it_kids]] : List TV).length = ref29_head.d.np ∧ ref29_head.d.run (envL noGl ref29_head.env) [.ag [.i .i64 it_kind, .u64 it_n, .sl .bs it_bytes, .s it_text, .sl .il it_kids]] = some (([(.sl .bs (Mp.head (Itm.of (Itv.mk it_kind it_n it_bytes it_text it_kids))))] : List TV) ++ ref29_head.d.ps.toList.map fun q => ([.ag [.i .i64 it_kind, .u64 it_n, .sl .bs it_bytes, .s it_text, .sl .il it_kids]] : List TV).getD q.1 .dead) :=
  ⟨by kernel_rfl, Eq.trans (b := ref29_head.F (Itv.mk it_kind it_n it_bytes it_text it_kids)) (by kernel_rfl) (Eq.trans (ref29_head.goal (Itv.mk it_kind it_n it_bytes it_text it_kids) hp) (by kernel_rfl))⟩
theorem ref29_head.ok : SpecOK Go.Proofs.Try.prog (fun n => (noGl n).av) 44 (Ctr.fs (ref29_head.c, ref29_head.sg)) :=
  meets (l := ref29_head.env) (all_cons ref29_form.ok (all_cons ref29_negative.ok (all_cons ref1_PutHigh.ok (all_cons ref29_ext.ok all_nil)))) ref29_head.chk (by
      intro ins outs h
      unfold ref29_head.c at h
      split at h
      · obtain ⟨hp, rfl⟩ := h; exact ref29_head.fit _ _ _ _ _ hp
      · exact h.elim)
theorem ref29_lay.fit (n : Nat) (it_kind : Int) (it_n : UInt64) (it_bytes : List UInt8) (it_text : Str) (it_kids : List Itm) (hp : ((decide (16 * Itm.bulk (Itm.of (Itv.mk it_kind it_n it_bytes it_text it_kids)) ≤ 1099511627776) && decide (Mp.chk (Itm.of (Itv.mk it_kind it_n it_bytes it_text it_kids)) = 0)) && decide ((Itm.bulk (Itm.of (Itv.mk it_kind it_n it_bytes it_text it_kids))) < n + 1)) = true) : ([.ag [.i .i64 it_kind, .u64 it_n, .sl .bs it_bytes, .s it_text, .sl .il it_kids]] : List TV).length = ref29_lay.d.np ∧ ref29_lay.d.run (envL noGl (ref29_lay.env n)) [.ag [.i .i64 it_kind, .u64 it_n, .sl .bs it_bytes, .s it_text, .sl .il it_kids]] = some (([(.sl .bs (Mp.lay (Itm.of (Itv.mk it_kind it_n it_bytes it_text it_kids))))] : List TV) ++ ref29_lay.d.ps.toList.map fun q => ([.ag [.i .i64 it_kind, .u64 it_n, .sl .bs it_bytes, .s it_text, .sl .il it_kids]] : List TV).getD q.1 .dead) :=
  ⟨by kernel_rfl, Eq.trans (b := ref29_lay.F n (Itv.mk it_kind it_n it_bytes it_text it_kids)) (by kernel_rfl) (Eq.trans (ref29_lay.goal n (Itv.mk it_kind it_n it_bytes it_text it_kids) hp) (by kernel_rfl))⟩
theorem rlay29.oks : ∀ n : Nat, (SpecOK Go.Proofs.Try.prog (fun n => (noGl n).av) 25 (Ctr.fs (ref29_lay.cn n, ref29_lay.sg))) := by
  intro n
  induction n with
  | zero => exact spec_zero (by
      intro ti to_ h
      unfold ref29_lay.cn at h
      split at h
      · obtain ⟨h, _⟩ := h; simp at h
      · exact h.elim)
  | succ n ih =>
    have ih0 := ih
    exact meets (l := ref29_lay.env n) (all_cons ih0 (all_cons ref29_head.ok all_nil)) (ref29_lay.chk n) (by
      intro ins outs h
      unfold ref29_lay.cn at h
      split at h
      · obtain ⟨hp, rfl⟩ := h; exact ref29_lay.fit n _ _ _ _ _ hp
      · exact h.elim)
theorem ref29_lay.ok : SpecOK Go.Proofs.Try.prog (fun n => (noGl n).av) 25 (Ctr.fs (ref29_lay.c, ref29_lay.sg)) := spec_sub fun ti to_ h => by
  unfold ref29_lay.c at h
  split at h
  · obtain ⟨hp, rfl⟩ := h; exact ⟨ref29_lay.cn (_ + 1), (rlay29.oks _), Bool.and_eq_true_iff.2 ⟨hp, decide_eq_true (Nat.lt_succ_self _)⟩, rfl⟩
  · exact h.elim
theorem ref29_Encode.fit (it_kind : Int) (it_n : UInt64) (it_bytes : List UInt8) (it_text : Str) (it_kids : List Itm) (hp : (decide (Itm.bulk (Itm.of (Itv.mk it_kind it_n it_bytes it_text it_kids)) ≤ 1073741824)) = true) : ([.ag [.i .i64 it_kind, .u64 it_n, .sl .bs it_bytes, .s it_text, .sl .il it_kids]] : List TV).length = ref29_Encode.d.np ∧ ref29_Encode.d.run (envL noGl ref29_Encode.env) [.ag [.i .i64 it_kind, .u64 it_n, .sl .bs it_bytes, .s it_text, .sl .il it_kids]] = some (([(.sl .bs (Mp.enc (Itm.of (Itv.mk it_kind it_n it_bytes it_text it_kids)))), (.i .i64 (Mp.chk (Itm.of (Itv.mk it_kind it_n it_bytes it_text it_kids))))] : List TV) ++ ref29_Encode.d.ps.toList.map fun q => ([.ag [.i .i64 it_kind, .u64 it_n, .sl .bs it_bytes, .s it_text, .sl .il it_kids]] : List TV).getD q.1 .dead) :=
  ⟨by kernel_rfl, Eq.trans (b := ref29_Encode.F (Itv.mk it_kind it_n it_bytes it_text it_kids)) (by kernel_rfl) (Eq.trans (ref29_Encode.goal (Itv.mk it_kind it_n it_bytes it_text it_kids) hp) (by kernel_rfl))⟩
theorem ref29_Encode.ok : SpecOK Go.Proofs.Try.prog (fun n => (noGl n).av) 12 (Ctr.fs (ref29_Encode.c, ref29_Encode.sg)) :=
  meets (l := ref29_Encode.env) (all_cons ref29_Check.ok (all_cons ref29_lay.ok all_nil)) ref29_Encode.chk (by
      intro ins outs h
      unfold ref29_Encode.c at h
      split at h
      · obtain ⟨hp, rfl⟩ := h; exact ref29_Encode.fit _ _ _ _ _ hp
      · exact h.elim)
theorem book_Room.fit (left : Int) (sizes : List Int) (hp : (decide (left ≤ 10000 ∧ sizes.length ≤ 10) && sizes.all (fun s => decide (0 ≤ s))) = true) : ([.i .i64 left, .sl .is sizes] : List TV).length = book_Room.d.np ∧ book_Room.d.run (envL noGl book_Room.env) [.i .i64 left, .sl .is sizes] = some (([(.i .i64 (Book.room left sizes))] : List TV) ++ book_Room.d.ps.toList.map fun q => ([.i .i64 left, .sl .is sizes] : List TV).getD q.1 .dead) :=
  ⟨by kernel_rfl, Eq.trans (b := book_Room.F left sizes) (by kernel_rfl) (Eq.trans (book_Room.goal left sizes hp) (by kernel_rfl))⟩
theorem book_Room.ok : SpecOK Go.Proofs.Try.prog (fun n => (noGl n).av) 36 (Ctr.fs (book_Room.c, book_Room.sg)) :=
  meets (l := book_Room.env) all_nil book_Room.chk (by
      intro ins outs h
      unfold book_Room.c at h
      split at h
      · obtain ⟨hp, rfl⟩ := h; exact book_Room.fit _ _ hp
      · exact h.elim)
theorem book_item.fit (n : Nat) (left : Int) (it_kind : Int) (it_n : UInt64) (it_bytes : List UInt8) (it_text : Str) (it_kids : List Itm) (hp : ((decide (left ≤ 10000)) && decide ((Itm.bulk (Itm.of (Itv.mk it_kind it_n it_bytes it_text it_kids))) < n + 1)) = true) : ([.i .i64 left, .ag [.i .i64 it_kind, .u64 it_n, .sl .bs it_bytes, .s it_text, .sl .il it_kids]] : List TV).length = book_item.d.np ∧ book_item.d.run (envL noGl (book_item.env n)) [.i .i64 left, .ag [.i .i64 it_kind, .u64 it_n, .sl .bs it_bytes, .s it_text, .sl .il it_kids]] = some (([(.i .i64 (Itm.room left (Itm.of (Itv.mk it_kind it_n it_bytes it_text it_kids))))] : List TV) ++ book_item.d.ps.toList.map fun q => ([.i .i64 left, .ag [.i .i64 it_kind, .u64 it_n, .sl .bs it_bytes, .s it_text, .sl .il it_kids]] : List TV).getD q.1 .dead) :=
  ⟨by kernel_rfl, Eq.trans (b := book_item.F n left (Itv.mk it_kind it_n it_bytes it_text it_kids)) (by kernel_rfl) (Eq.trans (book_item.goal n left (Itv.mk it_kind it_n it_bytes it_text it_kids) hp) (by kernel_rfl))⟩
theorem bitem.oks : ∀ n : Nat, (SpecOK Go.Proofs.Try.prog (fun n => (noGl n).av) 21 (Ctr.fs (book_item.cn n, book_item.sg))) := by
  intro n
  induction n with
  | zero => exact spec_zero (by
      intro ti to_ h
      unfold book_item.cn at h
      split at h
      · obtain ⟨h, _⟩ := h; simp at h
      · exact h.elim)
  | succ n ih =>
    have ih0 := ih
    exact meets (l := book_item.env n) (all_cons ih0 (all_cons book_Room.ok all_nil)) (book_item.chk n) (by
      intro ins outs h
      unfold book_item.cn at h
      split at h
      · obtain ⟨hp, rfl⟩ := h; exact book_item.fit n _ _ _ _ _ _ hp
      · exact h.elim)
theorem book_item.ok : SpecOK Go.Proofs.Try.prog (fun n => (noGl n).av) 21 (Ctr.fs (book_item.c, book_item.sg)) := spec_sub fun ti to_ h => by
  unfold book_item.c at h
  split at h
  · obtain ⟨hp, rfl⟩ := h; exact ⟨book_item.cn (_ + 1), (bitem.oks _), Bool.and_eq_true_iff.2 ⟨hp, decide_eq_true (Nat.lt_succ_self _)⟩, rfl⟩
  · exact h.elim
theorem book_SmallItem.fit (it_kind : Int) (it_n : UInt64) (it_bytes : List UInt8) (it_text : Str) (it_kids : List Itm) : ([.ag [.i .i64 it_kind, .u64 it_n, .sl .bs it_bytes, .s it_text, .sl .il it_kids]] : List TV).length = book_SmallItem.d.np ∧ book_SmallItem.d.run (envL noGl book_SmallItem.env) [.ag [.i .i64 it_kind, .u64 it_n, .sl .bs it_bytes, .s it_text, .sl .il it_kids]] = some (([(.b (decide (0 ≤ Itm.room 1500 (Itm.of (Itv.mk it_kind it_n it_bytes it_text it_kids)))))] : List TV) ++ book_SmallItem.d.ps.toList.map fun q => ([.ag [.i .i64 it_kind, .u64 it_n, .sl .bs it_bytes, .s it_text, .sl .il it_kids]] : List TV).getD q.1 .dead) :=
  ⟨by kernel_rfl, Eq.trans (b := book_SmallItem.F (Itv.mk it_kind it_n it_bytes it_text it_kids)) (by kernel_rfl) (Eq.trans (book_SmallItem.goal (Itv.mk it_kind it_n it_bytes it_text it_kids)) (by kernel_rfl))⟩
theorem book_SmallItem.ok : SpecOK Go.Proofs.Try.prog (fun n => (noGl n).av) 10 (Ctr.fs (book_SmallItem.c, book_SmallItem.sg)) :=
  meets (l := book_SmallItem.env) (all_cons book_item.ok all_nil) book_SmallItem.chk (by
      intro ins outs h
      unfold book_SmallItem.c at h
      split at h
      · cases h; exact book_SmallItem.fit _ _ _ _ _
      · exact h.elim)
theorem book_Place.fit (k : Int) (n : Int) (hp : (decide (1 ≤ n ∧ n ≤ 1099511627776)) = true) : ([.i .i64 k, .i .i64 n] : List TV).length = book_Place.d.np ∧ book_Place.d.run (envL noGl book_Place.env) [.i .i64 k, .i .i64 n] = some (([(.i .i64 ((k % n)))] : List TV) ++ book_Place.d.ps.toList.map fun q => ([.i .i64 k, .i .i64 n] : List TV).getD q.1 .dead) :=
  ⟨by kernel_rfl, Eq.trans (b := book_Place.F k n) (by kernel_rfl) (Eq.trans (book_Place.goal k n hp) (by kernel_rfl))⟩
theorem book_Place.ok : SpecOK Go.Proofs.Try.prog (fun n => (noGl n).av) 20 (Ctr.fs (book_Place.c, book_Place.sg)) :=
  meets (l := book_Place.env) all_nil book_Place.chk (by
      intro ins outs h
      unfold book_Place.c at h
      split at h
      · obtain ⟨hp, rfl⟩ := h; exact book_Place.fit _ _ hp
      · exact h.elim)
theorem law29_awake.fit : ([] : List TV).length = law29_awake.d.np ∧ law29_awake.d.run (envL noGl law29_awake.env) [] = some (([(.b (true))] : List TV) ++ law29_awake.d.ps.toList.map fun q => ([] : List TV).getD q.1 .dead) :=
  ⟨by kernel_rfl, Eq.trans (b := law29_awake.F ) (by kernel_rfl) (Eq.trans (law29_awake.goal ) (by kernel_rfl))⟩
theorem law29_awake.ok : SpecOK Go.Proofs.Try.prog (fun n => (noGl n).av) 9 (Ctr.fs (law29_awake.c, law29_awake.sg)) :=
  meets (l := law29_awake.env) (all_cons mp_Encode.ok (all_cons mp_Decode.ok all_nil)) law29_awake.chk (by
      intro ins outs h
      unfold law29_awake.c at h
      split at h
      · cases h; exact law29_awake.fit
      · exact h.elim)
end Go.Eng
namespace Go.Eng
open Go.IntWalk
theorem Mp.head_read (pre rest : Str) (f : Int × Int) (x : UInt64) (k : Int) (n0 : UInt64) (d : Nat) (h0 : 0 ≤ f.1 ∧ f.1 ≤ 255) (hf : Mp.first f.1 = (k, n0, f.2)) (hk : k ≠ 0) (hl : f.2 = 0 ∨ f.2 = 1 ∨ f.2 = 2 ∨ f.2 = 4 ∨ f.2 = 8) :
    Mp.read (pre ++ (Mp.put f x ++ rest)) (d + 1) pre.length = Mp.readTail (pre ++ (Mp.put f x ++ rest)) (Mp.read (pre ++ (Mp.put f x ++ rest)) d) pre.length f.1 k (if f.2 = 0 then n0 else Cur.be (Cur.high x f.2)) f.2 ((pre.length : Int) + 1 + f.2) := by
  have hh : (Cur.high x f.2).length = f.2.toNat := by
    unfold Cur.high
    split
    · rw [Cur.putHigh_len]
    · have : f.2 = 0 := by omega
      rw [this]; rfl
  generalize hb : pre ++ (Mp.put f x ++ rest) = b
  have hlen : b.length = pre.length + (1 + f.2.toNat) + rest.length := by
    rw [← hb]; simp only [List.length_append, Mp.put, List.length_cons, hh]; omega
  have hc : b.getD pre.length 0 = UInt8.ofInt f.1 := by
    rw [← hb, List.getD_eq_getElem?_getD, List.getElem?_append_right (Nat.le_refl _), Nat.sub_self]; rfl
  have hcn : ((UInt8.ofInt f.1).toNat : Int) = f.1 := by
    obtain ⟨m, hm⟩ : ∃ m : Nat, f.1 = m := ⟨f.1.toNat, by omega⟩
    rw [hm, u8_nat]; omega
  have hd : (b.drop (pre.length + 1)).take f.2.toNat = Cur.high x f.2 := by
    rw [← hb, show pre ++ (Mp.put f x ++ rest) = (pre ++ [UInt8.ofInt f.1]) ++ (Cur.high x f.2 ++ rest) by simp [Mp.put], List.drop_left' (by simp), List.take_left' hh]
  rw [Mp.read, if_neg (by omega), Int.toNat_natCast, hc, hcn, hf, Mp.readAt, if_neg hk, if_neg (by simp only; omega), show ((pre.length : Int) + 1).toNat = pre.length + 1 by omega, hd]
theorem Mp.put_length (f : Int × Int) (x : UInt64) (hl : f.2 = 0 ∨ f.2 = 1 ∨ f.2 = 2 ∨ f.2 = 4 ∨ f.2 = 8) : (Mp.put f x).length = 1 + f.2.toNat := by
  rw [Mp.put, List.length_cons]
  unfold Cur.high
  split
  · rw [Cur.putHigh_len]; omega
  · have : f.2 = 0 := by omega
    rw [this]; rfl
theorem Cur.be_high (x : UInt64) (long : Int) (hl : long = 1 ∨ long = 2 ∨ long = 4 ∨ long = 8) : (Cur.be (Cur.high x long)).toNat = x.toNat % 256 ^ long.toNat := by
  rw [Cur.high, if_pos (by omega), Cur.be_put _ _ (by omega)]
theorem Mp.back_num (n : UInt64) (x : UInt64) (long : Int) (hl : long = 0 ∨ long = 1 ∨ long = 2 ∨ long = 4 ∨ long = 8) (h : long ≠ 0 → n.toNat < 256 ^ long.toNat) : (if long = 0 then (if long = 0 then n else 0) else Cur.be (Cur.high n long)) = n := by
  by_cases a : long = 0
  · rw [if_pos a, if_pos a]
  · rw [if_neg a]
    apply UInt64.toNat_inj.1
    rw [Cur.be_high _ _ (by omega), Nat.mod_eq_of_lt (h a)]
theorem Mp.back_signed (n : UInt64) (hn : n.toNat < 9223372036854775808) (h0 : (Mp.signed n).2 ≠ 0) : Mp.below (Cur.be (Cur.high (~~~ n) (Mp.signed n).2)) (Mp.signed n).2 = some n := by
  obtain ⟨_, _, _, hc⟩ := Mp.first_signed n
  have key : ∀ (top : UInt64) (N : Nat) (long : Int), long.toNat = N → (long = 1 ∨ long = 2 ∨ long = 4 ∨ long = 8) → 2 * top.toNat = 256 ^ N → N ≤ 8 → n.toNat < top.toNat →
      (if Cur.be (Cur.high (~~~ n) long) < top then none else some (top - 1 - (Cur.be (Cur.high (~~~ n) long) - top)) : Option UInt64) = some n := by
    intro top N long hN hl ht h8 hnt
    subst hN
    have hu := Cur.be_high (~~~ n) long hl
    generalize Cur.be (Cur.high (~~~ n) long) = u at hu ⊢
    have hp8 : 256 ^ long.toNat ≤ 256 ^ 8 := Nat.pow_le_pow_right (by omega) h8
    obtain ⟨d, hd⟩ : ∃ d, 18446744073709551616 = 256 ^ long.toNat * d := ⟨256 ^ (8 - long.toNat), by rw [← Nat.pow_add, show long.toNat + (8 - long.toNat) = 8 by omega]⟩
    have hd1 : 1 ≤ d := by
      rcases Nat.eq_zero_or_pos d with q | q
      · subst q; simp at hd
      · exact q
    obtain ⟨d', rfl⟩ : ∃ d', d = d' + 1 := ⟨d - 1, by omega⟩
    have hu' : u.toNat = 256 ^ long.toNat - 1 - n.toNat := by
      rw [hu, not_u64, show 18446744073709551615 - n.toNat = (256 ^ long.toNat - 1 - n.toNat) + 256 ^ long.toNat * d' by rw [Nat.mul_add, Nat.mul_one] at hd; omega, Nat.add_mul_mod_self_left, Nat.mod_eq_of_lt (by omega)]
    have e1 : (1 : UInt64).toNat = 1 := rfl
    rw [if_neg (by rw [UInt64.lt_iff_toNat_lt, hu']; omega)]
    congr 1
    apply UInt64.toNat_inj.1
    have h1 : (top - 1).toNat = top.toNat - 1 := by rw [UInt64.toNat_sub_of_le _ _ (by rw [UInt64.le_iff_toNat_le, e1]; omega), e1]
    have h2 : (u - top).toNat = u.toNat - top.toNat := UInt64.toNat_sub_of_le _ _ (by rw [UInt64.le_iff_toNat_le, hu']; omega)
    rw [UInt64.toNat_sub_of_le _ _ (by rw [UInt64.le_iff_toNat_le, h1, h2, hu']; omega), h1, h2, hu']; omega
  unfold Mp.below
  rcases hc with ⟨e, h⟩ | ⟨e, h⟩ | ⟨e, h⟩ | e | ⟨e, h⟩
  · rw [e]; exact key 128 1 1 rfl (by omega) rfl (by omega) h
  · rw [e]; exact key 32768 2 2 rfl (by omega) rfl (by omega) h
  · rw [e]; exact key 2147483648 4 4 rfl (by omega) rfl (by omega) h
  · rw [e]; exact key 9223372036854775808 8 8 rfl (by omega) rfl (by omega) hn
  · exact (h0 e).elim
end Go.Eng
namespace Go.Eng
open Go.IntWalk
theorem Mp.num_self (it : Itm) (p c q : Int) : Mp.num it p c c q = ⟨it, 0, 0, q⟩ := by
  unfold Mp.num; rw [if_neg (fun h => h rfl)]
theorem Mp.row_read (b : Str) (it : Itm) (p q : Int) (m : Nat) (hq : 0 ≤ q) (h : q + m ≤ b.length) : Mp.row b it p q m = (if it.kind ≠ 4 then ⟨.mk it.kind it.n ((b.drop q.toNat).take m) it.text it.kids, 0, 0, q + m⟩ else if Utf.whole ((b.drop q.toNat).take m) then ⟨.mk it.kind it.n it.bytes ((b.drop q.toNat).take m) it.kids, 0, 0, q + m⟩ else Mp.bad 4 p (q + m)) := by
  unfold Mp.row; rw [if_neg (by omega), Int.toNat_natCast]
mutual
theorem Mp.read_lay : ∀ (it : Itm) (d : Nat) (pre rest : Str), Mp.chk it = 0 → Itm.nest it ≤ d → Mp.read (pre ++ (Mp.lay it ++ rest)) d pre.length = ⟨it, 0, 0, (pre.length : Int) + (Mp.lay it).length⟩
  | .mk k n b t ks, 0, pre, rest, hc, hn => by simp only [Itm.nest] at hn; omega
  | .mk k n b t ks, d + 1, pre, rest, hc, hn => by
    obtain ⟨ho, hcs⟩ := Mp.chk0 ⟨k, n, b, t, ks⟩ hc
    obtain ⟨p1, p2, p3, p4, p5, p6, p7, p8, p9, p10, p11, p12, p13, p14⟩ := Mp.own0 ⟨k, n, b, t, ks⟩ ho
    simp only at p1 p2 p3 p4 p5 p6 p7 p8 p9 p10 p11 p12 p13 p14 hcs
    simp only [Itm.nest] at hn
    have K := fun (pre' : Str) (t' : UInt64) => Mp.kids_lay ks d pre' rest k t' [] hcs (by omega)
    have hk' : k = 1 ∨ k = 2 ∨ k = 3 ∨ k = 4 ∨ k = 5 ∨ k = 6 ∨ k = 8 ∨ k = 9 ∨ k = 10 := by omega
    rcases hk' with rfl | rfl | rfl | rfl | rfl | rfl | rfl | rfl | rfl
    · have h3 := p3 (by decide) (by decide)
      have h4 := p4 (by decide)
      have h5 := p5 (by decide) (by decide)
      subst h3 h4 h5
      obtain ⟨f, b0, b1, hL⟩ := Mp.first_unsigned n
      have hl : (Mp.unsigned n).2 = 0 ∨ (Mp.unsigned n).2 = 1 ∨ (Mp.unsigned n).2 = 2 ∨ (Mp.unsigned n).2 = 4 ∨ (Mp.unsigned n).2 = 8 := by
        have := (Mp.first_kinds _ ⟨b0, b1⟩).2.1; rw [f] at this; exact this
      rw [show Mp.lay (.mk 1 n [] [] []) = Mp.put (Mp.unsigned n) n by simp [Mp.lay, Mp.head, Mp.lays], Mp.head_read pre rest _ n 1 _ d ⟨b0, b1⟩ f (by decide) hl, Mp.back_num n n _ hl hL, Mp.readTail, if_neg (by decide), Mp.readEnd, if_neg (by decide), if_pos rfl, Mp.num_self, Mp.put_length _ _ hl]
      congr 1; omega
    · have h3 := p3 (by decide) (by decide)
      have h4 := p4 (by decide)
      have h5 := p5 (by decide) (by decide)
      subst h3 h4 h5
      obtain ⟨f, b0, b1, _⟩ := Mp.first_signed n
      have hl : (Mp.signed n).2 = 0 ∨ (Mp.signed n).2 = 1 ∨ (Mp.signed n).2 = 2 ∨ (Mp.signed n).2 = 4 ∨ (Mp.signed n).2 = 8 := by
        have := (Mp.first_kinds _ ⟨b0, b1⟩).2.1; rw [f] at this; exact this
      rw [show Mp.lay (.mk 2 n [] [] []) = Mp.put (Mp.signed n) (~~~ n) by simp [Mp.lay, Mp.head, Mp.lays], Mp.head_read pre rest _ (~~~ n) 2 _ d ⟨b0, b1⟩ f (by decide) hl, Mp.readTail, if_neg (by decide), Mp.readEnd, if_neg (by decide), if_neg (by decide), if_pos rfl, Mp.put_length _ _ hl]
      by_cases a : (Mp.signed n).2 = 0
      · simp only [if_pos a, Mp.num_self]
        congr 1; omega
      · simp only [if_neg a]
        rw [Mp.back_signed n (UInt64.lt_iff_toNat_lt.1 (p6 rfl)) a]
        simp only [Mp.num_self]
        congr 1; omega
    · have h4 := p4 (by decide)
      have h5 := p5 (by decide) (by decide)
      have h2 := p2 (by decide)
      subst h4 h5 h2
      obtain ⟨f, b0, b1, hL⟩ := Mp.first_sized 3 (by decide) b.length p10
      have hl : (Mp.sized 3 b.length).2 = 0 ∨ (Mp.sized 3 b.length).2 = 1 ∨ (Mp.sized 3 b.length).2 = 2 ∨ (Mp.sized 3 b.length).2 = 4 ∨ (Mp.sized 3 b.length).2 = 8 := by
        have := (Mp.first_kinds _ ⟨b0, b1⟩).2.1; rw [f] at this; simp only at this; exact this
      have hN := u64_small p10
      have hpl := Mp.put_length (Mp.sized 3 b.length) (UInt64.ofNat b.length) hl
      have e : pre ++ (Mp.lay (.mk 3 0 b [] []) ++ rest) = pre ++ (Mp.put (Mp.sized 3 b.length) (UInt64.ofNat b.length) ++ (b ++ rest)) := by simp [Mp.lay, Mp.head, Mp.lays]
      have el : (Mp.lay (.mk 3 0 b [] [])).length = 1 + (Mp.sized 3 b.length).2.toNat + b.length := by simp [Mp.lay, Mp.head, Mp.lays, hpl]
      rw [e, el, Mp.head_read pre (b ++ rest) _ _ 3 _ d ⟨b0, b1⟩ f (by decide) hl, Mp.back_num _ (UInt64.ofNat b.length) _ hl (by rw [hN]; exact hL), Mp.readTail, if_neg (by decide), Mp.readEnd, if_neg (by decide), if_neg (by decide), if_neg (by decide), hN, if_neg (by simp), if_neg (by decide), if_neg (by decide), Mp.row_read _ _ _ _ _ (by omega) (by simp [hpl]; omega), if_pos (by decide)]
      have hs : ((pre ++ (Mp.put (Mp.sized 3 b.length) (UInt64.ofNat b.length) ++ (b ++ rest))).drop ((pre.length : Int) + 1 + (Mp.sized 3 b.length).2).toNat).take b.length = b := by
        rw [← List.append_assoc, List.drop_left' (by rw [List.length_append, hpl]; omega), List.take_left' rfl]
      rw [hs]
      simp only [Itm.kind, Itm.n, Itm.text, Itm.kids]
      refine congrArg (Mp.Got.mk _ 0 0) ?_
      omega
    · have h3 := p3 (by decide) (by decide)
      have h5 := p5 (by decide) (by decide)
      have h2 := p2 (by decide)
      subst h3 h5 h2
      obtain ⟨f, b0, b1, hL⟩ := Mp.first_sized 4 (by decide) t.length p11
      have hl : (Mp.sized 4 t.length).2 = 0 ∨ (Mp.sized 4 t.length).2 = 1 ∨ (Mp.sized 4 t.length).2 = 2 ∨ (Mp.sized 4 t.length).2 = 4 ∨ (Mp.sized 4 t.length).2 = 8 := by
        have := (Mp.first_kinds _ ⟨b0, b1⟩).2.1; rw [f] at this; simp only at this; exact this
      have hN := u64_small p11
      have hpl := Mp.put_length (Mp.sized 4 t.length) (UInt64.ofNat t.length) hl
      have e : pre ++ (Mp.lay (.mk 4 0 [] t []) ++ rest) = pre ++ (Mp.put (Mp.sized 4 t.length) (UInt64.ofNat t.length) ++ (t ++ rest)) := by simp [Mp.lay, Mp.head, Mp.lays]
      have el : (Mp.lay (.mk 4 0 [] t [])).length = 1 + (Mp.sized 4 t.length).2.toNat + t.length := by simp [Mp.lay, Mp.head, Mp.lays, hpl]
      rw [e, el, Mp.head_read pre (t ++ rest) _ _ 4 _ d ⟨b0, b1⟩ f (by decide) hl, Mp.back_num _ (UInt64.ofNat t.length) _ hl (by rw [hN]; exact hL), Mp.readTail, if_neg (by decide), Mp.readEnd, if_neg (by decide), if_neg (by decide), if_neg (by decide), hN, if_neg (by simp), if_neg (by decide), if_neg (by decide), Mp.row_read _ _ _ _ _ (by omega) (by simp [hpl]; omega), if_neg (by decide)]
      have hs : ((pre ++ (Mp.put (Mp.sized 4 t.length) (UInt64.ofNat t.length) ++ (t ++ rest))).drop ((pre.length : Int) + 1 + (Mp.sized 4 t.length).2).toNat).take t.length = t := by
        rw [← List.append_assoc, List.drop_left' (by rw [List.length_append, hpl]; omega), List.take_left' rfl]
      rw [hs, if_pos p14]
      simp only [Itm.kind, Itm.n, Itm.bytes, Itm.kids]
      refine congrArg (Mp.Got.mk _ 0 0) ?_
      omega
    · have h3 := p3 (by decide) (by decide)
      have h4 := p4 (by decide)
      have h2 := p2 (by decide)
      subst h3 h4 h2
      have q12 := p12 rfl
      obtain ⟨f, b0, b1, hL⟩ := Mp.first_sized 5 (by decide) ks.length q12
      have hl : (Mp.sized 5 ks.length).2 = 0 ∨ (Mp.sized 5 ks.length).2 = 1 ∨ (Mp.sized 5 ks.length).2 = 2 ∨ (Mp.sized 5 ks.length).2 = 4 ∨ (Mp.sized 5 ks.length).2 = 8 := by
        have := (Mp.first_kinds _ ⟨b0, b1⟩).2.1; rw [f] at this; simp only at this; exact this
      have hN := u64_small q12
      have hpl := Mp.put_length (Mp.sized 5 ks.length) (UInt64.ofNat ks.length) hl
      have e : pre ++ (Mp.lay (.mk 5 0 [] [] ks) ++ rest) = pre ++ (Mp.put (Mp.sized 5 ks.length) (UInt64.ofNat ks.length) ++ (Mp.lays ks ++ rest)) := by simp [Mp.lay, Mp.head]
      have el : (Mp.lay (.mk 5 0 [] [] ks)).length = 1 + (Mp.sized 5 ks.length).2.toNat + (Mp.lays ks).length := by simp [Mp.lay, Mp.head, hpl]
      rw [e, el, Mp.head_read pre _ _ _ 5 _ d ⟨b0, b1⟩ f (by decide) hl, Mp.back_num _ (UInt64.ofNat ks.length) _ hl (by rw [hN]; exact hL), Mp.readTail, if_neg (by decide), Mp.readEnd, if_neg (by decide), if_neg (by decide), if_neg (by decide), hN, if_neg (by simp), if_pos rfl]
      have hK := K (pre ++ Mp.put (Mp.sized 5 ks.length) (UInt64.ofNat ks.length)) 0
      rw [List.append_assoc, List.length_append, hpl, show ((pre.length + (1 + (Mp.sized 5 ks.length).2.toNat) : Nat) : Int) = (pre.length : Int) + 1 + (Mp.sized 5 ks.length).2 by omega] at hK
      rw [hK, List.nil_append]
      refine congrArg (Mp.Got.mk _ 0 0) ?_
      omega
    · have h3 := p3 (by decide) (by decide)
      have h4 := p4 (by decide)
      have h2 := p2 (by decide)
      subst h3 h4 h2
      have q9 := p9 rfl
      obtain ⟨f, b0, b1, hL⟩ := Mp.first_sized 6 (by decide) (ks.length / 2) p13
      have hl : (Mp.sized 6 (ks.length / 2 : Nat)).2 = 0 ∨ (Mp.sized 6 (ks.length / 2 : Nat)).2 = 1 ∨ (Mp.sized 6 (ks.length / 2 : Nat)).2 = 2 ∨ (Mp.sized 6 (ks.length / 2 : Nat)).2 = 4 ∨ (Mp.sized 6 (ks.length / 2 : Nat)).2 = 8 := by
        have := (Mp.first_kinds _ ⟨b0, b1⟩).2.1; rw [f] at this; simp only at this; exact this
      have hN := u64_small p13
      have hpl := Mp.put_length (Mp.sized 6 (ks.length / 2 : Nat)) (UInt64.ofNat (ks.length / 2)) hl
      have e : pre ++ (Mp.lay (.mk 6 0 [] [] ks) ++ rest) = pre ++ (Mp.put (Mp.sized 6 (ks.length / 2 : Nat)) (UInt64.ofNat (ks.length / 2)) ++ (Mp.lays ks ++ rest)) := by simp only [Mp.lay, Mp.head, List.append_nil, List.append_assoc]; rfl
      have el : (Mp.lay (.mk 6 0 [] [] ks)).length = 1 + (Mp.sized 6 (ks.length / 2 : Nat)).2.toNat + (Mp.lays ks).length := by
        have : Mp.lay (.mk 6 0 [] [] ks) = Mp.put (Mp.sized 6 (ks.length / 2 : Nat)) (UInt64.ofNat (ks.length / 2)) ++ Mp.lays ks := by simp only [Mp.lay, Mp.head, List.append_nil]; rfl
        rw [this, List.length_append, hpl]
      rw [e, el, Mp.head_read pre _ _ _ 6 _ d ⟨b0, b1⟩ f (by decide) hl, Mp.back_num _ (UInt64.ofNat (ks.length / 2)) _ hl (by rw [hN]; exact hL), Mp.readTail, if_neg (by decide), Mp.readEnd, if_neg (by decide), if_neg (by decide), if_neg (by decide), hN, if_neg (by simp), if_neg (by decide), if_pos rfl, show 2 * (ks.length / 2) = ks.length by omega]
      have hK := K (pre ++ Mp.put (Mp.sized 6 (ks.length / 2 : Nat)) (UInt64.ofNat (ks.length / 2))) 0
      rw [List.append_assoc, List.length_append, hpl, show ((pre.length + (1 + (Mp.sized 6 (ks.length / 2 : Nat)).2.toNat) : Nat) : Int) = (pre.length : Int) + 1 + (Mp.sized 6 (ks.length / 2 : Nat)).2 by omega] at hK
      rw [hK, List.nil_append]
      refine congrArg (Mp.Got.mk _ 0 0) ?_
      omega
    · have h3 := p3 (by decide) (by decide)
      have h4 := p4 (by decide)
      have h5 := p5 (by decide) (by decide)
      subst h3 h4 h5
      obtain ⟨q1, q2⟩ := p7 rfl
      have hu : n = 20 ∨ n = 21 ∨ n = 22 := by
        have a := UInt64.le_iff_toNat_le.1 q1
        have b := UInt64.le_iff_toNat_le.1 q2
        simp at a b
        have : n.toNat = 20 ∨ n.toNat = 21 ∨ n.toNat = 22 := by omega
        rcases this with h | h | h
        · exact .inl (UInt64.toNat_inj.1 h)
        · exact .inr (.inl (UInt64.toNat_inj.1 h))
        · exact .inr (.inr (UInt64.toNat_inj.1 h))
      have key : ∀ (c : Int) (m : UInt64), Mp.first c = (8, m, 0) → 0 ≤ c ∧ c ≤ 255 → Mp.lay (.mk 8 m [] [] []) = Mp.put (c, 0) 0 → Mp.read (pre ++ (Mp.lay (.mk 8 m [] [] []) ++ rest)) (d + 1) pre.length = ⟨.mk 8 m [] [] [], 0, 0, (pre.length : Int) + (Mp.lay (.mk 8 m [] [] [])).length⟩ := by
        intro c m hf hc hlay
        rw [hlay, Mp.head_read pre rest (c, 0) 0 8 m d hc hf (by decide) (.inl rfl), if_pos rfl, Mp.readTail, if_neg (by decide), Mp.readEnd, if_pos (by decide), Mp.put_length _ _ (.inl rfl)]
        refine congrArg (Mp.Got.mk _ 0 0) ?_
        simp only; omega
      rcases hu with rfl | rfl | rfl
      · exact key 194 20 rfl (by decide) rfl
      · exact key 195 21 rfl (by decide) rfl
      · exact key 192 22 rfl (by decide) rfl
    · have h3 := p3 (by decide) (by decide)
      have h4 := p4 (by decide)
      have h5 := p5 (by decide) (by decide)
      subst h3 h4 h5
      have hlay : Mp.lay (.mk 9 n [] [] []) = Mp.put (203, 8) n := by simp [Mp.lay, Mp.head, Mp.lays]
      have hv : (if (8 : Int) = 0 then (0 : UInt64) else Cur.be (Cur.high n 8)) = n := by
        rw [if_neg (by decide)]
        apply UInt64.toNat_inj.1
        have := n.toNat_lt
        rw [Cur.be_high _ _ (by decide)]
        exact Nat.mod_eq_of_lt this
      rw [hlay, Mp.head_read pre rest (203, 8) n 9 0 d (by decide) rfl (by decide) (by decide), hv, Mp.readTail, if_neg (by decide), Mp.readEnd, if_pos (by decide), Mp.put_length _ _ (by decide)]
      refine congrArg (Mp.Got.mk _ 0 0) ?_
      simp only; omega
    · have h4 := p4 (by decide)
      have h5 := p5 (by decide) (by decide)
      subst h4 h5
      have h127 := UInt64.le_iff_toNat_le.1 (p8 rfl)
      simp at h127
      obtain ⟨f, b0, b1, hL⟩ := Mp.first_sized 10 (by decide) b.length p10
      have hl : (Mp.sized 10 b.length).2 = 0 ∨ (Mp.sized 10 b.length).2 = 1 ∨ (Mp.sized 10 b.length).2 = 2 ∨ (Mp.sized 10 b.length).2 = 4 ∨ (Mp.sized 10 b.length).2 = 8 := by
        have := (Mp.first_kinds _ ⟨b0, b1⟩).2.1; rw [f] at this; simp only at this; exact this
      have hN := u64_small p10
      have hpl := Mp.put_length (Mp.sized 10 b.length) (UInt64.ofNat b.length) hl
      have hlay : Mp.lay (.mk 10 n b [] []) = Mp.put (Mp.sized 10 b.length) (UInt64.ofNat b.length) ++ ([n.toUInt8] ++ b) := by simp [Mp.lay, Mp.head, Mp.lays]
      have e : pre ++ (Mp.lay (.mk 10 n b [] []) ++ rest) = pre ++ (Mp.put (Mp.sized 10 b.length) (UInt64.ofNat b.length) ++ ([n.toUInt8] ++ (b ++ rest))) := by rw [hlay]; simp
      have el : (Mp.lay (.mk 10 n b [] [])).length = 1 + (Mp.sized 10 b.length).2.toNat + 1 + b.length := by rw [hlay]; simp only [List.length_append, hpl, List.length_singleton]; omega
      have hlen : (pre ++ (Mp.put (Mp.sized 10 b.length) (UInt64.ofNat b.length) ++ ([n.toUInt8] ++ (b ++ rest)))).length = pre.length + (1 + (Mp.sized 10 b.length).2.toNat) + 1 + b.length + rest.length := by simp only [List.length_append, hpl, List.length_singleton]; omega
      have ht : (pre ++ (Mp.put (Mp.sized 10 b.length) (UInt64.ofNat b.length) ++ ([n.toUInt8] ++ (b ++ rest)))).getD ((pre.length : Int) + 1 + (Mp.sized 10 b.length).2).toNat 0 = n.toUInt8 := by
        rw [← List.append_assoc, List.getD_eq_getElem?_getD, List.getElem?_append_right (by rw [List.length_append, hpl]; omega), show ((pre.length : Int) + 1 + (Mp.sized 10 b.length).2).toNat - (pre ++ Mp.put (Mp.sized 10 b.length) (UInt64.ofNat b.length)).length = 0 by rw [List.length_append, hpl]; omega]; rfl
      have hs : ((pre ++ (Mp.put (Mp.sized 10 b.length) (UInt64.ofNat b.length) ++ ([n.toUInt8] ++ (b ++ rest)))).drop ((pre.length : Int) + 1 + (Mp.sized 10 b.length).2 + 1).toNat).take b.length = b := by
        rw [← List.append_assoc, ← List.append_assoc, List.drop_left' (by rw [List.length_append, List.length_append, hpl, List.length_singleton]; omega), List.take_left' rfl]
      have hnn : n.toUInt8.toUInt64 = n := by
        apply UInt64.toNat_inj.1
        rw [UInt8.toNat_toUInt64, UInt64.toNat_toUInt8]
        show n.toNat % 256 = n.toNat
        omega
      rw [e, el, Mp.head_read pre _ _ _ 10 _ d ⟨b0, b1⟩ f (by decide) hl, Mp.back_num _ (UInt64.ofNat b.length) _ hl (by rw [hN]; exact hL), Mp.readTail, if_pos rfl, if_neg (by rw [hlen]; omega), ht, hnn, Mp.readEnd, if_neg (by decide), if_neg (by decide), if_neg (by decide), hN, if_neg (by
        rintro (q | q)
        · exact q rfl
        · rw [UInt64.lt_iff_toNat_lt] at q; simp at q; omega), if_neg (by decide), if_neg (by decide), Mp.row_read _ _ _ _ _ (by omega) (by rw [hlen]; omega), if_pos (show (Itm.mk 10 n [] [] []).kind ≠ 4 from fun h => absurd (show (10 : Int) = 4 from h) (by decide)), hs]
      simp only [Itm.kind, Itm.n, Itm.text, Itm.kids]
      refine congrArg (Mp.Got.mk _ 0 0) ?_
      omega
theorem Mp.kids_lay : ∀ (ks : List Itm) (d : Nat) (pre rest : Str) (k : Int) (t : UInt64) (acc : List Itm), Mp.chks ks = 0 → Itm.nests ks ≤ d →
    Mp.kids (Mp.read (pre ++ (Mp.lays ks ++ rest)) d) (.mk k t [] [] acc) ks.length pre.length = ⟨.mk k t [] [] (acc ++ ks), 0, 0, (pre.length : Int) + (Mp.lays ks).length⟩
  | [], d, pre, rest, k, t, acc, _, _ => by simp [Mp.kids, Mp.lays]
  | x :: r, d, pre, rest, k, t, acc, hc, hn => by
    obtain ⟨c1, c2⟩ := Mp.chks_cons hc
    simp only [Itm.nests] at hn
    have h1 := Mp.read_lay x d pre (Mp.lays r ++ rest) c1 (by omega)
    have h2 := Mp.kids_lay r d (pre ++ Mp.lay x) rest k t (acc ++ [x]) c2 (by omega)
    have e : pre ++ (Mp.lays (x :: r) ++ rest) = pre ++ (Mp.lay x ++ (Mp.lays r ++ rest)) := by simp [Mp.lays]
    rw [e, List.length_cons, Mp.kids, h1, if_neg (fun h => h rfl)]
    rw [List.append_assoc, List.length_append, show ((pre.length + (Mp.lay x).length : Nat) : Int) = (pre.length : Int) + (Mp.lay x).length by omega] at h2
    simp only [Itm.kind, Itm.n, Itm.bytes, Itm.text, Itm.kids]
    rw [h2, List.append_assoc]
    congr 1
    · simp [Mp.lays]; omega
end
end Go.Eng
namespace Go.Eng
open Go.IntWalk
def Mp.cnt : Itm → Nat
  | .mk k _ b t ks => if k = 3 ∨ k = 10 then b.length else if k = 4 then t.length else if k = 5 then ks.length else ks.length / 2
theorem Mp.head_form (k : Int) (n : UInt64) (b t : Str) (ks : List Itm) (ho : Mp.own (.mk k n b t ks) = 0) : ∃ (f : Int × Int) (x n0 : UInt64) (ty : Str),
    Mp.head (.mk k n b t ks) = Mp.put f x ++ ty ∧ (0 ≤ f.1 ∧ f.1 ≤ 255) ∧ Mp.first f.1 = (k, n0, f.2) ∧ k ≠ 0 ∧ (f.2 = 0 ∨ f.2 = 1 ∨ f.2 = 2 ∨ f.2 = 4 ∨ f.2 = 8) ∧ ty = (if k = 10 then [n.toUInt8] else []) ∧
    (k = 3 ∨ k = 4 ∨ k = 5 ∨ k = 6 ∨ k = 10 → (if f.2 = 0 then n0 else Cur.be (Cur.high x f.2)) = UInt64.ofNat (Mp.cnt (.mk k n b t ks)) ∧ Mp.cnt (.mk k n b t ks) < 4294967296 ∧ f = Mp.sized k (Mp.cnt (.mk k n b t ks))) := by
  obtain ⟨p1, p2, p3, p4, p5, p6, p7, p8, p9, p10, p11, p12, p13, p14⟩ := Mp.own0 ⟨k, n, b, t, ks⟩ ho
  simp only at p1 p2 p3 p4 p5 p6 p7 p8 p9 p10 p11 p12 p13 p14
  have S : ∀ (m : Nat), m < 4294967296 → (k = 3 ∨ k = 4 ∨ k = 5 ∨ k = 6 ∨ k = 10) → Mp.cnt (.mk k n b t ks) = m → Mp.head (.mk k n b t ks) = Mp.put (Mp.sized k m) (UInt64.ofNat m) ++ (if k = 10 then [n.toUInt8] else []) →
      ∃ (f : Int × Int) (x n0 : UInt64) (ty : Str),
    Mp.head (.mk k n b t ks) = Mp.put f x ++ ty ∧ (0 ≤ f.1 ∧ f.1 ≤ 255) ∧ Mp.first f.1 = (k, n0, f.2) ∧ k ≠ 0 ∧ (f.2 = 0 ∨ f.2 = 1 ∨ f.2 = 2 ∨ f.2 = 4 ∨ f.2 = 8) ∧ ty = (if k = 10 then [n.toUInt8] else []) ∧
    (k = 3 ∨ k = 4 ∨ k = 5 ∨ k = 6 ∨ k = 10 → (if f.2 = 0 then n0 else Cur.be (Cur.high x f.2)) = UInt64.ofNat (Mp.cnt (.mk k n b t ks)) ∧ Mp.cnt (.mk k n b t ks) < 4294967296 ∧ f = Mp.sized k (Mp.cnt (.mk k n b t ks))) := by
    intro m hm hk hc hh
    obtain ⟨f, b0, b1, hL⟩ := Mp.first_sized k (by omega) m hm
    have hl : (Mp.sized k m).2 = 0 ∨ (Mp.sized k m).2 = 1 ∨ (Mp.sized k m).2 = 2 ∨ (Mp.sized k m).2 = 4 ∨ (Mp.sized k m).2 = 8 := by
      have := (Mp.first_kinds _ ⟨b0, b1⟩).2.1; rw [f] at this; simp only at this; exact this
    have hN := u64_small hm
    rw [hc]
    exact ⟨_, _, _, _, hh, ⟨b0, b1⟩, f, by omega, hl, rfl, fun _ => ⟨Mp.back_num _ (UInt64.ofNat m) _ hl (by rw [hN]; exact hL), hm, rfl⟩⟩
  have hk' : k = 1 ∨ k = 2 ∨ k = 3 ∨ k = 4 ∨ k = 5 ∨ k = 6 ∨ k = 8 ∨ k = 9 ∨ k = 10 := by omega
  rcases hk' with rfl | rfl | rfl | rfl | rfl | rfl | rfl | rfl | rfl
  · obtain ⟨f, b0, b1, hL⟩ := Mp.first_unsigned n
    exact ⟨Mp.unsigned n, n, _, [], by simp [Mp.head], ⟨b0, b1⟩, f, by decide, by
      have := (Mp.first_kinds _ ⟨b0, b1⟩).2.1; rw [f] at this; exact this, rfl, fun h => absurd h (by decide)⟩
  · obtain ⟨f, b0, b1, _⟩ := Mp.first_signed n
    exact ⟨Mp.signed n, ~~~ n, _, [], by simp [Mp.head], ⟨b0, b1⟩, f, by decide, by
      have := (Mp.first_kinds _ ⟨b0, b1⟩).2.1; rw [f] at this; exact this, rfl, fun h => absurd h (by decide)⟩
  · exact S b.length p10 (by omega) rfl (by simp [Mp.head])
  · exact S t.length p11 (by omega) rfl (by simp [Mp.head])
  · exact S ks.length (p12 rfl) (by omega) rfl (by simp [Mp.head])
  · exact S (ks.length / 2) p13 (by omega) rfl (by simp only [Mp.head]; exact (List.append_nil _).symm)
  · obtain ⟨q1, q2⟩ := p7 rfl
    have hu : n = 20 ∨ n = 21 ∨ n = 22 := by
      have a := UInt64.le_iff_toNat_le.1 q1
      have b := UInt64.le_iff_toNat_le.1 q2
      simp at a b
      have : n.toNat = 20 ∨ n.toNat = 21 ∨ n.toNat = 22 := by omega
      rcases this with h | h | h
      · exact .inl (UInt64.toNat_inj.1 h)
      · exact .inr (.inl (UInt64.toNat_inj.1 h))
      · exact .inr (.inr (UInt64.toNat_inj.1 h))
    rcases hu with rfl | rfl | rfl
    · exact ⟨(194, 0), 0, 20, [], rfl, by decide, rfl, by decide, .inl rfl, rfl, fun h => absurd h (by decide)⟩
    · exact ⟨(195, 0), 0, 21, [], rfl, by decide, rfl, by decide, .inl rfl, rfl, fun h => absurd h (by decide)⟩
    · exact ⟨(192, 0), 0, 22, [], rfl, by decide, rfl, by decide, .inl rfl, rfl, fun h => absurd h (by decide)⟩
  · exact ⟨(203, 8), n, 0, [], by simp [Mp.head], by decide, rfl, by decide, by decide, rfl, fun h => absurd h (by decide)⟩
  · exact S b.length p10 (by omega) rfl (by simp [Mp.head])
def Mp.behind (B : Str) (d : Nat) (p q : Int) : Itm → Mp.Got
  | .mk k n b t ks => if k = 5 ∨ k = 6 then Mp.kids (Mp.read B d) (.mk k 0 [] [] []) ks.length q else Mp.row B (.mk k (if k = 10 then n else 0) [] [] []) p q (Mp.cnt (.mk k n b t ks) : Nat)
theorem Mp.read_sized (k : Int) (n : UInt64) (b t : Str) (ks : List Itm) (d : Nat) (pre tail : Str) (ho : Mp.own (.mk k n b t ks) = 0) (hk : k = 3 ∨ k = 4 ∨ k = 5 ∨ k = 6 ∨ k = 10) :
    Mp.read (pre ++ (Mp.head (.mk k n b t ks) ++ tail)) (d + 1) pre.length = Mp.behind (pre ++ (Mp.head (.mk k n b t ks) ++ tail)) d pre.length ((pre.length : Int) + (Mp.head (.mk k n b t ks)).length) (.mk k n b t ks) := by
  obtain ⟨f, x, n0, ty, hh, hr, hf, k0, hl, hty, hS⟩ := Mp.head_form k n b t ks ho
  obtain ⟨hN, hm, hsz⟩ := hS hk
  have hpl := Mp.put_length f x hl
  have p9 := (Mp.own0 ⟨k, n, b, t, ks⟩ ho).2.2.2.2.2.2.2.2.1
  have p8 := (Mp.own0 ⟨k, n, b, t, ks⟩ ho).2.2.2.2.2.2.2.1
  simp only at p9 p8
  rw [hh, List.append_assoc, Mp.head_read pre (ty ++ tail) f x k n0 d hr hf k0 hl, hN]
  generalize hB : pre ++ (Mp.put f x ++ (ty ++ tail)) = B
  have hu := u64_small hm
  have hs1 : ¬ (Mp.sized k (((UInt64.ofNat (Mp.cnt (.mk k n b t ks))).toNat : Nat) : Int)).1 ≠ f.1 := by rw [hu, ← hsz]; exact fun h => h rfl
  have hn0 : k ≠ 8 ∧ k ≠ 9 ∧ k ≠ 1 ∧ k ≠ 2 := by omega
  by_cases k10 : k = 10
  · rw [if_pos k10] at hty
    have h127 := UInt64.le_iff_toNat_le.1 (p8 k10)
    simp at h127
    have hlen : B.length = pre.length + (1 + f.2.toNat) + 1 + tail.length := by rw [← hB, hty]; simp only [List.length_append, hpl, List.length_singleton]; omega
    have ht : B.getD ((pre.length : Int) + 1 + f.2).toNat 0 = n.toUInt8 := by
      rw [← hB, hty, ← List.append_assoc, List.getD_eq_getElem?_getD, List.getElem?_append_right (by rw [List.length_append, hpl]; omega), show ((pre.length : Int) + 1 + f.2).toNat - (pre ++ Mp.put f x).length = 0 by rw [List.length_append, hpl]; omega]; rfl
    have hnn : n.toUInt8.toUInt64 = n := by
      apply UInt64.toNat_inj.1
      rw [UInt8.toNat_toUInt64, UInt64.toNat_toUInt8]
      show n.toNat % 256 = n.toNat
      omega
    rw [Mp.readTail, if_pos k10, if_neg (by rw [hlen]; omega), ht, hnn, Mp.readEnd, if_neg (by omega), if_neg (by omega), if_neg (by omega), if_neg (by
        rintro (q | q)
        · exact hs1 q
        · rw [UInt64.lt_iff_toNat_lt] at q; simp at q; omega), if_neg (by omega), if_neg (by omega), hu, Mp.behind, if_neg (by omega), if_pos k10]
    congr 1
    rw [List.length_append, hpl, hty, List.length_singleton]; omega
  · rw [if_neg k10] at hty
    have hq : (pre.length : Int) + ((Mp.put f x ++ ty).length : Nat) = (pre.length : Int) + 1 + f.2 := by rw [List.length_append, hpl, hty, List.length_nil]; omega
    rw [Mp.readTail, if_neg k10, Mp.readEnd, if_neg (by omega), if_neg (by omega), if_neg (by omega), if_neg (by
        rintro (q | q)
        · exact hs1 q
        · exact absurd q (by decide)), hu, hq, Mp.behind]
    by_cases k5 : k = 5
    · subst k5; rw [if_pos rfl, if_pos (by decide)]; rfl
    by_cases k6 : k = 6
    · subst k6
      rw [if_neg (by decide), if_pos rfl, if_pos (by decide)]
      have := p9 rfl
      rw [show 2 * Mp.cnt (.mk 6 n b t ks) = ks.length by show 2 * (ks.length / 2) = ks.length; omega]
    · rw [if_neg k5, if_neg k6, if_neg (by omega), if_neg k10]
theorem Mp.lay_kids (k : Int) (n : UInt64) (b t : Str) (ks : List Itm) (ho : Mp.own (.mk k n b t ks) = 0) (hk : k = 5 ∨ k = 6) : Mp.lay (.mk k n b t ks) = Mp.head (.mk k n b t ks) ++ Mp.lays ks := by
  obtain ⟨p1, p2, p3, p4, p5, p6, p7, p8, p9, p10, p11, p12, p13, p14⟩ := Mp.own0 ⟨k, n, b, t, ks⟩ ho
  simp only at p3 p4
  rw [Mp.lay, p3 (by omega) (by omega), p4 (by omega), List.append_nil, List.append_nil]
theorem Mp.put_cut (pre : Str) (f : Int × Int) (x : UInt64) (k : Int) (n0 : UInt64) (d m : Nat) (h0 : 0 ≤ f.1 ∧ f.1 ≤ 255) (hf : Mp.first f.1 = (k, n0, f.2)) (hk : k ≠ 0) (hl : f.2 = 0 ∨ f.2 = 1 ∨ f.2 = 2 ∨ f.2 = 4 ∨ f.2 = 8) (hm : m < (Mp.put f x).length) :
    (Mp.read (pre ++ (Mp.put f x).take m) (d + 1) pre.length).err = 2 := by
  have hlen : (pre ++ (Mp.put f x).take m).length = pre.length + m := by rw [List.length_append, List.length_take]; omega
  rw [Mp.put_length f x hl] at hm
  rw [Mp.read, hlen]
  cases m with
  | zero => rw [if_pos (by omega)]; rfl
  | succ m =>
    have hc : (pre ++ (Mp.put f x).take (m + 1)).getD pre.length 0 = UInt8.ofInt f.1 := by
      rw [List.getD_eq_getElem?_getD, List.getElem?_append_right (Nat.le_refl _), Nat.sub_self]; rfl
    have hcn : ((UInt8.ofInt f.1).toNat : Int) = f.1 := by
      obtain ⟨m, hm⟩ : ∃ m : Nat, f.1 = m := ⟨f.1.toNat, by omega⟩
      rw [hm, u8_nat]; omega
    rw [if_neg (by omega), Int.toNat_natCast, hc, hcn, hf, Mp.readAt, if_neg hk, hlen, if_pos (by simp only; omega)]; rfl
theorem Mp.head_cut (k : Int) (n : UInt64) (b t : Str) (ks : List Itm) (d m : Nat) (pre : Str) (ho : Mp.own (.mk k n b t ks) = 0) (hm : m < (Mp.head (.mk k n b t ks)).length) :
    (Mp.read (pre ++ (Mp.head (.mk k n b t ks)).take m) (d + 1) pre.length).err = 2 := by
  obtain ⟨f, x, n0, ty, hh, hr, hf, k0, hl, hty, _⟩ := Mp.head_form k n b t ks ho
  have hpl := Mp.put_length f x hl
  rw [hh] at hm ⊢
  rw [List.length_append] at hm
  by_cases a : m < (Mp.put f x).length
  · rw [List.take_append_of_le_length (by omega)]
    exact Mp.put_cut pre f x k n0 d m hr hf k0 hl a
  · by_cases k10 : k = 10
    · rw [if_pos k10] at hty
      rw [hty, List.length_singleton] at hm
      have : m = (Mp.put f x).length := by omega
      rw [this, List.take_left' rfl]
      have e := Mp.head_read pre [] f x k n0 d hr hf k0 hl
      rw [List.append_nil] at e
      rw [e, Mp.readTail, if_pos k10, if_pos (by rw [List.length_append, hpl]; omega)]; rfl
    · rw [if_neg k10] at hty
      rw [hty, List.length_nil] at hm; omega
theorem Mp.row_short (b : Str) (it : Itm) (p q : Int) (m : Nat) (h : (b.length : Int) - q < m) : (Mp.row b it p q m).err = 2 := by
  unfold Mp.row; rw [if_pos (.inr h)]; rfl
mutual
theorem Mp.read_cut : ∀ (it : Itm) (d : Nat) (pre : Str) (m : Nat), Mp.chk it = 0 → Itm.nest it ≤ d → m < (Mp.lay it).length → (Mp.read (pre ++ (Mp.lay it).take m) d pre.length).err = 2
  | .mk k n b t ks, 0, pre, m, hc, hn, hm => by simp only [Itm.nest] at hn; omega
  | .mk k n b t ks, d + 1, pre, m, hc, hn, hm => by
    obtain ⟨ho, hcs⟩ := Mp.chk0 ⟨k, n, b, t, ks⟩ hc
    obtain ⟨p1, p2, p3, p4, p5, p6, p7, p8, p9, p10, p11, p12, p13, p14⟩ := Mp.own0 ⟨k, n, b, t, ks⟩ ho
    simp only at p1 p2 p3 p4 p5 p6 p7 p8 p9 p10 p11 p12 p13 p14 hcs
    simp only [Itm.nest] at hn
    by_cases a : m < (Mp.head (.mk k n b t ks)).length
    · rw [show (Mp.lay (.mk k n b t ks)).take m = (Mp.head (.mk k n b t ks)).take m by
        rw [Mp.lay, List.append_assoc, List.append_assoc, List.take_append_of_le_length (by omega)]]
      exact Mp.head_cut k n b t ks d m pre ho a
    · have K := Mp.kids_cut ks d (pre ++ Mp.head (.mk k n b t ks)) k 0 [] (m - (Mp.head (.mk k n b t ks)).length) hcs (by omega)
      have R : ∀ (s : Str), Mp.lay (.mk k n b t ks) = Mp.head (.mk k n b t ks) ++ s → (k = 3 ∨ k = 4 ∨ k = 10) → Mp.cnt (.mk k n b t ks) = s.length → (Mp.read (pre ++ (Mp.lay (.mk k n b t ks)).take m) (d + 1) pre.length).err = 2 := by
        intro s hs hk hcn
        rw [hs, List.length_append] at hm
        rw [hs, List.take_append, List.take_of_length_le (by omega), Mp.read_sized k n b t ks d pre _ ho (by omega), Mp.behind, if_neg (by omega)]
        refine Mp.row_short _ _ _ _ _ ?_
        rw [hcn, List.length_append, List.length_append, List.length_take]; omega
      by_cases k56 : k = 5 ∨ k = 6
      · have hL := Mp.lay_kids k n b t ks ho k56
        rw [hL, List.length_append] at hm
        rw [hL, List.take_append, List.take_of_length_le (by omega), Mp.read_sized k n b t ks d pre _ ho (by omega), Mp.behind, if_pos k56]
        have K' := K (by omega)
        rw [List.append_assoc, List.length_append, show ((pre.length + (Mp.head (.mk k n b t ks)).length : Nat) : Int) = (pre.length : Int) + (Mp.head (.mk k n b t ks)).length by omega] at K'
        exact K'
      · have q5 := p5 (by omega) (by omega)
        by_cases k4 : k = 4
        · refine R t ?_ (by omega) (by rw [Mp.cnt, if_neg (by omega), if_pos k4])
          rw [Mp.lay, p3 (by omega) (by omega), q5, Mp.lays, List.append_nil, List.append_nil]
        have q4 := p4 k4
        by_cases k3 : k = 3 ∨ k = 10
        · refine R b ?_ (by omega) (by rw [Mp.cnt, if_pos k3])
          rw [Mp.lay, q4, q5, Mp.lays, List.append_nil, List.append_nil]
        · rw [Mp.lay, q4, q5, p3 (by omega) (by omega), Mp.lays, List.append_nil, List.append_nil, List.append_nil] at hm
          exact (a (by subst q4; subst q5; have := p3 (by omega) (by omega); subst this; exact hm)).elim
theorem Mp.kids_cut : ∀ (ks : List Itm) (d : Nat) (pre : Str) (k : Int) (t : UInt64) (acc : List Itm) (m : Nat), Mp.chks ks = 0 → Itm.nests ks ≤ d → m < (Mp.lays ks).length →
    (Mp.kids (Mp.read (pre ++ (Mp.lays ks).take m) d) (.mk k t [] [] acc) ks.length pre.length).err = 2
  | [], d, pre, k, t, acc, m, _, _, hm => by simp [Mp.lays] at hm
  | x :: r, d, pre, k, t, acc, m, hc, hn, hm => by
    obtain ⟨c1, c2⟩ := Mp.chks_cons hc
    simp only [Itm.nests] at hn
    rw [Mp.lays, List.length_append] at hm
    rw [List.length_cons, Mp.kids, Mp.lays]
    by_cases a : m < (Mp.lay x).length
    · have h1 := Mp.read_cut x d pre m c1 (by omega) a
      rw [List.take_append_of_le_length (by omega), if_pos (by rw [h1]; decide)]
      exact h1
    · have h1 := Mp.read_lay x d pre ((Mp.lays r).take (m - (Mp.lay x).length)) c1 (by omega)
      have h2 := Mp.kids_cut r d (pre ++ Mp.lay x) k t (acc ++ [x]) (m - (Mp.lay x).length) c2 (by omega) (by omega)
      rw [List.take_append, List.take_of_length_le (l := Mp.lay x) (by omega), h1, if_neg (fun h => h rfl)]
      rw [List.append_assoc, List.length_append, show ((pre.length + (Mp.lay x).length : Nat) : Int) = (pre.length : Int) + (Mp.lay x).length by omega] at h2
      exact h2
end
mutual
theorem Itm.room_nest : ∀ (it : Itm) (left : Int), left ≤ 10000 → 0 ≤ Itm.room left it → 2 * (Itm.nest it : Int) ≤ left - Itm.room left it
  | .mk k n b t ks, left, hl, h0 => by
    have h1 := Itm.room3 left 2 t.length b.length (by omega) (by omega) (by omega) hl
    have h2 := Itm.rooms_nest ks (Book.room left [2, (t.length : Int), (b.length : Int)]) h1.1
    have h3 := (Itm.rooms_le ks (Book.room left [2, (t.length : Int), (b.length : Int)]) h1.1).2
    simp only [Itm.room, Itm.nest] at h0 ⊢
    have h4 := h2 h0
    have h5 := h3 h0
    rcases h1.2 with e | ⟨e, e0⟩ <;> omega
theorem Itm.rooms_nest : ∀ (ks : List Itm) (left : Int), left ≤ 10000 → 0 ≤ Itm.rooms left ks → 2 * (Itm.nests ks : Int) ≤ left - Itm.rooms left ks
  | [], left, hl, h => by simp only [Itm.rooms, Itm.nests]; omega
  | k :: r, left, hl, h => by
    simp only [Itm.rooms, Itm.nests] at h ⊢
    split at h
    · omega
    · rename_i a
      rw [if_neg a]
      have h1 := Itm.room_le k left hl
      have h2 := Itm.rooms_le r (Itm.room left k) h1.1
      have h3 := h2.2 h
      have h4 := Itm.room_nest k left hl h3.1
      have h5 := Itm.rooms_nest r (Itm.room left k) h1.1 h
      omega
end
theorem Itm.small_nest (it : Itm) (h : 0 ≤ Itm.room 1500 it) : Itm.nest it ≤ 750 := by
  have := Itm.room_nest it 1500 (by omega) h; omega
theorem Mp.dec_cut (it : Itm) (depth : Int) (m : Nat) (hc : Mp.chk it = 0) (hn : (Itm.nest it : Int) ≤ depth) (hd : depth ≤ 1000) (hm : m < (Mp.lay it).length) : (Mp.dec ((Mp.lay it).take m) depth).2.err = 2 := by
  have h := Mp.read_cut it depth.toNat [] m hc (by omega) hm
  rw [List.nil_append, show (([] : Str).length : Int) = 0 from rfl] at h
  unfold Mp.dec
  rw [if_neg (by omega)]
  simp only [h]
  rfl
theorem Mp.dec_more (it : Itm) (depth : Int) (c : UInt8) (hc : Mp.chk it = 0) (hn : (Itm.nest it : Int) ≤ depth) (hd : depth ≤ 1000) : (Mp.dec (Mp.lay it ++ [c]) depth).2 = ⟨7, (Mp.lay it).length, []⟩ := by
  have h := Mp.read_lay it depth.toNat [] [c] hc (by omega)
  rw [List.nil_append, show (([] : Str).length : Int) = 0 from rfl] at h
  unfold Mp.dec
  rw [if_neg (by omega)]
  simp only [h]
  rw [if_neg (fun h => h rfl), if_pos (by rw [List.length_append, List.length_singleton]; omega)]
  simp
theorem Mp.lay_pos (it : Itm) (hc : Mp.chk it = 0) : 0 < (Mp.lay it).length := by
  obtain ⟨k, n, b, t, ks⟩ := it
  obtain ⟨f, x, n0, ty, hh, _⟩ := Mp.head_form k n b t ks (Mp.chk0 ⟨k, n, b, t, ks⟩ hc).1
  rw [Mp.lay, hh, Mp.put]; simp only [List.length_append, List.length_cons]; omega
end Go.Eng
namespace Go.Eng
noncomputable section
def MpackCut.sg : FSig := {}
def MpackCut.c : Ctr := fun l => match l with
  | [.ag [.i .i64 it_kind, .u64 it_n, .sl .bs it_bytes, .s it_text, .sl .il it_kids], .i .i64 k, .u8 by_] => .ok [(.b (true))]
  | _ => .err
end
noncomputable section
def MpackCut.env : List (Nat × (Ctr × FSig)) := [(9, (law29_awake.c, law29_awake.sg)), (10, (book_SmallItem.c, book_SmallItem.sg)), (12, (ref29_Encode.c, ref29_Encode.sg)), (15, (mp_Decode.c, mp_Decode.sg)), (20, (book_Place.c, book_Place.sg))]
def MpackCut.E : TEnv := envL noGl MpackCut.env
def MpackCut.m : TM := .seq (.reg [
    ⟨.k (.bx 1060), [.s 0, .s 1060], [3, 1060], none⟩,
    ⟨.k .mv, [.c (.b false)], [6], none⟩]) none (.seq (.seq (.reg [
    ⟨.k (.call 9 (.plain 0 1)), [], [13], none⟩,
    ⟨.k (.un .not), [.s 13], [14], none⟩]) none (.cond (.s 14) [] (.seq (.reg [
    ⟨.k .mv, [.c (.b false)], [6], none⟩]) none .ret) .skip)) none (.seq (.seq (.reg [
    ⟨.k (.ld 1060 0 5 true), [.s 3, .s 1060], [15], none⟩,
    ⟨.k (.call 10 (.plain 1 1)), [.s 15], [16], none⟩,
    ⟨.k (.un .not), [.s 16], [17], none⟩]) none (.cond (.s 17) [] (.seq (.reg [
    ⟨.k .mv, [.c (.b true)], [6], none⟩]) none .ret) .skip)) none (.seq (.reg [
    ⟨.k (.ld 1060 0 5 true), [.s 3, .s 1060], [19], none⟩,
    ⟨.k (.call 12 (.plain 1 2)), [.s 19], [20], none⟩,
    ⟨.k .mv, [.s 20], [18], none⟩,
    ⟨.k (.ex 0), [.s 18], [21], none⟩,
    ⟨.k (.ex 1), [.s 18], [22], none⟩,
    ⟨.k .mv, [.s 21], [7], none⟩,
    ⟨.k .mv, [.s 22], [8], none⟩]) none (.seq (.seq (.reg [
    ⟨.k .mv, [.s 8], [23], none⟩,
    ⟨.k (.bin .neq), [.s 23, .c (.i .i64 (0 : Int))], [24], none⟩]) none (.cond (.s 24) [] (.seq (.reg [
    ⟨.k .mv, [.c (.b true)], [6], none⟩]) none .ret) .skip)) none (.seq (.reg [
    ⟨.k .mv, [.s 7], [26], none⟩,
    ⟨.k .mv, [.s 1], [27], none⟩,
    ⟨.k .mv, [.s 7], [28], none⟩,
    ⟨.k .len, [.s 28], [29], none⟩,
    ⟨.k (.call 20 (.plain 2 1)), [.s 27, .s 29], [30], none⟩,
    ⟨.k (.sc 1 false true), [.s 26, .s 30], [31], none⟩,
    ⟨.k (.call 15 (.plain 2 2)), [.s 31, .c (.i .i64 (1000 : Int))], [32], none⟩,
    ⟨.k .mv, [.s 32], [25], none⟩,
    ⟨.k (.ex 0), [.s 25], [33], none⟩,
    ⟨.k (.ex 1), [.s 25], [34], none⟩,
    ⟨.al 1061 [(.i .i64 (0 : Int)), (.u64 (0 : UInt64)), (.sl .bs ([] : List UInt8)), (.s ([] : Str)), (.sl .il ([] : List Itm))] [], [.s 1061], [9, 1061], none⟩,
    ⟨.al 1062 [(.i .i64 (0 : Int)), (.i .i64 (0 : Int)), (.sl .is ([] : List Int))] [], [.s 1062], [10, 1062], none⟩,
    ⟨.k (.st 1061 0 5), [.s 9, .s 1061, .s 33], [1061], none⟩,
    ⟨.k (.st 1062 0 3), [.s 10, .s 1062, .s 34], [1062], none⟩]) none (.seq (.reg [
    ⟨.blt .bs 0 103, [.s (lk 103)], [36, lk 103], none⟩,
    ⟨.k .mv, [.s 7], [37], none⟩,
    ⟨.k (.ap 103 104 1 1), [.s 36, .s 37, .s (lk 103), .s (lk 104)], [38, lk 103, lk 104], none⟩,
    ⟨.k .mv, [.s 2], [39], none⟩,
    ⟨.bl .bs 1, [.s 39], [40], none⟩,
    ⟨.k (.ap 104 106 1 1), [.s 38, .s 40, .s (lk 104), .s (lk 106)], [41, lk 104, lk 106], none⟩,
    ⟨.k (.call 15 (.plain 2 2)), [.s 41, .c (.i .i64 (1000 : Int))], [42], none⟩,
    ⟨.k .mv, [.s 42], [35], none⟩,
    ⟨.k (.ex 0), [.s 35], [43], none⟩,
    ⟨.k (.ex 1), [.s 35], [44], none⟩,
    ⟨.al 1063 [(.i .i64 (0 : Int)), (.u64 (0 : UInt64)), (.sl .bs ([] : List UInt8)), (.s ([] : Str)), (.sl .il ([] : List Itm))] [], [.s 1063], [11, 1063], none⟩,
    ⟨.al 1064 [(.i .i64 (0 : Int)), (.i .i64 (0 : Int)), (.sl .is ([] : List Int))] [], [.s 1064], [12, 1064], none⟩,
    ⟨.k (.st 1063 0 5), [.s 11, .s 1063, .s 43], [1063], none⟩,
    ⟨.k (.st 1064 0 3), [.s 12, .s 1064, .s 44], [1064], none⟩]) none (.seq (.reg [
    ⟨.k (.fa 1062 0 0), [.s 10], [45], none⟩,
    ⟨.k (.ld 1062 0 1 false), [.s 45, .s 1062], [46], none⟩,
    ⟨.k (.bin .eql), [.s 46, .c (.i .i64 (2 : Int))], [47], none⟩,
    ⟨.k .mv, [.s 47], [48], none⟩,
    ⟨.k (.fa 1064 0 0), [.s 12], [49], some (48, true)⟩,
    ⟨.k (.ld 1064 0 1 false), [.s 49, .s 1064], [50], some (48, true)⟩,
    ⟨.k (.bin .eql), [.s 50, .c (.i .i64 (7 : Int))], [51], some (48, true)⟩,
    ⟨.k .pick, [.s 48, .s 51, .c (.b false)], [52], none⟩,
    ⟨.k .mv, [.s 52], [53], none⟩,
    ⟨.k (.fa 1064 0 1), [.s 12], [54], some (53, true)⟩,
    ⟨.k (.ld 1064 1 1 false), [.s 54, .s 1064], [55], some (53, true)⟩,
    ⟨.k .mv, [.s 7], [56], some (53, true)⟩,
    ⟨.k .len, [.s 56], [57], some (53, true)⟩,
    ⟨.k (.bin .eql), [.s 55, .s 57], [58], some (53, true)⟩,
    ⟨.k .pick, [.s 53, .s 58, .c (.b false)], [59], none⟩,
    ⟨.k .mv, [.s 59], [6], none⟩]) none .ret)))))))
def MpackCut.d : TFD := { np := 3, m := MpackCut.m, ref := none, tips := [], res := [.t 6], own := [], new := none, tnew := [] }
noncomputable def MpackCut.F (it : Itv) (k : Int) (by_ : UInt8) : Option (List TV) := MpackCut.d.run MpackCut.E [(.ag (Itv.cells it)), (.i .i64 k), (.u8 by_)]
theorem MpackCut.F_in (it : Itv) (k : Int) (by_ : UInt8) {ρ : Option (List TV)} (K : ∀ (v1 : Int) (h1 : v1 = (((Mp.enc (Itm.of it))).length : Int)) (v2 : List UInt8) (h2 : v2 = (List.take (((k % v1))).toNat (Mp.enc (Itm.of it)))) (v3 : Flt) (h3 : v3 = ((Mp.dec v2 ((1000 : Int))).2)) (v4 : List UInt8) (h4 : v4 = (([] : List UInt8) ++ (Mp.enc (Itm.of it)))) (v5 : Flt) (h5 : v5 = ((Mp.dec ((v4 ++ ([by_] : List UInt8))) ((1000 : Int))).2)) (v6 : Bool) (h6 : v6 = (cond (decide ((Flt.err v3) = (2 : Int))) (decide ((Flt.err v5) = (7 : Int))) false)) (v7 : Bool) (h7 : v7 = (cond v6 (decide ((Flt.at_ v5) = v1)) false)), cond (!(true))
    (some [(.b false)])
    (cond (!(decide (0 ≤ Itm.room 1500 (Itm.of it))))
    (some [(.b true)])
    (ck (decide (Itm.bulk (Itm.of it) ≤ 1073741824)) (cond (!decide ((Mp.chk (Itm.of it)) = (0 : Int)))
    (some [(.b true)])
    (ck (decide (1 ≤ v1 ∧ v1 ≤ 1099511627776)) (ck (cutOK 0 ((k % v1)) ((Mp.enc (Itm.of it))).length) (ck (decide ((v2).length ≤ 1099511627776)) (ck (apOK ((([] : List UInt8)).length + ((Mp.enc (Itm.of it))).length) 1) (ck (apOK ((v4).length + (([by_] : List UInt8)).length) 1) (ck (decide ((((v4 ++ ([by_] : List UInt8)))).length ≤ 1099511627776)) (ck (!(decide ((Flt.err v3) = (2 : Int))) || (decide ((Flt.err v3) = (2 : Int)))) (ck (!(decide ((Flt.err v3) = (2 : Int))) || (decide ((Flt.err v3) = (2 : Int)))) (ck (!(decide ((Flt.err v3) = (2 : Int))) || (decide ((Flt.err v3) = (2 : Int)))) (ck (!v6 || v6) (ck (!v6 || v6) (ck (!v6 || (v6 && v6)) (ck (!v6 || v6) (some [(.b v7)]))))))))))))))))) = ρ) : MpackCut.F it k by_ = ρ := Eq.trans (by kernel_rfl) (K _ rfl _ rfl _ rfl _ rfl _ rfl _ rfl _ rfl)
theorem MpackCut.chk : ((Go.Proofs.Try.prog.funcs[7]?).any fun fn => chkF Go.Proofs.Try.prog (fun k => ((envL noGl MpackCut.env).fs k).2) fn MpackCut.d.erase) = true := by kernel_rfl
end
end Go.Eng
namespace Go.Eng
open Go.IntWalk
theorem MpackCut.goal (it : Itv) (k : Int) (by_ : UInt8) : MpackCut.F it k by_ = some [.b true] := by
  refine MpackCut.F_in _ _ _ ?_
  intro v1 e1 v2 e2 v3 e3 v4 e4 v5 e5 v6 e6 v7 e7
  rw [Bool.not_true, cond_false]
  by_cases a : 0 ≤ Itm.room 1500 (Itm.of it)
  · have hb := Itm.small_bulk _ a
    have hn := Itm.small_nest _ a
    rw [decide_eq_true a, Bool.not_true, cond_false, ck_of (decide_eq_true (by omega))]
    by_cases hc : Mp.chk (Itm.of it) = 0
    · have hl := Mp.lay_len (Itm.of it)
      have hp := Mp.lay_pos _ hc
      have he : Mp.enc (Itm.of it) = Mp.lay (Itm.of it) := if_pos hc
      rw [he] at e1 e2 e4 ⊢
      have hk0 : 0 ≤ k % v1 := Int.emod_nonneg _ (by omega)
      have hk1 : k % v1 < v1 := Int.emod_lt_of_pos _ (by omega)
      have D := Mp.dec_cut (Itm.of it) 1000 (k % v1).toNat hc (by omega) (by omega) (by omega)
      rw [← e2, ← e3] at D
      rw [List.nil_append] at e4
      subst e4
      have D2 := Mp.dec_more (Itm.of it) 1000 by_ hc (by omega) (by omega)
      rw [← e5] at D2
      have h2 : v2.length ≤ 1099511627776 := by rw [e2, List.length_take]; omega
      have h6 : v6 = true := by rw [e6, D, D2]; rfl
      have h7 : v7 = true := by rw [e7, h6, D2, e1]; exact decide_eq_true rfl
      simp only [h6, h7, Bool.not_or_self, Bool.and_self, Bool.true_and, ck_true, cond_true]
      rw [decide_eq_true hc, Bool.not_true, cond_false, ck_of (decide_eq_true (by omega)), ck_of (cut_ok (by omega) hk0 (by omega)), ck_of (decide_eq_true h2), ck_of (big_ap (by simp only [List.length_nil]; omega) (by simp only [List.length_nil]; omega)), ck_of (big_ap (by simp only [List.length_singleton]; omega) (by simp only [List.length_singleton]; omega)), ck_of (decide_eq_true (by simp only [List.length_append, List.length_singleton]; omega))]
    · rw [decide_eq_false hc]; rfl
  · rw [decide_eq_false a]; rfl
end Go.Eng
namespace Go.Eng
theorem MpackCut.fit (it_kind : Int) (it_n : UInt64) (it_bytes : List UInt8) (it_text : Str) (it_kids : List Itm) (k : Int) (by_ : UInt8) : ([.ag [.i .i64 it_kind, .u64 it_n, .sl .bs it_bytes, .s it_text, .sl .il it_kids], .i .i64 k, .u8 by_] : List TV).length = MpackCut.d.np ∧ MpackCut.d.run (envL noGl MpackCut.env) [.ag [.i .i64 it_kind, .u64 it_n, .sl .bs it_bytes, .s it_text, .sl .il it_kids], .i .i64 k, .u8 by_] = some (([(.b (true))] : List TV) ++ MpackCut.d.ps.toList.map fun q => ([.ag [.i .i64 it_kind, .u64 it_n, .sl .bs it_bytes, .s it_text, .sl .il it_kids], .i .i64 k, .u8 by_] : List TV).getD q.1 .dead) :=
  ⟨by kernel_rfl, Eq.trans (b := MpackCut.F (Itv.mk it_kind it_n it_bytes it_text it_kids) k by_) (by kernel_rfl) (Eq.trans (MpackCut.goal (Itv.mk it_kind it_n it_bytes it_text it_kids) k by_) (by kernel_rfl))⟩
theorem MpackCut.ok : SpecOK Go.Proofs.Try.prog (fun n => (noGl n).av) 7 (Ctr.fs (MpackCut.c, MpackCut.sg)) :=
  meets (l := MpackCut.env) (all_cons law29_awake.ok (all_cons book_SmallItem.ok (all_cons ref29_Encode.ok (all_cons mp_Decode.ok (all_cons book_Place.ok all_nil))))) MpackCut.chk (by
      intro ins outs h
      unfold MpackCut.c at h
      split at h
      · cases h; exact MpackCut.fit _ _ _ _ _ _ _
      · exact h.elim)
end Go.Eng
