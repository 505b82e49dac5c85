/- Texts of my own, one behind the other: NrOK, NrA, NrQA, NrOKA, NrLReads, NrQReads, NrOKReads. -/
import Derived.Test.YtdjpjmcecjhakaaDoorT5
set_option linter.unusedVariables false
set_option linter.unusedSimpArgs false
namespace Go.Eng
open Go.Proofs
theorem bits_Len16.fit (x:UInt16):([.u16 x]:List TV).length=bits_Len16.d.np∧bits_Len16.d.run (envL nrGl bits_Len16.env) [.u16 x]=some (([(.i .i64 ((Nt.bits (x).toNat:Int)))]:List TV)++bits_Len16.d.lent.map fun q=>([.u16 x]:List TV).getD q.1 .dead) :=
 ⟨by kernel_rfl,Eq.trans (b:=bits_Len16.F x) (by kernel_rfl) (Eq.trans (bits_Len16.goal x) (by kernel_rfl))⟩
theorem bits_Len16.ok:KO 66 (bits_Len16.c) bits_Len16.sg :=
 meets (l:=bits_Len16.env) all_nil bits_Len16.chk (by
   intro ins outs h
   unfold bits_Len16.c at h
   split at h
   ·cases h;exact bits_Len16.fit _
   ·exact h.elim)
theorem bits_Len64.fit (x:UInt64):([.u64 x]:List TV).length=bits_Len64.d.np∧bits_Len64.d.run (envL nrGl bits_Len64.env) [.u64 x]=some (([(.i .i64 ((Nt.bits (x).toNat:Int)))]:List TV)++bits_Len64.d.lent.map fun q=>([.u64 x]:List TV).getD q.1 .dead) :=
 ⟨by kernel_rfl,Eq.trans (b:=bits_Len64.F x) (by kernel_rfl) (Eq.trans (bits_Len64.goal x) (by kernel_rfl))⟩
theorem bits_Len64.ok:KO 72 (bits_Len64.c) bits_Len64.sg :=
 meets (l:=bits_Len64.env) all_nil bits_Len64.chk (by
   intro ins outs h
   unfold bits_Len64.c at h
   split at h
   ·cases h;exact bits_Len64.fit _
   ·exact h.elim)
theorem sl_Cut.fit (s:Str) (c:Str) (hp:(decide ((s).length≤4294967280∧c=[46]))=true):([.s s,.s c]:List TV).length=sl_Cut.d.np∧sl_Cut.d.run (envL nrGl sl_Cut.env) [.s s,.s c]=some (([(.s (((s).takeWhile (· != 46)))),(.s ((((s).dropWhile (· != 46)).drop 1))),(.b (((s).contains 46)))]:List TV)++sl_Cut.d.lent.map fun q=>([.s s,.s c]:List TV).getD q.1 .dead) :=
 ⟨by kernel_rfl,Eq.trans (b:=sl_Cut.F s c) (by kernel_rfl) (Eq.trans (sl_Cut.goal s c hp) (by kernel_rfl))⟩
theorem sl_Cut.ok:KO 56 (sl_Cut.c) sl_Cut.sg :=
 meets (l:=sl_Cut.env) (all_cons sl_Index.ok all_nil) sl_Cut.chk (by
   intro ins outs h
   unfold sl_Cut.c at h
   split at h
   ·obtain ⟨hp,rfl⟩:=h;exact sl_Cut.fit _ _ hp
   ·exact h.elim)
theorem st_Cut.fit (s:Str) (c:Str) (hp:(decide ((s).length≤4294967280∧c=[46]))=true):([.s s,.s c]:List TV).length=st_Cut.d.np∧st_Cut.d.run (envL nrGl st_Cut.env) [.s s,.s c]=some (([(.s (((s).takeWhile (· != 46)))),(.s ((((s).dropWhile (· != 46)).drop 1))),(.b (((s).contains 46)))]:List TV)++st_Cut.d.lent.map fun q=>([.s s,.s c]:List TV).getD q.1 .dead) :=
 ⟨by kernel_rfl,Eq.trans (b:=st_Cut.F s c) (by kernel_rfl) (Eq.trans (st_Cut.goal s c hp) (by kernel_rfl))⟩
theorem st_Cut.ok:KO 30 (st_Cut.c) st_Cut.sg :=
 meets (l:=st_Cut.env) (all_cons sl_Cut.ok all_nil) st_Cut.chk (by
   intro ins outs h
   unfold st_Cut.c at h
   split at h
   ·obtain ⟨hp,rfl⟩:=h;exact st_Cut.fit _ _ hp
   ·exact h.elim)
theorem gz_small.fit (z_1:Nat) (z_2:Nat) (hp:(Gz.inB ((z_1,z_2):Cx) 33554432)=true):([.c (.complex .f64 z_1 z_2)]:List TV).length=gz_small.d.np∧gz_small.d.run (envL nrGl gz_small.env) [.c (.complex .f64 z_1 z_2)]=some (([(.b (true))]:List TV)++gz_small.d.lent.map fun q=>([.c (.complex .f64 z_1 z_2)]:List TV).getD q.1 .dead) :=
 ⟨by kernel_rfl,Eq.trans (b:=gz_small.F ((z_1,z_2):Cx)) (by kernel_rfl) (Eq.trans (gz_small.goal ((z_1,z_2):Cx) hp) (by kernel_rfl))⟩
theorem gz_small.ok:KO 83 (gz_small.c) gz_small.sg :=
 meets (l:=gz_small.env) (all_cons gz_whole.ok all_nil) gz_small.chk (by
   intro ins outs h
   unfold gz_small.c at h
   split at h
   ·obtain ⟨hp,rfl⟩:=h;exact gz_small.fit _ _ hp
   ·exact h.elim)
theorem gz_Of.fit (x:Int) (y:Int) (hp:(decide (-33554432≤x∧x≤33554432∧-33554432≤y∧y≤33554432))=true):([.i .i64 x,.i .i64 y]:List TV).length=gz_Of.d.np∧gz_Of.d.run (envL nrGl gz_Of.env) [.i .i64 x,.i .i64 y]=some (([(.c (.complex .f64 (((Fl.ofInt x,Fl.ofInt y):Cx)).1 (((Fl.ofInt x,Fl.ofInt y):Cx)).2))]:List TV)++gz_Of.d.lent.map fun q=>([.i .i64 x,.i .i64 y]:List TV).getD q.1 .dead) :=
 ⟨by kernel_rfl,Eq.trans (b:=gz_Of.F x y) (by kernel_rfl) (Eq.trans (gz_Of.goal x y hp) (by kernel_rfl))⟩
theorem gz_Of.ok:KO 81 (gz_Of.c) gz_Of.sg :=
 meets (l:=gz_Of.env) all_nil gz_Of.chk (by
   intro ins outs h
   unfold gz_Of.c at h
   split at h
   ·obtain ⟨hp,rfl⟩:=h;exact gz_Of.fit _ _ hp
   ·exact h.elim)
theorem gz_Parts.fit (z_1:Nat) (z_2:Nat) (hp:(Gz.inB ((z_1,z_2):Cx) 4503599627370496)=true):([.c (.complex .f64 z_1 z_2)]:List TV).length=gz_Parts.d.np∧gz_Parts.d.run (envL nrGl gz_Parts.env) [.c (.complex .f64 z_1 z_2)]=some (([(.i .i64 (Fl.toInt (((z_1,z_2):Cx)).1)),(.i .i64 (Fl.toInt (((z_1,z_2):Cx)).2)),(.b (true))]:List TV)++gz_Parts.d.lent.map fun q=>([.c (.complex .f64 z_1 z_2)]:List TV).getD q.1 .dead) :=
 ⟨by kernel_rfl,Eq.trans (b:=gz_Parts.F ((z_1,z_2):Cx)) (by kernel_rfl) (Eq.trans (gz_Parts.goal ((z_1,z_2):Cx) hp) (by kernel_rfl))⟩
theorem gz_Parts.ok:KO 65 (gz_Parts.c) gz_Parts.sg :=
 meets (l:=gz_Parts.env) (all_cons gz_whole.ok all_nil) gz_Parts.chk (by
   intro ins outs h
   unfold gz_Parts.c at h
   split at h
   ·obtain ⟨hp,rfl⟩:=h;exact gz_Parts.fit _ _ hp
   ·exact h.elim)
theorem gz_Turn.fit (z_1:Nat) (z_2:Nat) (k:Int) (hp:(Gz.inB ((z_1,z_2):Cx) 1125899906842624&&decide (-100≤k∧k≤100))=true):([.c (.complex .f64 z_1 z_2),.i .i64 k]:List TV).length=gz_Turn.d.np∧gz_Turn.d.run (envL nrGl gz_Turn.env) [.c (.complex .f64 z_1 z_2),.i .i64 k]=some (([(.c (.complex .f64 (Gz.turn ((z_1,z_2):Cx) k).1 (Gz.turn ((z_1,z_2):Cx) k).2))]:List TV)++gz_Turn.d.lent.map fun q=>([.c (.complex .f64 z_1 z_2),.i .i64 k]:List TV).getD q.1 .dead) :=
 ⟨by kernel_rfl,Eq.trans (b:=gz_Turn.F ((z_1,z_2):Cx) k) (by kernel_rfl) (Eq.trans (gz_Turn.goal ((z_1,z_2):Cx) k hp) (by kernel_rfl))⟩
theorem gz_Turn.ok:KO 97 (gz_Turn.c) gz_Turn.sg :=
 meets (l:=gz_Turn.env) (all_cons gz_whole.ok all_nil) gz_Turn.chk (by
   intro ins outs h
   unfold gz_Turn.c at h
   split at h
   ·obtain ⟨hp,rfl⟩:=h;exact gz_Turn.fit _ _ _ hp
   ·exact h.elim)
theorem gz_Times.fit (z_1:Nat) (z_2:Nat) (w_1:Nat) (w_2:Nat) (hp:(Gz.inB ((z_1,z_2):Cx) 33554432&&Gz.inB ((w_1,w_2):Cx) 33554432)=true):([.c (.complex .f64 z_1 z_2),.c (.complex .f64 w_1 w_2)]:List TV).length=gz_Times.d.np∧gz_Times.d.run (envL nrGl gz_Times.env) [.c (.complex .f64 z_1 z_2),.c (.complex .f64 w_1 w_2)]=some (([(.c (.complex .f64 (Gz.mul ((z_1,z_2):Cx) ((w_1,w_2):Cx)).1 (Gz.mul ((z_1,z_2):Cx) ((w_1,w_2):Cx)).2))]:List TV)++gz_Times.d.lent.map fun q=>([.c (.complex .f64 z_1 z_2),.c (.complex .f64 w_1 w_2)]:List TV).getD q.1 .dead) :=
 ⟨by kernel_rfl,Eq.trans (b:=gz_Times.F ((z_1,z_2):Cx) ((w_1,w_2):Cx)) (by kernel_rfl) (Eq.trans (gz_Times.goal ((z_1,z_2):Cx) ((w_1,w_2):Cx) hp) (by kernel_rfl))⟩
theorem gz_Times.ok:KO 63 (gz_Times.c) gz_Times.sg :=
 meets (l:=gz_Times.env) (all_cons gz_small.ok all_nil) gz_Times.chk (by
   intro ins outs h
   unfold gz_Times.c at h
   split at h
   ·obtain ⟨hp,rfl⟩:=h;exact gz_Times.fit _ _ _ _ hp
   ·exact h.elim)
theorem wv_fit1.fit (x:Nat) (hp:(Gz.inR x)=true):([.c (.float .f64 x)]:List TV).length=wv_fit1.d.np∧wv_fit1.d.run (envL nrGl wv_fit1.env) [.c (.float .f64 x)]=some (([(.b (true))]:List TV)++wv_fit1.d.lent.map fun q=>([.c (.float .f64 x)]:List TV).getD q.1 .dead) :=
 ⟨by kernel_rfl,Eq.trans (b:=wv_fit1.F x) (by kernel_rfl) (Eq.trans (wv_fit1.goal x hp) (by kernel_rfl))⟩
theorem wv_fit1.ok:KO 95 (wv_fit1.c) wv_fit1.sg :=
 meets (l:=wv_fit1.env) (all_cons math_Trunc.ok all_nil) wv_fit1.chk (by
   intro ins outs h
   unfold wv_fit1.c at h
   split at h
   ·obtain ⟨hp,rfl⟩:=h;exact wv_fit1.fit _ hp
   ·exact h.elim)
theorem wv_fit.fit (l_c0_1:Nat) (l_c0_2:Nat) (l_c1_1:Nat) (l_c1_2:Nat) (l_c2_1:Nat) (l_c2_2:Nat) (l_c3_1:Nat) (l_c3_2:Nat) (hp:(Gz.inQ (Qd.mk ((l_c0_1,l_c0_2):Cx) ((l_c1_1,l_c1_2):Cx) ((l_c2_1,l_c2_2):Cx) ((l_c3_1,l_c3_2):Cx)) 1125899906842624)=true):([.ag [.c (.complex .f64 l_c0_1 l_c0_2),.c (.complex .f64 l_c1_1 l_c1_2),.c (.complex .f64 l_c2_1 l_c2_2),.c (.complex .f64 l_c3_1 l_c3_2)]]:List TV).length=wv_fit.d.np∧wv_fit.d.run (envL nrGl wv_fit.env) [.ag [.c (.complex .f64 l_c0_1 l_c0_2),.c (.complex .f64 l_c1_1 l_c1_2),.c (.complex .f64 l_c2_1 l_c2_2),.c (.complex .f64 l_c3_1 l_c3_2)]]=some (([(.b (true))]:List TV)++wv_fit.d.lent.map fun q=>([.ag [.c (.complex .f64 l_c0_1 l_c0_2),.c (.complex .f64 l_c1_1 l_c1_2),.c (.complex .f64 l_c2_1 l_c2_2),.c (.complex .f64 l_c3_1 l_c3_2)]]:List TV).getD q.1 .dead) :=
 ⟨by kernel_rfl,Eq.trans (b:=wv_fit.F (Qd.mk ((l_c0_1,l_c0_2):Cx) ((l_c1_1,l_c1_2):Cx) ((l_c2_1,l_c2_2):Cx) ((l_c3_1,l_c3_2):Cx))) (by kernel_rfl) (Eq.trans (wv_fit.goal (Qd.mk ((l_c0_1,l_c0_2):Cx) ((l_c1_1,l_c1_2):Cx) ((l_c2_1,l_c2_2):Cx) ((l_c3_1,l_c3_2):Cx)) hp) (by kernel_rfl))⟩
theorem wv_fit.ok:KO 84 (wv_fit.c) wv_fit.sg :=
 meets (l:=wv_fit.env) (all_cons wv_fit1.ok all_nil) wv_fit.chk (by
   intro ins outs h
   unfold wv_fit.c at h
   split at h
   ·obtain ⟨hp,rfl⟩:=h;exact wv_fit.fit _ _ _ _ _ _ _ _ hp
   ·exact h.elim)
theorem wv_sums.fit (l_c0_1:Nat) (l_c0_2:Nat) (l_c1_1:Nat) (l_c1_2:Nat) (l_c2_1:Nat) (l_c2_2:Nat) (l_c3_1:Nat) (l_c3_2:Nat) (w:Int) (hp:(Gz.inQ (Qd.mk ((l_c0_1,l_c0_2):Cx) ((l_c1_1,l_c1_2):Cx) ((l_c2_1,l_c2_2):Cx) ((l_c3_1,l_c3_2):Cx)) 1125899906842624&&decide (w=1∨w=-1))=true):([.ag [.c (.complex .f64 l_c0_1 l_c0_2),.c (.complex .f64 l_c1_1 l_c1_2),.c (.complex .f64 l_c2_1 l_c2_2),.c (.complex .f64 l_c3_1 l_c3_2)],.i .i64 w]:List TV).length=wv_sums.d.np∧wv_sums.d.run (envL nrGl wv_sums.env) [.ag [.c (.complex .f64 l_c0_1 l_c0_2),.c (.complex .f64 l_c1_1 l_c1_2),.c (.complex .f64 l_c2_1 l_c2_2),.c (.complex .f64 l_c3_1 l_c3_2)],.i .i64 w]=some (([(.ag (Qd.cells (Gz.sums (Qd.mk ((l_c0_1,l_c0_2):Cx) ((l_c1_1,l_c1_2):Cx) ((l_c2_1,l_c2_2):Cx) ((l_c3_1,l_c3_2):Cx)) w)))]:List TV)++wv_sums.d.lent.map fun q=>([.ag [.c (.complex .f64 l_c0_1 l_c0_2),.c (.complex .f64 l_c1_1 l_c1_2),.c (.complex .f64 l_c2_1 l_c2_2),.c (.complex .f64 l_c3_1 l_c3_2)],.i .i64 w]:List TV).getD q.1 .dead) :=
 ⟨by kernel_rfl,Eq.trans (b:=wv_sums.F (Qd.mk ((l_c0_1,l_c0_2):Cx) ((l_c1_1,l_c1_2):Cx) ((l_c2_1,l_c2_2):Cx) ((l_c3_1,l_c3_2):Cx)) w) (by kernel_rfl) (Eq.trans (wv_sums.goal (Qd.mk ((l_c0_1,l_c0_2):Cx) ((l_c1_1,l_c1_2):Cx) ((l_c2_1,l_c2_2):Cx) ((l_c3_1,l_c3_2):Cx)) w hp) (by kernel_rfl))⟩
theorem wv_sums.ok:KO 85 (wv_sums.c) wv_sums.sg :=
 meets (l:=wv_sums.env) (all_cons gz_Turn.ok all_nil) wv_sums.chk (by
   intro ins outs h
   unfold wv_sums.c at h
   split at h
   ·obtain ⟨hp,rfl⟩:=h;exact wv_sums.fit _ _ _ _ _ _ _ _ _ hp
   ·exact h.elim)
theorem wv_Four.fit (l_c0_1:Nat) (l_c0_2:Nat) (l_c1_1:Nat) (l_c1_2:Nat) (l_c2_1:Nat) (l_c2_2:Nat) (l_c3_1:Nat) (l_c3_2:Nat) (hp:(Gz.inQ (Qd.mk ((l_c0_1,l_c0_2):Cx) ((l_c1_1,l_c1_2):Cx) ((l_c2_1,l_c2_2):Cx) ((l_c3_1,l_c3_2):Cx)) 1125899906842624)=true):([.ag [.c (.complex .f64 l_c0_1 l_c0_2),.c (.complex .f64 l_c1_1 l_c1_2),.c (.complex .f64 l_c2_1 l_c2_2),.c (.complex .f64 l_c3_1 l_c3_2)]]:List TV).length=wv_Four.d.np∧wv_Four.d.run (envL nrGl wv_Four.env) [.ag [.c (.complex .f64 l_c0_1 l_c0_2),.c (.complex .f64 l_c1_1 l_c1_2),.c (.complex .f64 l_c2_1 l_c2_2),.c (.complex .f64 l_c3_1 l_c3_2)]]=some (([(.ag (Qd.cells (Gz.sums (Qd.mk ((l_c0_1,l_c0_2):Cx) ((l_c1_1,l_c1_2):Cx) ((l_c2_1,l_c2_2):Cx) ((l_c3_1,l_c3_2):Cx)) 1)))]:List TV)++wv_Four.d.lent.map fun q=>([.ag [.c (.complex .f64 l_c0_1 l_c0_2),.c (.complex .f64 l_c1_1 l_c1_2),.c (.complex .f64 l_c2_1 l_c2_2),.c (.complex .f64 l_c3_1 l_c3_2)]]:List TV).getD q.1 .dead) :=
 ⟨by kernel_rfl,Eq.trans (b:=wv_Four.F (Qd.mk ((l_c0_1,l_c0_2):Cx) ((l_c1_1,l_c1_2):Cx) ((l_c2_1,l_c2_2):Cx) ((l_c3_1,l_c3_2):Cx))) (by kernel_rfl) (Eq.trans (wv_Four.goal (Qd.mk ((l_c0_1,l_c0_2):Cx) ((l_c1_1,l_c1_2):Cx) ((l_c2_1,l_c2_2):Cx) ((l_c3_1,l_c3_2):Cx)) hp) (by kernel_rfl))⟩
theorem wv_Four.ok:KO 82 (wv_Four.c) wv_Four.sg :=
 meets (l:=wv_Four.env) (all_cons wv_fit.ok (all_cons wv_sums.ok all_nil)) wv_Four.chk (by
   intro ins outs h
   unfold wv_Four.c at h
   split at h
   ·obtain ⟨hp,rfl⟩:=h;exact wv_Four.fit _ _ _ _ _ _ _ _ hp
   ·exact h.elim)
theorem wv_Back.fit (l_c0_1:Nat) (l_c0_2:Nat) (l_c1_1:Nat) (l_c1_2:Nat) (l_c2_1:Nat) (l_c2_2:Nat) (l_c3_1:Nat) (l_c3_2:Nat) (hp:(Gz.inQ (Qd.mk ((l_c0_1,l_c0_2):Cx) ((l_c1_1,l_c1_2):Cx) ((l_c2_1,l_c2_2):Cx) ((l_c3_1,l_c3_2):Cx)) 1125899906842624&&Gz.in4 (Qd.mk ((l_c0_1,l_c0_2):Cx) ((l_c1_1,l_c1_2):Cx) ((l_c2_1,l_c2_2):Cx) ((l_c3_1,l_c3_2):Cx)))=true):([.ag [.c (.complex .f64 l_c0_1 l_c0_2),.c (.complex .f64 l_c1_1 l_c1_2),.c (.complex .f64 l_c2_1 l_c2_2),.c (.complex .f64 l_c3_1 l_c3_2)]]:List TV).length=wv_Back.d.np∧wv_Back.d.run (envL nrGl wv_Back.env) [.ag [.c (.complex .f64 l_c0_1 l_c0_2),.c (.complex .f64 l_c1_1 l_c1_2),.c (.complex .f64 l_c2_1 l_c2_2),.c (.complex .f64 l_c3_1 l_c3_2)]]=some (([(.ag (Qd.cells (Gz.back (Qd.mk ((l_c0_1,l_c0_2):Cx) ((l_c1_1,l_c1_2):Cx) ((l_c2_1,l_c2_2):Cx) ((l_c3_1,l_c3_2):Cx))))),(.b (true))]:List TV)++wv_Back.d.lent.map fun q=>([.ag [.c (.complex .f64 l_c0_1 l_c0_2),.c (.complex .f64 l_c1_1 l_c1_2),.c (.complex .f64 l_c2_1 l_c2_2),.c (.complex .f64 l_c3_1 l_c3_2)]]:List TV).getD q.1 .dead) :=
 ⟨by kernel_rfl,Eq.trans (b:=wv_Back.F (Qd.mk ((l_c0_1,l_c0_2):Cx) ((l_c1_1,l_c1_2):Cx) ((l_c2_1,l_c2_2):Cx) ((l_c3_1,l_c3_2):Cx))) (by kernel_rfl) (Eq.trans (wv_Back.goal (Qd.mk ((l_c0_1,l_c0_2):Cx) ((l_c1_1,l_c1_2):Cx) ((l_c2_1,l_c2_2):Cx) ((l_c3_1,l_c3_2):Cx)) hp) (by kernel_rfl))⟩
theorem wv_Back.ok:KO 64 (wv_Back.c) wv_Back.sg :=
 meets (l:=wv_Back.env) (all_cons gz_Parts.ok (all_cons wv_fit.ok (all_cons wv_sums.ok all_nil))) wv_Back.chk (by
   intro ins outs h
   unfold wv_Back.c at h
   split at h
   ·obtain ⟨hp,rfl⟩:=h;exact wv_Back.fit _ _ _ _ _ _ _ _ hp
   ·exact h.elim)
theorem wv_digits.fit (l:List Int) (hp:(decide ((l).length≤256)&&Gz.digs l)=true):([.sl .is l]:List TV).length=wv_digits.d.np∧wv_digits.d.run (envL nrGl wv_digits.env) [.sl .is l]=some (([(.b (true))]:List TV)++wv_digits.d.lent.map fun q=>([.sl .is l]:List TV).getD q.1 .dead) :=
 ⟨by kernel_rfl,Eq.trans (b:=wv_digits.F l) (by kernel_rfl) (Eq.trans (wv_digits.goal l hp) (by kernel_rfl))⟩
theorem wv_digits.ok:KO 61 (wv_digits.c) wv_digits.sg :=
 meets (l:=wv_digits.env) all_nil wv_digits.chk (by
   intro ins outs h
   unfold wv_digits.c at h
   split at h
   ·obtain ⟨hp,rfl⟩:=h;exact wv_digits.fit _ hp
   ·exact h.elim)
theorem wv_pairs.fit (l:List Int) (hp:(decide ((l).length≤256)&&Gz.digs l)=true):([.sl .is l]:List TV).length=wv_pairs.d.np∧wv_pairs.d.run (envL nrGl wv_pairs.env) [.sl .is l]=some (([(.sl .qd (Gz.pairs l))]:List TV)++wv_pairs.d.lent.map fun q=>([.sl .is l]:List TV).getD q.1 .dead) :=
 ⟨by kernel_rfl,Eq.trans (b:=wv_pairs.F l) (by kernel_rfl) (Eq.trans (wv_pairs.goal l hp) (by kernel_rfl))⟩
theorem wv_pairs.ok:KO 62 (wv_pairs.c) wv_pairs.sg :=
 meets (l:=wv_pairs.env) (all_cons gz_Of.ok (all_cons wv_Four.ok all_nil)) wv_pairs.chk (by
   intro ins outs h
   unfold wv_pairs.c at h
   split at h
   ·obtain ⟨hp,rfl⟩:=h;exact wv_pairs.fit _ hp
   ·exact h.elim)
theorem wv_Fold.fit (a:List Int) (b:List Int) (hp:(decide ((a).length≤256∧(b).length≤256)&&(Gz.digs a&&Gz.digs b))=true):([.sl .is a,.sl .is b]:List TV).length=wv_Fold.d.np∧wv_Fold.d.run (envL nrGl wv_Fold.env) [.sl .is a,.sl .is b]=some (([(.sl .is (Gz.conv a b)),(.b (true))]:List TV)++wv_Fold.d.lent.map fun q=>([.sl .is a,.sl .is b]:List TV).getD q.1 .dead) :=
 ⟨by kernel_rfl,Eq.trans (b:=wv_Fold.F a b) (by kernel_rfl) (Eq.trans (wv_Fold.goal a b hp) (by kernel_rfl))⟩
theorem wv_Fold.ok:KO 43 (wv_Fold.c) wv_Fold.sg :=
 meets (l:=wv_Fold.env) (all_cons wv_digits.ok (all_cons wv_pairs.ok (all_cons gz_Times.ok (all_cons wv_Back.ok (all_cons gz_Parts.ok all_nil))))) wv_Fold.chk (by
   intro ins outs h
   unfold wv_Fold.c at h
   split at h
   ·obtain ⟨hp,rfl⟩:=h;exact wv_Fold.fit _ _ hp
   ·exact h.elim)
theorem bg_trim.fit (a:List UInt16) (hp:(decide ((a).length≤1099511627776))=true):([.sl .ws a]:List TV).length=bg_trim.d.np∧bg_trim.d.run (envL nrGl bg_trim.env) [.sl .ws a]=some (([(.sl .ws (Nt.of (Nt.val a)))]:List TV)++bg_trim.d.lent.map fun q=>([.sl .ws a]:List TV).getD q.1 .dead) :=
 ⟨by kernel_rfl,Eq.trans (b:=bg_trim.F a) (by kernel_rfl) (Eq.trans (bg_trim.goal a hp) (by kernel_rfl))⟩
theorem bg_trim.ok:KO 45 (bg_trim.c) bg_trim.sg :=
 meets (l:=bg_trim.env) all_nil bg_trim.chk (by
   intro ins outs h
   unfold bg_trim.c at h
   split at h
   ·obtain ⟨hp,rfl⟩:=h;exact bg_trim.fit _ hp
   ·exact h.elim)
theorem bg_Is.fit (a:List UInt16) (hp:(decide ((a).length≤1099511627776))=true):([.sl .ws a]:List TV).length=bg_Is.d.np∧bg_Is.d.run (envL nrGl bg_Is.env) [.sl .ws a]=some (([(.b (Nt.is a))]:List TV)++bg_Is.d.lent.map fun q=>([.sl .ws a]:List TV).getD q.1 .dead) :=
 ⟨by kernel_rfl,Eq.trans (b:=bg_Is.F a) (by kernel_rfl) (Eq.trans (bg_Is.goal a hp) (by kernel_rfl))⟩
theorem bg_Is.ok:KO 42 (bg_Is.c) bg_Is.sg :=
 meets (l:=bg_Is.env) all_nil bg_Is.chk (by
   intro ins outs h
   unfold bg_Is.c at h
   split at h
   ·obtain ⟨hp,rfl⟩:=h;exact bg_Is.fit _ hp
   ·exact h.elim)
theorem bg_Of.fit (v:UInt64):([.u64 v]:List TV).length=bg_Of.d.np∧bg_Of.d.run (envL nrGl bg_Of.env) [.u64 v]=some (([(.sl .ws (Nt.of (v).toNat))]:List TV)++bg_Of.d.lent.map fun q=>([.u64 v]:List TV).getD q.1 .dead) :=
 ⟨by kernel_rfl,Eq.trans (b:=bg_Of.F v) (by kernel_rfl) (Eq.trans (bg_Of.goal v) (by kernel_rfl))⟩
theorem bg_Of.ok:KO 19 (bg_Of.c) bg_Of.sg :=
 meets (l:=bg_Of.env) all_nil bg_Of.chk (by
   intro ins outs h
   unfold bg_Of.c at h
   split at h
   ·cases h;exact bg_Of.fit _
   ·exact h.elim)
theorem bg_Small.fit (a:List UInt16) (hp:(decide (Nt.is a=true∧(a).length≤4))=true):([.sl .ws a]:List TV).length=bg_Small.d.np∧bg_Small.d.run (envL nrGl bg_Small.env) [.sl .ws a]=some (([(.u64 (UInt64.ofNat (Nt.val a))),(.b (true))]:List TV)++bg_Small.d.lent.map fun q=>([.sl .ws a]:List TV).getD q.1 .dead) :=
 ⟨by kernel_rfl,Eq.trans (b:=bg_Small.F a) (by kernel_rfl) (Eq.trans (bg_Small.goal a hp) (by kernel_rfl))⟩
theorem bg_Small.ok:KO 69 (bg_Small.c) bg_Small.sg :=
 meets (l:=bg_Small.env) (all_cons bg_Is.ok all_nil) bg_Small.chk (by
   intro ins outs h
   unfold bg_Small.c at h
   split at h
   ·obtain ⟨hp,rfl⟩:=h;exact bg_Small.fit _ hp
   ·exact h.elim)
theorem bg_Bits.fit (a:List UInt16) (hp:(Nt.is a)=true):([.sl .ws a]:List TV).length=bg_Bits.d.np∧bg_Bits.d.run (envL nrGl bg_Bits.env) [.sl .ws a]=some (([(.i .i64 ((Nt.bits (Nt.val a):Int)))]:List TV)++bg_Bits.d.lent.map fun q=>([.sl .ws a]:List TV).getD q.1 .dead) :=
 ⟨by kernel_rfl,Eq.trans (b:=bg_Bits.F a) (by kernel_rfl) (Eq.trans (bg_Bits.goal a hp) (by kernel_rfl))⟩
theorem bg_Bits.ok:KO 46 (bg_Bits.c) bg_Bits.sg :=
 meets (l:=bg_Bits.env) (all_cons bg_Is.ok (all_cons bits_Len16.ok all_nil)) bg_Bits.chk (by
   intro ins outs h
   unfold bg_Bits.c at h
   split at h
   ·obtain ⟨hp,rfl⟩:=h;exact bg_Bits.fit _ hp
   ·exact h.elim)
theorem bg_cmp.fit (a:List UInt16) (b:List UInt16) (hp:(decide ((a).length≤1099511627776∧(b).length≤1099511627776)&&(Nt.norm a&&Nt.norm b))=true):([.sl .ws a,.sl .ws b]:List TV).length=bg_cmp.d.np∧bg_cmp.d.run (envL nrGl bg_cmp.env) [.sl .ws a,.sl .ws b]=some (([(.i .i64 (Nt.cmp (Nt.val a) (Nt.val b)))]:List TV)++bg_cmp.d.lent.map fun q=>([.sl .ws a,.sl .ws b]:List TV).getD q.1 .dead) :=
 ⟨by kernel_rfl,Eq.trans (b:=bg_cmp.F a b) (by kernel_rfl) (Eq.trans (bg_cmp.goal a b hp) (by kernel_rfl))⟩
theorem bg_cmp.ok:KO 88 (bg_cmp.c) bg_cmp.sg :=
 meets (l:=bg_cmp.env) all_nil bg_cmp.chk (by
   intro ins outs h
   unfold bg_cmp.c at h
   split at h
   ·obtain ⟨hp,rfl⟩:=h;exact bg_cmp.fit _ _ hp
   ·exact h.elim)
theorem bg_Cmp.fit (a:List UInt16) (b:List UInt16) (hp:(Nt.is a&&Nt.is b)=true):([.sl .ws a,.sl .ws b]:List TV).length=bg_Cmp.d.np∧bg_Cmp.d.run (envL nrGl bg_Cmp.env) [.sl .ws a,.sl .ws b]=some (([(.i .i64 (Nt.cmp (Nt.val a) (Nt.val b)))]:List TV)++bg_Cmp.d.lent.map fun q=>([.sl .ws a,.sl .ws b]:List TV).getD q.1 .dead) :=
 ⟨by kernel_rfl,Eq.trans (b:=bg_Cmp.F a b) (by kernel_rfl) (Eq.trans (bg_Cmp.goal a b hp) (by kernel_rfl))⟩
theorem bg_Cmp.ok:KO 70 (bg_Cmp.c) bg_Cmp.sg :=
 meets (l:=bg_Cmp.env) (all_cons bg_Is.ok (all_cons bg_cmp.ok all_nil)) bg_Cmp.chk (by
   intro ins outs h
   unfold bg_Cmp.c at h
   split at h
   ·obtain ⟨hp,rfl⟩:=h;exact bg_Cmp.fit _ _ hp
   ·exact h.elim)
theorem bg_numbers.fit (a:List UInt16) (hp:(decide ((a).length≤256))=true):([.sl .ws a]:List TV).length=bg_numbers.d.np∧bg_numbers.d.run (envL nrGl bg_numbers.env) [.sl .ws a]=some (([(.sl .is ((a).map fun d=>(d.toNat:Int)))]:List TV)++bg_numbers.d.lent.map fun q=>([.sl .ws a]:List TV).getD q.1 .dead) :=
 ⟨by kernel_rfl,Eq.trans (b:=bg_numbers.F a) (by kernel_rfl) (Eq.trans (bg_numbers.goal a hp) (by kernel_rfl))⟩
theorem bg_numbers.ok:KO 44 (bg_numbers.c) bg_numbers.sg :=
 meets (l:=bg_numbers.env) all_nil bg_numbers.chk (by
   intro ins outs h
   unfold bg_numbers.c at h
   split at h
   ·obtain ⟨hp,rfl⟩:=h;exact bg_numbers.fit _ hp
   ·exact h.elim)
theorem bg_Mul.fit (a:List UInt16) (b:List UInt16) (hp:(Nt.is a&&Nt.is b)=true):([.sl .ws a,.sl .ws b]:List TV).length=bg_Mul.d.np∧bg_Mul.d.run (envL nrGl bg_Mul.env) [.sl .ws a,.sl .ws b]=some (([(.sl .ws (Nt.of (Nt.val a * Nt.val b)))]:List TV)++bg_Mul.d.lent.map fun q=>([.sl .ws a,.sl .ws b]:List TV).getD q.1 .dead) :=
 ⟨by kernel_rfl,Eq.trans (b:=bg_Mul.F a b) (by kernel_rfl) (Eq.trans (bg_Mul.goal a b hp) (by kernel_rfl))⟩
theorem bg_Mul.ok:KO 21 (bg_Mul.c) bg_Mul.sg :=
 meets (l:=bg_Mul.env) (all_cons bg_Is.ok (all_cons wv_Fold.ok (all_cons bg_numbers.ok (all_cons bg_trim.ok all_nil)))) bg_Mul.chk (by
   intro ins outs h
   unfold bg_Mul.c at h
   split at h
   ·obtain ⟨hp,rfl⟩:=h;exact bg_Mul.fit _ _ hp
   ·exact h.elim)
theorem bg_few.fit (a:List UInt16) (d:UInt16) (hp:(decide ((a).length≤1000000∧d≠0))=true):([.sl .ws a,.u16 d]:List TV).length=bg_few.d.np∧bg_few.d.run (envL nrGl bg_few.env) [.sl .ws a,.u16 d]=some (([(.sl .ws (Nt.of (Nt.val a / (d).toNat))),(.u16 (UInt16.ofNat (Nt.val a % (d).toNat)))]:List TV)++bg_few.d.lent.map fun q=>([.sl .ws a,.u16 d]:List TV).getD q.1 .dead) :=
 ⟨by kernel_rfl,Eq.trans (b:=bg_few.F a d) (by kernel_rfl) (Eq.trans (bg_few.goal a d hp) (by kernel_rfl))⟩
theorem bg_few.ok:KO 90 (bg_few.c) bg_few.sg :=
 meets (l:=bg_few.env) (all_cons bg_trim.ok all_nil) bg_few.chk (by
   intro ins outs h
   unfold bg_few.c at h
   split at h
   ·obtain ⟨hp,rfl⟩:=h;exact bg_few.fit _ _ hp
   ·exact h.elim)
theorem bg_up.fit (a:List UInt16) (n:Int) (hp:(decide ((a).length≤1000000∧0≤n∧n<16)&&Nt.norm a)=true):([.sl .ws a,.i .i64 n]:List TV).length=bg_up.d.np∧bg_up.d.run (envL nrGl bg_up.env) [.sl .ws a,.i .i64 n]=some (([(.sl .ws (Nt.of (Nt.val a * 2 ^ (n).toNat)))]:List TV)++bg_up.d.lent.map fun q=>([.sl .ws a,.i .i64 n]:List TV).getD q.1 .dead) :=
 ⟨by kernel_rfl,Eq.trans (b:=bg_up.F a n) (by kernel_rfl) (Eq.trans (bg_up.goal a n hp) (by kernel_rfl))⟩
theorem bg_up.ok:KO 87 (bg_up.c) bg_up.sg :=
 meets (l:=bg_up.env) all_nil bg_up.chk (by
   intro ins outs h
   unfold bg_up.c at h
   split at h
   ·obtain ⟨hp,rfl⟩:=h;exact bg_up.fit _ _ hp
   ·exact h.elim)
theorem bg_down.fit (a:List UInt16) (n:Int) (hp:(decide ((a).length≤1000000∧0≤n∧n<16))=true):([.sl .ws a,.i .i64 n]:List TV).length=bg_down.d.np∧bg_down.d.run (envL nrGl bg_down.env) [.sl .ws a,.i .i64 n]=some (([(.sl .ws (Nt.of (Nt.val a / 2 ^ (n).toNat)))]:List TV)++bg_down.d.lent.map fun q=>([.sl .ws a,.i .i64 n]:List TV).getD q.1 .dead) :=
 ⟨by kernel_rfl,Eq.trans (b:=bg_down.F a n) (by kernel_rfl) (Eq.trans (bg_down.goal a n hp) (by kernel_rfl))⟩
theorem bg_down.ok:KO 92 (bg_down.c) bg_down.sg :=
 meets (l:=bg_down.env) (all_cons bg_trim.ok all_nil) bg_down.chk (by
   intro ins outs h
   unfold bg_down.c at h
   split at h
   ·obtain ⟨hp,rfl⟩:=h;exact bg_down.fit _ _ hp
   ·exact h.elim)
theorem bg_long.fit (u:List UInt16) (v:List UInt16) (hp:(decide ((u).length≤1000000∧2≤(v).length∧(v).length≤(u).length∧32768≤((v).getLast?.getD 0).toNat))=true):([.sl .ws u,.sl .ws v]:List TV).length=bg_long.d.np∧bg_long.d.run (envL nrGl bg_long.env) [.sl .ws u,.sl .ws v]=some (([(.sl .ws (Nt.fix ((u).length+1 - (v).length) (Nt.val u / Nt.val v))),(.sl .ws (Nt.fix (v).length (Nt.val u % Nt.val v)))]:List TV)++bg_long.d.lent.map fun q=>([.sl .ws u,.sl .ws v]:List TV).getD q.1 .dead) :=
 ⟨by kernel_rfl,Eq.trans (b:=bg_long.F u v) (by kernel_rfl) (Eq.trans (bg_long.goal u v hp) (by kernel_rfl))⟩
theorem bg_long.ok:KO 91 (bg_long.c) bg_long.sg :=
 meets (l:=bg_long.env) all_nil bg_long.chk (by
   intro ins outs h
   unfold bg_long.c at h
   split at h
   ·obtain ⟨hp,rfl⟩:=h;exact bg_long.fit _ _ hp
   ·exact h.elim)
theorem bg_Div.fit (a:List UInt16) (b:List UInt16) (hp:(Nt.is a&&Nt.is b&&decide (b≠[]))=true):([.sl .ws a,.sl .ws b]:List TV).length=bg_Div.d.np∧bg_Div.d.run (envL nrGl bg_Div.env) [.sl .ws a,.sl .ws b]=some (([(.sl .ws (Nt.of (Nt.val a / Nt.val b))),(.sl .ws (Nt.of (Nt.val a % Nt.val b))),(.b (true))]:List TV)++bg_Div.d.lent.map fun q=>([.sl .ws a,.sl .ws b]:List TV).getD q.1 .dead) :=
 ⟨by kernel_rfl,Eq.trans (b:=bg_Div.F a b) (by kernel_rfl) (Eq.trans (bg_Div.goal a b hp) (by kernel_rfl))⟩
theorem bg_Div.ok:KO 68 (bg_Div.c) bg_Div.sg :=
 meets (l:=bg_Div.env) (all_cons bg_Of.ok (all_cons bg_Is.ok (all_cons bg_trim.ok (all_cons bits_Len16.ok (all_cons bg_up.ok (all_cons bg_cmp.ok (all_cons clone_ws.ok (all_cons bg_few.ok (all_cons bg_long.ok (all_cons bg_down.ok all_nil)))))))))) bg_Div.chk (by
   intro ins outs h
   unfold bg_Div.c at h
   split at h
   ·obtain ⟨hp,rfl⟩:=h;exact bg_Div.fit _ _ hp
   ·exact h.elim)
theorem bg_Up.fit (a:List UInt16) (n:Int) (hp:(decide (0≤n∧n≤4096)&&Nt.is a)=true):([.sl .ws a,.i .i64 n]:List TV).length=bg_Up.d.np∧bg_Up.d.run (envL nrGl bg_Up.env) [.sl .ws a,.i .i64 n]=some (([(.sl .ws (Nt.of (Nt.val a * 2 ^ (n).toNat)))]:List TV)++bg_Up.d.lent.map fun q=>([.sl .ws a,.i .i64 n]:List TV).getD q.1 .dead) :=
 ⟨by kernel_rfl,Eq.trans (b:=bg_Up.F a n) (by kernel_rfl) (Eq.trans (bg_Up.goal a n hp) (by kernel_rfl))⟩
theorem bg_Up.ok:KO 67 (bg_Up.c) bg_Up.sg :=
 meets (l:=bg_Up.env) (all_cons bg_Is.ok (all_cons bg_up.ok all_nil)) bg_Up.chk (by
   intro ins outs h
   unfold bg_Up.c at h
   split at h
   ·obtain ⟨hp,rfl⟩:=h;exact bg_Up.fit _ _ hp
   ·exact h.elim)
theorem bg_more.fit (a:List UInt16) (b:Int) (c:Int) (hp:(decide ((a).length≤1000000∧1≤b∧b≤65535∧0≤c∧c≤65535)&&Nt.norm a)=true):([.sl .ws a,.i .i64 b,.i .i64 c]:List TV).length=bg_more.d.np∧bg_more.d.run (envL nrGl bg_more.env) [.sl .ws a,.i .i64 b,.i .i64 c]=some (([(.sl .ws (Nt.of (Nt.val a * (b).toNat+(c).toNat)))]:List TV)++bg_more.d.lent.map fun q=>([.sl .ws a,.i .i64 b,.i .i64 c]:List TV).getD q.1 .dead) :=
 ⟨by kernel_rfl,Eq.trans (b:=bg_more.F a b c) (by kernel_rfl) (Eq.trans (bg_more.goal a b c hp) (by kernel_rfl))⟩
theorem bg_more.ok:KO 41 (bg_more.c) bg_more.sg :=
 meets (l:=bg_more.env) all_nil bg_more.chk (by
   intro ins outs h
   unfold bg_more.c at h
   split at h
   ·obtain ⟨hp,rfl⟩:=h;exact bg_more.fit _ _ _ hp
   ·exact h.elim)
theorem bg_Power.fit (b:Int) (e:Int) (hp:(decide (2≤b∧b≤65535∧0≤e∧e≤1000∧(b).toNat ^ (e).toNat<2 ^ 4096))=true):([.i .i64 b,.i .i64 e]:List TV).length=bg_Power.d.np∧bg_Power.d.run (envL nrGl bg_Power.env) [.i .i64 b,.i .i64 e]=some (([(.sl .ws (Nt.of ((b).toNat ^ (e).toNat))),(.b (true))]:List TV)++bg_Power.d.lent.map fun q=>([.i .i64 b,.i .i64 e]:List TV).getD q.1 .dead) :=
 ⟨by kernel_rfl,Eq.trans (b:=bg_Power.F b e) (by kernel_rfl) (Eq.trans (bg_Power.goal b e hp) (by kernel_rfl))⟩
theorem bg_Power.ok:KO 20 (bg_Power.c) bg_Power.sg :=
 meets (l:=bg_Power.env) (all_cons bg_Of.ok (all_cons bg_more.ok (all_cons bg_Is.ok all_nil))) bg_Power.chk (by
   intro ins outs h
   unfold bg_Power.c at h
   split at h
   ·obtain ⟨hp,rfl⟩:=h;exact bg_Power.fit _ _ hp
   ·exact h.elim)
theorem bg_Parse.fit (s:Str) (hp:(decide (1≤(s).length∧(s).length≤300∧(s).getD 0 0≠48)&&(s).all Nr.isDig)=true):([.s s]:List TV).length=bg_Parse.d.np∧bg_Parse.d.run (envL nrGl bg_Parse.env) [.s s]=some (([(.sl .ws (Nt.of (Nr.num s))),(.b (true))]:List TV)++bg_Parse.d.lent.map fun q=>([.s s]:List TV).getD q.1 .dead) :=
 ⟨by kernel_rfl,Eq.trans (b:=bg_Parse.F s) (by kernel_rfl) (Eq.trans (bg_Parse.goal s hp) (by kernel_rfl))⟩
theorem bg_Parse.ok:KO 18 (bg_Parse.c) bg_Parse.sg :=
 meets (l:=bg_Parse.env) (all_cons bg_more.ok (all_cons bg_Is.ok all_nil)) bg_Parse.chk (by
   intro ins outs h
   unfold bg_Parse.c at h
   split at h
   ·obtain ⟨hp,rfl⟩:=h;exact bg_Parse.fit _ hp
   ·exact h.elim)
theorem db_Join.fit (n:Bool) (m:UInt64) (e:Int) (hp:(decide (-1100≤e∧e≤2000))=true):([.b n,.u64 m,.i .i64 e]:List TV).length=db_Join.d.np∧db_Join.d.run (envL nrGl db_Join.env) [.b n,.u64 m,.i .i64 e]=some (([(.u64 (Nr.pat (Nr.join n (m).toNat e))),(.b ((Nr.join n (m).toNat e).isSome))]:List TV)++db_Join.d.lent.map fun q=>([.b n,.u64 m,.i .i64 e]:List TV).getD q.1 .dead) :=
 ⟨by kernel_rfl,Eq.trans (b:=db_Join.F n m e) (by kernel_rfl) (Eq.trans (db_Join.goal n m e hp) (by kernel_rfl))⟩
theorem db_Join.ok:KO 48 (db_Join.c) db_Join.sg :=
 meets (l:=db_Join.env) (all_cons bits_TZ.ok (all_cons bits_Len64.ok all_nil)) db_Join.chk (by
   intro ins outs h
   unfold db_Join.c at h
   split at h
   ·obtain ⟨hp,rfl⟩:=h;exact db_Join.fit _ _ _ hp
   ·exact h.elim)
theorem nr_rounded.fit (a:List UInt16) (b:List UInt16) (e:Int) (hp:(Nt.is a&&Nt.is b&&decide (-4096≤e∧e≤4096∧0<Nt.val b∧Nr.scA (Nt.val a) e<2 ^ 4090∧Nr.scB (Nt.val b) e<2 ^ 4090∧Nr.scA (Nt.val a) e<2 ^ 60 * Nr.scB (Nt.val b) e))=true):([.sl .ws a,.sl .ws b,.i .i64 e]:List TV).length=nr_rounded.d.np∧nr_rounded.d.run (envL nrGl nr_rounded.env) [.sl .ws a,.sl .ws b,.i .i64 e]=some (([(.u64 (UInt64.ofNat (Nr.rnd (Nr.scA (Nt.val a) e) (Nr.scB (Nt.val b) e)))),(.b (Nr.rndUp (Nr.scA (Nt.val a) e) (Nr.scB (Nt.val b) e)))]:List TV)++nr_rounded.d.lent.map fun q=>([.sl .ws a,.sl .ws b,.i .i64 e]:List TV).getD q.1 .dead) :=
 ⟨by kernel_rfl,Eq.trans (b:=nr_rounded.F a b e) (by kernel_rfl) (Eq.trans (nr_rounded.goal a b e hp) (by kernel_rfl))⟩
theorem nr_rounded.ok:KO 47 (nr_rounded.c) nr_rounded.sg :=
 meets (l:=nr_rounded.env) (all_cons bg_Up.ok (all_cons bg_Div.ok (all_cons bg_Small.ok (all_cons bg_Cmp.ok all_nil)))) nr_rounded.chk (by
   intro ins outs h
   unfold nr_rounded.c at h
   split at h
   ·obtain ⟨hp,rfl⟩:=h;exact nr_rounded.fit _ _ _ hp
   ·exact h.elim)
theorem nr_ratio.fit (a:List UInt16) (b:List UInt16) (hp:(Nt.is a&&Nt.is b&&decide (0<Nt.val a∧0<Nt.val b∧Nt.val a<2 ^ 1100∧Nt.val b<2 ^ 2200))=true):([.sl .ws a,.sl .ws b]:List TV).length=nr_ratio.d.np∧nr_ratio.d.run (envL nrGl nr_ratio.env) [.sl .ws a,.sl .ws b]=some (([(.u64 (Nr.pat (Nr.near (Nt.val a) (Nt.val b)))),(.b ((Nr.near (Nt.val a) (Nt.val b)).isSome))]:List TV)++nr_ratio.d.lent.map fun q=>([.sl .ws a,.sl .ws b]:List TV).getD q.1 .dead) :=
 ⟨by kernel_rfl,Eq.trans (b:=nr_ratio.F a b) (by kernel_rfl) (Eq.trans (nr_ratio.goal a b hp) (by kernel_rfl))⟩
theorem nr_ratio.ok:KO 22 (nr_ratio.c) nr_ratio.sg :=
 meets (l:=nr_ratio.env) (all_cons bg_Bits.ok (all_cons nr_rounded.ok (all_cons db_Join.ok all_nil))) nr_ratio.chk (by
   intro ins outs h
   unfold nr_ratio.c at h
   split at h
   ·obtain ⟨hp,rfl⟩:=h;exact nr_ratio.fit _ _ hp
   ·exact h.elim)
theorem nr_Read.fit (d:Str) (x:Int):([.s d,.i .i64 x]:List TV).length=nr_Read.d.np∧nr_Read.d.run (envL nrGl nr_Read.env) [.s d,.i .i64 x]=some (([(.u64 (Nr.pat (Nr.read d x))),(.b ((Nr.read d x).isSome))]:List TV)++nr_Read.d.lent.map fun q=>([.s d,.i .i64 x]:List TV).getD q.1 .dead) :=
 ⟨by kernel_rfl,Eq.trans (b:=nr_Read.F d x) (by kernel_rfl) (Eq.trans (nr_Read.goal d x) (by kernel_rfl))⟩
theorem nr_Read.ok:KO 9 (nr_Read.c) nr_Read.sg :=
 meets (l:=nr_Read.env) (all_cons st_Trim.ok (all_cons st_TrimLeft.ok (all_cons st_TrimRight.ok (all_cons bg_Parse.ok (all_cons bg_Of.ok (all_cons bg_Power.ok (all_cons bg_Mul.ok (all_cons nr_ratio.ok all_nil)))))))) nr_Read.chk (by
   intro ins outs h
   unfold nr_Read.c at h
   split at h
   ·cases h;exact nr_Read.fit _ _
   ·exact h.elim)
theorem nr_power.fit (s:Str) (hp:(decide (1≤(Nr.signed s).length∧(s).length≤300)&&(Nr.signed s).all Nr.isDig)=true):([.s s]:List TV).length=nr_power.d.np∧nr_power.d.run (envL nrGl nr_power.env) [.s s]=some (([(.i .i64 (Nr.power s))]:List TV)++nr_power.d.lent.map fun q=>([.s s]:List TV).getD q.1 .dead) :=
 ⟨by kernel_rfl,Eq.trans (b:=nr_power.F s) (by kernel_rfl) (Eq.trans (nr_power.goal s hp) (by kernel_rfl))⟩
theorem nr_power.ok:KO 29 (nr_power.c) nr_power.sg :=
 meets (l:=nr_power.env) (all_cons st_TrimLeft.ok all_nil) nr_power.chk (by
   intro ins outs h
   unfold nr_power.c at h
   split at h
   ·obtain ⟨hp,rfl⟩:=h;exact nr_power.fit _ hp
   ·exact h.elim)
theorem wh_is.fit (s:Str) (at_:Int) (c:UInt8) (d:UInt8) (hp:(decide ((s).length≤1099511627776)&&decide (0≤at_))=true):([.s s,.i .i64 at_,.u8 c,.u8 d]:List TV).length=wh_is.d.np∧wh_is.d.run (envL nrGl wh_is.env) [.s s,.i .i64 at_,.u8 c,.u8 d]=some (([(.b ((decide (at_<(s).length)&&(decide ((s).getD (at_).toNat 0=c) || decide ((s).getD (at_).toNat 0=d)))))]:List TV)++wh_is.d.lent.map fun q=>([.s s,.i .i64 at_,.u8 c,.u8 d]:List TV).getD q.1 .dead) :=
 ⟨by kernel_rfl,Eq.trans (b:=wh_is.F s at_ c d) (by kernel_rfl) (Eq.trans (wh_is.goal s at_ c d hp) (by kernel_rfl))⟩
theorem wh_is.ok:KO 50 (wh_is.c) wh_is.sg :=
 meets (l:=wh_is.env) all_nil wh_is.chk (by
   intro ins outs h
   unfold wh_is.c at h
   split at h
   ·obtain ⟨hp,rfl⟩:=h;exact wh_is.fit _ _ _ _ hp
   ·exact h.elim)
theorem wh_digits.fit (s:Str) (at_:Int) (hp:(decide ((s).length≤1099511627776)&&decide (0≤at_∧at_≤1099511627776))=true):([.s s,.i .i64 at_]:List TV).length=wh_digits.d.np∧wh_digits.d.run (envL nrGl wh_digits.env) [.s s,.i .i64 at_]=some (([(.i .i64 ((at_+(Nr.run ((s).drop (at_).toNat):Int))))]:List TV)++wh_digits.d.lent.map fun q=>([.s s,.i .i64 at_]:List TV).getD q.1 .dead) :=
 ⟨by kernel_rfl,Eq.trans (b:=wh_digits.F s at_) (by kernel_rfl) (Eq.trans (wh_digits.goal s at_ hp) (by kernel_rfl))⟩
theorem wh_digits.ok:KO 51 (wh_digits.c) wh_digits.sg :=
 meets (l:=wh_digits.env) all_nil wh_digits.chk (by
   intro ins outs h
   unfold wh_digits.c at h
   split at h
   ·obtain ⟨hp,rfl⟩:=h;exact wh_digits.fit _ _ hp
   ·exact h.elim)
theorem wh_Lexeme.fit (s:Str) (hp:(decide ((s).length≤1099511627776))=true):([.s s]:List TV).length=wh_Lexeme.d.np∧wh_Lexeme.d.run (envL nrGl wh_Lexeme.env) [.s s]=some (([(.i .i64 (Nr.lexeme s))]:List TV)++wh_Lexeme.d.lent.map fun q=>([.s s]:List TV).getD q.1 .dead) :=
 ⟨by kernel_rfl,Eq.trans (b:=wh_Lexeme.F s) (by kernel_rfl) (Eq.trans (wh_Lexeme.goal s hp) (by kernel_rfl))⟩
theorem wh_Lexeme.ok:KO 26 (wh_Lexeme.c) wh_Lexeme.sg :=
 meets (l:=wh_Lexeme.env) (all_cons wh_is.ok (all_cons wh_digits.ok all_nil)) wh_Lexeme.chk (by
   intro ins outs h
   unfold wh_Lexeme.c at h
   split at h
   ·obtain ⟨hp,rfl⟩:=h;exact wh_Lexeme.fit _ hp
   ·exact h.elim)
theorem nr_Parse.fit (s:Str) (hp:(decide ((s).length≤1099511627776))=true):([.s s]:List TV).length=nr_Parse.d.np∧nr_Parse.d.run (envL nrGl nr_Parse.env) [.s s]=some (([(.u64 ((Nr.parse s).1)),(.i .i64 ((Nr.parse s).2))]:List TV)++nr_Parse.d.lent.map fun q=>([.s s]:List TV).getD q.1 .dead) :=
 ⟨by kernel_rfl,Eq.trans (b:=nr_Parse.F s) (by kernel_rfl) (Eq.trans (nr_Parse.goal s hp) (by kernel_rfl))⟩
theorem nr_Parse.ok:KO 11 (nr_Parse.c) nr_Parse.sg :=
 meets (l:=nr_Parse.env) (all_cons nr_Read.ok (all_cons wh_Lexeme.ok (all_cons st_CutPrefix.ok (all_cons st_IndexAny.ok (all_cons nr_power.ok (all_cons st_Cut.ok all_nil)))))) nr_Parse.chk (by
   intro ins outs h
   unfold nr_Parse.c at h
   split at h
   ·obtain ⟨hp,rfl⟩:=h;exact nr_Parse.fit _ hp
   ·exact h.elim)
theorem r9_Split.fit (b:UInt64):([.u64 b]:List TV).length=r9_Split.d.np∧r9_Split.d.run (envL nrGl r9_Split.env) [.u64 b]=some (([(.i .i64 ((Nr.split b).1)),(.b ((Nr.split b).2.1)),(.u64 ((Nr.split b).2.2.1)),(.i .i64 ((Nr.split b).2.2.2))]:List TV)++r9_Split.d.lent.map fun q=>([.u64 b]:List TV).getD q.1 .dead) :=
 ⟨by kernel_rfl,Eq.trans (b:=r9_Split.F b) (by kernel_rfl) (Eq.trans (r9_Split.goal b) (by kernel_rfl))⟩
theorem r9_Split.ok:KO 23 (r9_Split.c) r9_Split.sg :=
 meets (l:=r9_Split.env) all_nil r9_Split.chk (by
   intro ins outs h
   unfold r9_Split.c at h
   split at h
   ·cases h;exact r9_Split.fit _
   ·exact h.elim)
theorem r9_times.fit (a:List UInt64) (m:UInt64) (hp:(decide ((a).length≤1000∧(m).toNat≤100000000)&&(a).all (fun x=>decide (x.toNat<100000000)))=true):([.sl .us a,.u64 m]:List TV).length=r9_times.d.np∧r9_times.d.run (envL nrGl r9_times.env) [.sl .us a,.u64 m]=some (([(.sl .us (Nr.times a m 0))]:List TV)++r9_times.d.lent.map fun q=>([.sl .us a,.u64 m]:List TV).getD q.1 .dead) :=
 ⟨by kernel_rfl,Eq.trans (b:=r9_times.F a m) (by kernel_rfl) (Eq.trans (r9_times.goal a m hp) (by kernel_rfl))⟩
theorem r9_times.ok:KO 49 (r9_times.c) r9_times.sg :=
 meets (l:=r9_times.env) all_nil r9_times.chk (by
   intro ins outs h
   unfold r9_times.c at h
   split at h
   ·obtain ⟨hp,rfl⟩:=h;exact r9_times.fit _ _ hp
   ·exact h.elim)
theorem r9_Exact.fit (m:UInt64) (e:Int) (hp:(decide (1≤(m).toNat∧(m).toNat<2 ^ 55∧-1075≤e∧e≤971))=true):([.u64 m,.i .i64 e]:List TV).length=r9_Exact.d.np∧r9_Exact.d.run (envL nrGl r9_Exact.env) [.u64 m,.i .i64 e]=some (([(.s (Nr.exD (m).toNat e)),(.i .i64 (Nr.exX (m).toNat e))]:List TV)++r9_Exact.d.lent.map fun q=>([.u64 m,.i .i64 e]:List TV).getD q.1 .dead) :=
 ⟨by kernel_rfl,Eq.trans (b:=r9_Exact.F m e) (by kernel_rfl) (Eq.trans (r9_Exact.goal m e hp) (by kernel_rfl))⟩
theorem r9_Exact.ok:KO 24 (r9_Exact.c) r9_Exact.sg :=
 meets (l:=r9_Exact.env) (all_cons r9_times.ok all_nil) r9_Exact.chk (by
   intro ins outs h
   unfold r9_Exact.c at h
   split at h
   ·obtain ⟨hp,rfl⟩:=h;exact r9_Exact.fit _ _ hp
   ·exact h.elim)
theorem r9_CmpDec.fit (a:Str) (x:Int) (b:Str) (y:Int):([.s a,.i .i64 x,.s b,.i .i64 y]:List TV).length=r9_CmpDec.d.np∧r9_CmpDec.d.run (envL nrGl r9_CmpDec.env) [.s a,.i .i64 x,.s b,.i .i64 y]=some (([(.i .i64 (Nr.cmpDec a x b y))]:List TV)++r9_CmpDec.d.lent.map fun q=>([.s a,.i .i64 x,.s b,.i .i64 y]:List TV).getD q.1 .dead) :=
 ⟨by kernel_rfl,Eq.trans (b:=r9_CmpDec.F a x b y) (by kernel_rfl) (Eq.trans (r9_CmpDec.goal a x b y) (by kernel_rfl))⟩
theorem r9_CmpDec.ok:KO 25 (r9_CmpDec.c) r9_CmpDec.sg :=
 meets (l:=r9_CmpDec.env) all_nil r9_CmpDec.chk (by
   intro ins outs h
   unfold r9_CmpDec.c at h
   split at h
   ·cases h;exact r9_CmpDec.fit _ _ _ _
   ·exact h.elim)
theorem r9_Read.fit (d:Str) (x:Int):([.s d,.i .i64 x]:List TV).length=r9_Read.d.np∧r9_Read.d.run (envL nrGl r9_Read.env) [.s d,.i .i64 x]=some (([(.u64 (Nr.pat (Nr.read d x))),(.b ((Nr.read d x).isSome))]:List TV)++r9_Read.d.lent.map fun q=>([.s d,.i .i64 x]:List TV).getD q.1 .dead) :=
 ⟨by kernel_rfl,Eq.trans (b:=r9_Read.F d x) (by kernel_rfl) (Eq.trans (r9_Read.goal d x) (by kernel_rfl))⟩
theorem r9_Read.ok:KO 10 (r9_Read.c) r9_Read.sg :=
 meets (l:=r9_Read.env) (all_cons r9_Split.ok (all_cons r9_Exact.ok (all_cons r9_CmpDec.ok all_nil))) r9_Read.chk (by
   intro ins outs h
   unfold r9_Read.c at h
   split at h
   ·cases h;exact r9_Read.fit _ _
   ·exact h.elim)
end Go.Eng
namespace Go.Eng
open Go.Proofs
noncomputable section
def nr_ParseA.sg:FSig:={ nres:=2 }
def nr_ParseA.c:Ctr:=fun l=>match l with
 | [.s s] => .if_ (decide (s=[48,46,49])) [(.u64 ((4591870180066957722:UInt64))),(.i .i64 ((0:Int)))]
 | _ => .err
def nr_ReadA.sg:FSig:={ nres:=2 }
def nr_ReadA.c:Ctr:=fun l=>match l with
 | [.s d,.i .i64 x] => .if_ (decide (d=[53]∧x=0)) [(.u64 ((4602678819172646912:UInt64))),(.b (true))]
 | _ => .err
def nr_awake.sg:FSig:={}
def nr_awake.c:Ctr:=fun l=>match l with
 | [] => .ok [(.b (true))]
 | _ => .err
def nr_awake.env:EV:=[(9,(nr_ReadA.c,nr_ReadA.sg)),(11,(nr_ParseA.c,nr_ParseA.sg))]
def nr_awake.E:TEnv:=envL nrGl nr_awake.env
def nr_awake.m:TM:=oS [oW (.b false) 0] (oS [oX (.k (.call 11 (.plain 1 2))) [.c (.s ([48,46,49]:Str))] [6],oV 6 5,oE 0 5 7,oE 1 5 8,oV 7 1,oV 8 2] (oS [oX (.k (.call 9 (.plain 2 2))) [.c (.s ([53]:Str)),.c (.i .i64 0)] [10],oV 10 9,oE 0 9 11,oE 1 9 12,oV 11 3,oV 12 4] (oS [oV 2 13,oI .eql 13 (.i .i64 0) 14,oV 14 15,oG 15 true (oV 1 16),oG 15 true (oI .eql 16 (.u64 4591870180066957722) 17),oP 15 17 false 18,oV 18 19,oG 19 true (oV 4 20),oP 19 20 false 21,oV 21 22,oG 22 true (oV 3 23),oG 22 true (oI .eql 23 (.u64 4602678819172646912) 24),oP 22 24 false 25,oV 25 0] .ret)))
def nr_awake.d:TFD:=D0 0 nr_awake.m [.t 0]
def nr_awake.F  : OT:=nr_awake.d.run nr_awake.E []
theorem nr_awake.F_in  {ρ:OT} (K:∀(v1:UInt64) (h1:v1=((4591870180066957722:UInt64))) (v2:UInt64) (h2:v2=((4602678819172646912:UInt64))) (v3:Bool) (h3:v3=(cond (decide (((0:Int))=(0:Int))) (decide (v1=(4591870180066957722:UInt64))) false)) (v4:Bool) (h4:v4=(cond (cond v3 (true) false) (decide (v2=(4602678819172646912:UInt64))) false)),ck (decide ((([48,46,49]:Str))=[48,46,49])) (ck (decide ((([53]:Str))=[53]∧((0:Int))=0)) (ck (!(decide (((0:Int))=(0:Int))) || (decide (((0:Int))=(0:Int)))) (ck (!(decide (((0:Int))=(0:Int))) || (decide (((0:Int))=(0:Int)))) (ck (!v3 || v3) (ck (!(cond v3 (true) false) || (cond v3 (true) false)) (ck (!(cond v3 (true) false) || (cond v3 (true) false)) (some [(.b v4)])))))))=ρ):nr_awake.F  = ρ:=Eq.trans (by kernel_rfl) (K _ rfl _ rfl _ rfl _ rfl)
theorem nr_awake.chk:CK 8 nr_awake.env nr_awake.d:=ckOf (by kernel_rfl)
end
end Go.Eng
namespace Go.Eng
open Go.Proofs
theorem Nr.read_five:Nr.read [53] 0=some 4602678819172646912:=by
 unfold Nr.read
 rw [if_pos (by decide),show Nr.num [53]=5 by decide]
 unfold Nr.rd
 rw [show ((0:Int) - (([53]:Str).length:Int)).toNat=0 by decide,show (-((0:Int) - (([53]:Str).length:Int))).toNat=1 by decide]
 refine Nr.near_some (by decide) (by decide) ?_ (.inr ?_)
 ·unfold Nr.Above;decide +kernel
 ·unfold Nr.Above;decide +kernel
theorem Nr.read_tenth:Nr.read [48,49] 1=some 4591870180066957722:=by
 unfold Nr.read
 rw [if_pos (by decide),show Nr.num [48,49]=1 by decide]
 unfold Nr.rd
 rw [show ((1:Int) - (([48,49]:Str).length:Int)).toNat=0 by decide,show (-((1:Int) - (([48,49]:Str).length:Int))).toNat=1 by decide]
 refine Nr.near_some (by decide) (by decide) ?_ (.inr ?_)
 ·unfold Nr.Above;decide +kernel
 ·unfold Nr.Above;decide +kernel
theorem Nr.parse_tenth:Nr.parse [48,46,49]=(4591870180066957722,0):=by
 have h1:Nr.ahead [48,46,49]++Nr.behind [48,46,49]=[48,49]:=by decide
 have h2:((Nr.ahead [48,46,49]).length:Int)+Nr.expo (Nr.tail [48,46,49])=1:=by decide
 rw [Nr.parse_eq];unfold Nr.parse0
 rw [if_neg (by decide),if_neg (by decide),h1,h2,Nr.read_tenth]
 simp
theorem nr_ReadA.ok:KO 9 (nr_ReadA.c) nr_ReadA.sg :=
 spec_sub fun ti to_ h=>⟨nr_Read.c,nr_Read.ok,by
  unfold nr_ReadA.c at h
  split at h
  ·obtain ⟨h1,h2⟩:=h
   obtain ⟨rfl,rfl⟩:=of_decide_eq_true h1
   subst h2
   unfold nr_Read.c
   show _=_
   rw [Nr.read_five];rfl
  ·exact h.elim⟩
theorem nr_ParseA.ok:KO 11 (nr_ParseA.c) nr_ParseA.sg :=
 spec_sub fun ti to_ h=>⟨nr_Parse.c,nr_Parse.ok,by
  unfold nr_ParseA.c at h
  split at h
  ·obtain ⟨h1,h2⟩:=h
   obtain rfl:=of_decide_eq_true h1
   subst h2
   unfold nr_Parse.c
   refine ⟨by decide,?_⟩
   rw [Nr.parse_tenth]
  ·exact h.elim⟩
theorem nr_awake.goal:nr_awake.F=some [.b true]:=by
 refine nr_awake.F_in ?_
 intro v1 h1 v2 h2 v3 h3 v4 h4
 subst h1 h2 h3
 rw [h4];rfl
end Go.Eng
namespace Go.Eng
open Go.Proofs
theorem nr_awake.fit:([]:List TV).length=nr_awake.d.np∧nr_awake.d.run (envL nrGl nr_awake.env) []=some (([(.b (true))]:List TV)++nr_awake.d.lent.map fun q=>([]:List TV).getD q.1 .dead) :=
 ⟨by kernel_rfl,Eq.trans (b:=nr_awake.F ) (by kernel_rfl) (Eq.trans (nr_awake.goal ) (by kernel_rfl))⟩
theorem nr_awake.ok:KO 8 (nr_awake.c) nr_awake.sg :=
 meets (l:=nr_awake.env) (all_cons nr_ReadA.ok (all_cons nr_ParseA.ok all_nil)) nr_awake.chk (by
   intro ins outs h
   unfold nr_awake.c at h
   split at h
   ·cases h;exact nr_awake.fit
   ·exact h.elim)
end Go.Eng
set_option maxRecDepth 100000
namespace Go.Eng
open Go.Proofs
noncomputable section
def nr_NearReads.sg:FSig:={}
def nr_NearReads.c:Ctr:=fun l=>match l with
 | [.s d,.i .i64 x] => .ok [(.b (true))]
 | _ => .err
def nr_NearReads.env:EV:=[(8,(nr_awake.c,nr_awake.sg)),(9,(nr_Read.c,nr_Read.sg)),(10,(r9_Read.c,r9_Read.sg))]
def nr_NearReads.E:TEnv:=envL nrGl nr_NearReads.env
def nr_NearReads.m:TM:=oS [oW (.b false) 4] (.seq (oS [oC 8 0 1 [] 9,oK (.k (.un .not)) [9] [10]] (.cond (.s 10) [] (oS [oW (.b false) 4] .ret) .skip)) none (.seq (oS [oV 0 11,oK (.k .lns) [11] [12],oI .gtr 12 (.i .i64 320) 13] (.cond (.s 13) [] (oS [oW (.b true) 4] .ret) .skip)) none (oS [oV 0 15,oV 1 16,oC 9 2 2 [15,16] 17,oV 17 14,oE 0 14 18,oE 1 14 19,oV 18 5,oV 19 6] (oS [oV 0 21,oV 1 22,oC 10 2 2 [21,22] 23,oV 23 20,oE 0 20 24,oE 1 20 25,oV 24 7,oV 25 8] (oS [oV 5 26,oV 7 27,oB .eql 26 27 28,oV 28 29,oG 29 true (oV 6 30),oG 29 true (oV 8 31),oG 29 true (oK (.k (.be false)) [30,31] [32]),oP 29 32 false 33,oV 33 4] .ret)))))
def nr_NearReads.d:TFD:=D0 2 nr_NearReads.m [.t 4]
def nr_NearReads.F (d:Str) (x:Int):OT:=nr_NearReads.d.run nr_NearReads.E [(.s d),(.i .i64 x)]
theorem nr_NearReads.F_in (d:Str) (x:Int) {ρ:OT} (K:∀(v1:Bool) (h1:v1=(((Nr.read d x).isSome) == ((Nr.read d x).isSome))) (v2:Bool) (h2:v2=(cond (decide ((Nr.pat (Nr.read d x))=(Nr.pat (Nr.read d x)))) v1 false)),cond (!(true))
  (some [(.b false)])
  (cond (decide ((320:Int)<((d).length:Int)))
  (some [(.b true)])
  (ck (!(decide ((Nr.pat (Nr.read d x))=(Nr.pat (Nr.read d x)))) || ((decide ((Nr.pat (Nr.read d x))=(Nr.pat (Nr.read d x))))&&(decide ((Nr.pat (Nr.read d x))=(Nr.pat (Nr.read d x)))))) (ck (!(decide ((Nr.pat (Nr.read d x))=(Nr.pat (Nr.read d x)))) || (decide ((Nr.pat (Nr.read d x))=(Nr.pat (Nr.read d x))))) (some [(.b v2)]))))=ρ):nr_NearReads.F d x=ρ:=Eq.trans (by kernel_rfl) (K _ rfl _ rfl)
theorem nr_NearReads.chk:CK 3 nr_NearReads.env nr_NearReads.d:=ckOf (by kernel_rfl)
end
end Go.Eng
namespace Go.Eng
theorem nr_NearReads.goal (d:Str) (x:Int):nr_NearReads.F d x=some [.b true]:=by
 refine nr_NearReads.F_in d x ?_
 intro v1 h1 v2 h2
 have e1:v1=true:=by rw [h1];exact beq_self_eq_true _
 rw [decide_eq_true rfl,cond_true] at h2
 rw [h2,e1,decide_eq_true rfl]
 cases decide ((320:Int)<(d.length:Int)) <;> rfl
end Go.Eng
namespace Go.Eng
open Go.Proofs
theorem nr_NearReads.fit (d:Str) (x:Int):([.s d,.i .i64 x]:List TV).length=nr_NearReads.d.np∧nr_NearReads.d.run (envL nrGl nr_NearReads.env) [.s d,.i .i64 x]=some (([(.b (true))]:List TV)++nr_NearReads.d.lent.map fun q=>([.s d,.i .i64 x]:List TV).getD q.1 .dead) :=
 ⟨by kernel_rfl,Eq.trans (b:=nr_NearReads.F d x) (by kernel_rfl) (Eq.trans (nr_NearReads.goal d x) (by kernel_rfl))⟩
theorem nr_NearReads.ok:KO 3 (nr_NearReads.c) nr_NearReads.sg :=
 meets (l:=nr_NearReads.env) (all_cons nr_awake.ok (all_cons nr_Read.ok (all_cons r9_Read.ok all_nil))) nr_NearReads.chk (by
   intro ins outs h
   unfold nr_NearReads.c at h
   split at h
   ·cases h;exact nr_NearReads.fit _ _
   ·exact h.elim)
end Go.Eng
