/- Texts of my own, one behind the other: Sized, MpP, MpOK, MpR1, MpLForms, MpQForms, MpOKForms. -/
import Derived.Test.YtheedbianknplaaT4
import Derived.WalkKit
import Derived.WalkSpells
import Derived.WalkLawsBesides
import Derived.ChangeSlices
import Derived.Maps.OwnOps
set_option linter.unusedVariables false
set_option linter.unusedSimpArgs false
namespace Go.Eng
open Go.RowKit Go.Maps Go.Proofs
set_option maxRecDepth 100000
set_option maxHeartbeats 1000000
theorem wpList_insert_own {H : Type} {P : Program} (w : World) {ops : Array Oper} {rest : List Oper} {o : Oper} {a : Act} {Q : Exit → Act → World → Prop}
    (hg : o.guard = none) (m x v : Operand) (t : TypeId) (hop : o.op = Op.insert t m x v)
    (k e : TypeId) (K : Keyed P k) (ht : P.underlying t = some (.map k e)) (R : Value → Option (DataW H × List MemPlace)) (b n : Nat) (D : DataW H)
    (hm : a.eval m = .map (some b)) (hown : w.ownsMap P k R b n D) (hn : n < maxLen) (key val : Value) (kl : Lit) (hx : a.eval x = key) (hv : a.eval v = val) (hkey : keyOf P k key = some kl)
    (d : DataW H) (ps : List MemPlace) (hval : R val = some (d, ps))
    (hK : ∀ w', w'.ownsMap P k R b (n + 1) (D.put kl d) → w.grownBy w' (some b) → wpList P ops Q rest (a.put o.dst undef) w') :
    wpList P ops Q (o :: rest) a w := by
  refine wpList_plain hg fun K' hK' => ?_
  obtain ⟨w', hrun, r1, r2⟩ := hown.update K ht hn hkey hval
  unfold Oper.wp
  simp [execOp, hop, hm, hx, hv, hrun, Result.andThen]
  exact hK' _ _ (hK w' r1 r2)
theorem alloc_size (w : World) (o : Obj) : (w.alloc o).heap.size = w.heap.size + 1 := Array.size_push ..
theorem sz_l3 : Keyed Try.prog 3 := int_keyed Try.underlying3
theorem sz_z3 (w : World) : (zeroValue 3).run Try.prog w = .ok (.int .i64 0) w := by kernel_rfl
structure Sz (w w' : World) : Prop where
  b : w'.heap[w.heap.size]? = some (.cells #[.int .i64 0, .int .i64 0] 67)
  o : Below w.heap.size w w'
  s : w.heap.size + 1 ≤ w'.heap.size
theorem Sz.c0 {w w' : World} (h : Sz w w') : w'.cell? ⟨w.heap.size, 0, none⟩ = some (.int .i64 0) := by simp [World.cell?, h.b]
theorem Sz.c1 {w w' : World} (h : Sz w w') : w'.cell? ⟨w.heap.size, 1, none⟩ = some (.int .i64 0) := by simp [World.cell?, h.b]
theorem Sz.f {w w' : World} (h : Sz w w') (i : Nat) : w'.frozen? ⟨w.heap.size, i, none⟩ = false := by simp [World.frozen?, h.b]
theorem sz_start (w : World) : Sz w ((w.alloc (.cells #[.int .i64 0, .int .i64 0] 67)).alloc (.map #[] 0)) := by
  refine ⟨?_, ((Below.refl _ _).alloc (Nat.le_refl _) _).alloc (by rw [alloc_size]; omega) _, by rw [alloc_size, alloc_size]; omega⟩
  rw [Below.heap_alloc _ _ _ (by rw [alloc_size]; omega)]
  exact Array.getElem?_push_size
theorem sz_step {w w1 w2 : World} (h : Sz w w1) (hg : w1.grownBy w2 (some (w.heap.size + 1))) : Sz w w2 :=
  ⟨(hg.block _ (by have := h.s; omega) (by simp)).trans h.b, h.o.grown hg (by have := h.s; omega) (fun k e => by cases e; omega), Nat.le_trans h.s hg.size⟩
theorem sz_p (n : Int) (h : (Lit.int .i64 n).wf = true) : plainElem (H := Unit) Try.prog 3 (.int .i64 n) = some (.lit (.int .i64 n), []) := plainElem_int Try.underlying3 h
theorem sz_made (w : World) (o : Obj) : ((w.alloc o).alloc (.map #[] 0)).ownsMap Try.prog 3 (plainElem (H := Unit) Try.prog 3) (w.heap.size + 1) 0 (.map []) := by
  have := World.ownsMap_made (H := Unit) (w.alloc o) Try.prog 3 (plainElem Try.prog 3)
  rw [alloc_size] at this; exact this
theorem sz_res (tmps : Array Value) (W : World) (B : Nat) (x y : Int) (ht : tmps[4]?.getD undef = .pointer (some ⟨B,0,none⟩)) (hb : W.heap[B]? = some (.cells #[.int .i64 x, .int .i64 y] 67)) : (results Try.f41 tmps).run Try.prog W = .ok (.agg #[.int .i64 x, .int .i64 y]) W := by
  have c0 : W.cell? ⟨B, 0, none⟩ = some (.int .i64 x) := by simp [World.cell?, hb]
  have c1 : W.cell? ⟨B, 1, none⟩ = some (.int .i64 y) := by simp [World.cell?, hb]
  simp [results, Try.results41, go_sem, ht, c0, c1]
theorem sz_set {w3 : World} {B : Nat} {x y : Int} (hb : w3.heap[B]? = some (.cells #[.int .i64 0, .int .i64 0] 67)) : ((w3.setCell ⟨B, 0, none⟩ (.int .i64 x)).setCell ⟨B, 1, none⟩ (.int .i64 y)).heap[B]? = some (.cells #[.int .i64 x, .int .i64 y] 67) := by
  simp [World.setCell, Array.getElem?_modify, hb]
theorem sz_fin {a : Act} {Q : Ending → World → Prop} {W : World} {B : Nat} {x y : Int} (ht : a.tmps[4]?.getD undef = .pointer (some ⟨B, 0, none⟩)) (hd : a.defers = []) (hb : W.heap[B]? = some (.cells #[.int .i64 x, .int .i64 y] 67)) (hQ : Q (.returned (.agg #[.int .i64 x, .int .i64 y])) W) : bodyPost Try.prog Try.f41 Q .ret a W :=
  bodyPost_ret (sz_res a.tmps W B x y ht hb) hd hQ
theorem sz_one (w : World) (o : Obj) : (w.alloc o).heap[w.heap.size]? = some o := Array.getElem?_push_size
theorem sz_eq {a b : Int} {p : Int × Int} (h : (a, b) = p) : Ending.returned (.agg #[.int .i64 a, .int .i64 b]) = .returned (.agg #[.int .i64 p.1, .int .i64 p.2]) := by cases h; rfl
theorem sz_wrap {n : Int} (h0 : 0 ≤ n) (h1 : n < 4294967296) : wrap64 n = n := by simp only [wrap64]; omega
theorem szt0 {n : Int} (h : n < 32) : (160 + n, 0) = Mp.sized 4 n := by simp [Mp.sized, Mp.fixed, Mp.fix, Mp.tab, Mp.base]; omega
theorem szt1 {n : Int} (h : 32 ≤ n) (h2 : n < 256) : (217, 1) = Mp.sized 4 n := by simp [Mp.sized, Mp.fixed, Mp.fix, Mp.tab, Mp.base]; rw [if_neg (by omega), if_pos h2]
theorem szt2 {n : Int} (h : 256 ≤ n) (h2 : n < 65536) : (218, 2) = Mp.sized 4 n := by simp [Mp.sized, Mp.fixed, Mp.fix, Mp.tab, Mp.base]; rw [if_neg (by omega), if_neg (by omega), if_pos h2]
theorem szt3 {n : Int} (h : 65536 ≤ n) : (219, 4) = Mp.sized 4 n := by simp [Mp.sized, Mp.fixed, Mp.fix, Mp.tab, Mp.base]; rw [if_neg (by omega), if_neg (by omega), if_neg (by omega)]
theorem szb1 {n : Int} (h0 : 0 ≤ n) (h2 : n < 256) : (196, 1) = Mp.sized 3 n := by simp [Mp.sized, Mp.fixed, Mp.fix, Mp.tab, Mp.base]; rw [if_neg (by omega), if_pos h2]
theorem szb2 {n : Int} (h : 256 ≤ n) (h2 : n < 65536) : (197, 2) = Mp.sized 3 n := by simp [Mp.sized, Mp.fixed, Mp.fix, Mp.tab, Mp.base]; rw [if_neg (by omega), if_neg (by omega), if_pos h2]
theorem szb3 {n : Int} (h : 65536 ≤ n) : (198, 4) = Mp.sized 3 n := by simp [Mp.sized, Mp.fixed, Mp.fix, Mp.tab, Mp.base]; rw [if_neg (by omega), if_neg (by omega), if_neg (by omega)]
theorem sze1 {n : Int} (h : (n == 1) = true) : (212, 0) = Mp.sized 10 n := by rw [beq_iff_eq] at h; subst h; rfl
theorem sze2 {n : Int} (h : (n == 2) = true) : (213, 0) = Mp.sized 10 n := by rw [beq_iff_eq] at h; subst h; rfl
theorem sze4 {n : Int} (h : (n == 4) = true) : (214, 0) = Mp.sized 10 n := by rw [beq_iff_eq] at h; subst h; rfl
theorem sze8 {n : Int} (h : (n == 8) = true) : (215, 0) = Mp.sized 10 n := by rw [beq_iff_eq] at h; subst h; rfl
theorem sze16 {n : Int} (h : (n == 16) = true) : (216, 0) = Mp.sized 10 n := by rw [beq_iff_eq] at h; subst h; rfl
theorem szen {n a b : Int} (h0 : 0 ≤ n) (h1 : (n == 1) = false) (h2 : (n == 2) = false) (h3 : (n == 4) = false) (h4 : (n == 8) = false) (h5 : (n == 16) = false) (h : (n < 256 ∧ a = 199 ∧ b = 1) ∨ (256 ≤ n ∧ n < 65536 ∧ a = 200 ∧ b = 2) ∨ (65536 ≤ n ∧ a = 201 ∧ b = 4)) : (a, b) = Mp.sized 10 n := by
  simp at h1 h2 h3 h4 h5
  simp [Mp.sized, Mp.fixed, Mp.fix, Mp.tab, Mp.base, h1, h2, h3, h4, h5]
  rw [if_neg (by omega)]
  rcases h with ⟨h, rfl, rfl⟩ | ⟨h, h', rfl, rfl⟩ | ⟨h, rfl, rfl⟩
  · rw [if_pos h]
  · rw [if_neg (by omega), if_pos h']
  · rw [if_neg (by omega), if_neg (by omega)]
theorem szl50 {n : Int} (h : n < 16) : (144 + n, 0) = Mp.sized 5 n := by simp [Mp.sized, Mp.fixed, Mp.fix, Mp.tab, Mp.base]; omega
theorem szl51 {n : Int} (h : 16 ≤ n) (h2 : n < 65536) : (220, 2) = Mp.sized 5 n := by simp [Mp.sized, Mp.fixed, Mp.fix, Mp.tab, Mp.base]; rw [if_neg (by omega), if_pos h2]
theorem szl52 {n : Int} (h : 65536 ≤ n) : (221, 4) = Mp.sized 5 n := by simp [Mp.sized, Mp.fixed, Mp.fix, Mp.tab, Mp.base]; rw [if_neg (by omega), if_neg (by omega)]
theorem szl60 {n : Int} (h : n < 16) : (128 + n, 0) = Mp.sized 6 n := by simp [Mp.sized, Mp.fixed, Mp.fix, Mp.tab, Mp.base]; omega
theorem szl61 {n : Int} (h : 16 ≤ n) (h2 : n < 65536) : (222, 2) = Mp.sized 6 n := by simp [Mp.sized, Mp.fixed, Mp.fix, Mp.tab, Mp.base]; rw [if_neg (by omega), if_pos h2]
theorem szl62 {n : Int} (h : 65536 ≤ n) : (223, 4) = Mp.sized 6 n := by simp [Mp.sized, Mp.fixed, Mp.fix, Mp.tab, Mp.base]; rw [if_neg (by omega), if_neg (by omega)]
theorem sz_c4 {c : Int} (hat : ((((DataW.map []).put (Lit.int .i64 4) (DataW.lit (H := Unit) (Lit.int .i64 160))).put (Lit.int .i64 5) (DataW.lit (Lit.int .i64 144))).put (Lit.int .i64 6) (DataW.lit (Lit.int .i64 128))).atKey (Lit.int .i64 4) (DataW.lit (Lit.int .i64 0)) = DataW.lit (Lit.int .i64 c)) : c = 160 := by
  have e : ((((DataW.map []).put (Lit.int .i64 4) (DataW.lit (H := Unit) (Lit.int .i64 160))).put (Lit.int .i64 5) (DataW.lit (Lit.int .i64 144))).put (Lit.int .i64 6) (DataW.lit (Lit.int .i64 128))).atKey (Lit.int .i64 4) (DataW.lit (Lit.int .i64 0)) = DataW.lit (Lit.int .i64 160) := rfl
  rw [e] at hat; cases hat; rfl
theorem sz_c5 {c : Int} (hat : ((((DataW.map []).put (Lit.int .i64 4) (DataW.lit (H := Unit) (Lit.int .i64 160))).put (Lit.int .i64 5) (DataW.lit (Lit.int .i64 144))).put (Lit.int .i64 6) (DataW.lit (Lit.int .i64 128))).atKey (Lit.int .i64 5) (DataW.lit (Lit.int .i64 0)) = DataW.lit (Lit.int .i64 c)) : c = 144 := by
  have e : ((((DataW.map []).put (Lit.int .i64 4) (DataW.lit (H := Unit) (Lit.int .i64 160))).put (Lit.int .i64 5) (DataW.lit (Lit.int .i64 144))).put (Lit.int .i64 6) (DataW.lit (Lit.int .i64 128))).atKey (Lit.int .i64 5) (DataW.lit (Lit.int .i64 0)) = DataW.lit (Lit.int .i64 144) := rfl
  rw [e] at hat; cases hat; rfl
theorem sz_c6 {c : Int} (hat : ((((DataW.map []).put (Lit.int .i64 4) (DataW.lit (H := Unit) (Lit.int .i64 160))).put (Lit.int .i64 5) (DataW.lit (Lit.int .i64 144))).put (Lit.int .i64 6) (DataW.lit (Lit.int .i64 128))).atKey (Lit.int .i64 6) (DataW.lit (Lit.int .i64 0)) = DataW.lit (Lit.int .i64 c)) : c = 128 := by
  have e : ((((DataW.map []).put (Lit.int .i64 4) (DataW.lit (H := Unit) (Lit.int .i64 160))).put (Lit.int .i64 5) (DataW.lit (Lit.int .i64 144))).put (Lit.int .i64 6) (DataW.lit (Lit.int .i64 128))).atKey (Lit.int .i64 6) (DataW.lit (Lit.int .i64 0)) = DataW.lit (Lit.int .i64 128) := rfl
  rw [e] at hat; cases hat; rfl
theorem sz_text (n : Int) (hn0 : 0 ≤ n) (hn1 : n < 4294967296) (w : World) : Calls Try.prog 41 #[.int .i64 4, .int .i64 n] w fun e w' => e = .returned (.agg #[.int .i64 (Mp.sized 4 n).1, .int .i64 (Mp.sized 4 n).2]) ∧ Below w.heap.size w w' := by
  have hmm := @run_makeMap Try.prog
  go_enter Try.func41, Try.ntmps41
  go_wp2_with (first
      | (refine wpList_insert_own _ rfl (.tmp 34) (.const (.int .i64 4)) (.const (.int .i64 160)) 93 rfl 3 3 sz_l3 Try.underlying93 (plainElem (H := Unit) Try.prog 3) ?hb1 0 ?hD1 ?hm1 ?ho1 ?hn1 (.int .i64 4) (.int .i64 160) (.int .i64 4) ?hx1 ?hv1 ?hk1 (.lit (.int .i64 160)) [] ?hp1 ?hK1
         case hm1 => rfl
         case ho1 => exact sz_made w _
         case hn1 => unfold maxLen; omega
         case hx1 => rfl
         case hv1 => rfl
         case hk1 => exact keyOf_int_mk Try.underlying3 (by decide)
         case hp1 => exact sz_p _ (by decide)
         intro w1 ho1 hg1
         have hz1 := sz_step (sz_start w) hg1)
      | (refine wpList_insert_own _ rfl (.tmp 34) (.const (.int .i64 5)) (.const (.int .i64 144)) 93 rfl 3 3 sz_l3 Try.underlying93 (plainElem (H := Unit) Try.prog 3) ?hb2 1 ?hD2 ?hm2 ?ho2 ?hn2 (.int .i64 5) (.int .i64 144) (.int .i64 5) ?hx2 ?hv2 ?hk2 (.lit (.int .i64 144)) [] ?hp2 ?hK2
         case hm2 => rfl
         case ho2 => exact ho1
         case hn2 => unfold maxLen; omega
         case hx2 => rfl
         case hv2 => rfl
         case hk2 => exact keyOf_int_mk Try.underlying3 (by decide)
         case hp2 => exact sz_p _ (by decide)
         intro w2 ho2 hg2
         have hz2 := sz_step hz1 hg2)
      | (refine wpList_insert_own _ rfl (.tmp 34) (.const (.int .i64 6)) (.const (.int .i64 128)) 93 rfl 3 3 sz_l3 Try.underlying93 (plainElem (H := Unit) Try.prog 3) ?hb3 2 ?hD3 ?hm3 ?ho3 ?hn3 (.int .i64 6) (.int .i64 128) (.int .i64 6) ?hx3 ?hv3 ?hk3 (.lit (.int .i64 128)) [] ?hp3 ?hK3
         case hm3 => rfl
         case ho3 => exact ho2
         case hn3 => unfold maxLen; omega
         case hx3 => rfl
         case hv3 => rfl
         case hk3 => exact keyOf_int_mk Try.underlying3 (by decide)
         case hp3 => exact sz_p _ (by decide)
         intro w3 ho3 hg3
         have hz3 := sz_step hz2 hg3
         have c0 := hz3.c0
         have c1 := hz3.c1
         have f0 := hz3.f 0
         have f1 := hz3.f 1)
      | (at_lookup
         refine wpList_lookup_own_int (H := Unit) _ rfl (.tmp 35) (.tmp 36) 93 rfl 3 3 .i64 sz_l3 Try.underlying93 Try.underlying3 (sz_z3 _) ?hb4 3 ?hD4 ?hm4 ?ho4 (.int .i64 4) (.int .i64 4) ?hx4 ?hk4 ?hK4
         case hk4 => exact keyOf_int_mk Try.underlying3 (by decide)
         case hm4 => rfl
         case ho4 => exact ho3
         case hx4 => rfl
         intro c hat hwc)
      | go_in)
  all_goals clear hmm
  all_goals first | refine sz_fin rfl rfl (sz_one _ _) ⟨?_, (Below.refl _ _).alloc (Nat.le_refl _) _⟩ | refine sz_fin rfl rfl (sz_set hz3.b) ⟨?_, (hz3.o.setCell (Nat.le_refl _) _).setCell (Nat.le_refl _) _⟩
  · have hc : c = 160 := sz_c4 hat
    subst hc
    rw [sz_wrap (by omega) (by omega)]
    exact sz_eq (szt0 (by omega))
  · exact sz_eq (szt1 (by omega) (by omega))
  · exact sz_eq (szt2 (by omega) (by omega))
  · exact sz_eq (szt3 (by omega))
theorem sz_ext (n : Int) (hn0 : 0 ≤ n) (hn1 : n < 4294967296) (w : World) : Calls Try.prog 41 #[.int .i64 10, .int .i64 n] w fun e w' => e = .returned (.agg #[.int .i64 (Mp.sized 10 n).1, .int .i64 (Mp.sized 10 n).2]) ∧ Below w.heap.size w w' := by
  have hmm := @run_makeMap Try.prog
  go_enter Try.func41, Try.ntmps41
  go_wp2_with (first
      | (refine wpList_insert_own _ rfl (.tmp 34) (.const (.int .i64 4)) (.const (.int .i64 160)) 93 rfl 3 3 sz_l3 Try.underlying93 (plainElem (H := Unit) Try.prog 3) ?hb1 0 ?hD1 ?hm1 ?ho1 ?hn1 (.int .i64 4) (.int .i64 160) (.int .i64 4) ?hx1 ?hv1 ?hk1 (.lit (.int .i64 160)) [] ?hp1 ?hK1
         case hm1 => rfl
         case ho1 => exact sz_made w _
         case hn1 => unfold maxLen; omega
         case hx1 => rfl
         case hv1 => rfl
         case hk1 => exact keyOf_int_mk Try.underlying3 (by decide)
         case hp1 => exact sz_p _ (by decide)
         intro w1 ho1 hg1
         have hz1 := sz_step (sz_start w) hg1)
      | (refine wpList_insert_own _ rfl (.tmp 34) (.const (.int .i64 5)) (.const (.int .i64 144)) 93 rfl 3 3 sz_l3 Try.underlying93 (plainElem (H := Unit) Try.prog 3) ?hb2 1 ?hD2 ?hm2 ?ho2 ?hn2 (.int .i64 5) (.int .i64 144) (.int .i64 5) ?hx2 ?hv2 ?hk2 (.lit (.int .i64 144)) [] ?hp2 ?hK2
         case hm2 => rfl
         case ho2 => exact ho1
         case hn2 => unfold maxLen; omega
         case hx2 => rfl
         case hv2 => rfl
         case hk2 => exact keyOf_int_mk Try.underlying3 (by decide)
         case hp2 => exact sz_p _ (by decide)
         intro w2 ho2 hg2
         have hz2 := sz_step hz1 hg2)
      | (refine wpList_insert_own _ rfl (.tmp 34) (.const (.int .i64 6)) (.const (.int .i64 128)) 93 rfl 3 3 sz_l3 Try.underlying93 (plainElem (H := Unit) Try.prog 3) ?hb3 2 ?hD3 ?hm3 ?ho3 ?hn3 (.int .i64 6) (.int .i64 128) (.int .i64 6) ?hx3 ?hv3 ?hk3 (.lit (.int .i64 128)) [] ?hp3 ?hK3
         case hm3 => rfl
         case ho3 => exact ho2
         case hn3 => unfold maxLen; omega
         case hx3 => rfl
         case hv3 => rfl
         case hk3 => exact keyOf_int_mk Try.underlying3 (by decide)
         case hp3 => exact sz_p _ (by decide)
         intro w3 ho3 hg3
         have hz3 := sz_step hz2 hg3
         have c0 := hz3.c0
         have c1 := hz3.c1
         have f0 := hz3.f 0
         have f1 := hz3.f 1)
      | (at_lookup
         refine wpList_lookup_own_int (H := Unit) _ rfl (.tmp 35) (.tmp 36) 93 rfl 3 3 .i64 sz_l3 Try.underlying93 Try.underlying3 (sz_z3 _) ?hb4 3 ?hD4 ?hm4 ?ho4 (.int .i64 10) (.int .i64 10) ?hx4 ?hk4 ?hK4
         case hk4 => exact keyOf_int_mk Try.underlying3 (by decide)
         case hm4 => rfl
         case ho4 => exact ho3
         case hx4 => rfl
         intro c hat hwc)
      | go_in)
  refine wp_loop_rounds 6 ?_
  rw [rounds_succ]
  go_wp2
  all_goals try rw [rounds_succ]
  all_goals try go_wp2
  all_goals try rw [rounds_succ]
  all_goals try go_wp2
  all_goals try rw [rounds_succ]
  all_goals try go_wp2
  all_goals try rw [rounds_succ]
  all_goals try go_wp2
  all_goals try rw [rounds_succ]
  all_goals try go_wp2
  all_goals clear hmm
  all_goals first | refine sz_fin rfl rfl (sz_one _ _) ⟨?_, (Below.refl _ _).alloc (Nat.le_refl _) _⟩ | refine sz_fin rfl rfl (sz_set hz3.b) ⟨?_, (hz3.o.setCell (Nat.le_refl _) _).setCell (Nat.le_refl _) _⟩
  · exact sz_eq (sze1 ‹_›)
  · exact sz_eq (sze2 ‹_›)
  · exact sz_eq (sze4 ‹_›)
  · exact sz_eq (sze8 ‹_›)
  · exact sz_eq (sze16 ‹_›)
  · exact sz_eq (szen hn0 ‹(n == 1) = false› ‹(n == 2) = false› ‹(n == 4) = false› ‹(n == 8) = false› ‹(n == 16) = false› (by simp; omega))
  · exact sz_eq (szen hn0 ‹(n == 1) = false› ‹(n == 2) = false› ‹(n == 4) = false› ‹(n == 8) = false› ‹(n == 16) = false› (by simp; omega))
  · exact sz_eq (szen hn0 ‹(n == 1) = false› ‹(n == 2) = false› ‹(n == 4) = false› ‹(n == 8) = false› ‹(n == 16) = false› (by simp; omega))
theorem sz_bytes (n : Int) (hn0 : 0 ≤ n) (hn1 : n < 4294967296) (w : World) : Calls Try.prog 41 #[.int .i64 3, .int .i64 n] w fun e w' => e = .returned (.agg #[.int .i64 (Mp.sized 3 n).1, .int .i64 (Mp.sized 3 n).2]) ∧ Below w.heap.size w w' := by
  have hmm := @run_makeMap Try.prog
  go_enter Try.func41, Try.ntmps41
  go_wp2_with (first
      | (refine wpList_insert_own _ rfl (.tmp 34) (.const (.int .i64 4)) (.const (.int .i64 160)) 93 rfl 3 3 sz_l3 Try.underlying93 (plainElem (H := Unit) Try.prog 3) ?hb1 0 ?hD1 ?hm1 ?ho1 ?hn1 (.int .i64 4) (.int .i64 160) (.int .i64 4) ?hx1 ?hv1 ?hk1 (.lit (.int .i64 160)) [] ?hp1 ?hK1
         case hm1 => rfl
         case ho1 => exact sz_made w _
         case hn1 => unfold maxLen; omega
         case hx1 => rfl
         case hv1 => rfl
         case hk1 => exact keyOf_int_mk Try.underlying3 (by decide)
         case hp1 => exact sz_p _ (by decide)
         intro w1 ho1 hg1
         have hz1 := sz_step (sz_start w) hg1)
      | (refine wpList_insert_own _ rfl (.tmp 34) (.const (.int .i64 5)) (.const (.int .i64 144)) 93 rfl 3 3 sz_l3 Try.underlying93 (plainElem (H := Unit) Try.prog 3) ?hb2 1 ?hD2 ?hm2 ?ho2 ?hn2 (.int .i64 5) (.int .i64 144) (.int .i64 5) ?hx2 ?hv2 ?hk2 (.lit (.int .i64 144)) [] ?hp2 ?hK2
         case hm2 => rfl
         case ho2 => exact ho1
         case hn2 => unfold maxLen; omega
         case hx2 => rfl
         case hv2 => rfl
         case hk2 => exact keyOf_int_mk Try.underlying3 (by decide)
         case hp2 => exact sz_p _ (by decide)
         intro w2 ho2 hg2
         have hz2 := sz_step hz1 hg2)
      | (refine wpList_insert_own _ rfl (.tmp 34) (.const (.int .i64 6)) (.const (.int .i64 128)) 93 rfl 3 3 sz_l3 Try.underlying93 (plainElem (H := Unit) Try.prog 3) ?hb3 2 ?hD3 ?hm3 ?ho3 ?hn3 (.int .i64 6) (.int .i64 128) (.int .i64 6) ?hx3 ?hv3 ?hk3 (.lit (.int .i64 128)) [] ?hp3 ?hK3
         case hm3 => rfl
         case ho3 => exact ho2
         case hn3 => unfold maxLen; omega
         case hx3 => rfl
         case hv3 => rfl
         case hk3 => exact keyOf_int_mk Try.underlying3 (by decide)
         case hp3 => exact sz_p _ (by decide)
         intro w3 ho3 hg3
         have hz3 := sz_step hz2 hg3
         have c0 := hz3.c0
         have c1 := hz3.c1
         have f0 := hz3.f 0
         have f1 := hz3.f 1)
      | (at_lookup
         refine wpList_lookup_own_int (H := Unit) _ rfl (.tmp 35) (.tmp 36) 93 rfl 3 3 .i64 sz_l3 Try.underlying93 Try.underlying3 (sz_z3 _) ?hb4 3 ?hD4 ?hm4 ?ho4 (.int .i64 3) (.int .i64 3) ?hx4 ?hk4 ?hK4
         case hk4 => exact keyOf_int_mk Try.underlying3 (by decide)
         case hm4 => rfl
         case ho4 => exact ho3
         case hx4 => rfl
         intro c hat hwc)
      | go_in)
  all_goals clear hmm
  all_goals first | refine sz_fin rfl rfl (sz_one _ _) ⟨?_, (Below.refl _ _).alloc (Nat.le_refl _) _⟩ | refine sz_fin rfl rfl (sz_set hz3.b) ⟨?_, (hz3.o.setCell (Nat.le_refl _) _).setCell (Nat.le_refl _) _⟩
  · exact sz_eq (szb1 (by omega) (by omega))
  · exact sz_eq (szb2 (by omega) (by omega))
  · exact sz_eq (szb3 (by omega))
theorem sz_list (n : Int) (hn0 : 0 ≤ n) (hn1 : n < 4294967296) (w : World) : Calls Try.prog 41 #[.int .i64 5, .int .i64 n] w fun e w' => e = .returned (.agg #[.int .i64 (Mp.sized 5 n).1, .int .i64 (Mp.sized 5 n).2]) ∧ Below w.heap.size w w' := by
  have hmm := @run_makeMap Try.prog
  go_enter Try.func41, Try.ntmps41
  go_wp2_with (first
      | (refine wpList_insert_own _ rfl (.tmp 34) (.const (.int .i64 4)) (.const (.int .i64 160)) 93 rfl 3 3 sz_l3 Try.underlying93 (plainElem (H := Unit) Try.prog 3) ?hb1 0 ?hD1 ?hm1 ?ho1 ?hn1 (.int .i64 4) (.int .i64 160) (.int .i64 4) ?hx1 ?hv1 ?hk1 (.lit (.int .i64 160)) [] ?hp1 ?hK1
         case hm1 => rfl
         case ho1 => exact sz_made w _
         case hn1 => unfold maxLen; omega
         case hx1 => rfl
         case hv1 => rfl
         case hk1 => exact keyOf_int_mk Try.underlying3 (by decide)
         case hp1 => exact sz_p _ (by decide)
         intro w1 ho1 hg1
         have hz1 := sz_step (sz_start w) hg1)
      | (refine wpList_insert_own _ rfl (.tmp 34) (.const (.int .i64 5)) (.const (.int .i64 144)) 93 rfl 3 3 sz_l3 Try.underlying93 (plainElem (H := Unit) Try.prog 3) ?hb2 1 ?hD2 ?hm2 ?ho2 ?hn2 (.int .i64 5) (.int .i64 144) (.int .i64 5) ?hx2 ?hv2 ?hk2 (.lit (.int .i64 144)) [] ?hp2 ?hK2
         case hm2 => rfl
         case ho2 => exact ho1
         case hn2 => unfold maxLen; omega
         case hx2 => rfl
         case hv2 => rfl
         case hk2 => exact keyOf_int_mk Try.underlying3 (by decide)
         case hp2 => exact sz_p _ (by decide)
         intro w2 ho2 hg2
         have hz2 := sz_step hz1 hg2)
      | (refine wpList_insert_own _ rfl (.tmp 34) (.const (.int .i64 6)) (.const (.int .i64 128)) 93 rfl 3 3 sz_l3 Try.underlying93 (plainElem (H := Unit) Try.prog 3) ?hb3 2 ?hD3 ?hm3 ?ho3 ?hn3 (.int .i64 6) (.int .i64 128) (.int .i64 6) ?hx3 ?hv3 ?hk3 (.lit (.int .i64 128)) [] ?hp3 ?hK3
         case hm3 => rfl
         case ho3 => exact ho2
         case hn3 => unfold maxLen; omega
         case hx3 => rfl
         case hv3 => rfl
         case hk3 => exact keyOf_int_mk Try.underlying3 (by decide)
         case hp3 => exact sz_p _ (by decide)
         intro w3 ho3 hg3
         have hz3 := sz_step hz2 hg3
         have c0 := hz3.c0
         have c1 := hz3.c1
         have f0 := hz3.f 0
         have f1 := hz3.f 1)
      | (at_lookup
         refine wpList_lookup_own_int (H := Unit) _ rfl (.tmp 35) (.tmp 36) 93 rfl 3 3 .i64 sz_l3 Try.underlying93 Try.underlying3 (sz_z3 _) ?hb4 3 ?hD4 ?hm4 ?ho4 (.int .i64 5) (.int .i64 5) ?hx4 ?hk4 ?hK4
         case hk4 => exact keyOf_int_mk Try.underlying3 (by decide)
         case hm4 => rfl
         case ho4 => exact ho3
         case hx4 => rfl
         intro c hat hwc)
      | go_in)
  all_goals clear hmm
  all_goals first | refine sz_fin rfl rfl (sz_one _ _) ⟨?_, (Below.refl _ _).alloc (Nat.le_refl _) _⟩ | refine sz_fin rfl rfl (sz_set hz3.b) ⟨?_, (hz3.o.setCell (Nat.le_refl _) _).setCell (Nat.le_refl _) _⟩
  · have hc : c = 144 := sz_c5 hat
    subst hc
    rw [sz_wrap (by omega) (by omega)]
    exact sz_eq (szl50 (by omega))
  · exact sz_eq (szl51 (by omega) (by omega))
  · exact sz_eq (szl52 (by omega))
theorem sz_map (n : Int) (hn0 : 0 ≤ n) (hn1 : n < 4294967296) (w : World) : Calls Try.prog 41 #[.int .i64 6, .int .i64 n] w fun e w' => e = .returned (.agg #[.int .i64 (Mp.sized 6 n).1, .int .i64 (Mp.sized 6 n).2]) ∧ Below w.heap.size w w' := by
  have hmm := @run_makeMap Try.prog
  go_enter Try.func41, Try.ntmps41
  go_wp2_with (first
      | (refine wpList_insert_own _ rfl (.tmp 34) (.const (.int .i64 4)) (.const (.int .i64 160)) 93 rfl 3 3 sz_l3 Try.underlying93 (plainElem (H := Unit) Try.prog 3) ?hb1 0 ?hD1 ?hm1 ?ho1 ?hn1 (.int .i64 4) (.int .i64 160) (.int .i64 4) ?hx1 ?hv1 ?hk1 (.lit (.int .i64 160)) [] ?hp1 ?hK1
         case hm1 => rfl
         case ho1 => exact sz_made w _
         case hn1 => unfold maxLen; omega
         case hx1 => rfl
         case hv1 => rfl
         case hk1 => exact keyOf_int_mk Try.underlying3 (by decide)
         case hp1 => exact sz_p _ (by decide)
         intro w1 ho1 hg1
         have hz1 := sz_step (sz_start w) hg1)
      | (refine wpList_insert_own _ rfl (.tmp 34) (.const (.int .i64 5)) (.const (.int .i64 144)) 93 rfl 3 3 sz_l3 Try.underlying93 (plainElem (H := Unit) Try.prog 3) ?hb2 1 ?hD2 ?hm2 ?ho2 ?hn2 (.int .i64 5) (.int .i64 144) (.int .i64 5) ?hx2 ?hv2 ?hk2 (.lit (.int .i64 144)) [] ?hp2 ?hK2
         case hm2 => rfl
         case ho2 => exact ho1
         case hn2 => unfold maxLen; omega
         case hx2 => rfl
         case hv2 => rfl
         case hk2 => exact keyOf_int_mk Try.underlying3 (by decide)
         case hp2 => exact sz_p _ (by decide)
         intro w2 ho2 hg2
         have hz2 := sz_step hz1 hg2)
      | (refine wpList_insert_own _ rfl (.tmp 34) (.const (.int .i64 6)) (.const (.int .i64 128)) 93 rfl 3 3 sz_l3 Try.underlying93 (plainElem (H := Unit) Try.prog 3) ?hb3 2 ?hD3 ?hm3 ?ho3 ?hn3 (.int .i64 6) (.int .i64 128) (.int .i64 6) ?hx3 ?hv3 ?hk3 (.lit (.int .i64 128)) [] ?hp3 ?hK3
         case hm3 => rfl
         case ho3 => exact ho2
         case hn3 => unfold maxLen; omega
         case hx3 => rfl
         case hv3 => rfl
         case hk3 => exact keyOf_int_mk Try.underlying3 (by decide)
         case hp3 => exact sz_p _ (by decide)
         intro w3 ho3 hg3
         have hz3 := sz_step hz2 hg3
         have c0 := hz3.c0
         have c1 := hz3.c1
         have f0 := hz3.f 0
         have f1 := hz3.f 1)
      | (at_lookup
         refine wpList_lookup_own_int (H := Unit) _ rfl (.tmp 35) (.tmp 36) 93 rfl 3 3 .i64 sz_l3 Try.underlying93 Try.underlying3 (sz_z3 _) ?hb4 3 ?hD4 ?hm4 ?ho4 (.int .i64 6) (.int .i64 6) ?hx4 ?hk4 ?hK4
         case hk4 => exact keyOf_int_mk Try.underlying3 (by decide)
         case hm4 => rfl
         case ho4 => exact ho3
         case hx4 => rfl
         intro c hat hwc)
      | go_in)
  all_goals clear hmm
  all_goals first | refine sz_fin rfl rfl (sz_one _ _) ⟨?_, (Below.refl _ _).alloc (Nat.le_refl _) _⟩ | refine sz_fin rfl rfl (sz_set hz3.b) ⟨?_, (hz3.o.setCell (Nat.le_refl _) _).setCell (Nat.le_refl _) _⟩
  · have hc : c = 128 := sz_c6 hat
    subst hc
    rw [sz_wrap (by omega) (by omega)]
    exact sz_eq (szl60 (by omega))
  · exact sz_eq (szl61 (by omega) (by omega))
  · exact sz_eq (szl62 (by omega))
theorem mp_sized.ok : SpecOK Go.Proofs.Try.prog (fun n => (noGl n).av) 41 (Ctr.fs (mp_sized.c, mp_sized.sg)) := by
  refine spec_plain fun ti to_ w R xs hc ha hR hgl => ?_
  unfold mp_sized.c at hc
  split at hc
  · rename_i k n
    obtain ⟨hp, rfl⟩ := hc
    simp only [Bool.and_eq_true, decide_eq_true_eq, Mp.sizeds] at hp
    obtain ⟨hk, h0, h1⟩ := hp
    have hxs : xs = [.int .i64 k, .int .i64 n] := by
      have hq : RepT R w [.v (.int .i64 k), .v (.int .i64 n)] xs := ha
      clear ha
      cases hq with
      | cons a1 q1 => cases q1 with
        | cons a2 q2 => cases q2; cases a1; cases a2; rfl
    subst hxs
    have fin : ∀ {S : Int × Int}, Calls Go.Proofs.Try.prog 41 #[.int .i64 k, .int .i64 n] w (fun e w' => e = .returned (.agg #[.int .i64 S.1, .int .i64 S.2]) ∧ Below w.heap.size w w') →
        Calls Go.Proofs.Try.prog 41 ⟨[.int .i64 k, .int .i64 n]⟩ w fun e w' => ∃ x, e = .returned x ∧ Below w.heap.size w w' ∧ ∀ R w', RepT R w' ([(TV.ag [.i .i64 S.1, .i .i64 S.2])].map TV.av) [x] := by
      intro S h
      refine h.mono ?_
      rintro e w' ⟨rfl, hb⟩
      exact ⟨_, rfl, hb, fun R w' => .cons (.ag (.cons rfl (.v _) (.cons rfl (.v _) .nil))) .nil⟩
    rcases hk with rfl | rfl | rfl | rfl | rfl
    · exact fin (sz_bytes n h0 h1 w)
    · exact fin (sz_text n h0 h1 w)
    · exact fin (sz_list n h0 h1 w)
    · exact fin (sz_map n h0 h1 w)
    · exact fin (sz_ext n h0 h1 w)
  · exact hc.elim
end Go.Eng
namespace Go.Eng
theorem utf_is.fit (r : Int) : ([.i .i64 r] : List TV).length = utf_is.d.np ∧ utf_is.d.run (envL noGl utf_is.env) [.i .i64 r] = some (([(.b (Utf.isRune r))] : List TV) ++ utf_is.d.ps.toList.map fun q => ([.i .i64 r] : List TV).getD q.1 .dead) :=
  ⟨by kernel_rfl, Eq.trans (b := utf_is.F r) (by kernel_rfl) (Eq.trans (utf_is.goal r) (by kernel_rfl))⟩
theorem utf_is.ok : SpecOK Go.Proofs.Try.prog (fun n => (noGl n).av) 71 (Ctr.fs (utf_is.c, utf_is.sg)) :=
  meets (l := utf_is.env) all_nil utf_is.chk (by
      intro ins outs h
      unfold utf_is.c at h
      split at h
      · cases h; exact utf_is.fit _
      · exact h.elim)
theorem utf_Rune.fit (b : List UInt8) (at_ : Int) (hp : (decide (b.length ≤ 1099511627776)) = true) : ([.sl .bs b, .i .i64 at_] : List TV).length = utf_Rune.d.np ∧ utf_Rune.d.run (envL noGl utf_Rune.env) [.sl .bs b, .i .i64 at_] = some (([(.i .i64 ((Utf.runeAt b at_).1)), (.i .i64 ((Utf.runeAt b at_).2))] : List TV) ++ utf_Rune.d.ps.toList.map fun q => ([.sl .bs b, .i .i64 at_] : List TV).getD q.1 .dead) :=
  ⟨by kernel_rfl, Eq.trans (b := utf_Rune.F b at_) (by kernel_rfl) (Eq.trans (utf_Rune.goal b at_ hp) (by kernel_rfl))⟩
theorem utf_Rune.ok : SpecOK Go.Proofs.Try.prog (fun n => (noGl n).av) 63 (Ctr.fs (utf_Rune.c, utf_Rune.sg)) :=
  meets (l := utf_Rune.env) (all_cons utf_is.ok all_nil) utf_Rune.chk (by
      intro ins outs h
      unfold utf_Rune.c at h
      split at h
      · obtain ⟨hp, rfl⟩ := h; exact utf_Rune.fit _ _ hp
      · exact h.elim)
theorem utf_look.fit (b : List UInt8) (hp : (decide (b.length ≤ 1099511627776)) = true) : ([.sl .bs b] : List TV).length = utf_look.d.np ∧ utf_look.d.run (envL noGl utf_look.env) [.sl .bs b] = some (([(.i .i64 (((Utf.look b).1 : Int))), (.i .i64 (((Utf.look b).2 : Int)))] : List TV) ++ utf_look.d.ps.toList.map fun q => ([.sl .bs b] : List TV).getD q.1 .dead) :=
  ⟨by kernel_rfl, Eq.trans (b := utf_look.F b) (by kernel_rfl) (Eq.trans (utf_look.goal b hp) (by kernel_rfl))⟩
theorem utf_look.ok : SpecOK Go.Proofs.Try.prog (fun n => (noGl n).av) 46 (Ctr.fs (utf_look.c, utf_look.sg)) :=
  meets (l := utf_look.env) (all_cons utf_Rune.ok all_nil) utf_look.chk (by
      intro ins outs h
      unfold utf_look.c at h
      split at h
      · obtain ⟨hp, rfl⟩ := h; exact utf_look.fit _ hp
      · exact h.elim)
theorem utf_Check.fit (b : List UInt8) (hp : (decide (b.length ≤ 1099511627776)) = true) : ([.sl .bs b] : List TV).length = utf_Check.d.np ∧ utf_Check.d.run (envL noGl utf_Check.env) [.sl .bs b] = some (([(.i .i64 (((Utf.look b).1 : Int))), (.b (Utf.whole b))] : List TV) ++ utf_Check.d.ps.toList.map fun q => ([.sl .bs b] : List TV).getD q.1 .dead) :=
  ⟨by kernel_rfl, Eq.trans (b := utf_Check.F b) (by kernel_rfl) (Eq.trans (utf_Check.goal b hp) (by kernel_rfl))⟩
theorem utf_Check.ok : SpecOK Go.Proofs.Try.prog (fun n => (noGl n).av) 27 (Ctr.fs (utf_Check.c, utf_Check.sg)) :=
  meets (l := utf_Check.env) (all_cons utf_look.ok all_nil) utf_Check.chk (by
      intro ins outs h
      unfold utf_Check.c at h
      split at h
      · obtain ⟨hp, rfl⟩ := h; exact utf_Check.fit _ hp
      · exact h.elim)
theorem rd_At.fit (r_b : List UInt8) (r_at : Int) : ([.ro (.ag [.sl .bs r_b, .i .i64 r_at])] : List TV).length = rd_At.d.np ∧ rd_At.d.run (envL noGl rd_At.env) [.ro (.ag [.sl .bs r_b, .i .i64 r_at])] = some (([(.i .i64 ((((Rdr.mk r_b r_at)).at_)))] : List TV) ++ rd_At.d.ps.toList.map fun q => ([.ro (.ag [.sl .bs r_b, .i .i64 r_at])] : List TV).getD q.1 .dead) :=
  ⟨by kernel_rfl, Eq.trans (b := rd_At.F (Rdr.mk r_b r_at)) (by kernel_rfl) (Eq.trans (rd_At.goal (Rdr.mk r_b r_at)) (by kernel_rfl))⟩
theorem rd_At.ok : SpecOK Go.Proofs.Try.prog (fun n => (noGl n).av) 33 (Ctr.fs (rd_At.c, rd_At.sg)) :=
  meets (l := rd_At.env) all_nil rd_At.chk (by
      intro ins outs h
      unfold rd_At.c at h
      split at h
      · cases h; exact rd_At.fit _ _
      · exact h.elim)
theorem rd_Left.fit (r_b : List UInt8) (r_at : Int) (hp : (Cur.good (Rdr.mk r_b r_at)) = true) : ([.ro (.ag [.sl .bs r_b, .i .i64 r_at])] : List TV).length = rd_Left.d.np ∧ rd_Left.d.run (envL noGl rd_Left.env) [.ro (.ag [.sl .bs r_b, .i .i64 r_at])] = some (([(.i .i64 (Cur.left (Rdr.mk r_b r_at)))] : List TV) ++ rd_Left.d.ps.toList.map fun q => ([.ro (.ag [.sl .bs r_b, .i .i64 r_at])] : List TV).getD q.1 .dead) :=
  ⟨by kernel_rfl, Eq.trans (b := rd_Left.F (Rdr.mk r_b r_at)) (by kernel_rfl) (Eq.trans (rd_Left.goal (Rdr.mk r_b r_at) hp) (by kernel_rfl))⟩
theorem rd_Left.ok : SpecOK Go.Proofs.Try.prog (fun n => (noGl n).av) 32 (Ctr.fs (rd_Left.c, rd_Left.sg)) :=
  meets (l := rd_Left.env) all_nil rd_Left.chk (by
      intro ins outs h
      unfold rd_Left.c at h
      split at h
      · obtain ⟨hp, rfl⟩ := h; exact rd_Left.fit _ _ hp
      · exact h.elim)
theorem rd_Byte.fit (r_b : List UInt8) (r_at : Int) (hp : (Cur.good (Rdr.mk r_b r_at)) = true) : ([.ag [.sl .bs r_b, .i .i64 r_at]] : List TV).length = rd_Byte.d.np ∧ rd_Byte.d.run (envL noGl rd_Byte.env) [.ag [.sl .bs r_b, .i .i64 r_at]] = some (([(.i .i64 (Cur.byte (Rdr.mk r_b r_at))), (.b (Cur.more (Rdr.mk r_b r_at))), (.ag (Rdr.cells (Cur.adv (Rdr.mk r_b r_at) 1 (Cur.more (Rdr.mk r_b r_at)))))] : List TV) ++ rd_Byte.d.ps.toList.map fun q => ([.ag [.sl .bs r_b, .i .i64 r_at]] : List TV).getD q.1 .dead) :=
  ⟨by kernel_rfl, Eq.trans (b := rd_Byte.F (Rdr.mk r_b r_at)) (by kernel_rfl) (Eq.trans (rd_Byte.goal (Rdr.mk r_b r_at) hp) (by kernel_rfl))⟩
theorem rd_Byte.ok : SpecOK Go.Proofs.Try.prog (fun n => (noGl n).av) 48 (Ctr.fs (rd_Byte.c, rd_Byte.sg)) :=
  meets (l := rd_Byte.env) all_nil rd_Byte.chk (by
      intro ins outs h
      unfold rd_Byte.c at h
      split at h
      · obtain ⟨hp, rfl⟩ := h; exact rd_Byte.fit _ _ hp
      · exact h.elim)
theorem rd_next.fit (r_b : List UInt8) (r_at : Int) (n : Int) (hp : (Cur.good (Rdr.mk r_b r_at)) = true) : ([.ag [.sl .bs r_b, .i .i64 r_at], .i .i64 n] : List TV).length = rd_next.d.np ∧ rd_next.d.run (envL noGl rd_next.env) [.ag [.sl .bs r_b, .i .i64 r_at], .i .i64 n] = some (([(.sl .bs (Cur.nx (Rdr.mk r_b r_at) n (Cur.ok8 (Rdr.mk r_b r_at) n))), (.b (Cur.ok8 (Rdr.mk r_b r_at) n)), (.ag (Rdr.cells (Cur.adv (Rdr.mk r_b r_at) n (Cur.ok8 (Rdr.mk r_b r_at) n))))] : List TV) ++ rd_next.d.ps.toList.map fun q => ([.ag [.sl .bs r_b, .i .i64 r_at], .i .i64 n] : List TV).getD q.1 .dead) :=
  ⟨by kernel_rfl, Eq.trans (b := rd_next.F (Rdr.mk r_b r_at) n) (by kernel_rfl) (Eq.trans (rd_next.goal (Rdr.mk r_b r_at) n hp) (by kernel_rfl))⟩
theorem rd_next.ok : SpecOK Go.Proofs.Try.prog (fun n => (noGl n).av) 65 (Ctr.fs (rd_next.c, rd_next.sg)) :=
  meets (l := rd_next.env) (all_cons rd_Left.ok all_nil) rd_next.chk (by
      intro ins outs h
      unfold rd_next.c at h
      split at h
      · obtain ⟨hp, rfl⟩ := h; exact rd_next.fit _ _ _ hp
      · exact h.elim)
theorem rd_Take.fit (r_b : List UInt8) (r_at : Int) (n : Int) (hp : (Cur.good (Rdr.mk r_b r_at)) = true) : ([.ag [.sl .bs r_b, .i .i64 r_at], .i .i64 n] : List TV).length = rd_Take.d.np ∧ rd_Take.d.run (envL noGl rd_Take.env) [.ag [.sl .bs r_b, .i .i64 r_at], .i .i64 n] = some (([(.sl .bs (Cur.nx (Rdr.mk r_b r_at) n (Cur.okT (Rdr.mk r_b r_at) n))), (.b (Cur.okT (Rdr.mk r_b r_at) n)), (.ag (Rdr.cells (Cur.adv (Rdr.mk r_b r_at) n (Cur.okT (Rdr.mk r_b r_at) n))))] : List TV) ++ rd_Take.d.ps.toList.map fun q => ([.ag [.sl .bs r_b, .i .i64 r_at], .i .i64 n] : List TV).getD q.1 .dead) :=
  ⟨by kernel_rfl, Eq.trans (b := rd_Take.F (Rdr.mk r_b r_at) n) (by kernel_rfl) (Eq.trans (rd_Take.goal (Rdr.mk r_b r_at) n hp) (by kernel_rfl))⟩
theorem rd_Take.ok : SpecOK Go.Proofs.Try.prog (fun n => (noGl n).av) 66 (Ctr.fs (rd_Take.c, rd_Take.sg)) :=
  meets (l := rd_Take.env) (all_cons rd_Left.ok (all_cons clone_bs.ok all_nil)) rd_Take.chk (by
      intro ins outs h
      unfold rd_Take.c at h
      split at h
      · obtain ⟨hp, rfl⟩ := h; exact rd_Take.fit _ _ _ hp
      · exact h.elim)
theorem rd_High.fit (r_b : List UInt8) (r_at : Int) (n : Int) (hp : (Cur.good (Rdr.mk r_b r_at)) = true) : ([.ag [.sl .bs r_b, .i .i64 r_at], .i .i64 n] : List TV).length = rd_High.d.np ∧ rd_High.d.run (envL noGl rd_High.env) [.ag [.sl .bs r_b, .i .i64 r_at], .i .i64 n] = some (([(.u64 (Cur.be (Cur.nx (Rdr.mk r_b r_at) n (Cur.ok8 (Rdr.mk r_b r_at) n)))), (.b (Cur.ok8 (Rdr.mk r_b r_at) n)), (.ag (Rdr.cells (Cur.adv (Rdr.mk r_b r_at) n (Cur.ok8 (Rdr.mk r_b r_at) n))))] : List TV) ++ rd_High.d.ps.toList.map fun q => ([.ag [.sl .bs r_b, .i .i64 r_at], .i .i64 n] : List TV).getD q.1 .dead) :=
  ⟨by kernel_rfl, Eq.trans (b := rd_High.F (Rdr.mk r_b r_at) n) (by kernel_rfl) (Eq.trans (rd_High.goal (Rdr.mk r_b r_at) n hp) (by kernel_rfl))⟩
theorem rd_High.ok : SpecOK Go.Proofs.Try.prog (fun n => (noGl n).av) 50 (Ctr.fs (rd_High.c, rd_High.sg)) :=
  meets (l := rd_High.env) (all_cons rd_next.ok all_nil) rd_High.chk (by
      intro ins outs h
      unfold rd_High.c at h
      split at h
      · obtain ⟨hp, rfl⟩ := h; exact rd_High.fit _ _ _ hp
      · exact h.elim)
theorem cur_New.fit (b : List UInt8) (hp : (decide ((b).length ≤ 1099511627776)) = true) : ([.sl .bs b] : List TV).length = cur_New.d.np ∧ cur_New.d.run (envL noGl cur_New.env) [.sl .bs b] = some (([.pt, (.ag (Rdr.cells ((Rdr.mk b 0))))] : List TV) ++ cur_New.d.ps.toList.map fun q => ([.sl .bs b] : List TV).getD q.1 .dead) :=
  ⟨by kernel_rfl, Eq.trans (b := cur_New.F b) (by kernel_rfl) (Eq.trans (cur_New.goal b hp) (by kernel_rfl))⟩
theorem cur_New.ok : SpecOK Go.Proofs.Try.prog (fun n => (noGl n).av) 30 (Ctr.fs (cur_New.c, cur_New.sg)) :=
  meets (l := cur_New.env) (all_cons clone_bs.ok all_nil) cur_New.chk (by
      intro ins outs h
      unfold cur_New.c at h
      split at h
      · obtain ⟨hp, rfl⟩ := h; exact cur_New.fit _ hp
      · exact h.elim)
theorem cur_number.fit (n : Int) : ([.i .i64 n] : List TV).length = cur_number.d.np ∧ cur_number.d.run (envL noGl cur_number.env) [.i .i64 n] = some (([(.b (decide (1 ≤ n ∧ n ≤ 8)))] : List TV) ++ cur_number.d.ps.toList.map fun q => ([.i .i64 n] : List TV).getD q.1 .dead) :=
  ⟨by kernel_rfl, Eq.trans (b := cur_number.F n) (by kernel_rfl) (Eq.trans (cur_number.goal n) (by kernel_rfl))⟩
theorem cur_number.ok : SpecOK Go.Proofs.Try.prog (fun n => (noGl n).av) 67 (Ctr.fs (cur_number.c, cur_number.sg)) :=
  meets (l := cur_number.env) all_nil cur_number.chk (by
      intro ins outs h
      unfold cur_number.c at h
      split at h
      · cases h; exact cur_number.fit _
      · exact h.elim)
theorem cur_Lay.fit : ([] : List TV).length = cur_Lay.d.np ∧ cur_Lay.d.run (envL noGl cur_Lay.env) [] = some (([.pt, (.ag (Wtr.cells ((Wtr.mk []))))] : List TV) ++ cur_Lay.d.ps.toList.map fun q => ([] : List TV).getD q.1 .dead) :=
  ⟨by kernel_rfl, Eq.trans (b := cur_Lay.F ) (by kernel_rfl) (Eq.trans (cur_Lay.goal ) (by kernel_rfl))⟩
theorem cur_Lay.ok : SpecOK Go.Proofs.Try.prog (fun n => (noGl n).av) 22 (Ctr.fs (cur_Lay.c, cur_Lay.sg)) :=
  meets (l := cur_Lay.env) all_nil cur_Lay.chk (by
      intro ins outs h
      unfold cur_Lay.c at h
      split at h
      · cases h; exact cur_Lay.fit
      · exact h.elim)
theorem wr_Byte.fit (w_b : List UInt8) (v : Int) (hp : (decide (((Wtr.mk w_b)).b.length ≤ 1099511627776)) = true) : ([.ag [.sl .bs w_b], .i .i64 v] : List TV).length = wr_Byte.d.np ∧ wr_Byte.d.run (envL noGl wr_Byte.env) [.ag [.sl .bs w_b], .i .i64 v] = some (([(.ag (Wtr.cells ((Wtr.mk (((Wtr.mk w_b)).b ++ [UInt8.ofInt v])))))] : List TV) ++ wr_Byte.d.ps.toList.map fun q => ([.ag [.sl .bs w_b], .i .i64 v] : List TV).getD q.1 .dead) :=
  ⟨by kernel_rfl, Eq.trans (b := wr_Byte.F (Wtr.mk w_b) v) (by kernel_rfl) (Eq.trans (wr_Byte.goal (Wtr.mk w_b) v hp) (by kernel_rfl))⟩
theorem wr_Byte.ok : SpecOK Go.Proofs.Try.prog (fun n => (noGl n).av) 40 (Ctr.fs (wr_Byte.c, wr_Byte.sg)) :=
  meets (l := wr_Byte.env) all_nil wr_Byte.chk (by
      intro ins outs h
      unfold wr_Byte.c at h
      split at h
      · obtain ⟨hp, rfl⟩ := h; exact wr_Byte.fit _ _ hp
      · exact h.elim)
theorem wr_Raw.fit (w_b : List UInt8) (b : List UInt8) (hp : (decide (((Wtr.mk w_b)).b.length + (b).length ≤ 1099511627776)) = true) : ([.ag [.sl .bs w_b], .sl .bs b] : List TV).length = wr_Raw.d.np ∧ wr_Raw.d.run (envL noGl wr_Raw.env) [.ag [.sl .bs w_b], .sl .bs b] = some (([(.ag (Wtr.cells ((Wtr.mk (((Wtr.mk w_b)).b ++ b)))))] : List TV) ++ wr_Raw.d.ps.toList.map fun q => ([.ag [.sl .bs w_b], .sl .bs b] : List TV).getD q.1 .dead) :=
  ⟨by kernel_rfl, Eq.trans (b := wr_Raw.F (Wtr.mk w_b) b) (by kernel_rfl) (Eq.trans (wr_Raw.goal (Wtr.mk w_b) b hp) (by kernel_rfl))⟩
theorem wr_Raw.ok : SpecOK Go.Proofs.Try.prog (fun n => (noGl n).av) 42 (Ctr.fs (wr_Raw.c, wr_Raw.sg)) :=
  meets (l := wr_Raw.env) all_nil wr_Raw.chk (by
      intro ins outs h
      unfold wr_Raw.c at h
      split at h
      · obtain ⟨hp, rfl⟩ := h; exact wr_Raw.fit _ _ hp
      · exact h.elim)
theorem wr_High.fit (w_b : List UInt8) (v : UInt64) (n : Int) (hp : (decide (((Wtr.mk w_b)).b.length ≤ 1099511627776)) = true) : ([.ag [.sl .bs w_b], .u64 v, .i .i64 n] : List TV).length = wr_High.d.np ∧ wr_High.d.run (envL noGl wr_High.env) [.ag [.sl .bs w_b], .u64 v, .i .i64 n] = some (([(.ag (Wtr.cells ((Wtr.mk (((Wtr.mk w_b)).b ++ Cur.high v n)))))] : List TV) ++ wr_High.d.ps.toList.map fun q => ([.ag [.sl .bs w_b], .u64 v, .i .i64 n] : List TV).getD q.1 .dead) :=
  ⟨by kernel_rfl, Eq.trans (b := wr_High.F (Wtr.mk w_b) v n) (by kernel_rfl) (Eq.trans (wr_High.goal (Wtr.mk w_b) v n hp) (by kernel_rfl))⟩
theorem wr_High.ok : SpecOK Go.Proofs.Try.prog (fun n => (noGl n).av) 58 (Ctr.fs (wr_High.c, wr_High.sg)) :=
  meets (l := wr_High.env) (all_cons cur_number.ok all_nil) wr_High.chk (by
      intro ins outs h
      unfold wr_High.c at h
      split at h
      · obtain ⟨hp, rfl⟩ := h; exact wr_High.fit _ _ _ hp
      · exact h.elim)
theorem wr_Bytes.fit (w_b : List UInt8) (hp : (decide (((Wtr.mk w_b)).b.length ≤ 1099511627776)) = true) : ([.ag [.sl .bs w_b]] : List TV).length = wr_Bytes.d.np ∧ wr_Bytes.d.run (envL noGl wr_Bytes.env) [.ag [.sl .bs w_b]] = some (([(.sl .bs ((((Wtr.mk w_b)).b))), (.ag (Wtr.cells ((Wtr.mk w_b))))] : List TV) ++ wr_Bytes.d.ps.toList.map fun q => ([.ag [.sl .bs w_b]] : List TV).getD q.1 .dead) :=
  ⟨by kernel_rfl, Eq.trans (b := wr_Bytes.F (Wtr.mk w_b)) (by kernel_rfl) (Eq.trans (wr_Bytes.goal (Wtr.mk w_b) hp) (by kernel_rfl))⟩
theorem wr_Bytes.ok : SpecOK Go.Proofs.Try.prog (fun n => (noGl n).av) 24 (Ctr.fs (wr_Bytes.c, wr_Bytes.sg)) :=
  meets (l := wr_Bytes.env) (all_cons clone_bs.ok all_nil) wr_Bytes.chk (by
      intro ins outs h
      unfold wr_Bytes.c at h
      split at h
      · obtain ⟨hp, rfl⟩ := h; exact wr_Bytes.fit _ hp
      · exact h.elim)
theorem mp_few.fit (n : Int) (hp : (decide (0 ≤ n ∧ n ≤ 1099511627776)) = true) : ([.i .i64 n] : List TV).length = mp_few.d.np ∧ mp_few.d.run (envL noGl mp_few.env) [.i .i64 n] = some (([(.b (decide (n < 4294967296)))] : List TV) ++ mp_few.d.ps.toList.map fun q => ([.i .i64 n] : List TV).getD q.1 .dead) :=
  ⟨by kernel_rfl, Eq.trans (b := mp_few.F n) (by kernel_rfl) (Eq.trans (mp_few.goal n hp) (by kernel_rfl))⟩
theorem mp_few.ok : SpecOK Go.Proofs.Try.prog (fun n => (noGl n).av) 45 (Ctr.fs (mp_few.c, mp_few.sg)) :=
  meets (l := mp_few.env) all_nil mp_few.chk (by
      intro ins outs h
      unfold mp_few.c at h
      split at h
      · obtain ⟨hp, rfl⟩ := h; exact mp_few.fit _ hp
      · exact h.elim)
theorem mp_fields.fit (it_kind : Int) (it_n : UInt64) (it_bytes : List UInt8) (it_text : Str) (it_kids : List Itm) (hp : (decide (Itm.bulk (Itm.of (Itv.mk it_kind it_n it_bytes it_text it_kids)) ≤ 1099511627776)) = true) : ([.ag [.i .i64 it_kind, .u64 it_n, .sl .bs it_bytes, .s it_text, .sl .il it_kids]] : List TV).length = mp_fields.d.np ∧ mp_fields.d.run (envL noGl mp_fields.env) [.ag [.i .i64 it_kind, .u64 it_n, .sl .bs it_bytes, .s it_text, .sl .il it_kids]] = some (([(.b (Mp.fieldsOK (Itm.of (Itv.mk it_kind it_n it_bytes it_text it_kids))))] : List TV) ++ mp_fields.d.ps.toList.map fun q => ([.ag [.i .i64 it_kind, .u64 it_n, .sl .bs it_bytes, .s it_text, .sl .il it_kids]] : List TV).getD q.1 .dead) :=
  ⟨by kernel_rfl, Eq.trans (b := mp_fields.F (Itv.mk it_kind it_n it_bytes it_text it_kids)) (by kernel_rfl) (Eq.trans (mp_fields.goal (Itv.mk it_kind it_n it_bytes it_text it_kids) hp) (by kernel_rfl))⟩
theorem mp_fields.ok : SpecOK Go.Proofs.Try.prog (fun n => (noGl n).av) 26 (Ctr.fs (mp_fields.c, mp_fields.sg)) :=
  meets (l := mp_fields.env) (all_cons mp_few.ok all_nil) mp_fields.chk (by
      intro ins outs h
      unfold mp_fields.c at h
      split at h
      · obtain ⟨hp, rfl⟩ := h; exact mp_fields.fit _ _ _ _ _ hp
      · exact h.elim)
theorem mp_Check.fit (n : Nat) (it_kind : Int) (it_n : UInt64) (it_bytes : List UInt8) (it_text : Str) (it_kids : List Itm) (hp : ((decide (Itm.bulk (Itm.of (Itv.mk it_kind it_n it_bytes it_text it_kids)) ≤ 1099511627776)) && decide ((Itm.bulk (Itm.of (Itv.mk it_kind it_n it_bytes it_text it_kids))) < n + 1)) = true) : ([.ag [.i .i64 it_kind, .u64 it_n, .sl .bs it_bytes, .s it_text, .sl .il it_kids]] : List TV).length = mp_Check.d.np ∧ mp_Check.d.run (envL noGl (mp_Check.env n)) [.ag [.i .i64 it_kind, .u64 it_n, .sl .bs it_bytes, .s it_text, .sl .il it_kids]] = some (([(.i .i64 (Mp.chk (Itm.of (Itv.mk it_kind it_n it_bytes it_text it_kids))))] : List TV) ++ mp_Check.d.ps.toList.map fun q => ([.ag [.i .i64 it_kind, .u64 it_n, .sl .bs it_bytes, .s it_text, .sl .il it_kids]] : List TV).getD q.1 .dead) :=
  ⟨by kernel_rfl, Eq.trans (b := mp_Check.F n (Itv.mk it_kind it_n it_bytes it_text it_kids)) (by kernel_rfl) (Eq.trans (mp_Check.goal n (Itv.mk it_kind it_n it_bytes it_text it_kids) hp) (by kernel_rfl))⟩
theorem mcheck.oks : ∀ n : Nat, (SpecOK Go.Proofs.Try.prog (fun n => (noGl n).av) 13 (Ctr.fs (mp_Check.cn n, mp_Check.sg))) := by
  intro n
  induction n with
  | zero => exact spec_zero (by
      intro ti to_ h
      unfold mp_Check.cn at h
      split at h
      · obtain ⟨h, _⟩ := h; simp at h
      · exact h.elim)
  | succ n ih =>
    have ih0 := ih
    exact meets (l := mp_Check.env n) (all_cons ih0 (all_cons mp_fields.ok (all_cons utf_Check.ok all_nil))) (mp_Check.chk n) (by
      intro ins outs h
      unfold mp_Check.cn at h
      split at h
      · obtain ⟨hp, rfl⟩ := h; exact mp_Check.fit n _ _ _ _ _ hp
      · exact h.elim)
theorem mp_Check.ok : SpecOK Go.Proofs.Try.prog (fun n => (noGl n).av) 13 (Ctr.fs (mp_Check.c, mp_Check.sg)) := spec_sub fun ti to_ h => by
  unfold mp_Check.c at h
  split at h
  · obtain ⟨hp, rfl⟩ := h; exact ⟨mp_Check.cn (_ + 1), (mcheck.oks _), Bool.and_eq_true_iff.2 ⟨hp, decide_eq_true (Nat.lt_succ_self _)⟩, rfl⟩
  · exact h.elim
theorem mp_wrong.fit (e : Int) (at_ : Int) : ([.i .i64 e, .i .i64 at_] : List TV).length = mp_wrong.d.np ∧ mp_wrong.d.run (envL noGl mp_wrong.env) [.i .i64 e, .i .i64 at_] = some (([(.ag (Itv.cells (Itm.val (Mp.zero)))), (.ag (Flt.cells ((Flt.mk e at_ []))))] : List TV) ++ mp_wrong.d.ps.toList.map fun q => ([.i .i64 e, .i .i64 at_] : List TV).getD q.1 .dead) :=
  ⟨by kernel_rfl, Eq.trans (b := mp_wrong.F e at_) (by kernel_rfl) (Eq.trans (mp_wrong.goal e at_) (by kernel_rfl))⟩
theorem mp_wrong.ok : SpecOK Go.Proofs.Try.prog (fun n => (noGl n).av) 29 (Ctr.fs (mp_wrong.c, mp_wrong.sg)) :=
  meets (l := mp_wrong.env) all_nil mp_wrong.chk (by
      intro ins outs h
      unfold mp_wrong.c at h
      split at h
      · cases h; exact mp_wrong.fit _ _
      · exact h.elim)
theorem mp_unsigned.fit (n : UInt64) : ([.u64 n] : List TV).length = mp_unsigned.d.np ∧ mp_unsigned.d.run (envL noGl mp_unsigned.env) [.u64 n] = some (([(.ag [(.i .i64 (Mp.unsigned n).1), (.i .i64 (Mp.unsigned n).2)])] : List TV) ++ mp_unsigned.d.ps.toList.map fun q => ([.u64 n] : List TV).getD q.1 .dead) :=
  ⟨by kernel_rfl, Eq.trans (b := mp_unsigned.F n) (by kernel_rfl) (Eq.trans (mp_unsigned.goal n) (by kernel_rfl))⟩
theorem mp_unsigned.ok : SpecOK Go.Proofs.Try.prog (fun n => (noGl n).av) 38 (Ctr.fs (mp_unsigned.c, mp_unsigned.sg)) :=
  meets (l := mp_unsigned.env) all_nil mp_unsigned.chk (by
      intro ins outs h
      unfold mp_unsigned.c at h
      split at h
      · cases h; exact mp_unsigned.fit _
      · exact h.elim)
theorem mp_signed.fit (n : UInt64) : ([.u64 n] : List TV).length = mp_signed.d.np ∧ mp_signed.d.run (envL noGl mp_signed.env) [.u64 n] = some (([(.ag [(.i .i64 (Mp.signed n).1), (.i .i64 (Mp.signed n).2)])] : List TV) ++ mp_signed.d.ps.toList.map fun q => ([.u64 n] : List TV).getD q.1 .dead) :=
  ⟨by kernel_rfl, Eq.trans (b := mp_signed.F n) (by kernel_rfl) (Eq.trans (mp_signed.goal n) (by kernel_rfl))⟩
theorem mp_signed.ok : SpecOK Go.Proofs.Try.prog (fun n => (noGl n).av) 39 (Ctr.fs (mp_signed.c, mp_signed.sg)) :=
  meets (l := mp_signed.env) all_nil mp_signed.chk (by
      intro ins outs h
      unfold mp_signed.c at h
      split at h
      · cases h; exact mp_signed.fit _
      · exact h.elim)
theorem mp_put.fit (w_b : List UInt8) (f_at : Int) (f_end : Int) (n : UInt64) (hp : (decide (((Wtr.mk w_b)).b.length + 10 ≤ 1099511627776)) = true) : ([.ag [.sl .bs w_b], .ag [.i .i64 f_at, .i .i64 f_end], .u64 n] : List TV).length = mp_put.d.np ∧ mp_put.d.run (envL noGl mp_put.env) [.ag [.sl .bs w_b], .ag [.i .i64 f_at, .i .i64 f_end], .u64 n] = some (([(.ag (Wtr.cells ((Wtr.mk (((Wtr.mk w_b)).b ++ Mp.put (((Spn.mk f_at f_end)).at_, ((Spn.mk f_at f_end)).end_) n)))))] : List TV) ++ mp_put.d.ps.toList.map fun q => ([.ag [.sl .bs w_b], .ag [.i .i64 f_at, .i .i64 f_end], .u64 n] : List TV).getD q.1 .dead) :=
  ⟨by kernel_rfl, Eq.trans (b := mp_put.F (Wtr.mk w_b) (Spn.mk f_at f_end) n) (by kernel_rfl) (Eq.trans (mp_put.goal (Wtr.mk w_b) (Spn.mk f_at f_end) n hp) (by kernel_rfl))⟩
theorem mp_put.ok : SpecOK Go.Proofs.Try.prog (fun n => (noGl n).av) 37 (Ctr.fs (mp_put.c, mp_put.sg)) :=
  meets (l := mp_put.env) (all_cons wr_Byte.ok (all_cons wr_High.ok all_nil)) mp_put.chk (by
      intro ins outs h
      unfold mp_put.c at h
      split at h
      · obtain ⟨hp, rfl⟩ := h; exact mp_put.fit _ _ _ _ hp
      · exact h.elim)
theorem mp_lay.fit (n : Nat) (w_b : List UInt8) (it_kind : Int) (it_n : UInt64) (it_bytes : List UInt8) (it_text : Str) (it_kids : List Itm) (hp : ((decide (((Wtr.mk w_b)).b.length + 16 * Itm.bulk (Itm.of (Itv.mk it_kind it_n it_bytes it_text it_kids)) ≤ 1099511627776) && decide (Mp.chk (Itm.of (Itv.mk it_kind it_n it_bytes it_text it_kids)) = 0)) && decide ((Itm.bulk (Itm.of (Itv.mk it_kind it_n it_bytes it_text it_kids))) < n + 1)) = true) : ([.ag [.sl .bs w_b], .ag [.i .i64 it_kind, .u64 it_n, .sl .bs it_bytes, .s it_text, .sl .il it_kids]] : List TV).length = mp_lay.d.np ∧ mp_lay.d.run (envL noGl (mp_lay.env n)) [.ag [.sl .bs w_b], .ag [.i .i64 it_kind, .u64 it_n, .sl .bs it_bytes, .s it_text, .sl .il it_kids]] = some (([(.ag (Wtr.cells ((Wtr.mk (((Wtr.mk w_b)).b ++ Mp.lay (Itm.of (Itv.mk it_kind it_n it_bytes it_text it_kids)))))))] : List TV) ++ mp_lay.d.ps.toList.map fun q => ([.ag [.sl .bs w_b], .ag [.i .i64 it_kind, .u64 it_n, .sl .bs it_bytes, .s it_text, .sl .il it_kids]] : List TV).getD q.1 .dead) :=
  ⟨by kernel_rfl, Eq.trans (b := mp_lay.F n (Wtr.mk w_b) (Itv.mk it_kind it_n it_bytes it_text it_kids)) (by kernel_rfl) (Eq.trans (mp_lay.goal n (Wtr.mk w_b) (Itv.mk it_kind it_n it_bytes it_text it_kids) hp) (by kernel_rfl))⟩
theorem mlay.oks : ∀ n : Nat, (SpecOK Go.Proofs.Try.prog (fun n => (noGl n).av) 23 (Ctr.fs (mp_lay.cn n, mp_lay.sg))) := by
  intro n
  induction n with
  | zero => exact spec_zero (by
      intro ti to_ h
      unfold mp_lay.cn at h
      split at h
      · obtain ⟨h, _⟩ := h; simp at h
      · exact h.elim)
  | succ n ih =>
    have ih0 := ih
    exact meets (l := mp_lay.env n) (all_cons ih0 (all_cons mp_put.ok (all_cons mp_unsigned.ok (all_cons mp_signed.ok (all_cons wr_Byte.ok (all_cons mp_sized.ok (all_cons wr_Raw.ok all_nil))))))) (mp_lay.chk n) (by
      intro ins outs h
      unfold mp_lay.cn at h
      split at h
      · obtain ⟨hp, rfl⟩ := h; exact mp_lay.fit n _ _ _ _ _ _ hp
      · exact h.elim)
theorem mp_lay.ok : SpecOK Go.Proofs.Try.prog (fun n => (noGl n).av) 23 (Ctr.fs (mp_lay.c, mp_lay.sg)) := spec_sub fun ti to_ h => by
  unfold mp_lay.c at h
  split at h
  · obtain ⟨hp, rfl⟩ := h; exact ⟨mp_lay.cn (_ + 1), (mlay.oks _), Bool.and_eq_true_iff.2 ⟨hp, decide_eq_true (Nat.lt_succ_self _)⟩, rfl⟩
  · exact h.elim
theorem mp_Encode.fit (it_kind : Int) (it_n : UInt64) (it_bytes : List UInt8) (it_text : Str) (it_kids : List Itm) (hp : (decide (Itm.bulk (Itm.of (Itv.mk it_kind it_n it_bytes it_text it_kids)) ≤ 1073741824)) = true) : ([.ag [.i .i64 it_kind, .u64 it_n, .sl .bs it_bytes, .s it_text, .sl .il it_kids]] : List TV).length = mp_Encode.d.np ∧ mp_Encode.d.run (envL noGl mp_Encode.env) [.ag [.i .i64 it_kind, .u64 it_n, .sl .bs it_bytes, .s it_text, .sl .il it_kids]] = some (([(.sl .bs (Mp.enc (Itm.of (Itv.mk it_kind it_n it_bytes it_text it_kids)))), (.i .i64 (Mp.chk (Itm.of (Itv.mk it_kind it_n it_bytes it_text it_kids))))] : List TV) ++ mp_Encode.d.ps.toList.map fun q => ([.ag [.i .i64 it_kind, .u64 it_n, .sl .bs it_bytes, .s it_text, .sl .il it_kids]] : List TV).getD q.1 .dead) :=
  ⟨by kernel_rfl, Eq.trans (b := mp_Encode.F (Itv.mk it_kind it_n it_bytes it_text it_kids)) (by kernel_rfl) (Eq.trans (mp_Encode.goal (Itv.mk it_kind it_n it_bytes it_text it_kids) hp) (by kernel_rfl))⟩
theorem mp_Encode.ok : SpecOK Go.Proofs.Try.prog (fun n => (noGl n).av) 11 (Ctr.fs (mp_Encode.c, mp_Encode.sg)) :=
  meets (l := mp_Encode.env) (all_cons mp_Check.ok (all_cons cur_Lay.ok (all_cons mp_lay.ok (all_cons wr_Bytes.ok all_nil)))) mp_Encode.chk (by
      intro ins outs h
      unfold mp_Encode.c at h
      split at h
      · obtain ⟨hp, rfl⟩ := h; exact mp_Encode.fit _ _ _ _ _ hp
      · exact h.elim)
theorem mp_first.fit (c : Int) (hp : (decide (0 ≤ c ∧ c ≤ 255)) = true) : ([.i .i64 c] : List TV).length = mp_first.d.np ∧ mp_first.d.run (envL noGl mp_first.env) [.i .i64 c] = some (([(.i .i64 ((Mp.first c).1)), (.u64 ((Mp.first c).2.1)), (.i .i64 ((Mp.first c).2.2))] : List TV) ++ mp_first.d.ps.toList.map fun q => ([.i .i64 c] : List TV).getD q.1 .dead) :=
  ⟨by kernel_rfl, Eq.trans (b := mp_first.F c) (by kernel_rfl) (Eq.trans (mp_first.goal c hp) (by kernel_rfl))⟩
theorem mp_first.ok : SpecOK Go.Proofs.Try.prog (fun n => (noGl n).av) 49 (Ctr.fs (mp_first.c, mp_first.sg)) :=
  meets (l := mp_first.env) all_nil mp_first.chk (by
      intro ins outs h
      unfold mp_first.c at h
      split at h
      · obtain ⟨hp, rfl⟩ := h; exact mp_first.fit _ hp
      · exact h.elim)
theorem mp_number.fit (it_kind : Int) (it_n : UInt64) (it_bytes : List UInt8) (it_text : Str) (it_kids : List Itm) (p : Int) (c : Int) (f_at : Int) (f_end : Int) : ([.ag [.i .i64 it_kind, .u64 it_n, .sl .bs it_bytes, .s it_text, .sl .il it_kids], .i .i64 p, .i .i64 c, .ag [.i .i64 f_at, .i .i64 f_end]] : List TV).length = mp_number.d.np ∧ mp_number.d.run (envL noGl mp_number.env) [.ag [.i .i64 it_kind, .u64 it_n, .sl .bs it_bytes, .s it_text, .sl .il it_kids], .i .i64 p, .i .i64 c, .ag [.i .i64 f_at, .i .i64 f_end]] = some (([(.ag (Itv.cells (Itm.val ((Mp.num (Itm.of (Itv.mk it_kind it_n it_bytes it_text it_kids)) p c ((Spn.mk f_at f_end)).at_ 0).it)))), (.ag (Flt.cells ((Flt.mk (Mp.num (Itm.of (Itv.mk it_kind it_n it_bytes it_text it_kids)) p c ((Spn.mk f_at f_end)).at_ 0).err (Mp.num (Itm.of (Itv.mk it_kind it_n it_bytes it_text it_kids)) p c ((Spn.mk f_at f_end)).at_ 0).at_ []))))] : List TV) ++ mp_number.d.ps.toList.map fun q => ([.ag [.i .i64 it_kind, .u64 it_n, .sl .bs it_bytes, .s it_text, .sl .il it_kids], .i .i64 p, .i .i64 c, .ag [.i .i64 f_at, .i .i64 f_end]] : List TV).getD q.1 .dead) :=
  ⟨by kernel_rfl, Eq.trans (b := mp_number.F (Itv.mk it_kind it_n it_bytes it_text it_kids) p c (Spn.mk f_at f_end)) (by kernel_rfl) (Eq.trans (mp_number.goal (Itv.mk it_kind it_n it_bytes it_text it_kids) p c (Spn.mk f_at f_end)) (by kernel_rfl))⟩
theorem mp_number.ok : SpecOK Go.Proofs.Try.prog (fun n => (noGl n).av) 51 (Ctr.fs (mp_number.c, mp_number.sg)) :=
  meets (l := mp_number.env) (all_cons mp_wrong.ok all_nil) mp_number.chk (by
      intro ins outs h
      unfold mp_number.c at h
      split at h
      · cases h; exact mp_number.fit _ _ _ _ _ _ _ _ _
      · exact h.elim)
theorem mp_number.okw : SpecOK Go.Proofs.Try.prog (fun n => (noGl n).av) 51 (Ctr.fs (mp_number.cw, mp_number.sg)) := spec_wk rfl (by decide) mp_number.ok
theorem mp_row.fit (r_b : List UInt8) (r_at : Int) (it_kind : Int) (it_n : UInt64) (it_bytes : List UInt8) (it_text : Str) (it_kids : List Itm) (p : Int) (n : Int) (hp : (Cur.good (Rdr.mk r_b r_at)) = true) : ([.ag [.sl .bs r_b, .i .i64 r_at], .ag [.i .i64 it_kind, .u64 it_n, .sl .bs it_bytes, .s it_text, .sl .il it_kids], .i .i64 p, .i .i64 n] : List TV).length = mp_row.d.np ∧ mp_row.d.run (envL noGl mp_row.env) [.ag [.sl .bs r_b, .i .i64 r_at], .ag [.i .i64 it_kind, .u64 it_n, .sl .bs it_bytes, .s it_text, .sl .il it_kids], .i .i64 p, .i .i64 n] = some (([(.ag (Itv.cells (Itm.val ((Mp.row ((Rdr.mk r_b r_at)).b (Itm.of (Itv.mk it_kind it_n it_bytes it_text it_kids)) p ((Rdr.mk r_b r_at)).at_ n).it)))), (.ag (Flt.cells ((Flt.mk (Mp.row ((Rdr.mk r_b r_at)).b (Itm.of (Itv.mk it_kind it_n it_bytes it_text it_kids)) p ((Rdr.mk r_b r_at)).at_ n).err (Mp.row ((Rdr.mk r_b r_at)).b (Itm.of (Itv.mk it_kind it_n it_bytes it_text it_kids)) p ((Rdr.mk r_b r_at)).at_ n).at_ [])))), (.ag (Rdr.cells ((Rdr.mk ((Rdr.mk r_b r_at)).b (Mp.row ((Rdr.mk r_b r_at)).b (Itm.of (Itv.mk it_kind it_n it_bytes it_text it_kids)) p ((Rdr.mk r_b r_at)).at_ n).pos))))] : List TV) ++ mp_row.d.ps.toList.map fun q => ([.ag [.sl .bs r_b, .i .i64 r_at], .ag [.i .i64 it_kind, .u64 it_n, .sl .bs it_bytes, .s it_text, .sl .il it_kids], .i .i64 p, .i .i64 n] : List TV).getD q.1 .dead) :=
  ⟨by kernel_rfl, Eq.trans (b := mp_row.F (Rdr.mk r_b r_at) (Itv.mk it_kind it_n it_bytes it_text it_kids) p n) (by kernel_rfl) (Eq.trans (mp_row.goal (Rdr.mk r_b r_at) (Itv.mk it_kind it_n it_bytes it_text it_kids) p n hp) (by kernel_rfl))⟩
theorem mp_row.ok : SpecOK Go.Proofs.Try.prog (fun n => (noGl n).av) 53 (Ctr.fs (mp_row.c, mp_row.sg)) :=
  meets (l := mp_row.env) (all_cons utf_Check.ok (all_cons mp_wrong.ok (all_cons rd_Take.ok all_nil))) mp_row.chk (by
      intro ins outs h
      unfold mp_row.c at h
      split at h
      · obtain ⟨hp, rfl⟩ := h; exact mp_row.fit _ _ _ _ _ _ _ _ _ hp
      · exact h.elim)
theorem mp_row.okw : SpecOK Go.Proofs.Try.prog (fun n => (noGl n).av) 53 (Ctr.fs (mp_row.cw, mp_row.sg)) := spec_wk rfl (by decide) mp_row.ok
theorem mp_kids.fit (n : Nat) (r_b : List UInt8) (r_at : Int) (it_kind : Int) (it_n : UInt64) (it_text : Str) (m : Int) (depth : Int) (hp : ((Cur.good (Rdr.mk r_b r_at) && decide (0 ≤ m ∧ m ≤ 4294967296 ∧ 1 ≤ depth ∧ depth ≤ 1000)) && decide ((2 * (depth).toNat) < n + 1)) = true) : ([.ag [.sl .bs r_b, .i .i64 r_at], .ag [.i .i64 it_kind, .u64 it_n, .c (.slice none 0 0), .s it_text, .c (.slice none 0 0)], .i .i64 m, .i .i64 depth] : List TV).length = mp_kids.d.np ∧ mp_kids.d.run (envL noGl (mp_kids.env n)) [.ag [.sl .bs r_b, .i .i64 r_at], .ag [.i .i64 it_kind, .u64 it_n, .c (.slice none 0 0), .s it_text, .c (.slice none 0 0)], .i .i64 m, .i .i64 depth] = some (([(.ag (Itv.cells (Itm.val ((Mp.kids (Mp.read ((Rdr.mk r_b r_at)).b (depth - 1).toNat) (Itm.of (Itv.mk it_kind it_n [] it_text [])) (Mp.many ((Itv.mk it_kind it_n [] it_text [])).kind m) ((Rdr.mk r_b r_at)).at_).it)))), (.ag (Flt.cells ((Flt.mk (Mp.kids (Mp.read ((Rdr.mk r_b r_at)).b (depth - 1).toNat) (Itm.of (Itv.mk it_kind it_n [] it_text [])) (Mp.many ((Itv.mk it_kind it_n [] it_text [])).kind m) ((Rdr.mk r_b r_at)).at_).err (Mp.kids (Mp.read ((Rdr.mk r_b r_at)).b (depth - 1).toNat) (Itm.of (Itv.mk it_kind it_n [] it_text [])) (Mp.many ((Itv.mk it_kind it_n [] it_text [])).kind m) ((Rdr.mk r_b r_at)).at_).at_ [])))), (.ag (Rdr.cells ((Rdr.mk ((Rdr.mk r_b r_at)).b (Mp.kids (Mp.read ((Rdr.mk r_b r_at)).b (depth - 1).toNat) (Itm.of (Itv.mk it_kind it_n [] it_text [])) (Mp.many ((Itv.mk it_kind it_n [] it_text [])).kind m) ((Rdr.mk r_b r_at)).at_).pos))))] : List TV) ++ mp_kids.d.ps.toList.map fun q => ([.ag [.sl .bs r_b, .i .i64 r_at], .ag [.i .i64 it_kind, .u64 it_n, .c (.slice none 0 0), .s it_text, .c (.slice none 0 0)], .i .i64 m, .i .i64 depth] : List TV).getD q.1 .dead) :=
  ⟨by kernel_rfl, Eq.trans (b := mp_kids.F n (Rdr.mk r_b r_at) (Itv.mk it_kind it_n [] it_text []) m depth) (by kernel_rfl) (Eq.trans (mp_kids.goal n (Rdr.mk r_b r_at) (Itv.mk it_kind it_n [] it_text []) m depth hp) (by kernel_rfl))⟩
theorem mp_read.fit (n : Nat) (r_b : List UInt8) (r_at : Int) (depth : Int) (hp : ((Cur.good (Rdr.mk r_b r_at) && decide (0 ≤ depth ∧ depth ≤ 1000)) && decide ((2 * (depth).toNat + 1) < n + 1)) = true) : ([.ag [.sl .bs r_b, .i .i64 r_at], .i .i64 depth] : List TV).length = mp_read.d.np ∧ mp_read.d.run (envL noGl (mp_read.env n)) [.ag [.sl .bs r_b, .i .i64 r_at], .i .i64 depth] = some (([(.ag (Itv.cells (Itm.val ((Mp.read ((Rdr.mk r_b r_at)).b (depth).toNat ((Rdr.mk r_b r_at)).at_).it)))), (.ag (Flt.cells ((Flt.mk (Mp.read ((Rdr.mk r_b r_at)).b (depth).toNat ((Rdr.mk r_b r_at)).at_).err (Mp.read ((Rdr.mk r_b r_at)).b (depth).toNat ((Rdr.mk r_b r_at)).at_).at_ [])))), (.ag (Rdr.cells ((Rdr.mk ((Rdr.mk r_b r_at)).b (Mp.read ((Rdr.mk r_b r_at)).b (depth).toNat ((Rdr.mk r_b r_at)).at_).pos))))] : List TV) ++ mp_read.d.ps.toList.map fun q => ([.ag [.sl .bs r_b, .i .i64 r_at], .i .i64 depth] : List TV).getD q.1 .dead) :=
  ⟨by kernel_rfl, Eq.trans (b := mp_read.F n (Rdr.mk r_b r_at) depth) (by kernel_rfl) (Eq.trans (mp_read.goal n (Rdr.mk r_b r_at) depth hp) (by kernel_rfl))⟩
theorem mread.oks : ∀ n : Nat, (SpecOK Go.Proofs.Try.prog (fun n => (noGl n).av) 52 (Ctr.fs (mp_kids.cn n, mp_kids.sg))) ∧ (SpecOK Go.Proofs.Try.prog (fun n => (noGl n).av) 31 (Ctr.fs (mp_read.cn n, mp_read.sg))) := by
  intro n
  induction n with
  | zero => exact ⟨spec_zero (by
      intro ti to_ h
      unfold mp_kids.cn at h
      split at h
      · obtain ⟨h, _⟩ := h; simp at h
      · exact h.elim), spec_zero (by
      intro ti to_ h
      unfold mp_read.cn at h
      split at h
      · obtain ⟨h, _⟩ := h; simp at h
      · exact h.elim)⟩
  | succ n ih =>
    obtain ⟨ih0, ih1⟩ := ih
    exact ⟨meets (l := mp_kids.env n) (all_cons ih1 all_nil) (mp_kids.chk n) (by
      intro ins outs h
      unfold mp_kids.cn at h
      split at h
      · obtain ⟨hp, rfl⟩ := h; exact mp_kids.fit n _ _ _ _ _ _ _ hp
      · exact h.elim), meets (l := mp_read.env n) (all_cons mp_wrong.ok (all_cons rd_At.ok (all_cons mp_unsigned.ok (all_cons mp_signed.ok (all_cons mp_sized.ok (all_cons rd_Byte.ok (all_cons mp_first.ok (all_cons rd_High.ok (all_cons mp_number.okw (all_cons ih0 (all_cons mp_row.okw all_nil))))))))))) (mp_read.chk n) (by
      intro ins outs h
      unfold mp_read.cn at h
      split at h
      · obtain ⟨hp, rfl⟩ := h; exact mp_read.fit n _ _ _ hp
      · exact h.elim)⟩
theorem mp_read.ok : SpecOK Go.Proofs.Try.prog (fun n => (noGl n).av) 31 (Ctr.fs (mp_read.c, mp_read.sg)) := spec_sub fun ti to_ h => by
  unfold mp_read.c at h
  split at h
  · obtain ⟨hp, rfl⟩ := h; exact ⟨mp_read.cn (_ + 1), (mread.oks _).2, Bool.and_eq_true_iff.2 ⟨hp, decide_eq_true (Nat.lt_succ_self _)⟩, rfl⟩
  · exact h.elim
theorem mp_Decode.fit (b : List UInt8) (depth : Int) (hp : (decide ((b).length ≤ 1099511627776)) = true) : ([.sl .bs b, .i .i64 depth] : List TV).length = mp_Decode.d.np ∧ mp_Decode.d.run (envL noGl mp_Decode.env) [.sl .bs b, .i .i64 depth] = some (([(.ag (Itv.cells (Itm.val ((Mp.dec b depth).1)))), (.ag (Flt.cells ((Mp.dec b depth).2)))] : List TV) ++ mp_Decode.d.ps.toList.map fun q => ([.sl .bs b, .i .i64 depth] : List TV).getD q.1 .dead) :=
  ⟨by kernel_rfl, Eq.trans (b := mp_Decode.F b depth) (by kernel_rfl) (Eq.trans (mp_Decode.goal b depth hp) (by kernel_rfl))⟩
theorem mp_Decode.ok : SpecOK Go.Proofs.Try.prog (fun n => (noGl n).av) 15 (Ctr.fs (mp_Decode.c, mp_Decode.sg)) :=
  meets (l := mp_Decode.env) (all_cons mp_wrong.ok (all_cons cur_New.ok (all_cons mp_read.ok (all_cons rd_Left.ok (all_cons rd_At.ok all_nil))))) mp_Decode.chk (by
      intro ins outs h
      unfold mp_Decode.c at h
      split at h
      · obtain ⟨hp, rfl⟩ := h; exact mp_Decode.fit _ _ hp
      · exact h.elim)
theorem law29_awake.fit : ([] : List TV).length = law29_awake.d.np ∧ law29_awake.d.run (envL noGl law29_awake.env) [] = some (([(.b (true))] : List TV) ++ law29_awake.d.ps.toList.map fun q => ([] : List TV).getD q.1 .dead) :=
  ⟨by kernel_rfl, Eq.trans (b := law29_awake.F ) (by kernel_rfl) (Eq.trans (law29_awake.goal ) (by kernel_rfl))⟩
theorem law29_awake.ok : SpecOK Go.Proofs.Try.prog (fun n => (noGl n).av) 9 (Ctr.fs (law29_awake.c, law29_awake.sg)) :=
  meets (l := law29_awake.env) (all_cons mp_Encode.ok (all_cons mp_Decode.ok all_nil)) law29_awake.chk (by
      intro ins outs h
      unfold law29_awake.c at h
      split at h
      · cases h; exact law29_awake.fit
      · exact h.elim)
end Go.Eng
namespace Go.Eng
open Go.IntWalk
theorem Mp.head_read (pre rest : Str) (f : Int × Int) (x : UInt64) (k : Int) (n0 : UInt64) (d : Nat) (h0 : 0 ≤ f.1 ∧ f.1 ≤ 255) (hf : Mp.first f.1 = (k, n0, f.2)) (hk : k ≠ 0) (hl : f.2 = 0 ∨ f.2 = 1 ∨ f.2 = 2 ∨ f.2 = 4 ∨ f.2 = 8) :
    Mp.read (pre ++ (Mp.put f x ++ rest)) (d + 1) pre.length = Mp.readTail (pre ++ (Mp.put f x ++ rest)) (Mp.read (pre ++ (Mp.put f x ++ rest)) d) pre.length f.1 k (if f.2 = 0 then n0 else Cur.be (Cur.high x f.2)) f.2 ((pre.length : Int) + 1 + f.2) := by
  have hh : (Cur.high x f.2).length = f.2.toNat := by
    unfold Cur.high
    split
    · rw [Cur.putHigh_len]
    · have : f.2 = 0 := by omega
      rw [this]; rfl
  generalize hb : pre ++ (Mp.put f x ++ rest) = b
  have hlen : b.length = pre.length + (1 + f.2.toNat) + rest.length := by
    rw [← hb]; simp only [List.length_append, Mp.put, List.length_cons, hh]; omega
  have hc : b.getD pre.length 0 = UInt8.ofInt f.1 := by
    rw [← hb, List.getD_eq_getElem?_getD, List.getElem?_append_right (Nat.le_refl _), Nat.sub_self]; rfl
  have hcn : ((UInt8.ofInt f.1).toNat : Int) = f.1 := by
    obtain ⟨m, hm⟩ : ∃ m : Nat, f.1 = m := ⟨f.1.toNat, by omega⟩
    rw [hm, u8_nat]; omega
  have hd : (b.drop (pre.length + 1)).take f.2.toNat = Cur.high x f.2 := by
    rw [← hb, show pre ++ (Mp.put f x ++ rest) = (pre ++ [UInt8.ofInt f.1]) ++ (Cur.high x f.2 ++ rest) by simp [Mp.put], List.drop_left' (by simp), List.take_left' hh]
  rw [Mp.read, if_neg (by omega), Int.toNat_natCast, hc, hcn, hf, Mp.readAt, if_neg hk, if_neg (by simp only; omega), show ((pre.length : Int) + 1).toNat = pre.length + 1 by omega, hd]
theorem Mp.put_length (f : Int × Int) (x : UInt64) (hl : f.2 = 0 ∨ f.2 = 1 ∨ f.2 = 2 ∨ f.2 = 4 ∨ f.2 = 8) : (Mp.put f x).length = 1 + f.2.toNat := by
  rw [Mp.put, List.length_cons]
  unfold Cur.high
  split
  · rw [Cur.putHigh_len]; omega
  · have : f.2 = 0 := by omega
    rw [this]; rfl
theorem Cur.be_high (x : UInt64) (long : Int) (hl : long = 1 ∨ long = 2 ∨ long = 4 ∨ long = 8) : (Cur.be (Cur.high x long)).toNat = x.toNat % 256 ^ long.toNat := by
  rw [Cur.high, if_pos (by omega), Cur.be_put _ _ (by omega)]
end Go.Eng
namespace Go.Eng
noncomputable section
def MpackForms.sg : FSig := {}
def MpackForms.c : Ctr := fun l => match l with
  | [.u64 n, .i .i64 size] => .ok [(.b (true))]
  | _ => .err
end
noncomputable section
def MpackForms.env : List (Nat × (Ctr × FSig)) := [(9, (law29_awake.c, law29_awake.sg)), (15, (mp_Decode.c, mp_Decode.sg))]
def MpackForms.E : TEnv := envL noGl MpackForms.env
def MpackForms.m1 : TM := .seq (.seq (.reg [
    ⟨.k .mv, [.s 7], [38], none⟩,
    ⟨.k (.bin .geq), [.s 38, .c (.i .i64 (0 : Int))], [39], none⟩]) none (.cond (.s 39) [] .skip (.exit 0))) none (.seq (.block 1 [(6, .tip 102 1), (lk 102, .live 1)] (.reg [
    ⟨.k .mv, [.s 6], [42], none⟩,
    ⟨.k .mv, [.s 0], [43], none⟩,
    ⟨.k .mv, [.s 7], [44], none⟩,
    ⟨.k (.bin .mul), [.c (.i .i64 (8 : Int)), .s 44], [45], none⟩,
    ⟨.k (.ci .u64), [.s 45], [46], none⟩,
    ⟨.k (.bin .shr), [.s 43, .s 46], [47], none⟩,
    ⟨.k (.ci .u8), [.s 47], [48], none⟩,
    ⟨.bl .bs 1, [.s 48], [49], none⟩,
    ⟨.k (.ap 100 102 1 1), [.s 42, .s 49, .s (lk 100), .s (lk 102)], [50, lk 100, lk 102], none⟩,
    ⟨.k .mv, [.s 50], [6], none⟩])) none (.reg [
    ⟨.k .mv, [.s 7], [40], none⟩,
    ⟨.k (.bin .sub), [.s 40, .c (.i .i64 (1 : Int))], [41], none⟩,
    ⟨.k .mv, [.s 41], [7], none⟩]))
def MpackForms.m : TM := .seq (.reg [
    ⟨.k .mv, [.c (.b false)], [4], none⟩]) none (.seq (.seq (.reg [
    ⟨.k (.call 9 (.plain 0 1)), [], [11], none⟩,
    ⟨.k (.un .not), [.s 11], [12], none⟩]) none (.cond (.s 12) [] (.seq (.reg [
    ⟨.k .mv, [.c (.b false)], [4], none⟩]) none .ret) .skip)) none (.seq (.seq (.reg [
    ⟨.k .mv, [.s 1], [13], none⟩,
    ⟨.k (.bin .lss), [.s 13, .c (.i .i64 (0 : Int))], [14], none⟩,
    ⟨.k .mv, [.s 14], [15], none⟩,
    ⟨.k .mv, [.s 1], [16], some (15, false)⟩,
    ⟨.k (.bin .gtr), [.s 16, .c (.i .i64 (3 : Int))], [17], some (15, false)⟩,
    ⟨.k .pick, [.s 15, .c (.b true), .s 17], [18], none⟩]) none (.cond (.s 18) [] (.seq (.reg [
    ⟨.k .mv, [.c (.b true)], [4], none⟩]) none .ret) .skip)) none (.seq (.reg [
    ⟨.k .mv, [.s 1], [19], none⟩,
    ⟨.k (.ci .u64), [.s 19], [20], none⟩,
    ⟨.k (.bin .shl), [.c (.i .i64 (1 : Int)), .s 20], [21], none⟩,
    ⟨.k .mv, [.s 21], [5], none⟩]) none (.seq (.seq (.reg [
    ⟨.k .mv, [.s 5], [22], none⟩,
    ⟨.k (.bin .lss), [.s 22, .c (.i .i64 (8 : Int))], [23], none⟩,
    ⟨.k .mv, [.s 23], [24], none⟩,
    ⟨.k .mv, [.s 0], [25], some (24, true)⟩,
    ⟨.k .mv, [.s 5], [26], some (24, true)⟩,
    ⟨.k (.bin .mul), [.c (.i .i64 (8 : Int)), .s 26], [27], some (24, true)⟩,
    ⟨.k (.ci .u64), [.s 27], [28], some (24, true)⟩,
    ⟨.k (.bin .shr), [.s 25, .s 28], [29], some (24, true)⟩,
    ⟨.k (.bin .gtr), [.s 29, .c (.u64 (0 : UInt64))], [30], some (24, true)⟩,
    ⟨.k .pick, [.s 24, .s 30, .c (.b false)], [31], none⟩]) none (.cond (.s 31) [] (.seq (.reg [
    ⟨.k .mv, [.c (.b true)], [4], none⟩]) none .ret) .skip)) none (.seq (.reg [
    ⟨.k .mv, [.s 1], [32], none⟩,
    ⟨.k (.bin .add), [.c (.i .i64 (204 : Int)), .s 32], [33], none⟩,
    ⟨.k (.ci .u8), [.s 33], [34], none⟩,
    ⟨.blt .bs 1 100, [.s 34, .s (lk 100)], [35, lk 100], none⟩,
    ⟨.k .mv, [.s 35], [6], none⟩]) none (.seq (.seq (.reg [
    ⟨.k .mv, [.s 5], [36], none⟩,
    ⟨.k (.bin .sub), [.s 36, .c (.i .i64 (1 : Int))], [37], none⟩,
    ⟨.k .mv, [.s 37], [7], none⟩]) none (.block 0 [(6, .tip 100 1), (lk 100, .live 1)] (.loop [0, 1, 5, 6, 7] [(6, .tip 100 1), (lk 100, .live 1)] MpackForms.m1))) none (.seq (.reg [
    ⟨.k .mv, [.s 0], [51], none⟩,
    ⟨.k (.bin .geq), [.s 51, .c (.u64 (128 : UInt64))], [52], none⟩,
    ⟨.k .mv, [.s 52], [53], none⟩,
    ⟨.k .mv, [.s 1], [54], some (53, true)⟩,
    ⟨.k (.bin .eql), [.s 54, .c (.i .i64 (0 : Int))], [55], some (53, true)⟩,
    ⟨.k .mv, [.s 55], [56], some (53, true)⟩,
    ⟨.k .mv, [.s 0], [57], some (56, false)⟩,
    ⟨.k .mv, [.s 5], [58], some (56, false)⟩,
    ⟨.k (.bin .mul), [.c (.i .i64 (4 : Int)), .s 58], [59], some (56, false)⟩,
    ⟨.k (.ci .u64), [.s 59], [60], some (56, false)⟩,
    ⟨.k (.bin .shr), [.s 57, .s 60], [61], some (56, false)⟩,
    ⟨.k (.bin .gtr), [.s 61, .c (.u64 (0 : UInt64))], [62], some (56, false)⟩,
    ⟨.k .pick, [.s 56, .c (.b true), .s 62], [63], some (53, true)⟩,
    ⟨.k .pick, [.s 53, .s 63, .c (.b false)], [64], none⟩,
    ⟨.k .mv, [.s 64], [8], none⟩]) none (.seq (.reg [
    ⟨.k .mv, [.s 6], [66], none⟩,
    ⟨.k (.call 15 (.plain 2 2)), [.s 66, .c (.i .i64 (1 : Int))], [67], none⟩,
    ⟨.k .mv, [.s 67], [65], none⟩,
    ⟨.k (.ex 0), [.s 65], [68], none⟩,
    ⟨.k (.ex 1), [.s 65], [69], none⟩,
    ⟨.al 1094 [(.i .i64 (0 : Int)), (.u64 (0 : UInt64)), (.sl .bs ([] : List UInt8)), (.s ([] : Str)), (.sl .il ([] : List Itm))] [], [.s 1094], [9, 1094], none⟩,
    ⟨.al 1095 [(.i .i64 (0 : Int)), (.i .i64 (0 : Int)), (.sl .is ([] : List Int))] [], [.s 1095], [10, 1095], none⟩,
    ⟨.k (.st 1094 0 5), [.s 9, .s 1094, .s 68], [1094], none⟩,
    ⟨.k (.st 1095 0 3), [.s 10, .s 1095, .s 69], [1095], none⟩]) none (.seq (.seq (.reg [
    ⟨.k .mv, [.s 8], [70], none⟩,
    ⟨.k (.un .not), [.s 70], [71], none⟩]) none (.cond (.s 71) [] (.seq (.reg [
    ⟨.k (.fa 1095 0 0), [.s 10], [72], none⟩,
    ⟨.k (.ld 1095 0 1 false), [.s 72, .s 1095], [73], none⟩,
    ⟨.k (.bin .eql), [.s 73, .c (.i .i64 (3 : Int))], [74], none⟩,
    ⟨.k .mv, [.s 74], [75], none⟩,
    ⟨.k (.fa 1095 0 1), [.s 10], [76], some (75, true)⟩,
    ⟨.k (.ld 1095 1 1 false), [.s 76, .s 1095], [77], some (75, true)⟩,
    ⟨.k (.bin .eql), [.s 77, .c (.i .i64 (0 : Int))], [78], some (75, true)⟩,
    ⟨.k .pick, [.s 75, .s 78, .c (.b false)], [79], none⟩,
    ⟨.k .mv, [.s 79], [4], none⟩]) none .ret) .skip)) none (.seq (.reg [
    ⟨.k (.fa 1095 0 0), [.s 10], [80], none⟩,
    ⟨.k (.ld 1095 0 1 false), [.s 80, .s 1095], [81], none⟩,
    ⟨.k (.bin .eql), [.s 81, .c (.i .i64 (0 : Int))], [82], none⟩,
    ⟨.k .mv, [.s 82], [83], none⟩,
    ⟨.k (.fa 1094 0 0), [.s 9], [84], some (83, true)⟩,
    ⟨.k (.ld 1094 0 1 false), [.s 84, .s 1094], [85], some (83, true)⟩,
    ⟨.k (.bin .eql), [.s 85, .c (.i .i64 (1 : Int))], [86], some (83, true)⟩,
    ⟨.k .pick, [.s 83, .s 86, .c (.b false)], [87], none⟩,
    ⟨.k .mv, [.s 87], [88], none⟩,
    ⟨.k (.fa 1094 0 1), [.s 9], [89], some (88, true)⟩,
    ⟨.k (.ld 1094 1 1 false), [.s 89, .s 1094], [90], some (88, true)⟩,
    ⟨.k .mv, [.s 0], [91], some (88, true)⟩,
    ⟨.k (.bin .eql), [.s 90, .s 91], [92], some (88, true)⟩,
    ⟨.k .pick, [.s 88, .s 92, .c (.b false)], [93], none⟩,
    ⟨.k .mv, [.s 93], [4], none⟩]) none .ret))))))))))
def MpackForms.d : TFD := { np := 2, m := MpackForms.m, ref := none, tips := [], res := [.t 4], own := [], new := none, tnew := [] }
noncomputable def MpackForms.F (n : UInt64) (size : Int) : Option (List TV) := MpackForms.d.run MpackForms.E [(.u64 n), (.i .i64 size)]
noncomputable def MpackForms.k1 : Cont (List TV) := seqK (ev _ MpackForms.E (.seq (.reg [
    ⟨.k .mv, [.s 0], [51], none⟩,
    ⟨.k (.bin .geq), [.s 51, .c (.u64 (128 : UInt64))], [52], none⟩,
    ⟨.k .mv, [.s 52], [53], none⟩,
    ⟨.k .mv, [.s 1], [54], some (53, true)⟩,
    ⟨.k (.bin .eql), [.s 54, .c (.i .i64 (0 : Int))], [55], some (53, true)⟩,
    ⟨.k .mv, [.s 55], [56], some (53, true)⟩,
    ⟨.k .mv, [.s 0], [57], some (56, false)⟩,
    ⟨.k .mv, [.s 5], [58], some (56, false)⟩,
    ⟨.k (.bin .mul), [.c (.i .i64 (4 : Int)), .s 58], [59], some (56, false)⟩,
    ⟨.k (.ci .u64), [.s 59], [60], some (56, false)⟩,
    ⟨.k (.bin .shr), [.s 57, .s 60], [61], some (56, false)⟩,
    ⟨.k (.bin .gtr), [.s 61, .c (.u64 (0 : UInt64))], [62], some (56, false)⟩,
    ⟨.k .pick, [.s 56, .c (.b true), .s 62], [63], some (53, true)⟩,
    ⟨.k .pick, [.s 53, .s 63, .c (.b false)], [64], none⟩,
    ⟨.k .mv, [.s 64], [8], none⟩]) none (.seq (.reg [
    ⟨.k .mv, [.s 6], [66], none⟩,
    ⟨.k (.call 15 (.plain 2 2)), [.s 66, .c (.i .i64 (1 : Int))], [67], none⟩,
    ⟨.k .mv, [.s 67], [65], none⟩,
    ⟨.k (.ex 0), [.s 65], [68], none⟩,
    ⟨.k (.ex 1), [.s 65], [69], none⟩,
    ⟨.al 1094 [(.i .i64 (0 : Int)), (.u64 (0 : UInt64)), (.sl .bs ([] : List UInt8)), (.s ([] : Str)), (.sl .il ([] : List Itm))] [], [.s 1094], [9, 1094], none⟩,
    ⟨.al 1095 [(.i .i64 (0 : Int)), (.i .i64 (0 : Int)), (.sl .is ([] : List Int))] [], [.s 1095], [10, 1095], none⟩,
    ⟨.k (.st 1094 0 5), [.s 9, .s 1094, .s 68], [1094], none⟩,
    ⟨.k (.st 1095 0 3), [.s 10, .s 1095, .s 69], [1095], none⟩]) none (.seq (.seq (.reg [
    ⟨.k .mv, [.s 8], [70], none⟩,
    ⟨.k (.un .not), [.s 70], [71], none⟩]) none (.cond (.s 71) [] (.seq (.reg [
    ⟨.k (.fa 1095 0 0), [.s 10], [72], none⟩,
    ⟨.k (.ld 1095 0 1 false), [.s 72, .s 1095], [73], none⟩,
    ⟨.k (.bin .eql), [.s 73, .c (.i .i64 (3 : Int))], [74], none⟩,
    ⟨.k .mv, [.s 74], [75], none⟩,
    ⟨.k (.fa 1095 0 1), [.s 10], [76], some (75, true)⟩,
    ⟨.k (.ld 1095 1 1 false), [.s 76, .s 1095], [77], some (75, true)⟩,
    ⟨.k (.bin .eql), [.s 77, .c (.i .i64 (0 : Int))], [78], some (75, true)⟩,
    ⟨.k .pick, [.s 75, .s 78, .c (.b false)], [79], none⟩,
    ⟨.k .mv, [.s 79], [4], none⟩]) none .ret) .skip)) none (.seq (.reg [
    ⟨.k (.fa 1095 0 0), [.s 10], [80], none⟩,
    ⟨.k (.ld 1095 0 1 false), [.s 80, .s 1095], [81], none⟩,
    ⟨.k (.bin .eql), [.s 81, .c (.i .i64 (0 : Int))], [82], none⟩,
    ⟨.k .mv, [.s 82], [83], none⟩,
    ⟨.k (.fa 1094 0 0), [.s 9], [84], some (83, true)⟩,
    ⟨.k (.ld 1094 0 1 false), [.s 84, .s 1094], [85], some (83, true)⟩,
    ⟨.k (.bin .eql), [.s 85, .c (.i .i64 (1 : Int))], [86], some (83, true)⟩,
    ⟨.k .pick, [.s 83, .s 86, .c (.b false)], [87], none⟩,
    ⟨.k .mv, [.s 87], [88], none⟩,
    ⟨.k (.fa 1094 0 1), [.s 9], [89], some (88, true)⟩,
    ⟨.k (.ld 1094 1 1 false), [.s 89, .s 1094], [90], some (88, true)⟩,
    ⟨.k .mv, [.s 0], [91], some (88, true)⟩,
    ⟨.k (.bin .eql), [.s 90, .s 91], [92], some (88, true)⟩,
    ⟨.k .pick, [.s 88, .s 92, .c (.b false)], [93], none⟩,
    ⟨.k .mv, [.s 93], [4], none⟩]) none .ret))))) none (endK MpackForms.d)
noncomputable def MpackForms.l1 (x0 : UInt64) (x1 : Int) (x2 : Int) (x3 : List UInt8) (x4 : Int) : Option (List TV) := loopL (evO _ MpackForms.E MpackForms.m1) isN [0, 1, 5, 6, 7] (headT [0, 1, 5, 6, 7] [(.u64 x0), (.i .i64 x1), (.i .i64 x2), (.sl .bs x3), (.i .i64 x4)]) (blockK 0 MpackForms.k1)
theorem MpackForms.l1_in (x0 : UInt64) (x1 : Int) (x2 : Int) (x3 : List UInt8) (x4 : Int) {ρ : Option (List TV)} (K : ∀ (v1 : Int) (h1 : v1 = (IntKind.i64.wrap ((8 : Int) * x4))) (v2 : UInt64) (h2 : v2 = (shr64 x0 (((UInt64.ofInt v1)).toNat))) (v3 : UInt8) (h3 : v3 = (UInt8.ofInt ((v2).toNat : Int))) (v4 : Int) (h4 : v4 = (IntKind.i64.wrap (x4 - (1 : Int)))) (v5 : Bool) (h5 : v5 = ((decide ((128 : UInt64) ≤ x0)) && (!(decide (x1 = (0 : Int)))))) (v6 : Int) (h6 : v6 = (IntKind.i64.wrap ((4 : Int) * x2))) (v7 : UInt64) (h7 : v7 = (shr64 x0 (((UInt64.ofInt v6)).toNat))) (v8 : Bool) (h8 : v8 = (cond (decide (x1 = (0 : Int))) true (decide ((0 : UInt64) < v7)))) (v9 : Bool) (h9 : v9 = (cond (decide ((128 : UInt64) ≤ x0)) v8 false)) (v10 : Int) (h10 : v10 = (Flt.err ((Mp.dec x3 ((1 : Int))).2))) (v11 : Int) (h11 : v11 = (Flt.at_ ((Mp.dec x3 ((1 : Int))).2))) (v12 : Bool) (h12 : v12 = (cond (decide (v10 = (3 : Int))) (decide (v11 = (0 : Int))) false)) (v13 : Int) (h13 : v13 = (Itm.kind ((Mp.dec x3 ((1 : Int))).1))) (v14 : Bool) (h14 : v14 = (cond (decide (v10 = (0 : Int))) (decide (v13 = (1 : Int))) false)) (v15 : UInt64) (h15 : v15 = (Itm.n ((Mp.dec x3 ((1 : Int))).1))) (v16 : Bool) (h16 : v16 = (cond v14 (decide (v15 = x0)) false)), cond (decide ((0 : Int) ≤ x4))
    (ck (apOK ((x3).length + (([v3] : List UInt8)).length) 1) (MpackForms.l1 x0 x1 x2 (x3 ++ ([v3] : List UInt8)) v4))
    (ck (!(decide ((128 : UInt64) ≤ x0)) || (decide ((128 : UInt64) ≤ x0))) (ck (!(decide ((128 : UInt64) ≤ x0)) || (decide ((128 : UInt64) ≤ x0))) (ck (!v5 || v5) (ck (!v5 || v5) (ck (!v5 || (v5 && v5)) (ck (!v5 || v5) (ck (!(decide ((128 : UInt64) ≤ x0)) || ((decide ((128 : UInt64) ≤ x0)) && ((decide (x1 = (0 : Int))) || v5))) (ck (!(decide ((128 : UInt64) ≤ x0)) || (decide ((128 : UInt64) ≤ x0))) (ck (decide ((x3).length ≤ 1099511627776)) (cond (!v9)
    (ck (!(decide (v10 = (3 : Int))) || (decide (v10 = (3 : Int)))) (ck (!(decide (v10 = (3 : Int))) || (decide (v10 = (3 : Int)))) (ck (!(decide (v10 = (3 : Int))) || (decide (v10 = (3 : Int)))) (some [(.b v12)]))))
    (ck (!(decide (v10 = (0 : Int))) || (decide (v10 = (0 : Int)))) (ck (!(decide (v10 = (0 : Int))) || (decide (v10 = (0 : Int)))) (ck (!(decide (v10 = (0 : Int))) || (decide (v10 = (0 : Int)))) (ck (!v14 || v14) (ck (!v14 || (v14 && v14)) (ck (!v14 || v14) (some [(.b v16)]))))))))))))))))) = ρ) : MpackForms.l1 x0 x1 x2 x3 x4 = ρ := ((ev_loop _ _ _ _ _ _).trans (by kernel_rfl)).trans (K _ rfl _ rfl _ rfl _ rfl _ rfl _ rfl _ rfl _ rfl _ rfl _ rfl _ rfl _ rfl _ rfl _ rfl _ rfl _ rfl)
theorem MpackForms.F_in (n : UInt64) (size : Int) {ρ : Option (List TV)} (K : ∀ (v1 : Bool) (h1 : v1 = (cond (decide (size < (0 : Int))) true (decide ((3 : Int) < size)))) (v2 : Int) (h2 : v2 = (IntKind.i64.wrap ((1 : Int) * 2 ^ (min (((UInt64.ofInt size)).toNat) (IntKind.i64.bits))))) (v3 : Int) (h3 : v3 = (IntKind.i64.wrap ((8 : Int) * v2))) (v4 : UInt64) (h4 : v4 = (shr64 n (((UInt64.ofInt v3)).toNat))) (v5 : Bool) (h5 : v5 = (cond (decide (v2 < (8 : Int))) (decide ((0 : UInt64) < v4)) false)) (v6 : Int) (h6 : v6 = (IntKind.i64.wrap ((204 : Int) + size))) (v7 : List UInt8) (h7 : v7 = ([(UInt8.ofInt v6)] : List UInt8)) (v8 : Int) (h8 : v8 = (IntKind.i64.wrap (v2 - (1 : Int)))), cond (!(true))
    (some [(.b false)])
    (ck (!(!(decide (size < (0 : Int)))) || (!(decide (size < (0 : Int))))) (ck ((decide (size < (0 : Int))) || (!(decide (size < (0 : Int))))) (cond v1
    (some [(.b true)])
    (ck (!(decide (v2 < (8 : Int))) || (decide (v2 < (8 : Int)))) (ck (!(decide (v2 < (8 : Int))) || (decide (v2 < (8 : Int)))) (ck (!(decide (v2 < (8 : Int))) || ((decide (v2 < (8 : Int))) && (decide (v2 < (8 : Int))))) (ck (!(decide (v2 < (8 : Int))) || (decide (v2 < (8 : Int)))) (ck (!(decide (v2 < (8 : Int))) || (decide (v2 < (8 : Int)))) (cond v5
    (some [(.b true)])
    (MpackForms.l1 n size v2 v7 v8)))))))))) = ρ) : MpackForms.F n size = ρ := Eq.trans (by kernel_rfl) (K _ rfl _ rfl _ rfl _ rfl _ rfl _ rfl _ rfl _ rfl)
theorem MpackForms.chk : ((Go.Proofs.Try.prog.funcs[8]?).any fun fn => chkF Go.Proofs.Try.prog (fun k => ((envL noGl MpackForms.env).fs k).2) fn MpackForms.d.erase) = true := by kernel_rfl
end
end Go.Eng
namespace Go.Eng
open Go.IntWalk
theorem MpackForms.l1_ok (n : UInt64) (size many : Int) : ∀ (k : Nat) (acc : Str), k ≤ 8 → acc.length + k ≤ 100 → MpackForms.l1 n size many acc ((k : Int) - 1) = MpackForms.l1 n size many (acc ++ Cur.putHigh n k) (-1)
  | 0, acc, _, _ => by rw [show Cur.putHigh n 0 = [] from rfl, List.append_nil]; rfl
  | k + 1, acc, hk, ha => by
    refine MpackForms.l1_in _ _ _ _ _ ?_
    intro v1 e1 v2 e2 v3 e3 v4 e4
    intros
    have h1 : v1 = ((8 * k : Nat) : Int) := by rw [e1, i64_in _ (by omega)]; omega
    have h4 : v4 = (k : Int) - 1 := by rw [e4, i64_in _ (by omega)]; omega
    rw [h1, u64_nat, Nat.mod_eq_of_lt (by omega)] at e2
    rw [decide_eq_true (by omega), cond_true, ck_of (big_ap (by simp only [List.length_singleton]; omega) (by simp only [List.length_singleton]; omega)), h4, MpackForms.l1_ok n size many k _ (by omega) (by rw [List.length_append, List.length_singleton]; omega), List.append_assoc, e3, e2, u8_of, Cur.putHigh_succ]; rfl
theorem shr_pos (n : UInt64) (k : Nat) : ((0 : UInt64) < shr64 n k) ↔ 2 ^ k ≤ n.toNat := by
  have h : (shr64 n k).toNat = n.toNat / 2 ^ k := by
    have := n.toNat_lt
    have := Nat.div_le_self n.toNat (2 ^ k)
    rw [shr64, UInt64.toNat_ofNat', Nat.mod_eq_of_lt (by omega)]
  rw [UInt64.lt_iff_toNat_lt, h]
  show 0 < n.toNat / 2 ^ k ↔ _
  rw [Nat.div_pos_iff]
  have : 0 < 2 ^ k := Nat.pow_pos (by omega)
  omega
theorem Mp.dec_form (n : UInt64) (size many : Int) (h : size = 0 ∧ many = 1 ∨ size = 1 ∧ many = 2 ∨ size = 2 ∧ many = 4 ∨ size = 3 ∧ many = 8) (hn : n.toNat < 256 ^ many.toNat) :
    Mp.dec (UInt8.ofInt (204 + size) :: Cur.putHigh n many.toNat) 1 = if (Mp.unsigned n).1 = 204 + size then (.mk 1 n [] [] [], ⟨0, 0, []⟩) else (Mp.zero, ⟨3, 0, []⟩) := by
  have hb : UInt8.ofInt (204 + size) :: Cur.putHigh n many.toNat = Mp.put (204 + size, many) n := by
    rw [Mp.put, Cur.high, if_pos (by omega)]
  have hl : many = 0 ∨ many = 1 ∨ many = 2 ∨ many = 4 ∨ many = 8 := by omega
  have hf : Mp.first (204 + size) = (1, 0, many) := by
    rcases h with ⟨rfl, rfl⟩ | ⟨rfl, rfl⟩ | ⟨rfl, rfl⟩ | ⟨rfl, rfl⟩ <;> rfl
  have e := Mp.head_read [] [] (204 + size, many) n 1 0 0 (by simp only; omega) hf (by decide) hl
  have hpl := Mp.put_length (204 + size, many) n hl
  rw [List.nil_append, List.append_nil, show (([] : Str).length : Int) = 0 from rfl, Mp.readTail, if_neg (by decide), Mp.readEnd, if_neg (by decide), if_pos rfl] at e
  have hv : (if many = 0 then (0 : UInt64) else Cur.be (Cur.high n many)) = n := by
    rw [if_neg (by omega)]
    apply UInt64.toNat_inj.1
    rw [Cur.be_high _ _ (by omega), Nat.mod_eq_of_lt hn]
  simp only at e hpl
  rw [hv] at e
  rw [hb, Mp.dec, if_neg (by omega)]
  simp only
  rw [show (1 : Int).toNat = 0 + 1 from rfl, e]
  unfold Mp.num
  by_cases a : (Mp.unsigned n).1 = 204 + size
  · rw [if_pos a, if_neg (show ¬ (Mp.unsigned n).1 ≠ 204 + size from fun h => h a)]
    simp only
    rw [if_neg (fun h => h rfl), if_neg (by omega)]
  · rw [if_neg a, if_pos (show (Mp.unsigned n).1 ≠ 204 + size from a)]; rfl
theorem MpackForms.end_ok (n : UInt64) (size many : Int) (b : Str) (h : size = 0 ∧ many = 1 ∨ size = 1 ∧ many = 2 ∨ size = 2 ∧ many = 4 ∨ size = 3 ∧ many = 8) (hn : n.toNat < 256 ^ many.toNat) (hb : b = UInt8.ofInt (204 + size) :: Cur.putHigh n many.toNat) :
    MpackForms.l1 n size many b (-1) = some [.b true] := by
  refine MpackForms.l1_in _ _ _ _ _ ?_
  intro v1 e1 v2 e2 v3 e3 v4 e4 v5 e5 v6 e6 v7 e7 v8 e8 v9 e9 v10 e10 v11 e11 v12 e12 v13 e13 v14 e14 v15 e15 v16 e16
  have D := Mp.dec_form n size many h hn
  rw [← hb] at D
  rw [D] at e10 e11 e13 e15
  have hlb : b.length ≤ 10 := by rw [hb, List.length_cons, Cur.putHigh_len]; omega
  have h6 : v6 = ((4 * many.toNat : Nat) : Int) := by rw [e6, i64_in _ (by omega)]; omega
  rw [h6, u64_nat, Nat.mod_eq_of_lt (by omega)] at e7
  have hs : (0 < v7) ↔ 2 ^ (4 * many.toNat) ≤ n.toNat := by rw [e7]; exact shr_pos _ _
  have h9 : v9 = decide ((Mp.unsigned n).1 = 204 + size) := by
    rw [e9, e8]
    have l128 : ((128 : UInt64) ≤ n) ↔ 128 ≤ n.toNat := UInt64.le_iff_toNat_le
    have a128 : (n < (128 : UInt64)) ↔ n.toNat < 128 := UInt64.lt_iff_toNat_lt
    have a256 : (n < (256 : UInt64)) ↔ n.toNat < 256 := UInt64.lt_iff_toNat_lt
    have a65536 : (n < (65536 : UInt64)) ↔ n.toNat < 65536 := UInt64.lt_iff_toNat_lt
    have a32 : (n < (4294967296 : UInt64)) ↔ n.toNat < 4294967296 := UInt64.lt_iff_toNat_lt
    rw [Bool.eq_iff_iff, decide_eq_true_iff]
    simp only [Mp.unsigned, a128, a256, a65536, a32, Bool.cond_eq_ite, decide_eq_true_eq, l128, hs]
    rcases h with ⟨rfl, rfl⟩ | ⟨rfl, rfl⟩ | ⟨rfl, rfl⟩ | ⟨rfl, rfl⟩ <;> simp at hn ⊢ <;> (repeat' split) <;> simp <;> omega
  rw [decide_eq_false (by decide), cond_false]
  simp only [Bool.not_or_self, Bool.and_self, Bool.true_and, ck_true]
  rw [ck_of (by rw [e5]; cases decide (size = 0) <;> cases decide ((128 : UInt64) ≤ n) <;> rfl), ck_of (decide_eq_true (by omega)), h9]
  by_cases a : (Mp.unsigned n).1 = 204 + size
  · rw [if_pos a] at e10 e11 e13 e15
    rw [decide_eq_true a, Bool.not_true, cond_false]
    have h14 : v14 = true := by rw [e14, e10, e13]; rfl
    have h16 : v16 = true := by rw [e16, h14, e15]; exact decide_eq_true rfl
    rw [h16]
  · rw [if_neg a] at e10 e11 e13 e15
    rw [decide_eq_false a, Bool.not_false, cond_true]
    have h12 : v12 = true := by rw [e12, e10, e11]; rfl
    rw [h12]
theorem MpackForms.goal (n : UInt64) (size : Int) : MpackForms.F n size = some [.b true] := by
  refine MpackForms.F_in _ _ ?_
  intro v1 e1 v2 e2 v3 e3 v4 e4 v5 e5 v6 e6 v7 e7 v8 e8
  rw [Bool.not_true, cond_false]
  simp only [Bool.not_or_self, Bool.or_not_self, Bool.and_self, ck_true]
  by_cases a : size < 0 ∨ 3 < size
  · rw [show v1 = true by rw [e1]; rcases a with a | a <;> simp [a]]; rfl
  rw [show v1 = false by rw [e1, decide_eq_false (by omega), decide_eq_false (by omega)]; rfl, cond_false]
  have h : size = 0 ∧ v2 = 1 ∨ size = 1 ∧ v2 = 2 ∨ size = 2 ∧ v2 = 4 ∨ size = 3 ∧ v2 = 8 := by
    rcases (by omega : size = 0 ∨ size = 1 ∨ size = 2 ∨ size = 3) with rfl | rfl | rfl | rfl
    · exact .inl ⟨rfl, by rw [e2]; rfl⟩
    · exact .inr (.inl ⟨rfl, by rw [e2]; rfl⟩)
    · exact .inr (.inr (.inl ⟨rfl, by rw [e2]; rfl⟩))
    · exact .inr (.inr (.inr ⟨rfl, by rw [e2]; rfl⟩))
  have h3 : v3 = ((8 * v2.toNat : Nat) : Int) := by rw [e3, i64_in _ (by omega)]; omega
  rw [h3, u64_nat, Nat.mod_eq_of_lt (by omega)] at e4
  have hs : (0 < v4) ↔ 2 ^ (8 * v2.toNat) ≤ n.toNat := by rw [e4]; exact shr_pos _ _
  by_cases m : v5 = true
  · rw [m, cond_true]
  · rw [Bool.eq_false_iff.2 m, cond_false]
    have hn : n.toNat < 256 ^ v2.toNat := by
      rw [show (256 : Nat) = 2 ^ 8 from rfl, ← Nat.pow_mul]
      by_cases a8 : v2 < 8
      · refine Nat.lt_of_not_le fun q => m ?_
        rw [e5, decide_eq_true a8, decide_eq_true (hs.2 q)]; rfl
      · rw [show v2.toNat = 8 by omega]; exact n.toNat_lt
    have h8 : v8 = ((v2.toNat : Nat) : Int) - 1 := by rw [e8, i64_in _ (by omega)]; omega
    rw [h8, MpackForms.l1_ok n size v2 v2.toNat v7 (by omega) (by rw [e7, List.length_singleton]; omega)]
    refine MpackForms.end_ok n size v2 _ h hn ?_
    rw [e7, e6, i64_in _ (by omega)]; rfl
end Go.Eng
namespace Go.Eng
theorem MpackForms.fit (n : UInt64) (size : Int) : ([.u64 n, .i .i64 size] : List TV).length = MpackForms.d.np ∧ MpackForms.d.run (envL noGl MpackForms.env) [.u64 n, .i .i64 size] = some (([(.b (true))] : List TV) ++ MpackForms.d.ps.toList.map fun q => ([.u64 n, .i .i64 size] : List TV).getD q.1 .dead) :=
  ⟨by kernel_rfl, Eq.trans (b := MpackForms.F n size) (by kernel_rfl) (Eq.trans (MpackForms.goal n size) (by kernel_rfl))⟩
theorem MpackForms.ok : SpecOK Go.Proofs.Try.prog (fun n => (noGl n).av) 8 (Ctr.fs (MpackForms.c, MpackForms.sg)) :=
  meets (l := MpackForms.env) (all_cons law29_awake.ok (all_cons mp_Decode.ok all_nil)) MpackForms.chk (by
      intro ins outs h
      unfold MpackForms.c at h
      split at h
      · cases h; exact MpackForms.fit _ _
      · exact h.elim)
end Go.Eng
