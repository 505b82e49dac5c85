/- Boxes, stores, literals, made slices. -/
import Derived.Test.YtenbejbhjgkibaaEngI
import Derived.Laws.MakeOwn
set_option linter.unusedVariables false
set_option linter.unusedSimpArgs false
namespace Go.Eng
open Go.RowKit

section
variable {C : Ctx} {D : Dyn} {σ : Sg} {γ : Ga} {a : Act} {w : World}
variable {o : Oper} {d : Nat} {K : Act → World → Prop} {Q : Exit → Act → World → Prop} (h : Sim C D σ γ a w)
include h

theorem op_bx {x : Operand} {r : Opd} {t : TypeId} {m : Nat} (hd : o.dst = some d) (hl : d < C.nt) (ho : o.op = .box t x) (hx : opdOK x r = true) (hs1 : small C.nt [x] = true) (hp : (r.ev C.E σ).plain = true) (hm : γ m = .no) (h1 : C.nt ≤ m) (h2 : m < 999999)
    (hK : ∀ D' a' w', Sim C D' (updL σ [d, m] [.pt, .ag (r.ev C.E σ).cells]) (updL γ [d, m] [.ptr m 0, .cl []]) a' w' → K a' w') : o.wp C.P a w K Q := by
  have e1 := (h.opd hx hs1).rep (by intro e; rw [e] at hp; cases hp)
  have hL := plain_rep e1 hp
  have hrun : (execOp a.eval o).run C.P w = .ok (.value (.pointer (some ⟨w.heap.size, 0, none⟩))) { w with heap := w.heap.push (.cells ⟨(a.eval x).cells.toList⟩ t) } := by
    simp [execOp, ho, Instr.box, newVar, newRow]
  obtain ⟨hS, hV, hmine, hfree⟩ := h.newBlock rfl hL
  have hS2 := hS.newVar (ts := []) hm h1 h2 hV (by simp) ⟨hmine, hfree⟩
  have hS3 := hS2.put (d := d) (s := .pt) (g := .ptr m 0) (v := .pointer (some ⟨w.heap.size, 0, none⟩)) hl (.inr ⟨.pt _, by intro _; show _ = _; simp [upd_same]⟩) rfl rfl (by show Gh.isCl (upd _ m _ m) = true; rw [upd_same]; rfl)
  unfold Oper.wp
  rw [hrun, Oper.upon_value, hd]
  exact hK _ _ _ hS3

theorem op_st {x v : Operand} {r q : Opd} {t : TypeId} {inf : TypeInfo} {m o' n : Nat} {cs : List AV} {ts : List (Nat × (Nat × Nat))} (hd : o.dst = none) (ho : o.op = .store t x v) (hi : C.P.info? t = some inf) (hz : inf.size = n)
    (hx : opdOK x r = true) (hs1 : small C.nt [x] = true) (hv : opdOK v q = true) (hs2 : small C.nt [v] = true) (hr : r.ev C.E σ = .pt) (hg : r.gh γ = .ptr m o') (hm : γ m = .cl ts) (hσ : σ m = .ag cs)
    (hp : (q.ev C.E σ).plain = true) (hn : (q.ev C.E σ).cells.length = n) (hfit : o' + n ≤ cs.length)
    (hK : ∀ D' a' w', Sim C D' (upd σ m (.ag (splice cs o' (q.ev C.E σ).cells))) (upd γ m (.cl (ts.filter (fun t => t.1 < o' || o' + n ≤ t.1) ++ match q.gh γ with | .tip k s => if n = 1 then [(o', k, s)] else [] | _ => []))) a' w' → K a' w') : o.wp C.P a w K Q := by
  have e0 := h.opd hx hs1
  have hpv := e0.gh (by rw [hr]; simp) (by rw [hr]; simp)
  rw [hg] at hpv
  simp only [GhOK] at hpv
  have q0 := h.opd hv hs2
  have hqd : q.ev C.E σ ≠ .dead := by intro e; rw [e] at hp; cases hp
  have hqk : q.ev C.E σ ≠ .sk := by intro e; rw [e] at hp; cases hp
  have hL := plain_rep (q0.rep hqd) hp
  obtain ⟨vs, hVA, hts⟩ := h.mem m ts hm
  rw [hσ] at hVA
  have hnR := hVA.noR
  obtain ⟨elem, hh, hLm⟩ := hVA.ag
  have hcl : cs.length ≤ vs.length := by have := hLm.length; simp at this; omega
  have hlen := hL.length
  have hlm := hLm.length
  have hcn : (a.eval v).cells.size = n := by simp at hlen; omega
  have hst := run_storeCells_at (P := C.P) (D.β m) o' elem (a.eval v).cells.toList 0 ⟨vs⟩ w hh (by simp; omega) hL.one
  simp only [Nat.add_zero] at hst
  let new : List Value := vs.take o' ++ (a.eval v).cells.toList ++ vs.drop (o' + (a.eval v).cells.toList.length)
  have hrun : (execOp a.eval o).run C.P w = .ok .skip (w.setRow (D.β m) ⟨new⟩) := by
    have : ¬ ((a.eval v).cells.size ≠ n) := by omega
    simp only [execOp, ho, hpv, Instr.storeAt, Instr.sureAddr, Sem.run_bind, Sem.run_pure, Result.andThen_ok, storeVar, run_sizeOf hi, hz, Sem.run_ite, this, if_false, hst]
    rfl
  have hh' := setRow_heap w (D.β m) ⟨vs⟩ ⟨new⟩ elem (0, 0) hh
  have keep : Keeps D.R w D.R (w.setRow (D.β m) ⟨new⟩) := fun b o hr => ⟨hr, cell_setRow_other w (D.β m) _ ⟨b, o, none⟩ (fun e => hnR o (by have : b = D.β m := e; rw [← this]; exact hr))⟩
  have hLn : RepL D.R (w.setRow (D.β m) ⟨new⟩) (splice cs o' (q.ev C.E σ).cells) (new.take (splice cs o' (q.ev C.E σ).cells).length) := by
    have hle : (a.eval v).cells.toList.length = (q.ev C.E σ).cells.length := hlen.symm
    have hsl : (splice cs o' (q.ev C.E σ).cells).length = cs.length := by simp [splice]; omega
    have hnt : new.take cs.length = (vs.take cs.length).take o' ++ (a.eval v).cells.toList ++ (vs.take cs.length).drop (o' + (a.eval v).cells.toList.length) := by
      apply List.ext_getElem?
      intro j
      simp only [new, List.getElem?_take, List.getElem?_append, List.length_append, List.length_take, List.getElem?_drop, hle, hn]
      have e1 : min o' vs.length = o' := by omega
      have e2 : min o' (min cs.length vs.length) = o' := by omega
      simp only [e1, e2]
      by_cases c1 : j < cs.length
      · by_cases c2 : j < o'
        · simp [c1, c2, show j < o' + n by omega]
        · by_cases c3 : j < o' + n
          · simp [c1, c2, c3]
          · simp [c1, c2, c3, show o' + n + (j - (o' + n)) < cs.length by omega]
      · have c2 : ¬ j < o' := by omega
        have c3 : ¬ j < o' + n := by omega
        simp [c1, c3, show ¬ o' + n + (j - (o' + n)) < cs.length by omega]
    rw [hsl, hnt]
    simp only [splice, hle]
    have hX := (((hLm.take o').append hL).append (hLm.drop (o' + (q.ev C.E σ).cells.length))).mono keep
    exact hX
  have hmm := h.inv m
  rw [hm] at hmm
  have hS := h.store (us := ts.filter (fun t => t.1 < o' || o' + n ≤ t.1) ++ match q.gh γ with | .tip k s => if n = 1 then [(o', k, s)] else [] | _ => []) hm (w' := w.setRow (D.β m) ⟨new⟩) rfl rfl rfl (by simp) (fun b hb => setRow_other w (D.β m) b _ hb)
    ⟨elem, hh', .inr ⟨_, rfl, hLn⟩, hnR⟩ (fun t ht => by
      rcases List.mem_append.1 ht with ht | ht
      · have hm' := List.mem_filter.1 ht
        refine ⟨hmm t hm'.1, ?_⟩
        have hc := hts t hm'.1
        have hlt := (List.getElem?_eq_some_iff.1 hc).1
        have hcond := hm'.2
        simp only [Bool.or_eq_true, decide_eq_true_eq] at hcond
        have hvl : (a.eval v).cells.toList.length = n := by simp; exact hcn
        simp only [new]
        rcases hcond with hc1 | hc1
        · rw [List.append_assoc, List.getElem?_append_left (by simp; omega), List.getElem?_take, if_pos hc1]; exact hc
        · rw [List.getElem?_append_right (by simp; omega)]
          simp only [List.length_append, List.length_take, hvl, List.getElem?_drop]
          rw [← hc]; congr 1; omega
      · revert ht
        split
        · rename_i k s hgq
          split
          · rename_i hn1
            intro ht
            simp at ht
            subst ht
            have hment := h.ment_opd q
            rw [hgq] at hment
            refine ⟨hment, ?_⟩
            have hgv := q0.gh hqd hqk
            rw [hgq] at hgv
            simp only [GhOK] at hgv
            have hc1 : (a.eval v).cells.toList = [D.τ (lk k)] := by
              obtain ⟨e1, e2⟩ := hgv
              rw [← e1]
              generalize a.eval v = y at e2
              cases y <;> first | rfl | (simp [Value.oneCell'] at e2)
            simp only [new, hc1]
            rw [List.append_assoc, List.getElem?_append_right (by simp; omega)]
            simp
            have : o' - min o' vs.length = 0 := by omega
            simp [this]
          · intro ht; cases ht
        · intro ht; cases ht)
  unfold Oper.wp
  rw [hrun, Oper.upon_skip, hd]
  exact hK _ _ _ (by simpa [Act.put] using hS)

/-- Operands, one by one. -/
theorem Sim.opds : ∀ {l : List Operand} {rs : List Opd}, opdsOK l rs = true → small C.nt l = true → RepT D.R w (rs.map (Opd.ev C.E σ)) (l.map a.eval)
  | [], [], _, _ => .nil
  | x :: xs, r :: rs, hx, hs => by
    simp [opdsOK] at hx
    have h1 : small C.nt [x] = true := by simp [small] at hs ⊢; exact hs.1
    have h2 : small C.nt xs = true := by simp only [small, List.all_cons, Bool.and_eq_true] at hs; exact hs.2
    refine .cons ?_ (Sim.opds hx.2 h2)
    rcases h.opd hx.1 h1 with e | e
    · rw [e]; exact .dead _
    · exact e.1
  | [], _ :: _, hx, _ => by simp [opdsOK] at hx
  | _ :: _, [], hx, _ => by simp [opdsOK] at hx
omit h

theorem fill_full (s : Nat) : ∀ (vs : List Value) (k : Nat) (cells : Array Value), (∀ v ∈ vs, v.cells.size = s) → (k + vs.length) * s = cells.size →
    ∃ cells', Instr.fill (fun i => some (i * s, s)) cells ((vs.zipIdx k).map fun p => (p.2, p.1)) = some cells' ∧ cells'.toList = cells.toList.take (k * s) ++ vs.flatMap fun v => v.cells.toList
  | [], k, cells, _, hl => by
    refine ⟨cells, rfl, ?_⟩
    simp at hl
    simp [List.take_of_length_le, hl]
  | v :: vs, k, cells, hv, hl => by
    have h0 := hv v (by simp)
    simp only [List.length_cons] at hl
    have hm : (k + (vs.length + 1)) * s = k * s + s + vs.length * s := by rw [Nat.add_mul, Nat.succ_mul]; omega
    have hfit : ¬ (v.cells.size ≠ s ∨ k * s + v.cells.size > cells.size) := by omega
    have hcells := foldl_set v.cells.toList (k * s) 0 cells (by simp; omega)
    have e : (v.cells.zipIdx.foldl (fun cs p => cs.setIfInBounds (k * s + p.2) p.1) cells) = (v.cells.toList.zipIdx 0).foldl (fun cs p => cs.setIfInBounds (k * s + p.2) p.1) cells := by
      rw [← Array.foldl_toList]; simp
    have hsz : (v.cells.zipIdx.foldl (fun cs p => cs.setIfInBounds (k * s + p.2) p.1) cells).size = cells.size := by
      rw [e, ← Array.length_toList, hcells]; simp; omega
    obtain ⟨cells', h1, h2⟩ := fill_full s vs (k + 1) (v.cells.zipIdx.foldl (fun cs p => cs.setIfInBounds (k * s + p.2) p.1) cells) (fun u hu => hv u (by simp [hu])) (by rw [hsz, ← hl]; congr 1; omega)
    refine ⟨cells', ?_, ?_⟩
    · simp only [List.zipIdx_cons, List.map_cons, Instr.fill]
      rw [if_neg (by simpa using hfit)]
      exact h1
    · rw [h2, e, hcells]
      have hk1 : (k + 1) * s = k * s + s := Nat.succ_mul k s
      have hL : (cells.toList.take (k * s + 0) ++ v.cells.toList).length = (k + 1) * s := by simp; omega
      rw [List.append_assoc, ← List.append_assoc (cells.toList.take (k * s + 0)), List.take_left' hL]
      simp

theorem range_zip {α : Type} : ∀ (l : List (Nat × α)) (k : Nat), l.map (·.1) = List.range' k l.length → l = ((l.map (·.2)).zipIdx k).map fun p => (p.2, p.1)
  | [], _, _ => rfl
  | (i, x) :: l, k, h => by
    simp only [List.map_cons, List.length_cons, List.range'_succ, List.cons.injEq] at h
    simp only [List.map_cons, List.zipIdx_cons]
    rw [← range_zip l (k + 1) h.2, h.1]

theorem repT_flat {R : Reach} {w : World} {s : Nat} : ∀ {xs : List AV} {vs : List Value}, RepT R w xs vs → (∀ x ∈ xs, x.plain = true ∧ x.cells.length = s) → RepL R w (xs.flatMap AV.cells) (vs.flatMap fun v => v.cells.toList) ∧ ∀ v ∈ vs, v.cells.size = s
  | _, _, .nil, _ => ⟨.nil, by simp⟩
  | _, _, .cons (x := x) h t, hx => by
    obtain ⟨h1, h2⟩ := repT_flat t (fun x hx' => hx x (by simp [hx']))
    obtain ⟨p1, p2⟩ := hx x (by simp)
    have hL := plain_rep h p1
    refine ⟨by simpa using hL.append h1, fun v hv => ?_⟩
    rcases List.mem_cons.1 hv with rfl | hv
    · have := hL.length; simp at this; omega
    · exact h2 v hv

theorem flat_len {s : Nat} : ∀ {l : List AV}, (∀ x ∈ l, x.plain = true ∧ x.cells.length = s) → (l.flatMap AV.cells).length = l.length * s
  | [], _ => by simp
  | x :: l, hl => by
    simp only [List.flatMap_cons, List.length_append, List.length_cons, Nat.succ_mul]
    rw [flat_len (fun y hy => hl y (by simp [hy])), (hl x (by simp)).2]; omega

theorem sliceOKz_spec {P : Program} {t : TypeId} {s : Nat} (h : sliceOKz P t s = true) : ∃ e i z, P.underlying t = some (.slice e) ∧ P.info? e = some i ∧ i.size = s ∧ i.zero = some z ∧ 0 < s := by
  unfold sliceOKz at h
  cases he : elemT P t with
  | none => simp [he] at h
  | some e =>
    simp [he] at h
    obtain ⟨h1, h0⟩ := h
    cases hi : P.info? e with
    | none => simp [hi] at h1
    | some i =>
      simp [hi] at h1
      obtain ⟨h1, h2⟩ := h1
      obtain ⟨z, hz⟩ := Option.isSome_iff_exists.1 h2
      exact ⟨e, i, z, elemT_spec he, hi, h1, hz, h0⟩

theorem Sim.litRow (h : Sim C D σ γ a w) {t e : TypeId} {inf : TypeInfo} {zv : Value} {s n : Nat} {parts : Array (Nat × Operand)} {rs : List Opd} (ht : C.P.underlying t = some (.slice e)) (hi : C.P.info? e = some inf) (hz : inf.size = s) (hzv : inf.zero = some zv)
    (hn24 : n * s ≤ 2 ^ 24) (hnm : n ≤ maxLen) (hpr : parts.toList.map (·.1) = List.range n) (hx : opdsOK (parts.toList.map (·.2)) rs = true) (hsm : small C.nt (parts.toList.map (·.2)) = true)
    (hxs : ∀ x ∈ rs.map (Opd.ev C.E σ), x.plain = true ∧ x.cells.length = s) :
    ∃ v w' R', (Instr.buildSlice t n (parts.map fun p => (p.1, a.eval p.2))).run C.P w = .ok v w' ∧ Sim C { D with R := R' } σ γ a w' ∧ Rep R' w' (.sl s (rs.map (Opd.ev C.E σ))) v ∧ TipOK R' w' v s ∧ Keeps D.R w R' w' ∧
      ∀ g, v.ownBlock = some g → C.mine g ∧ ∀ key, blk D γ key ≠ some g := by
  have hT := h.opds hx hsm
  obtain ⟨hL, hsz⟩ := repT_flat hT hxs
  have hlen : parts.toList.length = n := by have := congrArg List.length hpr; simpa using this
  have hlen' : parts.size = n := by simpa using hlen
  have hrs : (rs.map (Opd.ev C.E σ)).length = n := by have := hT.length; simp at this ⊢; omega
  have hp : (parts.map fun p => (p.1, a.eval p.2)).toList = ((((parts.toList.map (·.2)).map a.eval).zipIdx 0).map fun p => (p.2, p.1)) := by
    have e := range_zip ((parts.map fun p => (p.1, a.eval p.2)).toList) 0 (by simp only [Array.toList_map, List.map_map, List.length_map, hlen]; rw [← List.range_eq_range', ← hpr]; rfl)
    rw [e]
    simp [Function.comp_def]
  let zc : Array Value := if n * s = 0 then #[] else zv.cells
  let c0 : Array Value := (Array.range (n * s)).map (zc[· % zc.size]!)
  obtain ⟨cells', hf, hc'⟩ := fill_full s ((parts.toList.map (·.2)).map a.eval) 0 c0 hsz (by simp [c0, hlen])
  simp only [Nat.zero_mul, List.take_zero, List.nil_append] at hc'
  have hrun : (Instr.buildSlice t n (parts.map fun p => (p.1, a.eval p.2))).run C.P w = .ok (.slice (some ⟨w.heap.size, 0, none⟩) n n) { w with heap := w.heap.push (.cells cells' e) } := by
    have h24 : ¬ (n * s > 2 ^ 24) := by omega
    rw [← hp] at hf
    simp only [c0, zc] at hf
    simp only [Instr.buildSlice, Sem.run_bind, run_underlying ht, Result.andThen_ok, run_sizeOf hi, hz, h24, if_false, Sem.run_pure]
    by_cases h0 : n * s = 0
    · rw [if_pos h0] at hf ⊢
      simp only [Sem.run_bind, Sem.run_pure, Result.andThen_ok]
      rw [hf]
      simp [Go.newRow]
    · rw [if_neg h0] at hf ⊢
      simp only [Sem.run_bind, Sem.run_pure, Result.andThen_ok, run_zero hi hzv]
      rw [hf]
      simp [Go.newRow]
  have hcs : cells'.size = n * s := by
    rw [← Array.length_toList, hc', ← hL.length, flat_len hxs, hrs]
  obtain ⟨R', hS, hR, hnR, _, hk, hh⟩ := h.newRow (w' := { w with heap := w.heap.push (.cells cells' e) }) (es := rs.map (Opd.ev C.E σ)) (s := s) (cap := n) rfl rfl rfl rfl (fun x hx => (hxs x hx).2) hL
    (fun j y hj => by rw [← hc'] at hj; simpa using hj) (by omega) hnm
  rw [hrs] at hR hnR
  refine ⟨_, _, R', hrun, hS, hR, .inr ⟨_, _, _, _, _, _, rfl, hh, by simp, hcs, Nat.le_refl _, hnm, hnR⟩, hk, fun g hg => ?_⟩
  simp [Value.ownBlock] at hg
  subst hg
  exact ⟨.inr h.ext.size, fun key hk => by have := h.lt hk; omega⟩

variable (h : Sim C D σ γ a w) (hd : o.dst = some d) (hl : d < C.nt)
include h hd hl

theorem op_bl {t : TypeId} {s n : Nat} {parts : Array (Nat × Operand)} {rs : List Opd} (ho : o.op = .buildSlice t n parts) (ht : sliceOKz C.P t s = true) (hn24 : n * s ≤ 2 ^ 24)
    (hpr : parts.toList.map (·.1) = List.range n) (hx : opdsOK (parts.toList.map (·.2)) rs = true) (hsm : small C.nt (parts.toList.map (·.2)) = true) (hxs : ∀ x ∈ rs.map (Opd.ev C.E σ), x.plain = true ∧ x.cells.length = s)
    (hK : ∀ D' a' w', Sim C D' (upd σ d (.sl s (rs.map (Opd.ev C.E σ)))) (upd γ d .no) a' w' → K a' w') : o.wp C.P a w K Q := by
  obtain ⟨e, i, z, h1, h2, h3, h4, h5⟩ := sliceOKz_spec ht
  have hnm : n ≤ maxLen := by
    have : n ≤ n * s := Nat.le_mul_of_pos_right n h5
    simp only [maxLen]; omega
  obtain ⟨v, w', R', hrun, hS, hR, _⟩ := h.litRow h1 h2 h3 h4 hn24 hnm hpr hx hsm hxs
  exact Sim.valNew hd hl (v := v) (w' := w') (by simp only [execOp, ho, Sem.run_bind, hrun, Result.andThen_ok, Sem.run_pure]) hS hR hK

theorem op_blt {t : TypeId} {s n k : Nat} {parts : Array (Nat × Operand)} {rs : List Opd} (ho : o.op = .buildSlice t n parts) (ht : sliceOKz C.P t s = true) (hn24 : n * s ≤ 2 ^ 24)
    (hpr : parts.toList.map (·.1) = List.range n) (hx : opdsOK (parts.toList.map (·.2)) rs = true) (hsm : small C.nt (parts.toList.map (·.2)) = true) (hxs : ∀ x ∈ rs.map (Opd.ev C.E σ), x.plain = true ∧ x.cells.length = s) (hk : γ (lk k) = .no)
    (hK : ∀ D' a' w', Sim C D' (updL σ [d, lk k] [.sl s (rs.map (Opd.ev C.E σ)), .dead]) (updL γ [d, lk k] [.tip k s, .live s]) a' w' → K a' w') : o.wp C.P a w K Q := by
  obtain ⟨e, i, z, h1, h2, h3, h4, h5⟩ := sliceOKz_spec ht
  have hnm : n ≤ maxLen := by
    have : n ≤ n * s := Nat.le_mul_of_pos_right n h5
    simp only [maxLen]; omega
  obtain ⟨v, w', R', hrun, hS, hR, hT, _, hG⟩ := h.litRow h1 h2 h3 h4 hn24 hnm hpr hx hsm hxs
  unfold Oper.wp
  rw [show (execOp a.eval o).run C.P w = .ok (.value v) w' by simp only [execOp, ho, Sem.run_bind, hrun, Result.andThen_ok, Sem.run_pure], Oper.upon_value, hd]
  exact hK _ _ _ (hS.putTip hl hk hR hT hG)

omit h hd hl in
theorem flatten_get {α : Type} {zs : List α} (hz : 0 < zs.length) : ∀ (l j : Nat) (y : α), (List.replicate l zs).flatten[j]? = some y → zs[j % zs.length]? = some y
  | 0, j, y, h => by simp at h
  | l + 1, j, y, h => by
    simp only [List.replicate_succ, List.flatten_cons] at h
    by_cases hj : j < zs.length
    · rw [List.getElem?_append_left hj] at h; rwa [Nat.mod_eq_of_lt hj]
    · rw [List.getElem?_append_right (by omega)] at h
      have := flatten_get hz l _ y h
      rwa [Nat.mod_eq_sub_mod (by omega)]
omit h hd hl in
theorem repL_replicate {R : Reach} {w : World} {xs : List AV} {ys : List Value} (h : RepL R w xs ys) : ∀ n, RepL R w (List.replicate n xs).flatten (List.replicate n ys).flatten
  | 0 => .nil
  | n + 1 => by simp only [List.replicate_succ, List.flatten_cons]; exact h.append (repL_replicate h n)

theorem op_mk {t e : TypeId} {x y : Operand} {r q : Opd} {i : TypeInfo} {zv : Value} {k s : Nat} {z : AV} {l c : Int} (ho : o.op = .makeSlice t x y) (ht : C.P.underlying t = some (.slice e)) (hi : C.P.info? e = some i) (hz : i.size = s) (hzv : i.zero = some zv) (hzs : zv.cells.size = s) (h0s : 0 < s)
    (hzc : constCells zv.cells.toList z.cells = true) (hx : opdOK x r = true) (hy : opdOK y q = true) (hs1 : small C.nt [x] = true) (hs2 : small C.nt [y] = true) (hr : r.ev C.E σ = .v (.int .i64 l)) (hq : q.ev C.E σ = .v (.int .i64 c))
    (hp : z.cells.length = s) (h0 : 0 ≤ l) (hlc : l ≤ c) (hb : c * i.bytes ≤ 140737488355328) (hcm : c ≤ maxLen) (hk : γ (lk k) = .no)
    (hK : ∀ D' a' w', Sim C D' (updL σ [d, lk k] [.sl s (List.replicate l.toNat z), .dead]) (updL γ [d, lk k] [.tip k s, .live s]) a' w' → K a' w') : o.wp C.P a w K Q := by
  have e1 := (h.opd hx hs1).rep (by rw [hr]; simp)
  have e2 := (h.opd hy hs2).rep (by rw [hq]; simp)
  rw [hr] at e1; rw [hq] at e2
  have hmk := run_make (P := C.P) w t e i zv ht hi hzv .i64 .i64 l c h0 hlc (by rw [Int.mul_comm]; omega) (by simp only [maxLen] at hcm; omega)
  have hrun : (execOp a.eval o).run C.P w = .ok (.value (.slice (some ⟨w.heap.size, 0, none⟩) l.toNat c.toNat)) (w.alloc (.cells (madeCells zv.cells (c.toNat * i.size)) e)) := by
    simp only [execOp, ho, e1.v_inv, e2.v_inv, Sem.run_bind, hmk, Result.andThen_ok, Sem.run_pure]
  have hL : RepL D.R w z.cells zv.cells.toList := constCells_rep hzc
  have hfm : (List.replicate l.toNat z).flatMap AV.cells = (List.replicate l.toNat z.cells).flatten := by rw [List.flatMap_def, List.map_replicate]
  have hlc' : l.toNat ≤ c.toNat := by omega
  obtain ⟨R', hS, hR, hnR, _, _, hh⟩ := h.newRow (w' := w.alloc (.cells (madeCells zv.cells (c.toNat * i.size)) e)) (es := List.replicate l.toNat z) (s := s) (cap := c.toNat) (ys := (List.replicate l.toNat zv.cells.toList).flatten) rfl rfl rfl rfl
    (fun x hx => by rw [List.eq_of_mem_replicate hx]; exact hp) (by rw [hfm]; exact repL_replicate hL _)
    (fun j y hj => by
      have h1 := flatten_get (by simp; omega) _ _ _ hj
      have hlt := (List.getElem?_eq_some_iff.1 hj).1
      have hflen : (List.replicate l.toNat zv.cells.toList).flatten.length = l.toNat * s := by simp [hzs]
      rw [hflen] at hlt
      have hle : l.toNat * s ≤ c.toNat * s := Nat.mul_le_mul_right _ hlc'
      have hm : j < c.toNat * i.size := by rw [hz]; omega
      simp only [madeCells, Array.getElem?_map, Array.getElem?_range, hm, if_true, Option.map_some]
      simp only [Array.length_toList, Array.getElem?_toList] at h1
      rw [getElem!_def, h1]) (by simpa using hlc') (by omega)
  simp only [List.length_replicate] at hR hnR
  unfold Oper.wp
  rw [hrun, Oper.upon_value, hd]
  refine hK _ _ _ (hS.putTip hl hk hR (.inr ⟨_, _, _, _, _, _, rfl, hh, by simp, by rw [size_madeCells, hz], hlc', by omega, hnR⟩) fun g hg => ?_)
  simp [Value.ownBlock] at hg
  subst hg
  exact ⟨.inr h.ext.size, fun key hk => by have := h.lt hk; omega⟩

omit h hd hl in
theorem run_mapM_sizes {P : Program} {w : World} : ∀ (fs : List Field), (∀ f ∈ fs, (sizeOf f.type).run P w = .ok ((sizeT P f.type).getD 0) w) →
    ((fs.mapM fun (f : Field) => do pure (f.offset, ← sizeOf f.type)) : Sem (List (Nat × Nat))).run P w = .ok (fs.map fun f => (f.offset, (sizeT P f.type).getD 0)) w
  | [], _ => rfl
  | f :: fs, hs => by
    simp only [List.mapM_cons, Sem.run_bind, hs f (by simp), Result.andThen_ok, Sem.run_pure, run_mapM_sizes fs (fun g hg => hs g (by simp [hg])), List.map_cons]

/-- A struct or an array written out. -/
theorem op_bd {t : TypeId} {z : List AV} {pl : List (Nat × Nat)} {parts : Array (Nat × Operand)} {rs : List Opd} {cs : List AV} (ho : o.op = .build t parts) (hz : zeroOK C.P t z = true) (hpl : placesOK C.P t pl parts.toList = true) (hx : opdsOK (parts.toList.map (·.2)) rs = true) (hsm : small C.nt (parts.toList.map (·.2)) = true)
    (hf : fillAV z pl (rs.map (Opd.ev C.E σ)) = some cs) (hK : ∀ D' a' w', Sim C D' (upd σ d (.ag cs)) (upd γ d .no) a' w' → K a' w') : o.wp C.P a w K Q := by
  have hT := h.opds hx hsm
  obtain ⟨i, zv, hi, hzv, hzc⟩ := zeroOK_spec hz
  have hL : RepL D.R w z zv.cells.toList := constCells_rep hzc
  simp only [placesOK, Bool.and_eq_true, beq_iff_eq] at hpl
  obtain ⟨⟨hfs, hlen⟩, hall⟩ := hpl
  have hget : ∀ (j : Nat) (p : Nat × Operand) (q : Nat × Nat), parts.toList[j]? = some p → pl[j]? = some q → (match C.P.underlying t with | some (.struct fs) => (fs[p.1]?).any fun f => f.offset == q.1 && sizeT C.P f.type == some q.2 | some (.array _ e) => sizeT C.P e == some q.2 && p.1 * q.2 == q.1 | _ => false) = true := fun j p q hp hq => by
    have := List.all_eq_true.1 hall (q, p) (List.mem_of_getElem? (i := j) (by simp [List.getElem?_zip_eq_some, hq, hp]))
    exact this
  have hvals : ∀ (j : Nat) (p : Nat × Value) (x : AV), ((parts.map fun p => (p.1, a.eval p.2)).toList)[j]? = some p → (rs.map (Opd.ev C.E σ))[j]? = some x → Rep D.R w x p.2 := fun j p x hp hxj => by
    obtain ⟨y, hy1, hy2⟩ := hT.get j x hxj
    simp only [Array.toList_map, List.getElem?_map, List.map_map] at hp hy1
    cases hq : parts.toList[j]? with
    | none => simp [hq] at hp
    | some q => simp [hq] at hp hy1; subst hp; rw [hy1]; exact hy2
  have hplace : ∀ place : Nat → Option (Nat × Nat), (∀ (j : Nat) (p : Nat × Operand) (q : Nat × Nat), parts.toList[j]? = some p → pl[j]? = some q → place p.1 = some q) →
      ∃ cells', Instr.fill place zv.cells (parts.map fun p => (p.1, a.eval p.2)).toList = some cells' ∧ RepL D.R w cs cells'.toList := fun place hpp =>
    fill_rep place _ pl _ z cs zv.cells hL (by simp [hlen]) (fun j p q hp hq => by
      simp only [Array.toList_map, List.getElem?_map] at hp
      cases hq' : parts.toList[j]? with
      | none => simp [hq'] at hp
      | some q' => simp [hq'] at hp; subst hp; exact hpp j q' q hq' hq) hvals hf
  unfold fieldsSized at hfs
  cases hu : C.P.underlying t with
  | none => simp [hu] at hfs
  | some dd =>
    have fin : ∀ place : Nat → Option (Nat × Nat), (∀ (j : Nat) (p : Nat × Operand) (q : Nat × Nat), parts.toList[j]? = some p → pl[j]? = some q → place p.1 = some q) →
        (∀ cells', Instr.fill place zv.cells (parts.map fun p => (p.1, a.eval p.2)).toList = some cells' → (execOp a.eval o).run C.P w = .ok (.value (.agg cells')) w) → o.wp C.P a w K Q := fun place hpp hrr => by
      obtain ⟨cells', hf', hR⟩ := hplace place hpp
      exact h.valNo hd hl (v := .agg cells') (hrr cells' hf') (by cases cells' with | mk l => exact .ag hR) hK
    cases dd with
    | struct fs =>
      simp only [hu] at hfs
      have hsz : ∀ f ∈ fs.toList, (sizeOf f.type).run C.P w = .ok ((sizeT C.P f.type).getD 0) w := fun f hf => by
        have := List.all_eq_true.1 hfs f hf
        obtain ⟨n, hn⟩ := Option.isSome_iff_exists.1 this
        obtain ⟨i', h1, h2⟩ := sizeT_spec hn
        rw [run_sizeOf h1, hn, h2]; rfl
      refine fin (fun i => (fs.map fun f => (f.offset, (sizeT C.P f.type).getD 0))[i]?) (fun j p q hp hq => ?_) (fun cells' hc => ?_)
      · have := hget j p q hp hq
        rw [hu] at this
        simp only at this
        cases hfp : fs[p.1]? with
        | none => simp [hfp] at this
        | some f =>
          simp [hfp] at this
          simp [hfp, this.1, this.2]
      · have hm := run_mapM_sizes fs.toList hsz
        have hmm : ((fs.mapM fun (f : Field) => do pure (f.offset, ← sizeOf f.type)) : Sem (Array (Nat × Nat))).run C.P w = .ok (fs.map fun f => (f.offset, (sizeT C.P f.type).getD 0)) w := by
          rw [Array.mapM_eq_mapM_toList, Sem.run_map, hm]
          simp only [Result.andThen_ok]
          congr 1
          apply Array.ext'
          simp
        simp only [execOp, ho, Instr.build, Sem.run_bind, run_zero hi hzv, run_underlying hu, Result.andThen_ok, hmm]
        rw [hc]
        simp
    | array n e =>
      simp only [hu] at hfs
      obtain ⟨s, hs⟩ := Option.isSome_iff_exists.1 hfs
      obtain ⟨i', h1, h2⟩ := sizeT_spec hs
      refine fin (fun i => some (i * s, s)) (fun j p q hp hq => ?_) (fun cells' hc => ?_)
      · have := hget j p q hp hq
        rw [hu] at this
        simp [hs] at this
        obtain ⟨q1, q2⟩ := q
        simp at this
        rw [this.1, this.2]
      · simp only [execOp, ho, Instr.build, Sem.run_bind, run_zero hi hzv, run_underlying hu, Result.andThen_ok, run_sizeOf h1, h2]
        rw [hc]
        simp
    | _ => simp [hu] at hfs
end
end Go.Eng
