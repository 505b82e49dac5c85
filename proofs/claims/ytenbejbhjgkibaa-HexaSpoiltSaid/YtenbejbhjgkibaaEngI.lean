/- Local variables and literals. -/
import Derived.Test.YtenbejbhjgkibaaEngH
set_option linter.unusedVariables false
set_option linter.unusedSimpArgs false
namespace Go.Eng
open Go.RowKit

section
variable {R : Reach} {w : World}

/-- A part laid over a row of cells. -/
theorem foldl_set (l : List Value) : ∀ (off k : Nat) (cells : Array Value), off + k + l.length ≤ cells.size →
    ((l.zipIdx k).foldl (fun cs p => cs.setIfInBounds (off + p.2) p.1) cells).toList = cells.toList.take (off + k) ++ l ++ cells.toList.drop (off + k + l.length) := by
  induction l with
  | nil => intro off k cells _; simp
  | cons v l ih =>
    intro off k cells hl
    simp only [List.zipIdx_cons, List.foldl_cons]
    rw [ih off (k + 1) (cells.setIfInBounds (off + k) v) (by simp at hl ⊢; omega)]
    have e := list_seg_step cells.toList (off + k) v l (by simp at hl ⊢; omega)
    simpa [Array.toList_setIfInBounds, Nat.add_assoc] using e

theorem fill_rep (place : Nat → Option (Nat × Nat)) : ∀ (parts : List (Nat × Value)) (pl : List (Nat × Nat)) (xs : List AV) (z cs : List AV) (cells : Array Value), RepL R w z cells.toList → parts.length = pl.length →
    (∀ (j : Nat) (p : Nat × Value) (q : Nat × Nat), parts[j]? = some p → pl[j]? = some q → place p.1 = some q) → (∀ (j : Nat) (p : Nat × Value) (x : AV), parts[j]? = some p → xs[j]? = some x → Rep R w x p.2) → fillAV z pl xs = some cs →
    ∃ cells', Instr.fill place cells parts = some cells' ∧ RepL R w cs cells'.toList
  | [], pl, xs, z, cs, cells, hz, hl, _, _, hf => by
    have : pl = [] := List.eq_nil_of_length_eq_zero hl.symm
    subst this
    cases xs with
    | nil => simp [fillAV] at hf; subst hf; exact ⟨cells, rfl, hz⟩
    | cons => simp [fillAV] at hf
  | (i, v) :: parts, pl, xs, z, cs, cells, hz, hl, hp, hr, hf => by
    cases pl with
    | nil => simp at hl
    | cons q pl =>
      obtain ⟨off, n⟩ := q
      cases xs with
      | nil => simp [fillAV] at hf
      | cons x xs =>
        simp only [fillAV] at hf
        split at hf
        · rename_i hc
          obtain ⟨hc1, hc2, hc3⟩ := hc
          have hx := plain_rep (hr 0 _ _ rfl rfl) hc1
          have hxl := hx.length
          have hzl := hz.length
          simp only [Array.length_toList] at hxl hzl
          have hpl := hp 0 _ _ rfl rfl
          simp only at hpl
          have hs : v.cells.size = n := by omega
          have hfit : ¬ (v.cells.size ≠ n ∨ off + v.cells.size > cells.size) := by omega
          have hcells := foldl_set v.cells.toList off 0 cells (by simp; omega)
          have hz' : RepL R w (splice z off x.cells) (v.cells.zipIdx.foldl (fun cs p => cs.setIfInBounds (off + p.2) p.1) cells).toList := by
            have e : (v.cells.zipIdx.foldl (fun cs p => cs.setIfInBounds (off + p.2) p.1) cells) = (v.cells.toList.zipIdx 0).foldl (fun cs p => cs.setIfInBounds (off + p.2) p.1) cells := by
              rw [← Array.foldl_toList]; simp
            rw [e, hcells]
            have hle : v.cells.toList.length = x.cells.length := by simp; omega
            simp only [splice, Nat.add_zero, hle]
            exact ((hz.take off).append hx).append (hz.drop _)
          obtain ⟨cells', h1, h2⟩ := fill_rep place parts pl xs _ cs _ hz' (by simpa using hl) (fun j p q h1 h2 => hp (j + 1) p q (by simpa using h1) (by simpa using h2)) (fun j p y h1 h2 => hr (j + 1) p y (by simpa using h1) (by simpa using h2)) hf
          refine ⟨cells', ?_, h2⟩
          simp only [Instr.fill, hpl]
          rw [if_neg (by simpa using hfit)]
          exact h1
        · cases hf
end

section
variable {C : Ctx} {D : Dyn} {σ : Sg} {γ : Ga} {a : Act} {w : World}

/-- A NEW LOCAL VARIABLE: a block of its own. -/
theorem Sim.newBlock (h : Sim C D σ γ a w) {w' : World} {cs : List Value} {acs : List AV} {e : TypeId} (hw : w' = { w with heap := w.heap.push (.cells ⟨cs⟩ e) }) (hL : RepL D.R w acs cs) :
    Sim C D σ γ a w' ∧ VarAt D.R w' (.ag acs) w.heap.size cs ∧ C.mine w.heap.size ∧ (∀ key, blk D γ key ≠ some w.heap.size) := by
  subst hw
  have hold : ∀ b, b < w.heap.size → (w.heap.push (.cells ⟨cs⟩ e))[b]? = w.heap[b]? := fun b hb => by rw [Array.getElem?_push, if_neg (by omega)]
  have hS := h.grow (w' := { w with heap := w.heap.push (.cells ⟨cs⟩ e) }) (R' := D.R) rfl rfl rfl (by simp) hold (fun _ _ h => h) (fun _ _ h => .inl h) (fun b o hr => by simp; have := h.rlt b o hr; omega)
  have hk : Keeps D.R w D.R { w with heap := w.heap.push (.cells ⟨cs⟩ e) } := fun b o hr => ⟨hr, World.cell?_of_block (w := w) (hold b (h.rlt b o hr))⟩
  exact ⟨hS, ⟨e, by simp, .inr ⟨acs, rfl, by rw [List.take_of_length_le (by rw [hL.length]; exact Nat.le_refl _)]; exact hL.mono hk⟩, fun o hr => by have := h.rlt _ _ hr; omega⟩, .inr h.ext.size, fun key hk => by have := h.lt hk; omega⟩

theorem zeroOK_spec {P : Program} {t : TypeId} {z : List AV} (h : zeroOK P t z = true) : ∃ i v, P.info? t = some i ∧ i.zero = some v ∧ constCells v.cells.toList z = true := by
  unfold zeroOK at h
  cases hi : P.info? t with
  | none => simp [hi] at h
  | some i =>
    cases hz : i.zero with
    | none => simp [hi, hz] at h
    | some v => simp [hi, hz] at h; exact ⟨i, v, rfl, hz, h⟩
theorem run_zero {P : Program} {t : TypeId} {i : TypeInfo} {v : Value} (hi : P.info? t = some i) (hz : i.zero = some v) (w : World) : (zeroValue t).run P w = .ok v w := by simp [zeroValue, typeInfo, hi, hz]

theorem constCells_get : ∀ {xs : List Value} {ys : List AV}, constCells xs ys = true → ∀ (i : Nat) (y : AV), ys[i]? = some y → ∃ x, xs[i]? = some x ∧ constCell x y = true
  | [], [], _, i, y, h => by simp at h
  | x :: xs, z :: ys, hc, 0, y, h => by simp [constCells] at hc; simp at h; subst h; exact ⟨x, rfl, hc.1⟩
  | x :: xs, z :: ys, hc, i + 1, y, h => by simp [constCells] at hc; simpa using constCells_get hc.2 i y (by simpa using h)
  | [], _ :: _, h, _, _, _ => by simp [constCells] at h
  | _ :: _, [], h, _, _, _ => by simp [constCells] at h
theorem constCell_nil {x : Value} {s : Nat} (h : constCell x (.sl s []) = true) : x = .slice none 0 0 := by
  unfold constCell at h; split at h <;> simp_all

/-- Tips that are nil as yet, one for each name. -/
theorem Sim.nilTips (ts : List (Nat × (Nat × Nat))) : ∀ {D : Dyn} {σ : Sg} {γ : Ga} {a : Act} {w : World}, Sim C D σ γ a w → (∀ t ∈ ts, γ (lk t.2.1) = .no) → (ts.map (·.2.1)).Nodup →
    ∃ D', Sim C D' (updL σ (ts.map fun t => lk t.2.1) (ts.map fun _ => .dead)) (updL γ (ts.map fun t => lk t.2.1) (ts.map fun t => .live t.2.2)) a w ∧ D'.R = D.R ∧ (∀ key, blk D γ key = none ∨ blk D' (updL γ (ts.map fun t => lk t.2.1) (ts.map fun t => .live t.2.2)) key = blk D γ key) ∧
      (∀ key g, blk D' (updL γ (ts.map fun t => lk t.2.1) (ts.map fun t => .live t.2.2)) key = some g → blk D γ key = some g) ∧
      (∀ t ∈ ts, D'.τ (lk t.2.1) = .slice none 0 0 ∧ (updL γ (ts.map fun t => lk t.2.1) (ts.map fun t => .live t.2.2) (lk t.2.1)).isLk = true) ∧
      (∀ key, (∀ t ∈ ts, key ≠ lk t.2.1) → updL γ (ts.map fun t => lk t.2.1) (ts.map fun t => .live t.2.2) key = γ key) ∧ (∀ k, (∀ t ∈ ts, k ≠ lk t.2.1) → D'.τ k = D.τ k) ∧ D'.β = D.β := by
  induction ts with
  | nil => exact fun {D σ γ a w} h _ _ => ⟨D, h, rfl, fun _ => .inr rfl, fun _ _ h => h, by simp, fun _ _ => rfl, fun _ _ => rfl, rfl⟩
  | cons t ts ih =>
    intro D σ γ a w h hno hnd
    simp only [List.map_cons, List.nodup_cons] at hnd
    obtain ⟨D1, h1, hR, hb1, hb2, ht1, hk1, hτ1, hβ1⟩   := ih h (fun u hu => hno u (by simp [hu])) hnd.2
    have hne : ∀ u ∈ ts, lk t.2.1 ≠ lk u.2.1 := fun u hu e => hnd.1 (List.mem_map.2 ⟨u, hu, (lk_inj e).symm⟩)
    have hno1 : updL γ (ts.map fun t => lk t.2.1) (ts.map fun t => .live t.2.2) (lk t.2.1) = .no := by rw [hk1 _ hne]; exact hno t (by simp)
    have h2 := (h1.newTip (k := t.2.1) (s := t.2.2) (v := .slice none 0 0) hno1 (.inl rfl) (by simp [Value.ownBlock])).dead (k := lk t.2.1) (by rw [upd_same]; rfl)
    have hbk : ∀ key, blk { D1 with τ := upd D1.τ (lk t.2.1) (.slice none 0 0) } (upd (updL γ (ts.map fun t => lk t.2.1) (ts.map fun t => .live t.2.2)) (lk t.2.1) (.live t.2.2)) key = if key = lk t.2.1 then none else blk D1 (updL γ (ts.map fun t => lk t.2.1) (ts.map fun t => .live t.2.2)) key := fun key => by
      unfold blk
      by_cases e : key = lk t.2.1
      · subst e; rw [upd_same]; simp [upd_same, Value.ownBlock]
      · rw [upd_ne _ _ e, if_neg e]
        cases hg : updL γ (ts.map fun t => lk t.2.1) (ts.map fun t => .live t.2.2) key with
        | live s' => simp [upd_ne _ _ e]
        | pv s' => simp [upd_ne _ _ e]
        | pc s' => simp [upd_ne _ _ e]
        | sus d s' => simp [upd_ne _ _ e]
        | _ => rfl
    refine ⟨_, h2, hR, fun key => ?_, fun key g hk => ?_, fun u hu => ?_, fun key hk => ?_, fun k hk => ?_, hβ1⟩
    · simp only [List.map_cons, updL]
      rw [hbk]
      by_cases e : key = lk t.2.1
      · subst e; left; unfold blk; rw [hno t (by simp)]
      · rw [if_neg e]; exact hb1 key
    · simp only [List.map_cons, updL] at hk
      rw [hbk] at hk
      by_cases e : key = lk t.2.1
      · simp [e] at hk
      · rw [if_neg e] at hk; exact hb2 key g hk
    · simp only [List.map_cons, updL]
      rcases List.mem_cons.1 hu with rfl | hu
      · exact ⟨upd_same _ _ _, by rw [upd_same]; rfl⟩
      · have hn : lk u.2.1 ≠ lk t.2.1 := fun e => hne u hu e.symm
        refine ⟨by show upd D1.τ (lk t.2.1) _ (lk u.2.1) = _; rw [upd_ne _ _ hn]; exact (ht1 u hu).1, ?_⟩
        rw [upd_ne _ _ (fun e => hne u hu e.symm)]; exact (ht1 u hu).2
    · simp only [List.map_cons, updL]
      rw [upd_ne _ _ (hk t (by simp))]; exact hk1 key (fun u hu => hk u (by simp [hu]))
    · show upd D1.τ (lk t.2.1) _ k = _
      rw [upd_ne _ _ (hk t (by simp))]; exact hτ1 k (fun u hu => hk u (by simp [hu]))

variable {o : Oper} {d : Nat} {K : Act → World → Prop} {Q : Exit → Act → World → Prop} (h : Sim C D σ γ a w) (hd : o.dst = some d) (hl : d < C.nt)
include h hd hl

theorem op_al {t : TypeId} {m : Nat} {z : List AV} {ts : List (Nat × (Nat × Nat))} (ho : o.op = .alloc t) (hz : zeroOK C.P t z = true) (hts : ∀ q ∈ ts, ∃ s, z[q.1]? = some (.sl s [])) (hm : γ m = .no) (h1 : C.nt ≤ m) (h2 : m < 999999)
    (hno : ∀ t ∈ ts, γ (lk t.2.1) = .no) (hnd : (ts.map (·.2.1)).Nodup)
    (hK : ∀ D' a' w', Sim C D' (updL σ (d :: m :: ts.map fun t => lk t.2.1) (.pt :: .ag z :: ts.map fun _ => .dead)) (updL γ (d :: m :: ts.map fun t => lk t.2.1) (.ptr m 0 :: .cl ts :: ts.map fun t => .live t.2.2)) a' w' → K a' w') : o.wp C.P a w K Q := by
  obtain ⟨i, v, hi, hzv, hcc⟩ := zeroOK_spec hz
  have hL : RepL D.R w z v.cells.toList := constCells_rep hcc
  have hrun : (execOp a.eval o).run C.P w = .ok (.value (.pointer (some ⟨w.heap.size, 0, none⟩))) { w with heap := w.heap.push (.cells ⟨v.cells.toList⟩ t) } := by
    simp [execOp, ho, Instr.alloc, run_zero hi hzv, newVar, newRow]
  obtain ⟨hS, hV, hmine, hfree⟩ := h.newBlock rfl hL
  obtain ⟨D1, hS1, hR, hb1, hb2, ht1, hk1, hτ1, hβ1⟩ := hS.nilTips ts hno hnd
  have hmne : ∀ t ∈ ts, m ≠ lk t.2.1 := fun t _ => by have := lk_ge t.2.1; omega
  have hm1 : updL γ (ts.map fun t => lk t.2.1) (ts.map fun t => .live t.2.2) m = .no := by rw [hk1 m hmne]; exact hm
  have hV' : VarAt D1.R { w with heap := w.heap.push (.cells ⟨v.cells.toList⟩ t) } (.ag z) w.heap.size v.cells.toList := by rw [hR]; exact hV
  have hS2 := hS1.newVar (ts := ts) hm1 h1 h2 hV' (fun q hq => ⟨(ht1 q hq).2, by
    obtain ⟨s, hs⟩ := hts q hq
    obtain ⟨y, hy1, _, hy2⟩ := hL.get q.1 _ hs
    rw [hy1, (ht1 q hq).1]
    obtain ⟨x, hx1, hx2⟩ := constCells_get hcc q.1 _ hs
    rw [hy1] at hx1; cases hx1
    rw [constCell_nil hx2]⟩) ⟨hmine, fun key hk => hfree key (hb2 key _ hk)⟩
  have hS3 := hS2.put (d := d) (s := .pt) (g := .ptr m 0) (v := .pointer (some ⟨w.heap.size, 0, none⟩)) hl (.inr ⟨.pt _, by intro _; show _ = _; simp [upd_same]⟩) rfl rfl (by show Gh.isCl (upd _ m _ m) = true; rw [upd_same]; rfl)
  unfold Oper.wp
  rw [hrun, Oper.upon_value, hd]
  exact hK _ _ _ hS3
end
end Go.Eng
