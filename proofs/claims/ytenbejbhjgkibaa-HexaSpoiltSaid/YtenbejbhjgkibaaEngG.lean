/- The operations that make memory or write it: new rows, appends, local variables. -/
import Derived.Test.YtenbejbhjgkibaaEngF
set_option linter.unusedVariables false
set_option linter.unusedSimpArgs false
namespace Go.Eng
open Go.RowKit

theorem sliceOK_spec {P : Program} {t : TypeId} {s b : Nat} (h : sliceOK P t s b = true) : ∃ e i z, P.underlying t = some (.slice e) ∧ P.info? e = some i ∧ i.size = s ∧ i.bytes = b ∧ i.zero = some z ∧ z.cells.size = s ∧ 0 < s := by
  unfold sliceOK at h
  cases he : elemT P t with
  | none => simp [he] at h
  | some e =>
    simp [he] at h
    obtain ⟨h1, h0⟩ := h
    cases hi : P.info? e with
    | none => simp [hi] at h1
    | some i =>
      simp [hi] at h1
      obtain ⟨⟨h1, h2⟩, h3⟩ := h1
      cases hz : i.zero with
      | none => simp [hz] at h3
      | some z => simp [hz] at h3; exact ⟨e, i, z, elemT_spec he, hi, h1, h2, hz, h3, h0⟩

/-- Cells written one behind the other, where none is frozen. -/
theorem run_storeCells_free {P : Program} (g o : Nat) (t : TypeId) (fz : Nat × Nat) : ∀ (vs : List Value) (i : Nat) (cur : Array Value) (w : World), w.heap[g]? = some (.cells cur t fz) → o + i + vs.length ≤ cur.size →
    (∀ j, j < cur.size → ¬ (fz.1 ≤ j ∧ j < fz.2)) → (∀ v ∈ vs, v.oneCell' = true) →
    (storeCells ⟨g, o, none⟩ vs i).run P w = .ok () (w.setRow g (cur.toList.take (o + i) ++ vs ++ cur.toList.drop (o + i + vs.length)).toArray)
  | [], i, cur, w, hg, _, _, _ => by
    simp only [storeCells, List.append_nil, List.length_nil, Nat.add_zero, List.take_append_drop, Array.toArray_toList]
    rw [setRow_self w g cur t fz hg]
    rfl
  | v :: rest, i, cur, w, hg, hl, hf, h1 => by
    have hi : o + i < cur.size := by simp at hl; omega
    have hadd : (⟨g, o, none⟩ : Addr).add i = ⟨g, o + i, none⟩ := addr_add g o i
    have hcell : w.cell? ⟨g, o + i, none⟩ = some cur[o + i] := by simp [World.cell?, hg, hi]
    have hfro : w.frozen? ⟨g, o + i, none⟩ = false := by
      obtain ⟨f1, f2⟩ := fz
      have := hf (o + i) hi
      simp only [World.frozen?, hg]
      simp only [Bool.and_eq_false_iff, decide_eq_false_iff_not]
      simp only at this
      omega
    have hst : (store ((⟨g, o, none⟩ : Addr).add i) v).run P w = .ok () (w.setRow g (cur.setIfInBounds (o + i) v)) := by
      rw [hadd, run_store P w _ v _ (h1 v (by simp)), hcell]
      simp [hfro, setCell_eq_setRow w g (o + i) cur t fz v hg]
    have ih := run_storeCells_free (P := P) g o t fz rest (i + 1) (cur.setIfInBounds (o + i) v) (w.setRow g (cur.setIfInBounds (o + i) v)) (setRow_heap w g cur _ t _ hg) (by simp at hl ⊢; omega) (by simpa using hf) (fun x hx => h1 x (by simp [hx]))
    simp only [storeCells, Sem.run_bind, hst, Result.andThen_ok, ih, setRow_setRow]
    congr 3
    have e := list_seg_step cur.toList (o + i) v rest (by simp at hl ⊢; omega)
    simpa [Array.toList_setIfInBounds, Nat.add_assoc] using e

theorem plain_rep {R : Reach} {w : World} {x : AV} {v : Value} (h : Rep R w x v) (hp : x.plain = true) : RepL R w x.cells v.cells.toList := by
  cases h with
  | v =>
    simp only [AV.plain] at hp
    simp only [AV.cells]
    cases v <;> simp [Value.oneCell'] at hp <;> exact .cons rfl (.v _) .nil
  | ag h => exact h
  | nil s => exact .cons rfl (.nil s) .nil
  | sl a b c d => exact .cons rfl (.sl a b c d) .nil
  | em s h => exact .cons rfl (.em s h) .nil
  | ro h => exact .cons rfl (.ro h) .nil
  | tu => simp [AV.plain] at hp
  | pt => simp [AV.plain] at hp
  | el => simp [AV.plain] at hp
  | ab => simp [AV.plain] at hp
  | dead => simp [AV.plain] at hp

section
variable {P : Program} {w : World}
/-- What is appended: m elements, whose cells these are. -/
def Source (P : Program) (w : World) (s : Nat) (x : Value) (m : Nat) (news : List Value) : Prop :=
  (∀ w', (Builtin.lenOf x).run P w' = .ok m w') ∧ (∀ w' : World, w'.heap = w.heap → (Builtin.firstCells s m x).run P w' = .ok ⟨news⟩ w') ∧ news.length = m * s ∧ ∀ v ∈ news, v.oneCell' = true

theorem run_append_room' {t u ty e : TypeId} {i : TypeInfo} {du : TypeDesc} (ht : P.underlying t = some (.slice e)) (hi : P.info? e = some i) (hu : P.underlying u = some du) (hdu : ∀ k, du ≠ .int k)
    {g n cap m : Nat} {cur : Array Value} {ce : TypeId} {fz : Nat × Nat} {x : Value} {news : List Value} (hg : w.heap[g]? = some (.cells cur ce fz)) (hf : ∀ j, j < cur.size → ¬ (fz.1 ≤ j ∧ j < fz.2))
    (hx : Source P w i.size x m news) (hroom : n + m ≤ cap) (hfit : cur.size = cap * i.size) :
    (Builtin.append_ #[t, u] ty #[.slice (some ⟨g, 0, none⟩) n cap, x]).run P w =
      .ok (.slice (some ⟨g, 0, none⟩) (n + m) cap) (w.setRow g (cur.toList.take (n * i.size) ++ news ++ cur.toList.drop (n * i.size + news.length)).toArray) := by
  obtain ⟨h1, h2, h3, h4⟩ := hx
  have hle : n * i.size + news.length ≤ cur.size := by rw [h3, hfit, ← Nat.add_mul]; exact Nat.mul_le_mul_right _ hroom
  have hst := run_storeCells_free (P := P) g (n * i.size) ce fz news 0 cur w hg (by simpa using hle) hf h4
  simp only [Nat.add_zero] at hst
  have hz : (match du with | .int _ => true | _ => false) = false := by cases du <;> first | rfl | exact (hdu _ rfl).elim
  simp only [Builtin.append_, List.getElem?_toArray, List.getElem?_cons_zero, List.getElem?_cons_succ, Sem.run_bind, run_underlying ht, run_underlying hu, Result.andThen_ok, run_sizeOf hi, Sem.run_pure, hz, Bool.false_eq_true, if_false, h1, hroom, if_true, Bool.not_false, h2 w rfl]
  simp [addr_add, hst]

theorem run_append_grow' {t u ty e : TypeId} {i : TypeInfo} {z : Value} {du : TypeDesc} (ht : P.underlying t = some (.slice e)) (hi : P.info? e = some i) (hz : i.zero = some z) (hu : P.underlying u = some du) (hdu : ∀ k, du ≠ .int k)
    {q : Option Addr} {n cap m : Nat} {x : Value} {olds news : List Value} (ho : ∀ w' : World, w'.heap = w.heap → (Builtin.firstCells i.size n (.slice q n cap)).run P w' = .ok ⟨olds⟩ w')
    (hx : Source P w i.size x m news) (hg : cap < n + m) (h63 : n + m ≤ maxLen) (hb : (n + m) * i.bytes ≤ 140737488355328) :
    (Builtin.append_ #[t, u] ty #[.slice q n cap, x]).run P w =
      .ok (.slice (some ⟨w.heap.size, 0, none⟩) (n + m) (grownCap w (n + m) cap e))
        (w.drew.alloc (.cells ((⟨olds⟩ : Array Value) ++ ⟨news⟩ ++ Builtin.zeroCells z.cells (grownCap w (n + m) cap e - (n + m))) e)) := by
  obtain ⟨h1, h2, h3, h4⟩ := hx
  have hn : ¬ (n + m ≤ cap) := by omega
  have h63' : ¬ (9223372036854775807 < ((n : Int) + (m : Int))) := by simp only [maxLen] at h63; omega
  have h48' : ¬ (281474976710656 < Builtin.nextslicecap (n + m) cap * i.bytes) := by
    have := growslice_fits hg hb; omega
  have hdz : (match du with | .int _ => true | _ => false) = false := by cases du <;> first | rfl | exact (hdu _ rfl).elim
  simp [Builtin.append_, run_underlying ht, run_underlying hu, hdz, sizeOf, typeInfo, zeroValue, hi, hz, h1, hn, h63', h48', Question.forced, ho w.drew rfl, h2 w.drew rfl, newRow, grownCap]
  congr 2
  apply Array.ext'
  simp [List.append_assoc]
end

section
variable {C : Ctx} {D : Dyn} {σ : Sg} {γ : Ga} {a : Act} {w : World}

/-- A NEW ROW OF CELLS, whose first ones read as es. -/
theorem Sim.newRow (h : Sim C D σ γ a w) {w' : World} {cur : Array Value} {e : TypeId} {fz : Nat × Nat} {s cap : Nat} {es : List AV} {ys : List Value}
    (os : w'.os = w.os) (tape : w'.tape = w.tape) (out : w'.output = w.output) (hh : w'.heap = w.heap.push (.cells cur e fz))
    (hes : ∀ x ∈ es, x.cells.length = s) (hL : RepL D.R w (es.flatMap AV.cells) ys) (hcur : ∀ (j : Nat) (y : Value), ys[j]? = some y → cur[j]? = some y) (hc1 : es.length ≤ cap) (hc2 : cap ≤ maxLen) :
    ∃ R', Sim C { D with R := R' } σ γ a w' ∧ Rep R' w' (.sl s es) (.slice (some ⟨w.heap.size, 0, none⟩) es.length cap) ∧ (∀ o, es.length * s ≤ o → ¬ R' w.heap.size o) ∧
      (∀ b o, D.R b o → R' b o) ∧ Keeps D.R w R' w' ∧ w'.heap[w.heap.size]? = some (.cells cur e fz) := by
  have hsz : w'.heap.size = w.heap.size + 1 := by rw [hh]; simp
  have hold : ∀ b, b < w.heap.size → w'.heap[b]? = w.heap[b]? := fun b hb => by rw [hh, Array.getElem?_push, if_neg (by omega)]
  have hnew : w'.heap[w.heap.size]? = some (.cells cur e fz) := by rw [hh]; simp
  let R' : Reach := fun b o => D.R b o ∨ (b = w.heap.size ∧ o < es.length * s)
  have hS := h.grow (w' := w') (R' := R') os tape out (by omega) hold (fun b o hr => .inl hr) (fun b o hr => hr.imp id fun e => by omega)
    (fun b o hr => by
      rcases hr with hr | ⟨e, _⟩
      · exact Nat.lt_trans (h.rlt b o hr) (by omega)
      · omega)
  have hk : Keeps D.R w R' w' := fun b o hr => ⟨.inl hr, World.cell?_of_block (w := w) (hold b (h.rlt b o hr))⟩
  refine ⟨R', hS, ?_, fun o ho hr => ?_, fun b o hr => .inl hr, hk, hnew⟩
  · refine .sl rfl hc1 hc2 (RepE.write hes (hL.mono hk) (fun j hj => .inr ⟨rfl, by omega⟩) (fun j y hy => ?_))
    simp only [World.cell?, hnew, Nat.zero_add]
    exact hcur j y hy
  · rcases hr with hr | ⟨_, hr⟩
    · have := h.rlt _ _ hr; omega
    · omega

theorem Source.of_sl {P : Program} {R : Reach} {s : Nat} {fs : List AV} {x : Value} (h : Rep R w (.sl s fs) x) : ∃ news, Source P w s x fs.length news ∧ RepL R w (fs.flatMap AV.cells) news ∧ ∀ e ∈ fs, e.cells.length = s := by
  rcases h.sl_inv with ⟨rfl, rfl⟩ | ⟨b, off, cap, rfl, _, _, hE⟩ | ⟨rfl, ad, cap, rfl, _⟩
  rotate_left 2
  · exact ⟨[], ⟨fun _ => rfl, fun w' _ => run_firstCells_some (P := P) w' s 0 ad 0 cap [] (by simp) (fun j v hj => by simp at hj), by simp, by simp⟩, .nil, by simp⟩
  · exact ⟨[], ⟨fun _ => rfl, fun _ _ => rfl, by simp, by simp⟩, .nil, by simp⟩
  · obtain ⟨ys, h1, h2, h3, h4⟩ := hE.cells
    refine ⟨ys, ⟨fun _ => rfl, fun w' hw => ?_, h1, h3.one⟩, h3, h4⟩
    exact run_firstCells_some (P := P) w' s fs.length ⟨b, off, none⟩ fs.length cap ys h1 (fun j v hj => by rw [addr_add]; rw [World.cell?_of_block (w := w) (by rw [hw])]; exact h2 j v hj)
theorem bytes_cells (l : List UInt8) : (l.map byteAV).flatMap AV.cells = l.map byteAV := by
  induction l with
  | nil => rfl
  | cons b l ih => simp [ih]; rfl
theorem bytes_repL {R : Reach} (l : List UInt8) : RepL R w (l.map byteAV) (l.map fun b => .int .u8 b.toNat) := by
  induction l with
  | nil => exact .nil
  | cons b l ih => exact .cons rfl (.v _) ih
theorem Source.of_string {P : Program} (b : ByteArray) : Source P w 1 (.string b) b.data.toList.length (b.data.toList.map fun b => .int .u8 b.toNat) := by
  refine ⟨fun _ => ?_, fun w' _ => ?_, by simp, by simp; exact fun _ _ => rfl⟩
  · rw [bsize]; rfl
  · have : b.extract 0 b.size = b := by simp
    simp only [Builtin.firstCells, bsize, this, Sem.run_pure]
    congr 1
    apply Array.ext'
    simp

/-- AN APPEND to a slice that is a tip. -/
theorem Sim.append (h : Sim C D σ γ a w) {P : Program} {t u ty e : TypeId} {i : TypeInfo} {z : Value} {du : TypeDesc} (ht : P.underlying t = some (.slice e)) (hi : P.info? e = some i) (hz : i.zero = some z) (hzs : z.cells.size = i.size) (hu : P.underlying u = some du) (hdu : ∀ k, du ≠ .int k)
    {x0 x : Value} {es fs : List AV} {news : List Value} (hr : Rep D.R w (.sl i.size es) x0) (htip : TipOK D.R w x0 i.size) (hown : ∀ g, x0.ownBlock = some g → C.mine g ∧ ∀ key, blk D γ key ≠ some g)
    (hx : Source P w i.size x fs.length news) (hL : RepL D.R w (fs.flatMap AV.cells) news) (hfs : ∀ e ∈ fs, e.cells.length = i.size) (h63 : es.length + fs.length ≤ maxLen) (hb : (es.length + fs.length) * i.bytes ≤ 140737488355328) :
    ∃ v w' R', (Builtin.append_ #[t, u] ty #[x0, x]).run P w = .ok v w' ∧ Sim C { D with R := R' } σ γ a w' ∧ Rep R' w' (.sl i.size (es ++ fs)) v ∧ TipOK R' w' v i.size ∧ Keeps D.R w R' w' ∧
      ∀ g, v.ownBlock = some g → C.mine g ∧ ∀ key, blk D γ key ≠ some g := by
  have hnews := hx.2.2.1
  -- the row grows
  have grow : ∀ (q : Option Addr) (cap : Nat) (olds : List Value), cap < es.length + fs.length → (∀ w' : World, w'.heap = w.heap → (Builtin.firstCells i.size es.length (.slice q es.length cap)).run P w' = .ok ⟨olds⟩ w') →
      RepL D.R w (es.flatMap AV.cells) olds → (∀ e ∈ es, e.cells.length = i.size) → olds.length = es.length * i.size →
      ∃ v w' R', (Builtin.append_ #[t, u] ty #[.slice q es.length cap, x]).run P w = .ok v w' ∧ Sim C { D with R := R' } σ γ a w' ∧ Rep R' w' (.sl i.size (es ++ fs)) v ∧ TipOK R' w' v i.size ∧ Keeps D.R w R' w' ∧
        ∀ g, v.ownBlock = some g → C.mine g ∧ ∀ key, blk D γ key ≠ some g := by
    intro q cap olds hlt ho hLo hes hlo
    have hrun := run_append_grow' (ty := ty) ht hi hz hu hdu ho hx hlt h63 hb
    have hge := grownCap_ge w (es.length + fs.length) cap e
    have hle := grownCap_le_maxLen w (es.length + fs.length) cap e h63
    obtain ⟨R', hS, hR, hn, _, hk, hh⟩ := h.newRow (w' := w.drew.alloc (.cells ((⟨olds⟩ : Array Value) ++ ⟨news⟩ ++ Builtin.zeroCells z.cells (grownCap w (es.length + fs.length) cap e - (es.length + fs.length))) e))
      (es := es ++ fs) (s := i.size) (ys := olds ++ news) (cap := grownCap w (es.length + fs.length) cap e) rfl rfl rfl rfl
      (fun y hy => by rcases List.mem_append.1 hy with hy | hy; · exact hes y hy
                      · exact hfs y hy)
      (by rw [List.flatMap_append]; exact hLo.append hL)
      (fun j y hj => by
        rw [Array.getElem?_append_left (by simp; have := (List.getElem?_eq_some_iff.1 hj).1; simpa using this)]
        simpa using hj) (by simpa using hge) hle
    rw [List.length_append] at hR hn
    refine ⟨_, _, R', hrun, hS, hR, .inr ⟨_, _, _, _, _, _, rfl, hh, by simp, ?_, hge, hle, hn⟩, hk, fun g hg => ?_⟩
    · simp only [Array.size_append, List.size_toArray, size_zeroCells, hzs, hlo, hnews, ← Nat.add_mul]
      congr 1; omega
    · simp [Value.ownBlock] at hg
      subst hg
      exact ⟨.inr h.ext.size, fun key hk => by have := h.lt hk; omega⟩
  rcases hr.sl_tip htip with ⟨rfl, rfl⟩ | ⟨b, off, cap, rfl, hcap, hcm, hE⟩
  · by_cases hm : fs.length = 0
    · have hfs0 : fs = [] := List.eq_nil_of_length_eq_zero hm
      subst hfs0
      refine ⟨.slice none 0 0, w, D.R, ?_, by cases D; exact h, .nil _, .inl rfl, Keeps.refl _ _, by simp [Value.ownBlock]⟩
      obtain ⟨h1, h2, h3, h4⟩ := hx
      have hdz : (match du with | .int _ => true | _ => false) = false := by cases du <;> first | rfl | exact (hdu _ rfl).elim
      have h2' := h2 w rfl
      simp only [List.length_nil] at h1 h2'
      simp [Builtin.append_, run_underlying ht, run_underlying hu, hdz, sizeOf, typeInfo, hi, h1, h2']
    · exact grow none 0 [] (by simp; omega) (fun _ _ => rfl) .nil (by simp) (by simp)
  · rcases htip with e0 | ⟨g, n, cap', cur, ce, fz, e0, hg, hfz, hcs, hnc, hcm', hnR⟩
    · cases e0
    · cases e0
      obtain ⟨olds, hlo, hco, hLo, hes⟩ := hE.cells
      simp only [Nat.zero_add] at hco
      by_cases hroom : es.length + fs.length ≤ cap
      · obtain ⟨hm1, hm2⟩ := hown b rfl
        have hrun := run_append_room' (ty := ty) ht hi hu hdu hg hfz hx hroom hcs
        have hle : (es.length + fs.length) * i.size ≤ cap * i.size := Nat.mul_le_mul_right _ hroom
        rw [Nat.add_mul] at hle
        let cur' : Array Value := (cur.toList.take (es.length * i.size) ++ news ++ cur.toList.drop (es.length * i.size + news.length)).toArray
        have hcur' : ∀ j, j < es.length * i.size → cur'[j]? = cur[j]? := fun j hj => by
          have h1 : j < (cur.toList.take (es.length * i.size)).length := by simp; omega
          simp only [cur', List.getElem?_toArray, List.append_assoc]
          rw [List.getElem?_append_left h1, List.getElem?_take, if_pos hj]; simp
        have hnew' : ∀ j y, news[j]? = some y → cur'[es.length * i.size + j]? = some y := fun j y hj => by
          have h1 : (cur.toList.take (es.length * i.size)).length = es.length * i.size := by simp; omega
          have h2 := (List.getElem?_eq_some_iff.1 hj).1
          simp only [cur', List.getElem?_toArray, List.append_assoc]
          rw [List.getElem?_append_right (by omega), h1, Nat.add_sub_cancel_left, List.getElem?_append_left h2]; exact hj
        have hcell : ∀ j, (w.setRow b cur').cell? ⟨b, j, none⟩ = cur'[j]? := fun j => cell_setRow_same w b j cur cur' ce fz hg
        let R' : Reach := fun c o => D.R c o ∨ (c = b ∧ o < (es.length + fs.length) * i.size)
        have hk : Keeps D.R w R' (w.setRow b cur') := fun c o hr' => ⟨.inl hr', by
          by_cases hcb : c = b
          · subst hcb
            have ho : o < es.length * i.size := by
              rcases Nat.lt_or_ge o (es.length * i.size) with ho | ho
              · exact ho
              · exact (hnR o ho hr').elim
            rw [hcell, hcur' o ho]
            simp [World.cell?, hg]
          · exact cell_setRow_other w b cur' ⟨c, o, none⟩ hcb⟩
        have hblt : b < w.heap.size := (Array.getElem?_eq_some_iff.1 hg).1
        have hS := h.world (w' := w.setRow b cur') (R' := R') rfl rfl rfl (by simp) (fun c hc hor => setRow_other w b c cur' (fun e => by
            subst e
            rcases hor with ⟨key, hkey⟩ | hor
            · exact hm2 key hkey
            · exact hor hm1)) hk
          (fun c o hr' => hr'.imp id fun ⟨e, _⟩ => by subst e; exact ⟨hm1, hm2⟩)
          (fun c o hr' => by
            rw [setRow_size]
            rcases hr' with hr' | ⟨e, _⟩
            · exact h.rlt c o hr'
            · omega)
        refine ⟨_, _, R', hrun, hS, ?_, .inr ⟨_, _, _, _, _, _, rfl, setRow_heap w b cur cur' ce fz hg, ?_, ?_, hroom, hcm, fun o ho hr' => ?_⟩, hk, fun g' hg' => ?_⟩
        · rw [← List.length_append]
          refine .sl rfl (by simpa using hroom) hcm ?_
          refine (hE.mono hk).append (RepE.write hfs (hL.mono hk) (fun j hj => .inr ⟨rfl, ?_⟩) (fun j y hj => ?_))
          · rw [Nat.add_mul]; omega
          · rw [hcell, Nat.zero_add]; exact hnew' j y hj
        · intro o ho
          refine hfz o ?_
          simp [cur'] at ho
          omega
        · simp [cur']; omega
        · rcases hr' with hr' | ⟨_, hr'⟩
          · exact hnR o (by rw [Nat.add_mul] at ho; omega) hr'
          · omega
        · simp [Value.ownBlock] at hg'
          subst hg'
          exact ⟨hm1, hm2⟩
      · refine grow (some ⟨b, 0, none⟩) cap olds (by omega) (fun w' hw => ?_) hLo hes hlo
        exact run_firstCells_some (P := P) w' i.size es.length ⟨b, 0, none⟩ es.length cap olds hlo (fun j v hj => by
          rw [addr_add, Nat.zero_add, World.cell?_of_block (w := w) (by rw [hw])]; exact hco j v hj)
end
end Go.Eng
