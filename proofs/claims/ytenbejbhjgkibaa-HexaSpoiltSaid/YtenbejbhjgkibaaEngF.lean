/- The operations that read: length, index, slices, loads, fields. -/
import Derived.Test.YtenbejbhjgkibaaEngE
set_option linter.unusedVariables false
set_option linter.unusedSimpArgs false
namespace Go.Eng
open Go.RowKit

section
variable {P : Program}
theorem isStrT_spec {t : TypeId} (h : isStrT P t = true) : P.underlying t = some .string := by
  unfold isStrT at h; split at h <;> simp_all
theorem isBoolT_spec {t : TypeId} (h : isBoolT P t = true) : P.underlying t = some .bool := by
  unfold isBoolT at h; split at h <;> simp_all
theorem isIntT_spec {t : TypeId} {k : IntKind} (h : isIntT P t k = true) : P.underlying t = some (.int k) := by
  unfold isIntT at h; split at h <;> simp_all
theorem elemT_spec {t e : TypeId} (h : elemT P t = some e) : P.underlying t = some (.slice e) := by
  unfold elemT at h
  cases hu : P.underlying t with
  | none => simp [hu] at h
  | some d => simp only [hu, Option.bind_some] at h; split at h <;> simp_all
theorem sizeT_spec {t : TypeId} {n : Nat} (h : sizeT P t = some n) : ∃ i, P.info? t = some i ∧ i.size = n := by
  unfold sizeT at h
  cases hu : P.info? t with
  | none => simp [hu] at h
  | some i => simp [hu] at h; exact ⟨i, rfl, h⟩
theorem sliceOK'_spec {t : TypeId} {s : Nat} (h : sliceOK' P t s = true) : ∃ e i, P.underlying t = some (.slice e) ∧ P.info? e = some i ∧ i.size = s ∧ 0 < s := by
  unfold sliceOK' at h
  cases he : elemT P t with
  | none => simp [he] at h
  | some e =>
    simp [he] at h
    obtain ⟨i, h1, h2⟩ := sizeT_spec h.1
    exact ⟨e, i, elemT_spec he, h1, h2, h.2⟩
theorem isByteSl_spec {t : TypeId} (h : isByteSl P t = true) : ∃ e, P.underlying t = some (.slice e) ∧ P.underlying e = some (.int .u8) := by
  unfold isByteSl at h
  cases he : elemT P t with
  | none => simp [he] at h
  | some e => simp [he] at h; exact ⟨e, elemT_spec he, isIntT_spec h⟩
theorem shapeOK_spec {t : TypeId} {n : Nat} {agg : Bool} (h : shapeOK P t n agg = true) : ∃ i, P.info? t = some i ∧ i.size = n ∧ isAggT P t = some agg ∧ (agg = true ∨ n = 1) := by
  unfold shapeOK at h
  simp at h
  obtain ⟨⟨h1, h2⟩, h3⟩ := h
  obtain ⟨i, e1, e2⟩ := sizeT_spec h1
  exact ⟨i, e1, e2, h2, h3⟩
theorem fieldT_spec {t : TypeId} {f : Nat} {fl : Field} (h : fieldT P t f = some fl) : ∃ fs, P.underlying t = some (.struct fs) ∧ fs[f]? = some fl := by
  unfold fieldT at h
  cases hu : P.underlying t with
  | none => simp [hu] at h
  | some d => simp only [hu, Option.bind_some] at h; split at h <;> simp_all

theorem run_sizeOf {t : TypeId} {i : TypeInfo} (h : P.info? t = some i) (w : World) : (sizeOf t).run P w = .ok i.size w := by simp [sizeOf, typeInfo, h]
theorem run_isAgg {t : TypeId} {b : Bool} (h : isAggT P t = some b) (w : World) : (isAgg t).run P w = .ok b w := by
  unfold isAggT at h
  cases hu : P.underlying t with
  | none => simp [hu] at h
  | some d =>
    simp only [hu, Option.map_some, Option.some.injEq] at h
    unfold isAgg
    simp only [Sem.run_bind, run_underlying hu, Result.andThen_ok]
    cases d <;> simp_all

theorem run_loadVar {t : TypeId} {i : TypeInfo} {agg : Bool} (hi : P.info? t = some i) (ha : isAggT P t = some agg) (h1 : agg = true ∨ i.size = 1) {w : World} {b off : Nat} {ys : List Value} (hl : ys.length = i.size)
    (hc : ∀ j y, ys[j]? = some y → w.cell? ⟨b, off + j, none⟩ = some y) : (loadVar t ⟨b, off, none⟩).run P w = .ok (if agg then .agg ⟨ys⟩ else ys.headD undef) w := by
  unfold loadVar
  simp only [Sem.run_bind, run_isAgg ha, Result.andThen_ok]
  cases agg with
  | true =>
    have := run_loadCells_list (P := P) w ⟨b, off, none⟩ ys (fun j v hj => by
      have h := hc j v hj
      unfold Addr.add
      split
      · rename_i e; subst e; exact h
      · exact h)
    simp [run_sizeOf hi, ← hl, this]
  | false =>
    have hs : i.size = 1 := by simpa using h1
    match ys, hl with
    | [y], _ =>
      have := hc 0 y rfl
      simp at this
      simp [this]
    | [], hl => simp [hs] at hl
    | _ :: _ :: _, hl => simp [hs] at hl
end

theorem take1 {α : Type} {l : List α} {i : Nat} (h : i < l.length) : (l.drop i).take 1 = [l[i]] := by
  rw [List.drop_eq_getElem_cons h, List.take_succ_cons, List.take_zero]
theorem bsize (b : ByteArray) : b.data.toList.length = b.size := by rw [Array.length_toList]; rfl
theorem bget {b : ByteArray} {i : Nat} {x : UInt8} (h : b.data.toList[i]? = some x) : b[i]? = some x := by
  have hlt := (List.getElem?_eq_some_iff.1 h).1
  rw [bsize] at hlt
  rw [getElem?_pos b i hlt, ← (List.getElem?_eq_some_iff.1 h).2]
  rfl

section
variable {C : Ctx} {D : Dyn} {σ : Sg} {γ : Ga} {a : Act} {w : World}

theorem Rep.sl_inv {R : Reach} {w : World} {s : Nat} {es : List AV} {y : Value} (h : Rep R w (.sl s es) y) :
    (es = [] ∧ y = .slice none 0 0) ∨ (∃ b off cap, y = .slice (some ⟨b, off, none⟩) es.length cap ∧ es.length ≤ cap ∧ cap ≤ maxLen ∧ RepE R w s es b off) ∨ (es = [] ∧ ∃ ad cap, y = .slice (some ad) 0 cap ∧ cap ≤ maxLen) := by
  cases h with
  | nil => exact .inl ⟨rfl, rfl⟩
  | sl h1 h2 h3 h4 => subst h1; exact .inr (.inl ⟨_, _, _, rfl, h2, h3, h4⟩)
  | em _ h => exact .inr (.inr ⟨rfl, _, _, rfl, h⟩)
theorem Rep.sl_tip {R : Reach} {w : World} {s s' : Nat} {es : List AV} {y : Value} (h : Rep R w (.sl s es) y) (ht : TipOK R w y s') :
    (es = [] ∧ y = .slice none 0 0) ∨ ∃ b off cap, y = .slice (some ⟨b, off, none⟩) es.length cap ∧ es.length ≤ cap ∧ cap ≤ maxLen ∧ RepE R w s es b off := by
  rcases h.sl_inv with e | e | ⟨rfl, ad, cap, rfl, hc⟩
  · exact .inl e
  · exact .inr e
  · rcases ht with e | ⟨g, n, cap', cur, el, fz, e, _⟩
    · cases e
    · cases e; exact .inr ⟨_, _, _, rfl, Nat.zero_le _, hc, .nil _ _ _⟩
theorem Rep.ro_inv {R : Reach} {w : World} {x : AV} {y : Value} (h : Rep R w (.ro x) y) : ∃ b off s, y = .pointer (some ⟨b, off, none⟩) ∧ RepAt R w s x b off := by
  cases h with
  | ro h => exact ⟨_, _, _, rfl, h⟩
theorem Rep.ag_inv {R : Reach} {w : World} {cs : List AV} {y : Value} (h : Rep R w (.ag cs) y) : ∃ ys, y = .agg ⟨ys⟩ ∧ RepL R w cs ys := by
  cases h with
  | ag h => exact ⟨_, rfl, h⟩
theorem Rep.sl_len {R : Reach} {w : World} {s : Nat} {es : List AV} {y : Value} (h : Rep R w (.sl s es) y) : ∃ q cap, y = .slice q es.length cap := by
  rcases h.sl_inv with ⟨rfl, rfl⟩ | ⟨b, off, cap, rfl, _⟩ | ⟨rfl, ad, cap, rfl, _⟩
  · exact ⟨_, _, rfl⟩
  · exact ⟨_, _, rfl⟩
  · exact ⟨_, _, rfl⟩

/-- A variable's value out of what its cells read as. -/
theorem repOf {R : Reach} {x : AV} {ys : List Value} (h : RepL R w x.cells ys) : Rep R w x (if x.isAg then .agg ⟨ys⟩ else ys.headD undef) := by
  cases x with
  | ag cs => exact .ag h
  | _ =>
    simp only [AV.cells, AV.isAg] at h ⊢
    cases h with
    | cons _ h1 h2 => cases h2; simpa using h1
theorem part_rep {R : Reach} {cs : List AV} {ys : List Value} {o n : Nat} {agg : Bool} {x : AV} (h : RepL R w cs ys) (hp : partAV cs o n agg = some x) (h1 : agg = true ∨ n = 1) :
    ((ys.drop o).take n).length = n ∧ Rep R w x (if agg then .agg ⟨(ys.drop o).take n⟩ else ((ys.drop o).take n).headD undef) := by
  have hlen := h.length
  unfold partAV at hp
  cases agg with
  | true =>
    simp only [if_true] at hp
    split at hp
    · rename_i hle
      cases hp
      exact ⟨by simp; omega, .ag ((h.drop o).take n)⟩
    · cases hp
  | false =>
    simp at h1
    subst h1
    simp at hp
    obtain ⟨y, hy1, _, hy2⟩ := h.get o x hp
    have hlt := (List.getElem?_eq_some_iff.1 hy1).1
    refine ⟨by simp; omega, ?_⟩
    have : (ys.drop o).take 1 = [y] := by
      rw [take1 hlt, (List.getElem?_eq_some_iff.1 hy1).2]
    simpa [this] using hy2

variable {o : Oper} {d : Nat} {K : Act → World → Prop} {Q : Exit → Act → World → Prop} (h : Sim C D σ γ a w) (hd : o.dst = some d) (hl : d < C.nt)
include h hd hl

theorem op_len_sl {x : Operand} {r : Opd} {t e : TypeId} {s : Nat} {es : List AV} (ho : o.op = .call { callee := .builtin .len, args := #[x], argTypes := #[t] }) (ht : C.P.underlying t = some (.slice e)) (hx : opdOK x r = true) (hs1 : small C.nt [x] = true)
    (hr : r.ev C.E σ = .sl s es) (hK : ∀ D' a' w', Sim C D' (upd σ d (.v (.int .i64 es.length))) (upd γ d .no) a' w' → K a' w') : o.wp C.P a w K Q := by
  have e1 := (h.opd hx hs1).rep (by rw [hr]; simp)
  rw [hr] at e1
  obtain ⟨q, cap, hq⟩ := e1.sl_len
  have hrun : (execOp a.eval o).run C.P w = .ok (.value (.int .i64 es.length)) w := by
    simp [execOp, ho, hq, resolve, invoke, builtin, Builtin.len_, run_underlying ht, goInt]
  exact h.valNo hd hl hrun (.v _) hK

theorem op_len_str {x : Operand} {r : Opd} {t : TypeId} {b : ByteArray} (ho : o.op = .call { callee := .builtin .len, args := #[x], argTypes := #[t] }) (ht : C.P.underlying t = some .string) (hx : opdOK x r = true) (hs1 : small C.nt [x] = true)
    (hr : r.ev C.E σ = .v (.string b)) (hK : ∀ D' a' w', Sim C D' (upd σ d (.v (.int .i64 b.data.toList.length))) (upd γ d .no) a' w' → K a' w') : o.wp C.P a w K Q := by
  have e1 := (h.opd hx hs1).rep (by rw [hr]; simp)
  rw [hr] at e1
  have hrun : (execOp a.eval o).run C.P w = .ok (.value (.int .i64 b.data.toList.length)) w := by
    rw [bsize]
    simp [execOp, ho, e1.v_inv, resolve, invoke, builtin, Builtin.len_, run_underlying ht, goInt]
  exact h.valNo hd hl hrun (.v _) hK

omit h hd hl in
theorem addr_add (b off n : Nat) : (⟨b, off, none⟩ : Addr).add n = ⟨b, off + n, none⟩ := by
  unfold Addr.add; split
  · rename_i e; subst e; rfl
  · rfl

theorem op_ix {x y : Operand} {r q : Opd} {t e : TypeId} {inf : TypeInfo} {s : Nat} {es : List AV} {k : IntKind} {i : Int} {el : AV} (ho : o.op = .indexAddr t x y) (ht : C.P.underlying t = some (.slice e)) (hi : C.P.info? e = some inf) (hz : inf.size = s)
    (hx : opdOK x r = true) (hy : opdOK y q = true) (hs1 : small C.nt [x] = true) (hs2 : small C.nt [y] = true)
    (hr : r.ev C.E σ = .sl s es) (hq : q.ev C.E σ = .v (.int k i)) (h0 : 0 ≤ i) (hel : es[i.toNat]? = some el) (hK : ∀ D' a' w', Sim C D' (upd σ d (.ro el)) (upd γ d .no) a' w' → K a' w') : o.wp C.P a w K Q := by
  have e1 := (h.opd hx hs1).rep (by rw [hr]; simp)
  have e2 := (h.opd hy hs2).rep (by rw [hq]; simp)
  rw [hr] at e1; rw [hq] at e2
  have hlt := (List.getElem?_eq_some_iff.1 hel).1
  rcases e1.sl_inv with ⟨rfl, _⟩ | ⟨b, off, cap, hv, _, _, hE⟩ | ⟨rfl, _⟩
  rotate_left 2
  · simp at hlt
  · simp at hlt
  · have hrun : (execOp a.eval o).run C.P w = .ok (.value (.pointer (some ⟨b, off + i.toNat * s, none⟩))) w := by
      simp [execOp, ho, hv, e2.v_inv, Instr.indexAt, asIntOf, run_underlying ht, run_sizeOf hi, hz, h0, addr_add]
      omega
    exact h.valNo hd hl hrun (.ro (hE.get _ _ hel)) hK

theorem op_si {x y : Operand} {r q : Opd} {t : TypeId} {b : ByteArray} {k : IntKind} {i : Int} {el : UInt8} (ho : o.op = .index t x y) (ht : C.P.underlying t = some .string)
    (hx : opdOK x r = true) (hy : opdOK y q = true) (hs1 : small C.nt [x] = true) (hs2 : small C.nt [y] = true)
    (hr : r.ev C.E σ = .v (.string b)) (hq : q.ev C.E σ = .v (.int k i)) (h0 : 0 ≤ i) (hel : b.data.toList[i.toNat]? = some el) (hK : ∀ D' a' w', Sim C D' (upd σ d (byteAV el)) (upd γ d .no) a' w' → K a' w') : o.wp C.P a w K Q := by
  have e1 := (h.opd hx hs1).rep (by rw [hr]; simp)
  have e2 := (h.opd hy hs2).rep (by rw [hq]; simp)
  rw [hr] at e1; rw [hq] at e2
  have hb := bget hel
  have hrun : (execOp a.eval o).run C.P w = .ok (.value (.int .u8 el.toNat)) w := by
    simp [execOp, ho, e1.v_inv, e2.v_inv, Instr.index, asIntOf, run_underlying ht, h0, hb]
  exact h.valNo hd hl hrun (.v _) hK

theorem op_fe {x : Operand} {r : Opd} {t : TypeId} {f o' n : Nat} {agg : Bool} {fs : Array Field} {fl : Field} {inf : TypeInfo} {cs : List AV} {s : AV} (ho : o.op = .field t x f) (ht : C.P.underlying t = some (.struct fs)) (hf : fs[f]? = some fl) (hoff : fl.offset = o') (hi : C.P.info? fl.type = some inf) (hz : inf.size = n) (ha : isAggT C.P fl.type = some agg) (h1 : agg = true ∨ n = 1)
    (hx : opdOK x r = true) (hs1 : small C.nt [x] = true) (hr : r.ev C.E σ = .ag cs) (hp : partAV cs o' n agg = some s) (hK : ∀ D' a' w', Sim C D' (upd σ d s) (upd γ d .no) a' w' → K a' w') : o.wp C.P a w K Q := by
  have e1 := (h.opd hx hs1).rep (by rw [hr]; simp)
  rw [hr] at e1
  obtain ⟨ys, hy, hL⟩ := e1.ag_inv
  obtain ⟨hlen, hrep⟩ := part_rep hL hp h1
  have hrun : (execOp a.eval o).run C.P w = .ok (.value (if agg then .agg ⟨(ys.drop o').take n⟩ else ((ys.drop o').take n).headD undef)) w := by
    simp only [execOp, ho, hy, Instr.field, Sem.run_bind, run_underlying ht, Result.andThen_ok, hf, asAgg, Sem.run_pure, part, run_isAgg ha]
    cases agg with
    | true => simp [run_sizeOf hi, hz, hoff, List.extract_eq_take_drop]
    | false =>
      have hn : n = 1 := by simpa using h1
      subst hn
      have hlt : o' < ys.length := by simp at hlen; omega
      rw [take1 hlt]
      simp [hoff, List.getElem?_eq_getElem hlt]
  exact h.valNo hd hl hrun hrep hK

theorem op_ai {x y : Operand} {r q : Opd} {t e : TypeId} {nn s : Nat} {agg : Bool} {inf : TypeInfo} {cs : List AV} {k : IntKind} {i : Int} {el : AV} (ho : o.op = .index t x y) (ht : C.P.underlying t = some (.array nn e)) (hi : C.P.info? e = some inf) (hz : inf.size = s) (ha : isAggT C.P e = some agg) (h1 : agg = true ∨ s = 1)
    (hx : opdOK x r = true) (hy : opdOK y q = true) (hs1 : small C.nt [x] = true) (hs2 : small C.nt [y] = true)
    (hr : r.ev C.E σ = .ag cs) (hq : q.ev C.E σ = .v (.int k i)) (h0 : 0 ≤ i) (hn : i < nn) (hp : partAV cs (i.toNat * s) s agg = some el) (hK : ∀ D' a' w', Sim C D' (upd σ d el) (upd γ d .no) a' w' → K a' w') : o.wp C.P a w K Q := by
  have e1 := (h.opd hx hs1).rep (by rw [hr]; simp)
  have e2 := (h.opd hy hs2).rep (by rw [hq]; simp)
  rw [hr] at e1; rw [hq] at e2
  obtain ⟨ys, hy', hL⟩ := e1.ag_inv
  obtain ⟨hlen, hrep⟩ := part_rep hL hp h1
  have hrun : (execOp a.eval o).run C.P w = .ok (.value (if agg then .agg ⟨(ys.drop (i.toNat * s)).take s⟩ else ((ys.drop (i.toNat * s)).take s).headD undef)) w := by
    simp only [execOp, ho, hy', e2.v_inv, Instr.index, asIntOf, Sem.run_bind, run_underlying ht, Result.andThen_ok, Sem.run_pure, h0, hn, and_self, if_true, run_sizeOf hi, hz, part, run_isAgg ha]
    cases agg with
    | true => simp [run_sizeOf hi, hz, List.extract_eq_take_drop]
    | false =>
      have hn : s = 1 := by simpa using h1
      subst hn
      rw [Nat.mul_one] at hlen ⊢
      have hlt : i.toNat < ys.length := by simp at hlen; omega
      rw [take1 hlt]
      simp [List.getElem?_eq_getElem hlt]
  exact h.valNo hd hl hrun hrep hK

theorem op_lr {x : Operand} {r : Opd} {t : TypeId} {inf : TypeInfo} {n : Nat} {agg : Bool} {s : AV} (ho : o.op = .load t x) (hi : C.P.info? t = some inf) (hz : inf.size = n) (ha : isAggT C.P t = some agg) (h1 : agg = true ∨ n = 1)
    (hx : opdOK x r = true) (hs1 : small C.nt [x] = true) (hr : r.ev C.E σ = .ro s) (hs2 : s.isAg = agg) (hs3 : s.cells.length = n) (hK : ∀ D' a' w', Sim C D' (upd σ d s) (upd γ d .no) a' w' → K a' w') : o.wp C.P a w K Q := by
  have e1 := (h.opd hx hs1).rep (by rw [hr]; simp)
  rw [hr] at e1
  obtain ⟨b, off, s', hv, hA⟩ := e1.ro_inv
  obtain ⟨ys, hl1, hc, hL⟩ := hA.read
  have hys : ys.length = n := by rw [← hL.length, hs3]
  have hrun : (execOp a.eval o).run C.P w = .ok (.value (if agg then .agg ⟨ys⟩ else ys.headD undef)) w := by
    simp only [execOp, ho, hv, Instr.loadAt, Instr.sureAddr, Sem.run_bind, Sem.run_pure, Result.andThen_ok, run_loadVar hi ha (hz ▸ h1) (hys.trans hz.symm) hc]
  exact h.valNo hd hl hrun (by rw [← hs2]; exact repOf hL) hK

theorem op_fr {x : Operand} {r : Opd} {t : TypeId} {f o' n : Nat} {agg : Bool} {fs : Array Field} {fl : Field} {inf : TypeInfo} {cs : List AV} {s : AV} (ho : o.op = .fieldAddr t x f) (ht : C.P.underlying t = some (.struct fs)) (hf : fs[f]? = some fl) (hoff : fl.offset = o') (hi : C.P.info? fl.type = some inf) (hz : inf.size = n) (hn : 0 < n) (h1 : agg = true ∨ n = 1)
    (hx : opdOK x r = true) (hs1 : small C.nt [x] = true) (hr : r.ev C.E σ = .ro (.ag cs)) (hp : partAV cs o' n agg = some s) (hK : ∀ D' a' w', Sim C D' (upd σ d (.ro s)) (upd γ d .no) a' w' → K a' w') : o.wp C.P a w K Q := by
  have e1 := (h.opd hx hs1).rep (by rw [hr]; simp)
  rw [hr] at e1
  obtain ⟨b, off, s', hv, hA⟩ := e1.ro_inv
  have hne : inf.size ≠ 0 := by omega
  have hrun : (execOp a.eval o).run C.P w = .ok (.value (.pointer (some ⟨b, off + o', none⟩))) w := by
    simp [execOp, ho, hv, Instr.fieldAt, Instr.sureAddr, run_underlying ht, hf, fieldPlace, run_sizeOf hi, hne, addr_add, hoff]
  refine h.valNo hd hl hrun ?_ hK
  cases hA with
  | one n _ _ _ _ => simp [AV.isAg] at n
  | ag _ hC =>
    unfold partAV at hp
    cases agg with
    | true =>
      simp only [if_true] at hp
      split at hp
      · cases hp
        exact .ro (.ag rfl ((hC.drop o').take n))
      · cases hp
    | false =>
      simp at hp
      have hlt := (List.getElem?_eq_some_iff.1 hp).1
      have hD := hC.drop o'
      rw [List.drop_eq_getElem_cons hlt] at hD
      have hs : cs[o'] = s := (List.getElem?_eq_some_iff.1 hp).2
      rw [hs] at hD
      cases hD with
      | cons r c a hr' _ =>
        refine .ro (.one ?_ r c a hr')
        cases s with
        | ag _ => cases hr'; simp [Value.oneCell'] at a
        | _ => rfl

theorem op_ncr {x : Operand} {r : Opd} {s : AV} (ho : o.op = .nilCheck x) (hx : opdOK x r = true) (hs1 : small C.nt [x] = true) (hr : r.ev C.E σ = .ro s) (hK : ∀ D' a' w', Sim C D' (upd σ d (.ro s)) (upd γ d .no) a' w' → K a' w') : o.wp C.P a w K Q := by
  have e1 := (h.opd hx hs1).rep (by rw [hr]; simp)
  rw [hr] at e1
  obtain ⟨b, off, s', hv, hA⟩ := e1.ro_inv
  have hrun : (execOp a.eval o).run C.P w = .ok (.value (.pointer (some ⟨b, off, none⟩))) w := by simp [execOp, ho, hv]
  exact h.valNo hd hl hrun (.ro hA) hK

/-- The address of a local variable's part. -/
theorem op_fa {x : Operand} {r : Opd} {t : TypeId} {f m o' dd : Nat} {fs : Array Field} {fl : Field} {inf : TypeInfo} (ho : o.op = .fieldAddr t x f) (ht : C.P.underlying t = some (.struct fs)) (hf : fs[f]? = some fl) (hoff : fl.offset = dd) (hi : C.P.info? fl.type = some inf) (hn : 0 < inf.size)
    (hx : opdOK x r = true) (hs1 : small C.nt [x] = true) (hr : r.ev C.E σ = .pt) (hg : r.gh γ = .ptr m o') (hK : ∀ D' a' w', Sim C D' (upd σ d .pt) (upd γ d (.ptr m (o' + dd))) a' w' → K a' w') : o.wp C.P a w K Q := by
  have e0 := h.opd hx hs1
  have hv := e0.gh (by rw [hr]; simp) (by rw [hr]; simp)
  rw [hg] at hv
  simp only [GhOK] at hv
  have hne : inf.size ≠ 0 := by omega
  have hrun : (execOp a.eval o).run C.P w = .ok (.value (.pointer (some ⟨D.β m, o' + dd, none⟩))) w := by
    simp [execOp, ho, hv, Instr.fieldAt, Instr.sureAddr, run_underlying ht, hf, fieldPlace, run_sizeOf hi, hne, addr_add, hoff]
  have hm := h.ment_opd r
  rw [hg] at hm
  exact h.val (g := .ptr m (o' + dd)) hd hl hrun (.inr ⟨.pt _, fun _ => rfl⟩) rfl rfl hm hK

theorem op_nc {x : Operand} {r : Opd} {m o' : Nat} (ho : o.op = .nilCheck x) (hx : opdOK x r = true) (hs1 : small C.nt [x] = true) (hr : r.ev C.E σ = .pt) (hg : r.gh γ = .ptr m o') (hK : ∀ D' a' w', Sim C D' (upd σ d .pt) (upd γ d (.ptr m o')) a' w' → K a' w') : o.wp C.P a w K Q := by
  have e0 := h.opd hx hs1
  have hv := e0.gh (by rw [hr]; simp) (by rw [hr]; simp)
  rw [hg] at hv
  simp only [GhOK] at hv
  have hrun : (execOp a.eval o).run C.P w = .ok (.value (.pointer (some ⟨D.β m, o', none⟩))) w := by simp [execOp, ho, hv]
  have hm := h.ment_opd r
  rw [hg] at hm
  exact h.val (g := .ptr m o') hd hl hrun (.inr ⟨.pt _, fun _ => rfl⟩) rfl rfl hm hK

/-- A part of a local variable is read. -/
theorem op_ld {x : Operand} {r : Opd} {t : TypeId} {m o' n : Nat} {agg : Bool} {inf : TypeInfo} {cs : List AV} {ts : List (Nat × (Nat × Nat))} {s : AV} (ho : o.op = .load t x) (hi : C.P.info? t = some inf) (hz : inf.size = n) (ha : isAggT C.P t = some agg) (h1 : agg = true ∨ n = 1)
    (hx : opdOK x r = true) (hs1 : small C.nt [x] = true) (hr : r.ev C.E σ = .pt) (hg : r.gh γ = .ptr m o') (hm : γ m = .cl ts) (hσ : σ m = .ag cs) (hp : partAV cs o' n agg = some s)
    (hK : ∀ D' a' w', Sim C D' (upd σ d s) (upd γ d (if agg then .no else match ts.find? (fun t => t.1 == o') with | some (_, k, s) => .tip k s | none => .no)) a' w' → K a' w') : o.wp C.P a w K Q := by
  have e0 := h.opd hx hs1
  have hv := e0.gh (by rw [hr]; simp) (by rw [hr]; simp)
  rw [hg] at hv
  simp only [GhOK] at hv
  obtain ⟨ws, hVA, hts0⟩ := h.mem m ts hm
  rw [hσ] at hVA
  obtain ⟨elem, hh, hL⟩ := hVA.ag
  have hws : ∀ (j : Nat) (y : Value), (ws.take cs.length)[j]? = some y → ws[j]? = some y := fun j y hj => by
    rw [List.getElem?_take] at hj; split at hj
    · exact hj
    · cases hj
  have hts : agg = false → ∀ t ∈ ts, t.1 = o' → (ws.take cs.length)[t.1]? = some (D.τ (lk t.2.1)) := fun ha t ht he => by
    have hlt : o' < cs.length := by
      subst ha
      simp only [partAV, Bool.false_eq_true, if_false] at hp
      exact (List.getElem?_eq_some_iff.1 hp).1
    rw [List.getElem?_take, if_pos (by omega)]
    exact hts0 t ht
  generalize hvs : ws.take cs.length = vs at hL hts hws
  obtain ⟨hlen, hrep⟩ := part_rep hL hp h1
  have hc : ∀ j y, ((vs.drop o').take n)[j]? = some y → w.cell? ⟨D.β m, o' + j, none⟩ = some y := by
    intro j y hj
    rw [List.getElem?_take] at hj
    split at hj
    · rw [List.getElem?_drop] at hj
      have := hws _ _ hj
      simp only [World.cell?, hh]
      simpa using this
    · cases hj
  have hrun : (execOp a.eval o).run C.P w = .ok (.value (if agg then .agg ⟨(vs.drop o').take n⟩ else ((vs.drop o').take n).headD undef)) w := by
    simp only [execOp, ho, hv, Instr.loadAt, Instr.sureAddr, Sem.run_bind, Sem.run_pure, Result.andThen_ok, run_loadVar hi ha (hz ▸ h1) (hlen.trans hz.symm) hc]
  have hmm := h.inv m
  rw [hm] at hmm
  refine h.val hd hl hrun (.inr ⟨hrep, fun _ => ?_⟩) ?_ ?_ ?_ hK
  · cases agg with
    | true => trivial
    | false =>
      simp only [if_false, Bool.false_eq_true]
      split
      · rename_i q k s' hf
        have hme := List.mem_of_find?_eq_some hf
        have hpe := List.find?_some hf
        simp at hpe
        subst hpe
        have := hts rfl _ hme rfl
        have hn : n = 1 := by simpa using h1
        subst hn
        have hlt := (List.getElem?_eq_some_iff.1 this).1
        simp only [GhOK]
        rw [take1 hlt]
        have e := (List.getElem?_eq_some_iff.1 this).2
        exact ⟨e, hL.one _ (List.getElem_mem hlt)⟩
      · trivial
  · split
    · rfl
    · split <;> rfl
  · split
    · rfl
    · split <;> rfl
  · split
    · trivial
    · split
      · rename_i hf; exact hmm _ (List.mem_of_find?_eq_some hf)
      · trivial
end
end Go.Eng
