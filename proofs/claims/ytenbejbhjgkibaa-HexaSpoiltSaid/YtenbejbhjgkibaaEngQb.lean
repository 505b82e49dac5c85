/- Operations on private slices, each. -/
import Derived.Test.YtenbejbhjgkibaaEngQa
set_option linter.unusedVariables false
set_option linter.unusedSimpArgs false
namespace Go.Eng
open Go.RowKit

theorem take_of_get {cur : Array Value} {ys : List Value} (h : ∀ (j : Nat) (y : Value), ys[j]? = some y → cur[j]? = some y) : cur.toList.take ys.length = ys := by
  apply List.ext_getElem?
  intro j
  rw [List.getElem?_take]
  split
  · rename_i hj
    have := h j ys[j] (List.getElem?_eq_getElem hj)
    rw [List.getElem?_eq_getElem hj]
    simpa using this
  · rename_i hj
    exact (List.getElem?_eq_none (by omega)).symm

section
variable {C : Ctx} {D : Dyn} {σ : Sg} {γ : Ga} {a : Act} {w : World} {o : Oper} {d : Nat} {K : Act → World → Prop} {Q : Exit → Act → World → Prop}

/-- A private slice becomes one that may be read by all. -/
theorem Sim.thaw (h : Sim C D σ γ a w) {k s : Nat} {es : List AV} (hk : γ (lk k) = .pv s) (hx : σ (lk k) = .sl s es) :
    ∃ R', Sim C { D with R := R' } (upd σ (lk k) .dead) (upd γ (lk k) (.live s)) a w ∧ Rep R' w (.sl s es) (D.τ (lk k)) ∧ Keeps D.R w R' w := by
  obtain ⟨ht, hp1, hp2⟩ := h.pvAt hk
  rw [hx] at hp2
  have hp2 := hp2.resolve_left (by simp)
  obtain ⟨es', he, hes, hp⟩ := hp2
  cases he
  have hbk : blk D γ (lk k) = (D.τ (lk k)).ownBlock := blk_isP (by rw [hk]; rfl)
  let R' : Reach := fun b o => D.R b o ∨ ((D.τ (lk k)).ownBlock = some b ∧ o < es.length * s)
  have keep : Keeps D.R w R' w := fun b o hr => ⟨.inl hr, rfl⟩
  have hne : ∀ key' g, key' ≠ lk k → blk D γ key' = some g → ∀ o, R' g o → D.R g o := fun key' g hn hb o hr => by
    rcases hr with hr | ⟨hr, _⟩
    · exact hr
    · exact (hn (h.pvSep hk (hbk.trans hr) hb)).elim
  have hγ : ∀ j, j ≠ lk k → upd γ (lk k) (.live s) j = γ j := fun j hj => upd_ne _ _ hj
  have hb : ∀ key, blk { D with R := R' } (upd γ (lk k) (.live s)) key = blk D γ key := fun key => by
    unfold blk
    by_cases e : key = lk k
    · subst e; rw [upd_same, hk]
    · rw [hγ _ e]
  have hpar : ∀ key, (upd γ (lk k) (.live s) key).par = (γ key).par := fun key => by
    by_cases e : key = lk k
    · subst e; rw [upd_same, hk]; rfl
    · rw [hγ _ e]
  have hcl : ∀ key, (upd γ (lk k) (.live s) key).isCl = (γ key).isCl := fun key => by
    by_cases e : key = lk k
    · subst e; rw [upd_same, hk]; rfl
    · rw [hγ _ e]
  have hlk : ∀ key, (upd γ (lk k) (.live s) key).isLk = (γ key).isLk := fun key => by
    by_cases e : key = lk k
    · subst e; rw [upd_same, hk]; rfl
    · rw [hγ _ e]
  have hM : ∀ g, Ment γ g → Ment (upd γ (lk k) (.live s)) g := fun g hg => by
    cases g <;> simp only [Ment, hcl, hlk] at hg ⊢ <;> first | exact hg | skip
    rename_i q s'
    have e : q ≠ lk k := fun e => by subst e; rcases hg with e | ⟨_, e⟩ <;> rw [hk] at e <;> cases e
    rw [hγ _ e]; exact hg
  have hlt : lk k < C.nt → False := fun hl => by have := lk_ge k; have := h.ntlt; omega
  refine ⟨R', ⟨h.size, h.defers, h.ntlt, fun m hm => h.rng m (by rwa [hcl] at hm), fun m hm => h.lrng m (by rwa [hlk] at hm), fun t ht' => ?_, fun m ts hm => ?_, fun key s' hk' => ?_, fun key s' hs => ?_, fun p q g hp' hq => (by rw [hpar, hpar]; exact h.sep p q g (by rwa [hb] at hp') (by rwa [hb] at hq)), fun p g hp' => h.own p g (by rwa [hb] at hp'), fun key => ?_, ?_, fun b o hr => ?_, fun n => (h.gl n).mono keep, h.fix⟩, ?_, keep⟩
  · have e : t ≠ lk k := fun e => hlt (e ▸ ht')
    rw [upd_ne _ _ e, hγ _ e]
    exact (h.slot t ht').imp id fun ⟨r, g⟩ => ⟨r.mono keep, fun hs => by have g := g hs; cases hg : γ t <;> rw [hg] at g <;> exact g⟩
  · have e : m ≠ lk k := fun e => by subst e; rw [upd_same] at hm; cases hm
    rw [hγ _ e] at hm
    rw [upd_ne _ _ e]
    obtain ⟨cs, hv, hts⟩ := h.mem m ts hm
    exact ⟨cs, hv.keep keep rfl (fun o hr => hv.noR o (hne m _ e (blk_cl hm) o hr)), hts⟩
  · by_cases e : key = lk k
    · subst e
      rw [upd_same] at hk'
      cases hk'
      rcases hp with ⟨rfl, e0⟩ | ⟨g, cap, cur, e, fz, e0, hg, hL⟩
      · exact .inl e0
      · rcases ht with e1 | ⟨g', n, cap', cur', e', fz', e1, h1, h2, h3, h4, h5, h6⟩
        · rw [e0] at e1; cases e1
        · refine .inr ⟨g', n, cap', cur', e', fz', e1, h1, h2, h3, h4, h5, fun o ho hr => ?_⟩
          rcases hr with hr | ⟨_, hr⟩
          · exact h6 o ho hr
          · rw [e0] at e1; cases e1; omega
    · rw [hγ _ e] at hk'
      exact (h.tip key s' hk').keep fun g hg => ⟨rfl, hne key g e ((blk_live hk').trans hg)⟩
  · have e : key ≠ lk k := fun e => by subst e; rw [upd_same] at hs; cases hs
    rw [hγ _ e] at hs
    rw [upd_ne _ _ e]
    obtain ⟨h1, h2⟩ := h.ps key s' hs
    have hb' := fun g hg => hne key g e ((blk_isP (Gh.psz_isP hs)).trans hg)
    exact ⟨h1.keep fun g hg => ⟨rfl, hb' g hg⟩, h2.keep keep fun g hg => ⟨rfl, hb' g hg⟩⟩
  · by_cases e : key = lk k
    · subst e; rw [upd_same]; trivial
    · rw [hγ _ e]; exact hM _ (h.inv key)
  · refine ⟨h.ext.os, h.ext.tape, h.ext.output, h.ext.size, h.ext.heap, h.ext.keep.trans keep, fun b o hr => ?_⟩
    rcases hr with hr | ⟨hr, _⟩
    · exact h.ext.rnew b o hr
    · rcases h.own (lk k) b (hbk.trans hr) with e | e
      · exact .inr (.inr e)
      · exact .inr (.inl e)
  · rcases hr with hr | ⟨hr, _⟩
    · exact h.rlt b o hr
    · exact ht.lt hr
  · rcases hp with ⟨rfl, e0⟩ | ⟨g, cap, cur, e, fz, e0, hg, hL⟩
    · rw [e0]; exact .nil s
    · have hcap : es.length ≤ cap ∧ cap ≤ maxLen ∧ cur.size = cap * s := by
        rcases ht with e1 | ⟨g', n, cap', cur', e', fz', e1, h1, h2, h3, h4, h5, h6⟩
        · rw [e0] at e1; cases e1
        · rw [e0] at e1; cases e1
          rw [hg] at h1; cases h1
          exact ⟨h4, h5, h3⟩
      have hle : es.length * s ≤ cap * s := Nat.mul_le_mul_right _ hcap.1
      rw [e0]
      refine .sl rfl hcap.1 hcap.2.1 (RepE.write hes (hL.mono keep) (fun j hj => .inr ⟨by rw [e0]; rfl, by omega⟩) fun j y hy => ?_)
      rw [List.getElem?_take] at hy
      split at hy
      · simp only [World.cell?, hg, Nat.zero_add]
        simpa using hy
      · cases hy

variable (h : Sim C D σ γ a w) (hl : d < C.nt)
include h

theorem op_pss (hd : o.dst = some d) (hl : d < C.nt) {x : Operand} {r : Opd} {t u e : TypeId} {b : ByteArray} {k : Nat} (ho : o.op = .convert t u x) (ht : C.P.underlying t = some .string) (hu : C.P.underlying u = some (.slice e)) (he : C.P.underlying e = some (.int .u8))
    (hx : opdOK x r = true) (hs1 : small C.nt [x] = true) (hr : r.ev C.E σ = .v (.string b)) (hb : b.data.toList.length ≤ maxLen) (hk : γ (lk k) = .no)
    (hK : ∀ D' a' w', Sim C D' (updL σ [d, lk k] [.pt, .sl 1 (b.data.toList.map byteAV)]) (updL γ [d, lk k] [.tip k 1, .pv 1]) a' w' → K a' w') : o.wp C.P a w K Q := by
  have e1 := (h.opd hx hs1).rep (by rw [hr]; simp)
  rw [hr] at e1
  have hrun := run_bytes_of_string (P := C.P) w t u e b ht hu he
  have hge := grownCap_ge w b.size 0 e
  have hle := grownCap_le_maxLen w b.size 0 e (by rwa [bsize] at hb)
  let cur := bytesRow b (grownCap w b.size 0 e)
  let w1 : World := w.drew.alloc (.cells cur e (cur.size, cur.size + 1))
  have hnew : w1.heap[w.heap.size]? = some (.cells cur e (cur.size, cur.size + 1)) := by
    show (w.heap.push _)[w.heap.size]? = _
    simp
  have hold : ∀ c, c < w.heap.size → w1.heap[c]? = w.heap[c]? := fun c hc => by
    show (w.heap.push _)[c]? = _
    rw [Array.getElem?_push, if_neg (by omega)]
  have hS : Sim C { D with R := D.R } σ γ a w1 := h.grow (w' := w1) (R' := D.R) rfl rfl rfl (by show _ ≤ (w.heap.push _).size; simp) hold (fun _ _ h => h) (fun _ _ h => .inl h) (fun c q hr => by
    show c < (w.heap.push _).size
    have := h.rlt c q hr
    simp; omega)
  have hnR : ∀ q, ¬ D.R w.heap.size q := fun q hr => by have := h.rlt _ q hr; omega
  have hsz : cur.size = grownCap w b.size 0 e * 1 := by
    have : b.data.size = b.size := rfl
    simp only [cur, bytesRow, Array.size_append, Array.size_map, Array.size_replicate, this]; omega
  have hcur : cur.toList.take (b.data.toList.map byteAV).length = b.data.toList.map fun x => .int .u8 x.toNat := by
    have := take_of_get (cur := cur) (ys := b.data.toList.map fun x => .int .u8 x.toNat) (fun j y hj => by
      have hlt := (List.getElem?_eq_some_iff.1 hj).1
      simp only [cur]
      unfold bytesRow
      rw [Array.getElem?_append_left (by simp at hlt ⊢; exact hlt)]
      simpa using hj)
    simpa using this
  unfold Oper.wp
  rw [show (execOp a.eval o).run C.P w = .ok (.value (.slice (some ⟨w.heap.size, 0, none⟩) b.size (grownCap w b.size 0 e))) w1 by simp only [execOp, ho, e1.v_inv, Sem.run_bind, hrun, Result.andThen_ok, Sem.run_pure]; rfl, Oper.upon_value, hd]
  refine hK _ _ _ (Sim.putPriv hS hl hk (.inr ⟨_, _, _, _, _, _, rfl, hnew, by simp only; intro q hq; omega, hsz, hge, hle, fun q _ => hnR q⟩) ⟨fun g hg q => ?_, .inr ⟨_, rfl, ?_, .inr ⟨w.heap.size, grownCap w b.size 0 e, cur, e, (cur.size, cur.size + 1), by rw [List.length_map, bsize], hnew, ?_⟩⟩⟩ fun g hg => ?_)
  · simp [Value.ownBlock] at hg; subst hg; exact hnR q
  · intro x hx; obtain ⟨y, _, rfl⟩ := List.mem_map.1 hx; rfl
  · rw [Nat.mul_one, hcur, bytes_cells]; exact bytes_repL _
  · simp [Value.ownBlock] at hg
    subst hg
    exact ⟨.inr h.ext.size, fun key hk => by have := h.lt hk; omega⟩

omit hl in
/-- What is known of a slot is said in other words. -/
theorem Sim.retype {j : Nat} {s : AV} {g : Gh} (hj : j < C.nt) (hs : SlotOK D w s g (a.tmps.getD j undef)) (g1 : g.isCl = false) (g2 : g.isLk = false) (gm : Ment γ g) : Sim C D (upd σ j s) (upd γ j g) a w := by
  have := h.put hj hs g1 g2 gm
  have hsz : j < a.tmps.size := by rw [h.size]; exact hj
  have e : a.put (some j) (a.tmps.getD j undef) = a := by
    unfold Act.put
    simp only
    have : a.tmps.setIfInBounds j (a.tmps.getD j undef) = a.tmps := by
      apply Array.ext
      · simp
      · intro i h1 h2
        rw [Array.getElem_setIfInBounds h2]
        split
        · rename_i e; subst e; simp [Array.getD, hsz]
        · rfl
    rw [this]
  rwa [e] at this

theorem op_pfz (hd : o.dst = some d) (hl : d < C.nt) {x : Operand} {j k s s0 : Nat} {es : List AV} (ho : o.op = .move x ∨ o.op = .assign x) (hx : opdOK x (.s j) = true) (hj : j < C.nt) (hr : σ j = .pt) (hg : γ j = .tip k s0)
    (hk : γ (lk k) = .pv s) (hσ : σ (lk k) = .sl s es) (hK : ∀ D' a' w', Sim C D' (updL σ [d, j, lk k] [.sl s es, .sl s es, .dead]) (updL γ [d, j, lk k] [.tip k s, .tip k s, .live s]) a' w' → K a' w') : o.wp C.P a w K Q := by
  have hxt : x = .tmp j := by cases x <;> simp [opdOK] at hx; rw [hx]
  have hs1 : small C.nt [x] = true := by rw [hxt]; simp [small, hj]
  have e0 := h.opd hx hs1
  have hv := e0.gh (by simp only [Opd.ev]; rw [hr]; simp) (by simp only [Opd.ev]; rw [hr]; simp)
  simp only [Opd.gh] at hv
  rw [hg] at hv
  obtain ⟨hv1, hv2⟩ := hv
  have hev : a.eval x = a.tmps.getD j undef := by rw [hxt]; rfl
  have hrun : (execOp a.eval o).run C.P w = .ok (.value (a.eval x)) w := by rcases ho with e | e <;> simp [execOp, e]
  obtain ⟨R', hS, hR, _⟩ := h.thaw hk hσ
  have hlk1 : (upd γ (lk k) (.live s) (lk k)).isLk = true := by rw [upd_same]; rfl
  have hS2 := hS.retype (g := .tip k s) hj (.inr ⟨by rw [← hev, hv1]; exact hR, fun _ => ⟨hev ▸ hv1, hev ▸ hv2⟩⟩) rfl rfl hlk1
  have hjk : lk k ≠ j := by have := lk_ge k; have := h.ntlt; omega
  unfold Oper.wp
  rw [hrun, Oper.upon_value, hd]
  refine hK _ _ _ (hS2.put (g := .tip k s) hl (.inr ⟨by rw [hv1]; exact hR, fun _ => ⟨hv1, hv2⟩⟩) rfl rfl ?_)
  show (upd (upd γ (lk k) (.live s)) j (.tip k s) (lk k)).isLk = true
  rw [upd_ne _ _ hjk]; exact hlk1

theorem op_pln (hd : o.dst = some d) (hl : d < C.nt) {x : Operand} {r : Opd} {t e : TypeId} {k s s' s0 : Nat} {es : List AV} (ho : o.op = .call { callee := .builtin .len, args := #[x], argTypes := #[t] }) (ht : C.P.underlying t = some (.slice e)) (hx : opdOK x r = true) (hs1 : small C.nt [x] = true)
    (hr : r.ev C.E σ = .pt) (hg : r.gh γ = .tip k s0) (hk : γ (lk k) = .pv s) (hσ : σ (lk k) = .sl s' es) (hK : ∀ D' a' w', Sim C D' (upd σ d (.v (.int .i64 es.length))) (upd γ d .no) a' w' → K a' w') : o.wp C.P a w K Q := by
  have e0 := h.opd hx hs1
  have hv := e0.gh (by rw [hr]; simp) (by rw [hr]; simp)
  rw [hg] at hv
  obtain ⟨_, _, hp2⟩ := h.pvAt hk
  rw [hσ] at hp2
  obtain ⟨es', he, _, hp⟩ := hp2.resolve_left (by simp)
  cases he
  have hval : ∃ q cap, a.eval x = .slice q es.length cap := by
    rw [hv.1]
    rcases hp with ⟨rfl, e0⟩ | ⟨g, cap, cur, e, fz, e0, _⟩
    · exact ⟨_, _, e0⟩
    · exact ⟨_, _, e0⟩
  obtain ⟨q, cap, hval⟩ := hval
  have hrun : (execOp a.eval o).run C.P w = .ok (.value (.int .i64 es.length)) w := by
    simp [execOp, ho, hval, resolve, invoke, builtin, Builtin.len_, run_underlying ht, goInt]
  exact h.valNo hd hl hrun (.v _) hK

omit h hl in
theorem Rep.el_inv {R : Reach} {w : World} {i s o : Nat} {y : Value} (h : Rep R w (.el i s o) y) : ∃ b, y = .pointer (some ⟨b, i * s + o, none⟩) := by
  cases h with
  | el _ _ _ b => exact ⟨b, rfl⟩

theorem op_pix (hd : o.dst = some d) (hl : d < C.nt) {x y : Operand} {r q : Opd} {t e : TypeId} {inf : TypeInfo} {s s0 : Nat} {es : List AV} {k : Nat} {ik : IntKind} {i : Int} (ho : o.op = .indexAddr t x y) (ht : C.P.underlying t = some (.slice e)) (hi : C.P.info? e = some inf) (hz : inf.size = s)
    (hx : opdOK x r = true) (hy : opdOK y q = true) (hs1 : small C.nt [x] = true) (hs2 : small C.nt [y] = true)
    (hr : r.ev C.E σ = .pt) (hg : r.gh γ = .tip k s0) (hk : γ (lk k) = .pv s) (hσ : σ (lk k) = .sl s es) (hq : q.ev C.E σ = .v (.int ik i)) (h0 : 0 ≤ i) (hlt : i.toNat < es.length)
    (hK : ∀ D' a' w', Sim C D' (upd σ d (.el i.toNat s 0)) (upd γ d (.pe k)) a' w' → K a' w') : o.wp C.P a w K Q := by
  have e0 := h.opd hx hs1
  have hv := e0.gh (by rw [hr]; simp) (by rw [hr]; simp)
  rw [hg] at hv
  have e2 := (h.opd hy hs2).rep (by rw [hq]; simp)
  rw [hq] at e2
  obtain ⟨_, _, hp2⟩ := h.pvAt hk
  rw [hσ] at hp2
  obtain ⟨es', he, _, hp⟩ := hp2.resolve_left (by simp)
  cases he
  rcases hp with ⟨rfl, _⟩ | ⟨g, cap, cur, e', fz, e1, _⟩
  · simp at hlt
  · have hval : a.eval x = .slice (some ⟨g, 0, none⟩) es.length cap := hv.1.trans e1
    have hrun : (execOp a.eval o).run C.P w = .ok (.value (.pointer (some ⟨g, i.toNat * s, none⟩))) w := by
      simp [execOp, ho, hval, e2.v_inv, Instr.indexAt, asIntOf, run_underlying ht, run_sizeOf hi, hz, h0, addr_add]
      omega
    refine h.val (g := .pe k) hd hl hrun (.inr ⟨.el _ _ 0 _, fun _ => ⟨g, _, _, _, e1, rfl⟩⟩) rfl rfl ?_ hK
    show (γ (lk k)).isLk = true
    rw [hk]; rfl

theorem op_pfa (hd : o.dst = some d) (hl : d < C.nt) {x : Operand} {r : Opd} {t : TypeId} {f k i s o' dd : Nat} {fs : Array Field} {fl : Field} {inf : TypeInfo} (ho : o.op = .fieldAddr t x f) (ht : C.P.underlying t = some (.struct fs)) (hf : fs[f]? = some fl) (hoff : fl.offset = dd) (hi : C.P.info? fl.type = some inf) (hn : 0 < inf.size)
    (hx : opdOK x r = true) (hs1 : small C.nt [x] = true) (hr : r.ev C.E σ = .el i s o') (hg : r.gh γ = .pe k) (hK : ∀ D' a' w', Sim C D' (upd σ d (.el i s (o' + dd))) (upd γ d (.pe k)) a' w' → K a' w') : o.wp C.P a w K Q := by
  have e0 := h.opd hx hs1
  have e1 := e0.rep (by rw [hr]; simp)
  have hv := e0.gh (by rw [hr]; simp) (by rw [hr]; simp)
  rw [hr] at e1
  rw [hg] at hv
  obtain ⟨b, hb⟩ := Rep.el_inv e1
  obtain ⟨g, n, cap, q, hτ, hg'⟩ := hv
  rw [hb] at hg'
  cases hg'
  have hne : inf.size ≠ 0 := by omega
  have hrun : (execOp a.eval o).run C.P w = .ok (.value (.pointer (some ⟨b, i * s + (o' + dd), none⟩))) w := by
    simp [execOp, ho, hb, Instr.fieldAt, Instr.sureAddr, run_underlying ht, hf, fieldPlace, run_sizeOf hi, hne, addr_add, hoff, Nat.add_assoc]
  have hm := h.ment_opd r
  rw [hg] at hm
  exact h.val (g := .pe k) hd hl hrun (.inr ⟨.el _ _ _ _, fun _ => ⟨_, _, _, _, hτ, rfl⟩⟩) rfl rfl hm hK

omit hl in
/-- Where an element of a private slice stands. -/
theorem Sim.elAt {x : Operand} {r : Opd} {k i s o' : Nat} {es : List AV} {e : AV} (hx : opdOK x r = true) (hs1 : small C.nt [x] = true) (hr : r.ev C.E σ = .el i s o') (hg : r.gh γ = .pe k) (hk : γ (lk k) = .pv s) (hσ : σ (lk k) = .sl s es) (he : es[i]? = some e) :
    ∃ g cap cur ce fz, D.τ (lk k) = .slice (some ⟨g, 0, none⟩) es.length cap ∧ a.eval x = .pointer (some ⟨g, i * s + o', none⟩) ∧ w.heap[g]? = some (.cells cur ce fz) ∧ (∀ o, o < cur.size → ¬ (fz.1 ≤ o ∧ o < fz.2)) ∧ cur.size = cap * s ∧ es.length ≤ cap ∧
      (∀ e ∈ es, e.cells.length = s) ∧ RepL D.R w (es.flatMap AV.cells) (cur.toList.take (es.length * s)) ∧ cap ≤ maxLen ∧ (∀ o, ¬ D.R g o) := by
  have e0 := h.opd hx hs1
  have e1 := e0.rep (by rw [hr]; simp)
  have hv := e0.gh (by rw [hr]; simp) (by rw [hr]; simp)
  rw [hr] at e1
  rw [hg] at hv
  obtain ⟨b, hb⟩ := Rep.el_inv e1
  obtain ⟨g, n, cap, q, hτ, hg'⟩ := hv
  rw [hb] at hg'
  cases hg'
  obtain ⟨ht, hp1, hp2⟩ := h.pvAt hk
  rw [hσ] at hp2
  obtain ⟨es', hee, hes, hp⟩ := hp2.resolve_left (by simp)
  cases hee
  rcases hp with ⟨rfl, _⟩ | ⟨g', cap', cur, ce, fz, e2, hh, hL⟩
  · simp at he
  · rw [hτ] at e2
    cases e2
    rcases ht with e3 | ⟨g', n', cap', cur', ce', fz', e3, h1, h2, h3, h4, h5, h6⟩
    · rw [hτ] at e3; cases e3
    · rw [hτ] at e3
      cases e3
      rw [hh] at h1
      cases h1
      exact ⟨b, cap, cur, ce, fz, hτ, hb, hh, h2, h3, h4, hes, hL, h5, hp1 b (by rw [hτ]; rfl)⟩

theorem op_pld (hd : o.dst = some d) (hl : d < C.nt) {x : Operand} {r : Opd} {t : TypeId} {inf : TypeInfo} {k i s o' n : Nat} {agg : Bool} {es : List AV} {e y : AV} (ho : o.op = .load t x) (hi : C.P.info? t = some inf) (hz : inf.size = n) (ha : isAggT C.P t = some agg) (h1 : agg = true ∨ n = 1)
    (hx : opdOK x r = true) (hs1 : small C.nt [x] = true) (hr : r.ev C.E σ = .el i s o') (hg : r.gh γ = .pe k) (hk : γ (lk k) = .pv s) (hσ : σ (lk k) = .sl s es) (he : es[i]? = some e) (hp : partEl e o' n agg = some y)
    (hK : ∀ D' a' w', Sim C D' (upd σ d y) (upd γ d .no) a' w' → K a' w') : o.wp C.P a w K Q := by
  obtain ⟨g, cap, cur, ce, fz, _, hv, hh, _, hsz, hle, hes, hL, _⟩ := h.elAt hx hs1 hr hg hk hσ he
  have hlt := (List.getElem?_eq_some_iff.1 he).1
  have hLe : RepL D.R w e.cells (((cur.toList.take (es.length * s)).drop (i * s)).take s) := by
    have := (hL.drop (i * s)).take s
    rwa [flat_get hes he] at this
  obtain ⟨hlen, hrep⟩ := part_rep hLe (partEl_cells hp) h1
  have hc : ∀ j y, (((((cur.toList.take (es.length * s)).drop (i * s)).take s).drop o').take n)[j]? = some y → w.cell? ⟨g, i * s + o' + j, none⟩ = some y := by
    intro j y hj
    simp only [World.cell?, hh]
    rw [List.getElem?_take] at hj
    split at hj
    · rw [List.getElem?_drop, List.getElem?_take] at hj
      split at hj
      · rw [List.getElem?_drop, List.getElem?_take] at hj
        split at hj
        · rw [show i * s + o' + j = i * s + (o' + j) by omega]; simpa using hj
        · cases hj
      · cases hj
    · cases hj
  have hrun := run_loadVar (P := C.P) hi ha (hz ▸ h1) (hlen.trans hz.symm) hc
  refine h.valNo hd hl (?_ : (execOp a.eval o).run C.P w = .ok (.value _) w) hrep hK
  simp only [execOp, ho, hv, Instr.loadAt, Instr.sureAddr, Sem.run_bind, Sem.run_pure, Result.andThen_ok, hrun]

omit hl in
theorem op_pst {x v : Operand} {r q : Opd} {t : TypeId} {inf : TypeInfo} {k i s o' n : Nat} {es : List AV} {e e' : AV} (hd : o.dst = none) (ho : o.op = .store t x v) (hi : C.P.info? t = some inf) (hz : inf.size = n)
    (hx : opdOK x r = true) (hs1 : small C.nt [x] = true) (hv : opdOK v q = true) (hs2 : small C.nt [v] = true) (hr : r.ev C.E σ = .el i s o') (hg : r.gh γ = .pe k) (hk : γ (lk k) = .pv s) (hσ : σ (lk k) = .sl s es) (he : es[i]? = some e)
    (hp : (q.ev C.E σ).plain = true) (hn : (q.ev C.E σ).cells.length = n) (hpe : putEl e o' (q.ev C.E σ) = some e')
    (hK : ∀ D' a' w', Sim C D' (upd σ (lk k) (.sl s (es.set i e'))) (upd γ (lk k) (.pv s)) a' w' → K a' w') : o.wp C.P a w K Q := by
  obtain ⟨g, cap, cur, ce, fz, hτ, hxv, hh, hfz, hsz, hle, hes, hL, hcm, hnR⟩ := h.elAt hx hs1 hr hg hk hσ he
  have hlt := (List.getElem?_eq_some_iff.1 he).1
  have q0 := h.opd hv hs2
  have hqd : q.ev C.E σ ≠ .dead := by intro e; rw [e] at hp; cases hp
  have hLv := plain_rep (q0.rep hqd) hp
  have hlen := hLv.length
  obtain ⟨hc1, hc2⟩ := putEl_cells hpe
  have hel := hes e (List.mem_of_getElem? he)
  have hvn : (a.eval v).cells.toList.length = n := hlen.symm.trans hn
  have hcn : (a.eval v).cells.size = n := by simpa using hvn
  have hbig : (i + 1) * s ≤ es.length * s := Nat.mul_le_mul_right _ hlt
  have hbig2 : es.length * s ≤ cap * s := Nat.mul_le_mul_right _ hle
  rw [Nat.succ_mul] at hbig
  have hst := run_storeCells_free (P := C.P) g (i * s + o') ce fz (a.eval v).cells.toList 0 cur w hh (by rw [hvn]; omega) hfz hLv.one
  simp only [Nat.add_zero] at hst
  let new : Array Value := (cur.toList.take (i * s + o') ++ (a.eval v).cells.toList ++ cur.toList.drop (i * s + o' + (a.eval v).cells.toList.length)).toArray
  have hrun : (execOp a.eval o).run C.P w = .ok .skip (w.setRow g new) := by
    have : ¬ ((a.eval v).cells.size ≠ n) := by omega
    simp only [execOp, ho, hxv, Instr.storeAt, Instr.sureAddr, Sem.run_bind, Sem.run_pure, Result.andThen_ok, storeVar, run_sizeOf hi, hz, Sem.run_ite, this, if_false, hst]
    rfl
  have hh' := setRow_heap w g cur new ce fz hh
  have hnsz : new.size = cur.size := by simp [new]; omega
  have keep : Keeps D.R w D.R (w.setRow g new) := fun b o hr => ⟨hr, cell_setRow_other w g _ ⟨b, o, none⟩ (fun e => hnR o (by have : b = g := e; rw [← this]; exact hr))⟩
  have hob : (D.τ (lk k)).ownBlock = some g := by rw [hτ]; rfl
  have hes' : ∀ y ∈ es.set i e', y.cells.length = s := fun y hy => by
    rcases List.mem_or_eq_of_mem_set hy with hy | rfl
    · exact hes y hy
    · rw [hc1]; simp [splice]; omega
  have hS := h.turnP hk hob (w' := w.setRow g new) rfl rfl rfl (by simp) (fun b hb => setRow_other w g b _ hb) (x := .sl s (es.set i e'))
    (.inr ⟨g, es.length, cap, new, ce, fz, hτ, hh', fun o ho => hfz o (by omega), hnsz.trans hsz, hle, hcm, fun o _ => hnR o⟩)
    ⟨fun g' hg' o => by rw [hob] at hg'; cases hg'; exact hnR o, .inr ⟨_, rfl, hes', .inr ⟨g, cap, new, ce, fz, by rw [List.length_set]; exact hτ, hh', by
      rw [List.length_set, flat_set hes he hc1 (by omega)]
      have hnt : new.toList.take (es.length * s) = (cur.toList.take (es.length * s)).take (i * s + o') ++ (a.eval v).cells.toList ++ (cur.toList.take (es.length * s)).drop (i * s + o' + (a.eval v).cells.toList.length) := by
        have hcl : cur.toList.length = cap * s := by simpa using hsz
        apply List.ext_getElem?
        intro j
        simp only [new, List.getElem?_take, List.getElem?_append, List.length_append, List.length_take, List.getElem?_drop, hvn, hcl]
        have e1 : min (i * s + o') (cap * s) = i * s + o' := by omega
        have e2 : min (i * s + o') (min (es.length * s) (cap * s)) = i * s + o' := by omega
        simp only [e1, e2]
        by_cases c1 : j < es.length * s
        · by_cases c2 : j < i * s + o'
          · simp [c1, c2, show j < i * s + o' + n by omega]
          · by_cases c3 : j < i * s + o' + n
            · simp [c1, c2, c3]
            · simp [c1, c2, c3, show i * s + o' + n + (j - (i * s + o' + n)) < es.length * s by omega]
        · have c2 : ¬ j < i * s + o' := by omega
          have c3 : ¬ j < i * s + o' + n := by omega
          simp [c1, c3, show ¬ i * s + o' + n + (j - (i * s + o' + n)) < es.length * s by omega]
      rw [hnt]
      simp only [splice, hlen]
      exact (((hL.take _).append hLv).append (hL.drop _)).mono keep⟩⟩⟩
  have eγ : upd γ (lk k) (.pv s) = γ := by
    funext j
    by_cases e : j = lk k
    · subst e; rw [upd_same, hk]
    · rw [upd_ne _ _ e]
  unfold Oper.wp
  rw [hrun, Oper.upon_skip, hd]
  rw [eγ] at hK
  exact hK _ _ _ (by simpa [Act.put] using hS)
end
end Go.Eng
