/- Regions in any order that the edges leave. -/
import Derived.Test.YtenbejbhjgkibaaEngS
set_option linter.unusedVariables false
set_option linter.unusedSimpArgs false
namespace Go.Eng
open Go.RowKit

theorem all2_get {A B : Type} {f : A → B → Bool} : ∀ {as : List A} {bs : List B} {i : Nat} {x : A}, all2 f as bs = true → as[i]? = some x → ∃ y, bs[i]? = some y ∧ f x y = true
  | a :: as, b :: bs, 0, x, h, e => by
    simp only [all2, Bool.and_eq_true] at h
    simp only [List.getElem?_cons_zero, Option.some.injEq] at e
    subst e
    exact ⟨b, rfl, h.1⟩
  | a :: as, b :: bs, i + 1, x, h, e => by
    simp only [all2, Bool.and_eq_true] at h
    simp only [List.getElem?_cons_succ] at e ⊢
    exact all2_get h.2 e
  | [], _, _, _, _, e => by simp at e
  | _ :: _, [], _, _, h, _ => by simp [all2] at h
theorem all2_len {A B : Type} {f : A → B → Bool} : ∀ {as : List A} {bs : List B}, all2 f as bs = true → as.length = bs.length
  | [], [], _ => rfl
  | _ :: _, _ :: _, h => by simp only [all2, Bool.and_eq_true] at h; simp [all2_len h.2]
  | [], _ :: _, h => by simp [all2] at h
  | _ :: _, [], h => by simp [all2] at h

section
variable {L : Nat → Prop} {ops : List Oper}

theorem befores_fold (hcl : ∀ i o, ops[i]? = some o → L i → ∀ e ∈ befs o, L e) : ∀ (rest pre : List Oper) (acc : List (List Nat)), ops = pre ++ rest → acc.length = pre.length →
    (∀ i o, i < acc.length → ops[i]? = some o → (∀ e ∈ befs o, L e) → ∀ j ∈ acc.getD i [], L j) →
    ∀ i o, ops[i]? = some o → (∀ e ∈ befs o, L e) → ∀ j ∈ (rest.foldl (fun acc o => acc ++ [(befs o).flatMap fun e => e :: (acc.getD e [])]) acc).getD i [], L j
  | [], pre, acc, e, hl, inv => by
    intro i o hi hb j hj
    simp only [List.append_nil] at e
    subst e
    have : i < acc.length := by
      rw [hl]
      exact (List.getElem?_eq_some_iff.1 hi).1
    exact inv i o this hi hb j hj
  | r :: rest, pre, acc, e, hl, inv => by
    simp only [List.foldl_cons]
    refine befores_fold hcl rest (pre ++ [r]) _ (by simp [e]) (by simp [hl]) ?_
    intro i o hi ho hb j hj
    by_cases hlt : i < acc.length
    · rw [List.getD_eq_getElem?_getD, List.getElem?_append_left hlt, ← List.getD_eq_getElem?_getD] at hj
      exact inv i o hlt ho hb j hj
    · have hi' : i = acc.length := by simp at hi; omega
      subst hi'
      rw [List.getD_eq_getElem?_getD, List.getElem?_append_right (Nat.le_refl _)] at hj
      simp only [Nat.sub_self, List.getElem?_cons_zero, Option.getD_some, List.mem_flatMap, List.mem_cons] at hj
      have hr : o = r := by
        rw [e, hl, List.getElem?_append_right (Nat.le_refl _)] at ho
        simpa using ho.symm
      subst hr
      obtain ⟨x, hx, rfl | hj⟩ := hj
      · exact hb _ hx
      · by_cases hxl : x < acc.length
        · have hxo : x < ops.length := by rw [e]; simp; omega
          exact inv x _ hxl (List.getElem?_eq_getElem hxo) (hcl x _ (List.getElem?_eq_getElem hxo) (hb x hx)) j hj
        · simp [List.getD, List.getElem?_eq_none (Nat.le_of_not_lt hxl)] at hj

theorem befores_in (hcl : ∀ i o, ops[i]? = some o → L i → ∀ e ∈ befs o, L e) {i : Nat} {o : Oper} (hi : ops[i]? = some o) (hb : ∀ e ∈ befs o, L e) : ∀ j ∈ (befores ops).getD i [], L j :=
  befores_fold hcl ops [] [] rfl rfl (fun _ _ h => by simp at h) i o hi hb
end

theorem zip_all {A : Type} {l : List A} {p : A × Nat → Bool} (h : l.zipIdx.all p = true) {i : Nat} {x : A} (hi : l[i]? = some x) : p (x, i) = true :=
  List.all_eq_true.1 h _ (List.mem_zipIdx_iff_getElem?.2 (by simpa using hi))

theorem getD_set (l : Array Bool) (i x : Nat) (d : Bool) : (l.setIfInBounds i true).getD x d = if i = x then (if i < l.size then true else d) else l.getD x d := by
  simp only [Array.getD_eq_getD_getElem?, Array.getElem?_setIfInBounds]
  split
  · split <;> rfl
  · rfl

def remains (n : Nat) (listed : Array Bool) : List Nat := (List.range n).filter fun i => !listed.getD i true

theorem remains_set {n i : Nat} {listed : Array Bool} (hs : listed.size = n) (hi : i < n) : remains n (listed.setIfInBounds i true) = (remains n listed).filter (fun j => decide (j ≠ i)) := by
  simp only [remains, List.filter_filter]
  apply List.filter_congr
  intro j hj
  have hj : j < n := by simpa using hj
  by_cases h : j = i
  · subst h
    simp [Array.getD, hs, hi]
  · have : i ≠ j := fun e => h e.symm
    simp [Array.getD, hs, hj, Array.getElem_setIfInBounds, h, this]

section
variable {C : Ctx} {sg : Nat → FSig} {Q : Exit → Act → World → Prop}

theorem listed_iff {listed : Array Bool} {n i : Nat} (hs : listed.size = n) (hi : i < n) : listed.getD i true = listed.getD i false := by simp [Array.getD, hs, hi]

theorem any_ok (hE : ∀ f, SpecOK C.P C.E.gl f (C.E.fs f) ∧ (C.E.fs f).sg = sg f) {ops : Array Oper} {ms : List MOp} (hc : all2 (oneOK C.P sg C.nt ops) ops.toList ms = true) (hord : orderOK ops.toList ms = true)
    {σ' : Sg} {γ' : Ga} (hQ : ∀ D' a' w', Sim C D' σ' γ' a' w' → Q .normal a' w') :
    ∀ (fuel : Nat) {listed : Array Bool} {D : Dyn} {σ : Sg} {γ : Ga} {a : Act} {w : World}, Sim C D σ γ a w → listed.size = ops.size →
      (∀ i o, ops.toList[i]? = some o → listed.getD i false = true → ∀ e ∈ befs o, listed.getD e false = true) →
      (remains ops.size listed).length ≤ fuel → run2 C.E ((remains ops.size listed).filterMap (ms[·]?)) σ γ σ' γ' → wpAny C.P .any ops Q fuel listed a w := by
  simp only [orderOK, Bool.and_eq_true] at hord
  obtain ⟨hed, hcl⟩ := hord
  -- where nothing is ready, nothing remains
  have hnil : ∀ {listed : Array Bool}, listed.size = ops.size → Region.ready .any ops listed = [] → remains ops.size listed = [] := by
    intro listed hs hr
    cases hrem : remains ops.size listed with
    | nil => rfl
    | cons i rest =>
      exfalso
      have hmem : i ∈ remains ops.size listed := by rw [hrem]; exact List.mem_cons_self ..
      have hmem' := hmem
      simp only [remains, List.mem_filter, List.mem_range, Bool.not_eq_true'] at hmem'
      obtain ⟨hi, hl⟩ := hmem'
      have hsort : (remains ops.size listed).Pairwise (· < ·) := List.Pairwise.filter _ List.pairwise_lt_range
      have hio : ops.toList[i]? = some ops[i] := by simp [hi]
      have hb := zip_all hed hio
      have : i ∈ Region.ready .any ops listed := by
        simp only [Region.ready, List.mem_filter, List.mem_range]
        refine ⟨hi, ?_⟩
        simp only [hl, Bool.not_false, Bool.true_and, Array.getElem?_eq_getElem hi, Option.map_some, Option.getD_some, Array.all_eq_true_iff_forall_mem, Bool.or_eq_true, Bool.not_eq_true']
        intro e he
        cases hbind : Region.binds .any e with
        | false => exact .inl rfl
        | true =>
          right
          have hlt : e.on < i := by
            have : e.on ∈ befs ops[i] := List.mem_map.2 ⟨e, List.mem_filter.2 ⟨by simpa using he, hbind⟩, rfl⟩
            have hb' := List.all_eq_true.1 hb _ this
            simpa using hb'
          cases hle : listed.getD e.on false with
          | true => rfl
          | false =>
            have hin : e.on ∈ remains ops.size listed := by
              simp only [remains, List.mem_filter, List.mem_range, Bool.not_eq_true']
              exact ⟨by omega, by rw [listed_iff hs (by omega)]; exact hle⟩
            rw [hrem] at hin hsort
            rcases List.mem_cons.1 hin with h | h
            · omega
            · have := (List.pairwise_cons.1 hsort).1 _ h
              omega
      rw [hr] at this
      cases this
  intro fuel
  induction fuel with
  | zero =>
    intro listed D σ γ a w h hs hclosed hf hr
    have h0 : remains ops.size listed = [] := by simpa using hf
    rw [h0] at hr
    obtain ⟨e1, e2⟩ := hr
    subst e1; subst e2
    refine ⟨?_, hQ _ _ _ h⟩
    cases hrd : Region.ready .any ops listed with
    | nil => rfl
    | cons i rest =>
      have : i ∈ Region.ready .any ops listed := by rw [hrd]; exact List.mem_cons_self ..
      simp only [Region.ready, List.mem_filter, List.mem_range, Bool.and_eq_true] at this
      have h1 : i ∈ remains ops.size listed := by
        simp only [remains, List.mem_filter, List.mem_range]
        exact ⟨this.1, this.2.1⟩
      rw [h0] at h1
      cases h1
  | succ fuel ih =>
    intro listed D σ γ a w h hs hclosed hf hr
    refine ⟨fun hrd => ?_, fun i hi => ?_⟩
    · rw [hnil hs hrd] at hr
      obtain ⟨e1, e2⟩ := hr
      subst e1; subst e2
      exact hQ _ _ _ h
    · simp only [Region.ready, List.mem_filter, List.mem_range, Bool.and_eq_true] at hi
      obtain ⟨hin, hil, hib⟩ := hi
      have hirem : i ∈ remains ops.size listed := by
        simp only [remains, List.mem_filter, List.mem_range]
        exact ⟨hin, hil⟩
      have hio : ops.toList[i]? = some ops[i] := by simp [hin]
      simp only [Array.getElem?_eq_getElem hin, Option.map_some, Option.getD_some, Array.all_eq_true_iff_forall_mem, Bool.or_eq_true, Bool.not_eq_true'] at hib
      have hbl : ∀ e ∈ befs ops[i], listed.getD e false = true := by
        intro e he
        simp only [befs, List.mem_map, List.mem_filter] at he
        obtain ⟨x, ⟨hx, hb⟩, rfl⟩ := he
        rcases hib x (by simpa using hx) with h | h
        · rw [hb] at h; cases h
        · exact h
      obtain ⟨A, B, hAB⟩ := List.append_of_mem hirem
      have hsort : (remains ops.size listed).Pairwise (· < ·) := List.Pairwise.filter _ List.pairwise_lt_range
      rw [hAB, List.pairwise_append] at hsort
      obtain ⟨-, hB, hA⟩ := hsort
      have hAi : ∀ j ∈ A, j < i := fun j hj => hA j hj i (List.mem_cons_self ..)
      have hBi : ∀ j ∈ B, i < j := fun j hj => (List.pairwise_cons.1 hB).1 j hj
      obtain ⟨m, hm, hone⟩ := all2_get hc hio
      rw [hAB, List.filterMap_append, List.filterMap_cons, hm] at hr
      have hfront := run2_front hr (fun n hn => by
        obtain ⟨j, hj, hjn⟩ := List.mem_filterMap.1 hn
        have h1 := zip_all hcl hm
        have hjl : j < i := hAi j hj
        have h2 := zip_all h1 (i := j) (x := n) (by rw [List.getElem?_take, if_pos hjl]; exact hjn)
        simp only [Bool.or_eq_true, Bool.not_eq_true', List.contains_eq_mem, decide_eq_true_eq] at h2
        rcases h2 with h2 | h2
        · exact h2
        · exfalso
          have h3 := befores_in (L := fun e => listed.getD e false = true) hclosed hio hbl j h2
          have h4 : j ∈ remains ops.size listed := by rw [hAB]; exact List.mem_append_left _ hj
          simp only [remains, List.mem_filter, List.mem_range, Bool.not_eq_true'] at h4
          rw [listed_iff hs h4.1, h3] at h4
          cases h4.2)
      obtain ⟨σ1, γ1, s1, s2, hr'⟩ := hfront
      simp only [oneOK, Bool.and_eq_true] at hone
      obtain ⟨⟨⟨c1, c2⟩, c3⟩, c4⟩ := hone
      simp only [wpOp, Array.getElem?_eq_getElem hin]
      refine step_ok hE h c1 c2 c3 c4 s1 s2 fun D' a' w' h' => ?_
      have hrs : remains ops.size (listed.setIfInBounds i true) = A ++ B := by
        rw [remains_set hs hin, hAB, List.filter_append, List.filter_cons]
        simp only [ne_eq, not_true_eq_false, decide_false, Bool.false_eq_true, if_false]
        rw [List.filter_eq_self.2 (fun j hj => by have := hAi j hj; simp; omega), List.filter_eq_self.2 (fun j hj => by have := hBi j hj; simp; omega)]
      refine ih h' (by simp [hs]) ?_ ?_ ?_
      · intro j o hj hjl e he
        have hset : ∀ x, listed.getD x false = true → (listed.setIfInBounds i true).getD x false = true := by
          intro x hx
          rw [getD_set]
          split
          · rename_i hix
            subst hix
            rw [if_pos (by rw [hs]; exact hin)]
          · exact hx
        by_cases hji : j = i
        · subst hji
          rw [hio] at hj
          cases hj
          exact hset _ (hbl e he)
        · refine hset _ (hclosed j o hj ?_ e he)
          have hij : i ≠ j := fun e => hji e.symm
          rw [getD_set, if_neg hij] at hjl
          exact hjl
      · rw [hrs]
        rw [hAB] at hf
        simp at hf ⊢
        omega
      · rw [hrs, List.filterMap_append]
        exact hr'

theorem filterMap_range {A : Type} : ∀ (ms : List A), (List.range ms.length).filterMap (ms[·]?) = ms
  | [] => rfl
  | m :: ms => by
    rw [List.length_cons, List.range_succ_eq_map, List.filterMap_cons]
    simp only [List.getElem?_cons_zero, List.filterMap_map, Function.comp_def, List.getElem?_cons_succ]
    rw [filterMap_range ms]

theorem region_ok (hE : ∀ f, SpecOK C.P C.E.gl f (C.E.fs f) ∧ (C.E.fs f).sg = sg f) {id : Nat} {ops : Array Oper} {draw : Bool} {ms : List MOp} {G G' : GL} {D : Dyn} {σ σ' : Sg} {a : Act} {w : World}
    (hr : regOK C.P sg C.nt ops draw ms = true) (hg : grun ms G = some G') (h : Sim C D σ G.get a w) (hs : runS C.E ms σ σ') (hQ : ∀ D' a' w', Sim C D' σ' G'.get a' w' → Q .normal a' w') : (Code.region id ops draw).wp C.P Q a w := by
  simp only [regOK, Bool.and_eq_true] at hr
  obtain ⟨hc, hd⟩ := hr
  have hrun := run2_of hs hg
  cases draw with
  | false => exact wp_region_list (list_ok hE h hc hrun hQ)
  | true =>
    simp only [Bool.not_true, Bool.false_or, Bool.and_eq_true] at hd
    have hlen : ops.size = ms.length := by have := all2_len hc; simpa using this
    have hrem : remains ops.size (Array.replicate ops.size false) = List.range ops.size := by
      simp only [remains]
      apply List.filter_eq_self.2
      intro i hi
      have hi : i < ops.size := by simpa using hi
      simp [Array.getD, hi]
    refine wp_region_any hd.1 (any_ok hE hc hd.2 hQ ops.size h.drew (by simp) ?_ (by rw [hrem]; simp) ?_)
    · intro i o _ hl
      exfalso
      by_cases hi : i < ops.size <;> simp [Array.getD, hi] at hl
    · rw [hrem, hlen, filterMap_range]
      exact hrun
end
end Go.Eng
