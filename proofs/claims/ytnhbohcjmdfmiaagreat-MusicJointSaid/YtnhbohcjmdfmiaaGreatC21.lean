/- Concrete runs: a region in another order. No condition. -/
import Derived.Test.YtnhbohcjmdfmiaaGreatC2
set_option linter.unusedVariables false
set_option linter.unusedSimpArgs false
namespace Go.Ab
open Go

theorem yielded_remap {ops ops' : Array Oper} {tmps : Array Value} {i j : Nat} (h : (ops'[i]?).bind (·.dst) = (ops[j]?).bind (·.dst)) : yielded ops' tmps i = yielded ops tmps j := by
  unfold yielded; rw [h]
theorem remap_wp {inv : List Nat} {P : Program} {o : Oper} {a : Act} {w : World} {K : Act → World → Prop} {Q : Exit → Act → World → Prop} : (remap inv o).wp P a w K Q = o.wp P a w K Q := by cases o; rfl
theorem remap_asks {inv : List Nat} {P : Program} {o : Oper} {a : Act} {w : World} : (remap inv o).asks P a w = o.asks P a w := by cases o; rfl
theorem remap_preds (inv : List Nat) (o : Oper) : (remap inv o).after.toList.filterMap (fun e => if Region.binds .any e then some e.on else none) = (predsOf o).map fun p => inv.getD p 0 := by
  unfold remap
  simp only
  generalize predsOf o = l
  induction l with
  | nil => rfl
  | cons p l ih =>
    have hb : Region.binds .any (⟨inv.getD p 0, .data⟩ : Edge) = true := rfl
    simp only [List.map_cons, List.filterMap_cons, hb, if_true]; rw [ih]

theorem ready_iff {ops : Array Oper} {listed : Array Bool} (hs : listed.size = ops.size) (i : Nat) : i ∈ Region.ready .any ops listed ↔ ∃ o, ops[i]? = some o ∧ listed.getD i false = false ∧ ∀ p ∈ predsOf o, listed.getD p false = true := by
  unfold Region.ready
  rw [List.mem_filter, List.mem_range]
  constructor
  · intro ⟨h1, h2⟩
    have hl : i < listed.size := by omega
    rw [Array.getElem?_eq_getElem h1] at h2 ⊢
    simp only [Bool.and_eq_true, Bool.not_eq_true', Option.map_some, Option.getD_some] at h2
    refine ⟨_, rfl, by simpa [Array.getD, hl] using h2.1, fun p hp => ?_⟩
    unfold predsOf at hp
    obtain ⟨e, he, hb⟩ := List.mem_filterMap.1 hp
    split at hb
    · rename_i hbb
      cases hb
      have h3 := h2.2
      rw [Array.all_eq_true'] at h3
      simpa [hbb] using h3 e (by simpa using he)
    · cases hb
  · intro ⟨o, h1, h2, h3⟩
    have h0 : i < ops.size := (Array.getElem?_eq_some_iff.1 h1).1
    have hl : i < listed.size := by omega
    refine ⟨h0, ?_⟩
    rw [h1]
    simp only [Bool.and_eq_true, Bool.not_eq_true', Option.map_some, Option.getD_some]
    refine ⟨by simpa [Array.getD, hl] using h2, ?_⟩
    rw [Array.all_eq_true']
    intro e he
    by_cases hb : Region.binds .any e = true
    · have := h3 e.on (by unfold predsOf; exact List.mem_filterMap.2 ⟨e, by simpa using he, by simp [hb]⟩)
      simp [this]
    · simp [hb]

structure PermAt (ops ops' : Array Oper) (pi inv : List Nat) : Prop where
  size : ops'.size = ops.size
  lt : ∀ i, i < ops.size → pi.getD i ops.size < ops.size ∧ inv.getD i 0 < ops.size
  pi_inv : ∀ i, i < ops.size → pi.getD (inv.getD i 0) ops.size = i
  inv_pi : ∀ i, i < ops.size → inv.getD (pi.getD i ops.size) 0 = i
  op : ∀ i, i < ops.size → ∃ o, ops[pi.getD i ops.size]? = some o ∧ ops'[i]? = some (remap inv o)
  preds : ∀ (i : Nat) (o : Oper), ops[i]? = some o → (∀ p ∈ predsOf o, p < ops.size) ∧ ∀ j w, o.guard = some (j, w) → j < ops.size

theorem wpAny_perm {P : Program} {ops ops' : Array Oper} {pi inv : List Nat} {Q : Exit → Act → World → Prop} (h : PermAt ops ops' pi inv) : ∀ (fuel : Nat) (listed listed' : Array Bool) (a : Act) (w : World), listed.size = ops.size → listed'.size = ops.size →
    (∀ i, i < ops.size → listed'.getD i false = listed.getD (pi.getD i ops.size) false) → wpAny P .any ops' Q fuel listed' a w → wpAny P .any ops Q fuel listed a w := by
  have hrd : ∀ (listed listed' : Array Bool), listed.size = ops.size → listed'.size = ops.size → (∀ i, i < ops.size → listed'.getD i false = listed.getD (pi.getD i ops.size) false) → ∀ i, i < ops.size →
      (i ∈ Region.ready .any ops' listed' ↔ pi.getD i ops.size ∈ Region.ready .any ops listed) := by
    intro listed listed' hs hs' hl i hi
    obtain ⟨o, o1, o2⟩ := h.op i hi
    rw [ready_iff (hs'.trans h.size.symm), ready_iff hs]
    have hp : ∀ p, p < ops.size → listed'.getD (inv.getD p 0) false = listed.getD p false := fun p hp => by rw [hl _ (h.lt p hp).2, h.pi_inv p hp]
    constructor
    · intro ⟨o', e1, e2, e3⟩
      rw [o2] at e1
      cases e1
      refine ⟨o, o1, by rw [← hl i hi]; exact e2, fun p hpo => ?_⟩
      have := e3 (inv.getD p 0) (by unfold predsOf; rw [remap_preds]; exact List.mem_map_of_mem (f := fun p => inv.getD p 0) hpo)
      rwa [hp p ((h.preds _ o o1).1 p hpo)] at this
    · intro ⟨o', e1, e2, e3⟩
      rw [o1] at e1
      cases e1
      refine ⟨_, o2, by rw [hl i hi]; exact e2, fun q hq => ?_⟩
      unfold predsOf at hq
      rw [remap_preds] at hq
      obtain ⟨p, hpo, rfl⟩ := List.mem_map.1 hq
      rw [hp p ((h.preds _ o o1).1 p hpo)]
      exact e3 p hpo
  have hnil : ∀ (listed listed' : Array Bool), listed.size = ops.size → listed'.size = ops.size → (∀ i, i < ops.size → listed'.getD i false = listed.getD (pi.getD i ops.size) false) → Region.ready .any ops listed = [] → Region.ready .any ops' listed' = [] := by
    intro listed listed' hs hs' hl hr
    apply List.eq_nil_iff_forall_not_mem.2
    intro i hi
    have hlt : i < ops.size := by
      obtain ⟨o, e1, _⟩ := (ready_iff (hs'.trans h.size.symm) i).1 hi
      have := (Array.getElem?_eq_some_iff.1 e1).1
      rw [← h.size]; exact this
    have := (hrd listed listed' hs hs' hl i hlt).1 hi
    rw [hr] at this
    cases this
  intro fuel
  induction fuel with
  | zero =>
    intro listed listed' a w hs hs' hl hw
    refine ⟨?_, hw.2⟩
    apply List.eq_nil_iff_forall_not_mem.2
    intro j hj
    obtain ⟨o, e1, _⟩ := (ready_iff hs j).1 hj
    have hj' : j < ops.size := (Array.getElem?_eq_some_iff.1 e1).1
    have := (hrd listed listed' hs hs' hl (inv.getD j 0) (h.lt j hj').2).2 (by rw [h.pi_inv j hj']; exact hj)
    rw [hw.1] at this
    cases this
  | succ fuel ih =>
    intro listed listed' a w hs hs' hl hw
    refine ⟨fun hr => hw.1 (hnil listed listed' hs hs' hl hr), fun j hj => ?_⟩
    obtain ⟨o, e1, _⟩ := (ready_iff hs j).1 hj
    have hj' : j < ops.size := (Array.getElem?_eq_some_iff.1 e1).1
    have hi := (h.lt j hj').2
    have hpi := h.pi_inv j hj'
    have hj2 := (hrd listed listed' hs hs' hl (inv.getD j 0) hi).2 (by rw [hpi]; exact hj)
    have hw2 := hw.2 _ hj2
    obtain ⟨o', o1, o2⟩ := h.op _ hi
    rw [hpi, e1] at o1
    cases o1
    unfold wpOp at hw2 ⊢
    rw [o2] at hw2
    rw [e1]
    simp only at hw2 ⊢
    have hwant : Region.wanted (remap inv o) (yielded ops' a.tmps) = Region.wanted o (yielded ops a.tmps) := by
      have hg := (h.preds j o e1).2
      unfold Region.wanted
      have e0 : (remap inv o).guard = match o.guard with | none => none | some (j, w) => some (inv.getD j 0, w) := rfl
      rw [e0]
      cases hgo : o.guard with
      | none => rfl
      | some q =>
        obtain ⟨jg, wg⟩ := q
        simp only
        rw [yielded_remap (j := jg)]
        have hlt := hg jg wg hgo
        obtain ⟨og, g1, g2⟩ := h.op _ (h.lt jg hlt).2
        rw [h.pi_inv jg hlt] at g1
        rw [g1, g2]
        rfl
    have hnext : ∀ a w, wpAny P .any ops' Q fuel (listed'.setIfInBounds (inv.getD j 0) true) a w → wpAny P .any ops Q fuel (listed.setIfInBounds j true) a w := fun a w hh => by
      refine ih _ _ a w (by simp [hs]) (by simp [hs']) (fun i hi2 => ?_) hh
      have hpl := (h.lt i hi2).1
      simp only [Array.getD_eq_getD_getElem?, Array.getElem?_setIfInBounds]
      by_cases hq : inv.getD j 0 = i
      · have hq2 : j = pi.getD i ops.size := by rw [← hq, hpi]
        rw [if_pos hq, if_pos hq2, if_pos (by omega), if_pos (by omega)]
      · have hq2 : ¬ j = pi.getD i ops.size := fun q => hq (by rw [q]; exact h.inv_pi i hi2)
        rw [if_neg hq, if_neg hq2]
        have := hl i hi2
        simpa only [Array.getD_eq_getD_getElem?] using this
    rw [hwant] at hw2
    split
    · rename_i hwt
      rw [if_pos hwt] at hw2
      rw [remap_wp, remap_asks] at hw2
      exact hw2.imp (Oper.wp_mono hnext) id
    · rename_i hwt
      rw [if_neg hwt] at hw2
      exact hnext _ _ hw2

theorem permOk_at {ops : Array Oper} {pi inv : List Nat} (h : permOk ops.size pi inv ops.toList = true) (hi : inv.length = ops.size) : PermAt ops (pi.map fun j => remap inv (ops.toList.getD j default)).toArray pi inv := by
  unfold permOk at h
  simp only [Bool.and_eq_true] at h
  obtain ⟨⟨h1, h2⟩, h3⟩ := h
  have hl := Nat.eq_of_beq_eq_true h1
  have h4 : ∀ i, i < ops.size → inv.getD (pi.getD i ops.size) ops.size = i ∧ pi.getD (inv.getD i ops.size) ops.size = i := fun i hi => by
    have := List.all_eq_true.1 h2 i (List.mem_range.2 hi)
    rw [Bool.and_eq_true] at this
    exact ⟨Nat.eq_of_beq_eq_true this.1, Nat.eq_of_beq_eq_true this.2⟩
  have plt : ∀ i, i < ops.size → pi.getD i ops.size < ops.size := fun i hi2 => by
    apply Classical.byContradiction
    intro q
    have := (h4 i hi2).1
    rw [List.getD_eq_getElem?_getD, List.getElem?_eq_none (by omega)] at this
    simp at this
    omega
  have e0 : ∀ i, i < ops.size → inv.getD i 0 = inv.getD i ops.size := fun i hi2 => by
    rw [List.getD_eq_getElem?_getD, List.getD_eq_getElem?_getD, List.getElem?_eq_getElem (by omega)]; rfl
  have ilt : ∀ i, i < ops.size → inv.getD i 0 < ops.size := fun i hi2 => by
    rw [e0 i hi2]
    apply Classical.byContradiction
    intro q
    have := (h4 i hi2).2
    rw [List.getD_eq_getElem?_getD, List.getElem?_eq_none (by omega)] at this
    simp at this
    omega
  refine ⟨by simpa using hl, fun i hi2 => ⟨plt i hi2, ilt i hi2⟩, fun i hi2 => by rw [e0 i hi2]; exact (h4 i hi2).2, fun i hi2 => by rw [e0 _ (plt i hi2)]; exact (h4 i hi2).1, fun i hi2 => ?_, fun i o ho => ?_⟩
  · have hp := plt i hi2
    refine ⟨ops[pi.getD i ops.size], Array.getElem?_eq_getElem hp, ?_⟩
    have e1 : pi[i]? = some (pi.getD i ops.size) := by rw [List.getD_eq_getElem?_getD, List.getElem?_eq_getElem (by omega)]; rfl
    rw [List.getElem?_toArray, List.getElem?_map, e1]
    simp only [Option.map_some, Option.some.injEq]
    congr 1
    rw [List.getD_eq_getElem?_getD, Array.getElem?_toList, Array.getElem?_eq_getElem hp]; rfl
  · have hm : o ∈ ops.toList := by
      have := Array.mem_of_getElem? ho
      simpa using this
    have := List.all_eq_true.1 h3 o hm
    rw [Bool.and_eq_true] at this
    refine ⟨fun p hp => ?_, fun j w hg => ?_⟩
    · exact Nat.le_of_ble_eq_true (List.all_eq_true.1 this.1 p hp)
    · have h5 := this.2
      rw [hg] at h5
      exact Nat.le_of_ble_eq_true h5

theorem reord_wp {P : Program} {ops : Array Oper} {Q : Exit → Act → World → Prop} {a : Act} {w : World} (h : wpAny P .any (reord P ops) Q (reord P ops).size (Array.replicate (reord P ops).size false) a w) : wpAny P .any ops Q ops.size (Array.replicate ops.size false) a w := by
  unfold reord at h
  split at h
  · exact h
  · generalize orderO ops.size (todoO P ops.toList 0) 0 = pi at h
    unfold reordI at h
    have hlen : (invO ops.size pi).length = ops.size := by simp [invO]
    generalize invO ops.size pi = inv at h hlen
    unfold reordP at h
    split at h
    · rename_i hok
      have hp := permOk_at hok hlen
      rw [hp.size] at h
      refine wpAny_perm hp ops.size _ _ a w (by simp) (by simp) (fun i hi => ?_) h
      simp [Array.getD]
    · exact h
end Go.Ab
