/- Concrete runs: regions that draw their order. No condition. -/
import Derived.Test.YtnhbohcjmdfmiaaGreatC11
set_option linter.unusedVariables false
set_option linter.unusedSimpArgs false
namespace Go.Ab
open Go

/-- what an operation does in one heap -/
def StepAt (P : Program) (o : Oper) (e : Operand → AV) (H : Heap) (q : Nat) (v : AV) (D : Delta) : Prop :=
  ∀ m (a : Act) w, (∀ d ∈ D, q ≤ d.1 → hkn H d.1 = false) → Sim m H w → (∀ x ∈ o.op.operands, VR m H (e x) (a.eval x)) →
    ∀ next Q, (∀ v' m' w', Sim m' (hput H D) w' → VR m' (hput H D) v v' → Tr m H w m' (hput H D) w' → next (a.put o.dst v') w') → o.wp P a w next Q

/-- what is known of one operation of the walk -/
structure FactC (P : Program) (ops : Array Oper) (T0 : List AV) (C0 : Heap) (R : List Rec) (ms : List Nat) (j : Nat) (r : Rec) : Prop where
  op : ops[j]? = some r.o
  preds : ∀ p ∈ predsOf r.o, p < j
  anc : ms[j]? = some (ancOf (ms.take j) (predsOf r.o))
  un : ∀ i r', i < j → R[i]? = some r' → (ancOf (ms.take j) (predsOf r.o)).testBit i = false → r'.o.apart ops r.o = true ∧ ∀ b ∈ r.tc, b ∉ r'.tc
  run : (Wants ops r.o (tmS (fun _ => true) T0 (R.take j) 0) true ∧ ∃ q, ∀ S : Nat → Bool, S j = false → (∀ i, (ancOf (ms.take j) (predsOf r.o)).testBit i = true → S i = true) → (∀ i A, ms[i]? = some A → j < i → S i = true → A.testBit j = false) →
      StepAt P r.o (ev (tmS (fun _ => true) T0 (R.take j) 0)) (hpS S C0 R 0) q r.v r.D ∧ ∀ d ∈ r.D, q ≤ d.1 → hkn (hpS S C0 R 0) d.1 = false) ∨
    (Wants ops r.o (tmS (fun _ => true) T0 (R.take j) 0) false ∧ r.v = .tuple [] ∧ r.D = [])

theorem ordersC {P : Program} {ops : Array Oper} {Q : Exit → Act → World → Prop} {T0 : List AV} {C0 : Heap} {R : List Rec} {ms : List Nat} {m0 : Map} {a0 : Act} {w0 : World} (hn : R.length = ops.size) (hms : ms.length = R.length) (hF : ∀ j r, R[j]? = some r → FactC P ops T0 C0 R ms j r)
    (hQ : ∀ m a w, To m0 C0 a0 w0 m ⟨tmS (fun _ => true) T0 R 0, hpS (fun _ => true) C0 R 0⟩ a w → Q .normal a w) :
    ∀ (fuel : Nat) (listed : Array Bool) (m : Map) (a : Act) (w : World), listed.size = ops.size → ops.size ≤ cnt listed + fuel →
      (∀ j A, ms[j]? = some A → listed.getD j false = true → ∀ i, A.testBit i = true → listed.getD i false = true) →
      To m0 C0 a0 w0 m ⟨tmS (fun i => listed.getD i false) T0 R 0, hpS (fun i => listed.getD i false) C0 R 0⟩ a w → wpAny P .any ops Q fuel listed a w := by
  intro fuel
  -- where nothing is ready all is done
  have hall : ∀ (listed : Array Bool), listed.size = ops.size → Region.ready .any ops listed = [] → ∀ j, j < ops.size → listed.getD j false = true := by
    intro listed hs hr j
    induction j using Nat.strongRecOn with
    | ind j ih =>
      intro hj
      apply Classical.byContradiction
      intro hno
      have hR : R[j]? = some R[j] := List.getElem?_eq_getElem (by omega)
      have f := hF j _ hR
      have : j ∈ Region.ready .any ops listed := by
        unfold Region.ready
        rw [List.mem_filter]
        refine ⟨List.mem_range.2 hj, ?_⟩
        have e1 : listed.getD j true = false := by
          have hlt : j < listed.size := by omega
          simp [Array.getD, hlt] at hno ⊢
          exact hno
        rw [e1, f.op]
        simp only [Bool.not_false, Bool.true_and, Option.map_some, Option.getD_some]
        rw [Array.all_eq_true']
        intro e he
        by_cases hb : Region.binds .any e = true
        · have hp : e.on ∈ predsOf (R[j]).o := by
            unfold predsOf
            rw [List.mem_filterMap]
            exact ⟨e, by simpa using he, by simp [hb]⟩
          have := ih e.on (f.preds _ hp) (by have := f.preds _ hp; omega)
          simp [this]
        · simp [hb]
      rw [hr] at this
      cases this
  have hfin : ∀ (listed : Array Bool) (m : Map) (a : Act) (w : World), listed.size = ops.size → Region.ready .any ops listed = [] → To m0 C0 a0 w0 m ⟨tmS (fun i => listed.getD i false) T0 R 0, hpS (fun i => listed.getD i false) C0 R 0⟩ a w → Q .normal a w := by
    intro listed m a w hs hr hto
    have hl := hall listed hs hr
    have hh : ∀ b, hat (hpS (fun i => listed.getD i false) C0 R 0) b = hat (hpS (fun _ => true) C0 R 0) b := fun b => hpS_same R C0 C0 0 rfl fun j r hj => .inl (by
      rw [Nat.zero_add]
      exact hl j (by have := (List.getElem?_eq_some_iff.1 hj).1; omega))
    have ht : ∀ t, tget (tmS (fun i => listed.getD i false) T0 R 0) t = tget (tmS (fun _ => true) T0 R 0) t := fun t => tmS_same R T0 T0 0 rfl rfl fun j r hj => .inl (by
      rw [Nat.zero_add]
      exact hl j (by have := (List.getElem?_eq_some_iff.1 hj).1; omega))
    refine hQ m a w ⟨⟨hto.at_.sim.congr hh, ⟨?_, fun t => ?_⟩⟩, hto.tr.congr hh, hto.defers⟩
    · have := hto.at_.tr.len
      rw [tmS_length] at this ⊢
      exact this
    · have := hto.at_.tr.at_ t
      rw [ht t] at this
      exact this.mono (Le.congr hh)
  induction fuel with
  | zero =>
    intro listed m a w hs hc _ hto
    have hr : Region.ready .any ops listed = [] := by
      have hcf : cnt listed = listed.size := by have := cnt_le listed; omega
      unfold Region.ready
      rw [List.filter_eq_nil_iff]
      intro j hj
      have hj' : j < listed.size := by have := List.mem_range.1 hj; omega
      have := cnt_full listed hcf j hj'
      simp [Array.getD, hj'] at this ⊢
      simp [this]
    exact ⟨hr, hfin listed m a w hs hr hto⟩
  | succ fuel ih =>
    intro listed m a w hs hc hcl hto
    refine ⟨fun hr => hfin listed m a w hs hr hto, fun j hj => ?_⟩
    -- j is ready
    unfold Region.ready at hj
    rw [List.mem_filter] at hj
    obtain ⟨hj1, hj2⟩ := hj
    have hjn : j < ops.size := List.mem_range.1 hj1
    have hjl : j < listed.size := by omega
    simp only [Bool.and_eq_true, Bool.not_eq_true'] at hj2
    have hno : listed.getD j false = false := by
      have := hj2.1
      simp [Array.getD, hjl] at this ⊢
      exact this
    have hR : R[j]? = some R[j] := List.getElem?_eq_getElem (by omega)
    generalize hr : R[j] = r at hR
    have f := hF j r hR
    have hA := f.anc
    generalize hAe : ancOf (ms.take j) (predsOf r.o) = A at hA
    have hpl : ∀ p ∈ predsOf r.o, listed.getD p false = true := by
      intro p hp
      unfold predsOf at hp
      rw [List.mem_filterMap] at hp
      obtain ⟨e, he, hb⟩ := hp
      split at hb
      · rename_i hbb
        cases hb
        have h2 := hj2.2
        rw [f.op] at h2
        simp only [Option.map_some, Option.getD_some] at h2
        rw [Array.all_eq_true'] at h2
        have := h2 e (by simpa using he)
        simpa [hbb] using this
      · cases hb
    have hAl : ∀ i, A.testBit i = true → listed.getD i false = true := by
      intro i hi
      rw [← hAe, ancOf_spec] at hi
      obtain ⟨p, hp, h1 | h1⟩ := hi
      · subst h1; exact hpl _ hp
      · have hpj := f.preds p hp
        have hpm : p < ms.length := by omega
        have e1 : (ms.take j).getD p 0 = ms[p] := by
          simp [List.getD_eq_getElem?_getD, List.getElem?_take, hpj, hpm]
        rw [e1] at h1
        exact hcl p ms[p] (by simp [hpm]) (hpl p hp) i h1
    -- pairs
    have hun : ∀ (i : Nat) (r' : Rec), R[i]? = some r' → listed.getD i false = decide (i < j) ∨ (r'.o.apart ops r.o = true ∧ (∀ b ∈ r.tc, b ∉ r'.tc) ∧ i < j ∧ A.testBit i = false) ∨ (r.o.apart ops r'.o = true ∧ ∀ b ∈ r'.tc, b ∉ r.tc) := by
      intro i r' hi
      by_cases h1 : i < j
      · cases hb : A.testBit i with
        | true => left; rw [hAl i hb]; simp [h1]
        | false =>
          obtain ⟨g1, g2⟩ := f.un i r' h1 hi (by rw [hAe]; exact hb)
          exact .inr (.inl ⟨g1, g2, h1, rfl⟩)
      · by_cases h2 : i = j
        · subst h2; left; rw [hno]; simp
        · cases hl : listed.getD i false with
          | false => left; simp [h1]
          | true =>
            have fi := hF i r' hi
            right; right
            refine fi.un j r (by omega) hR ?_
            cases hb : (ancOf (ms.take i) (predsOf r'.o)).testBit j with
            | false => rfl
            | true =>
              have := hcl i _ fi.anc hl j hb
              rw [hno] at this
              cases this
    have htm : ∀ t ∈ r.o.looksAt ops, tget (tmS (fun i => listed.getD i false) T0 R 0) t = tget (tmS (fun _ => true) T0 (R.take j) 0) t := by
      intro t ht
      have e := tmS_take T0 R 0 j (Nat.zero_le _)
      rw [Nat.sub_zero] at e
      rw [← e]
      refine tmS_same R T0 T0 0 rfl rfl fun i r' hi => ?_
      rw [Nat.zero_add]
      rcases hun i r' hi with h | ⟨h, _⟩ | ⟨h, _⟩
      · exact .inl h
      · exact .inr fun hd => (Oper.apart_spec h).1 t hd ht
      · exact .inr fun hd => (Oper.apart_spec h).2.2 t hd ht
    -- the next set
    have hset : ∀ i, (listed.setIfInBounds j true).getD i false = (listed.getD i false || i == j) := by
      intro i
      simp only [Array.getD_eq_getD_getElem?, Array.getElem?_setIfInBounds]
      by_cases h1 : j = i
      · subst h1; simp [hjl]
      · rw [if_neg h1]
        have : (i == j) = false := by simp; exact fun e => h1 e.symm
        simp [this]
    have hclose : ∀ i A', ms[i]? = some A' → (listed.setIfInBounds j true).getD i false = true → ∀ x, A'.testBit x = true → (listed.setIfInBounds j true).getD x false = true := by
      intro i A' hi hl x hx
      rw [hset] at hl ⊢
      simp only [Bool.or_eq_true, beq_iff_eq] at hl ⊢
      left
      rcases hl with hl | rfl
      · exact hcl i A' hi hl x hx
      · rw [hA] at hi
        cases hi
        exact hAl x hx
    have hfun : (fun i => (listed.setIfInBounds j true).getD i false) = fun i => listed.getD i false || i == j := funext hset
    have htadd : ∀ t, tget (tmS (fun i => listed.getD i false || i == j) T0 R 0) t = tget (tput (tmS (fun i => listed.getD i false) T0 R 0) r.o.dst r.v) t := fun t =>
      tmS_add (n := j) (rn := r) R T0 0 (Nat.zero_le _) (by simpa using hR) hno fun i r' hi hlt hl hd => by
        rw [Nat.zero_add] at hlt hl
        rcases hun i r' hi with h | ⟨_, _, h1, _⟩ | ⟨h, _⟩
        · rw [hl] at h
          have : i < j := by simpa using h.symm
          omega
        · omega
        · exact fun hd' => (Oper.apart_spec h).2.1 t hd hd'
    have hhadd : ∀ b, hat (hput (hpS (fun i => listed.getD i false) C0 R 0) r.D) b = hat (hpS (fun i => listed.getD i false || i == j) C0 R 0) b := fun b =>
      (hpS_add (n := j) (rn := r) R C0 0 (Nat.zero_le _) (by simpa using hR) hno fun i r' hi hlt hl hb hb' => by
        rw [Nat.zero_add] at hlt hl
        rcases hun i r' hi with h | ⟨_, _, h1, _⟩ | ⟨_, h⟩
        · rw [hl] at h
          have : i < j := by simpa using h.symm
          omega
        · omega
        · exact h b hb' hb).symm
    have hnext : ∀ m' a' w' v', Sim m' (hput (hpS (fun i => listed.getD i false) C0 R 0) r.D) w' → VR m' (hput (hpS (fun i => listed.getD i false) C0 R 0) r.D) r.v v' → Tr m (hpS (fun i => listed.getD i false) C0 R 0) w m' (hput (hpS (fun i => listed.getD i false) C0 R 0) r.D) w' →
        a' = a.put r.o.dst v' → wpAny P .any ops Q fuel (listed.setIfInBounds j true) a' w' := by
      intro m' a' w' v' g1 g2 g3 ha
      subst ha
      refine ih _ m' _ w' (by simp [hs]) (by rw [cnt_set listed j hjl hno]; omega) hclose ?_
      rw [hfun]
      have htr := (hto.at_.tr.mono g3.ext).put r.o.dst g2
      refine ⟨⟨g1.congr hhadd, ⟨?_, fun t => ?_⟩⟩, (hto.tr.trans g3).congr hhadd, by rw [put_defers]; exact hto.defers⟩
      · have := htr.len
        simp only [tput_length, tmS_length] at this ⊢
        exact this
      · have := htr.at_ t
        simp only [← htadd t] at this
        exact this.mono (Le.congr hhadd)
    unfold wpOp
    rw [f.op]
    rcases f.run with ⟨h1, q, h2⟩ | ⟨h1, h2, h3⟩
    · simp only [h1 m _ a _ htm hto.at_.tr, if_true]
      left
      obtain ⟨h4, h5⟩ := h2 (fun i => listed.getD i false) hno (fun i hi => hAl i (by rw [hAe] at hi; exact hi)) (fun i A' hA' hji hl => by
        cases hb : A'.testBit j with
        | false => rfl
        | true =>
          have := hcl i A' hA' hl j hb
          rw [hno] at this
          cases this)
      refine h4 m a w h5 hto.at_.sim (fun x hx => ?_) _ _ fun v' m' w' g1 g2 g3 => hnext m' _ w' v' g1 g2 g3 rfl
      have hv := hto.at_.tr.ev x
      have : ev (tmS (fun i => listed.getD i false) T0 R 0) x = ev (tmS (fun _ => true) T0 (R.take j) 0) x := by
        cases x with
        | tmp t => exact htm t (by unfold Oper.looksAt; rw [List.mem_append]; left; rw [List.mem_filterMap]; exact ⟨.tmp t, by simpa using hx, rfl⟩)
        | const v => rfl
        | global g => rfl
        | func g => rfl
      rw [this] at hv
      exact hv
    · simp only [h1 m _ a _ htm hto.at_.tr]
      refine hnext m _ w Go.undef ?_ ?_ ?_ rfl
      · rw [h3]; exact hto.at_.sim
      · rw [h2]; exact VR.unit _ _
      · rw [h3]; exact Tr.refl _ _ _

end Go.Ab
