/- Plain laws of the Lean functions, or the contract of a function of the library. Conditions: those of each statement. -/
import Derived.Test.YtblaikeffnpagaaR1
set_option linter.unusedVariables false
set_option linter.unusedSimpArgs false
namespace Go.Proofs.Ytblaikeffnpagaa.Pure
open Go Go.Ab

abbrev LS := Int × Int
def rwp (p : LS) : List Int := [p.1, p.2]
abbrev PL (l : List LS) : List (List Int) := l.map rwp
/-- the first is better -/
def bt (a b : LS) : Prop := b.2 < a.2 ∨ (a.2 = b.2 ∧ a.1 < b.1)
instance (a b : LS) : Decidable (bt a b) := by unfold bt; infer_instance
/-- the first is worse -/
def pr (a b : LS) : Prop := bt b a
instance (a b : LS) : Decidable (pr a b) := by unfold pr; infer_instance
theorem bt_trans {a b c : LS} (h : bt a b) (k : bt b c) : bt a c := by unfold bt at *; omega
theorem bt_irr (a : LS) : ¬ bt a a := by unfold bt; omega
theorem bt_tri (a b : LS) : bt a b ∨ a = b ∨ bt b a := by
  unfold bt
  by_cases h : a.2 = b.2
  · by_cases h1 : a.1 = b.1
    · exact .inr (.inl (Prod.ext h1 h))
    · omega
  · omega
theorem np_trans {x y z : LS} (h1 : ¬ pr x y) (h2 : ¬ pr y z) : ¬ pr x z := by unfold pr bt at *; omega
theorem p_asymm {x y : LS} (h : pr x y) : ¬ pr y x := by unfold pr bt at *; omega
theorem p_np {x y z : LS} (h1 : pr y z) (h2 : ¬ pr x z) : ¬ pr x y := by unfold pr bt at *; omega

theorem better_ok (a b : LS) : pitch_better a.1 a.2 b.1 b.2 = some (if bt a b then -1 else if a = b then 0 else 1) := by
  obtain ⟨a0, a1⟩ := a
  obtain ⟨b0, b1⟩ := b
  unfold pitch_better bt
  simp only [Prod.mk.injEq]
  by_cases h1 : a1 = b1
  · subst h1
    rw [br_f (by simp), br_y rfl, br_ite]
    by_cases h2 : a0 < b0
    · rw [if_pos h2, if_pos (by omega)]
    · rw [if_neg h2, if_neg (by omega)]
      by_cases h3 : a0 = b0
      · subst h3; rw [br_t (by simp), if_pos (by simp)]
      · rw [br_f (by simp [h3]), if_neg (by simp [h3])]
  · rw [br_t (by simp [h1])]
    by_cases h2 : b1 < a1
    · rw [br_y h2, br_y h2, if_pos (by omega)]
    · rw [br_n h2, br_n h1, br_f (by simp [h1]), if_neg (by omega), if_neg (by simp [h1])]

theorem nd_f {p : Prop} [Decidable p] (h : p) : (!decide p) = false := by simp [h]
theorem nd_t {p : Prop} [Decidable p] (h : ¬ p) : (!decide p) = true := by simp [h]
theorem d_t {p : Prop} [Decidable p] (h : p) : decide p = true := by simp [h]
theorem d_f {p : Prop} [Decidable p] (h : ¬ p) : decide p = false := by simp [h]
def dl : LS := (0, 0)
theorem PL_get {l : List LS} {i : Nat} (h : i < l.length) : (PL l).getD i [] = rwp (l.getD i dl) := by
  simp [PL, List.getD_eq_getElem?_getD, h]
theorem less_ok {l : List LS} {i j : Nat} (hi : i < l.length) (hj : j < l.length) : pitch_worse_Less (i : Int) (j : Int) (PL l) = some (decide (pr (l.getD i dl) (l.getD j dl)), PL l) := by
  unfold pitch_worse_Less
  rw [need_t (by simp; omega), need_t (by simp; omega), Int.toNat_natCast, Int.toNat_natCast, PL_get hi, PL_get hj]
  simp only [rwp, List.getD_cons_zero, List.getD_cons_succ]
  rw [better_ok, bind_s]
  congr 2
  rw [Bool.eq_iff_iff, decide_eq_true_iff, decide_eq_true_iff]
  unfold pr
  rcases bt_tri (l.getD i dl) (l.getD j dl) with h | h | h
  · rw [if_pos h]
    have := p_asymm (x := l.getD j dl) (y := l.getD i dl) h
    unfold pr at this
    constructor
    · intro h; omega
    · intro h; exact absurd h this
  · have hn := bt_irr (l.getD j dl)
    rw [h, if_neg hn, if_pos rfl]
    constructor
    · intro h; omega
    · intro h; exact absurd h hn
  · have := p_asymm (x := l.getD i dl) (y := l.getD j dl) h
    unfold pr at this
    have hne : l.getD i dl ≠ l.getD j dl := fun e => by rw [e] at h; exact bt_irr _ h
    rw [if_neg this, if_neg hne]
    exact ⟨fun _ => h, fun _ => by omega⟩

def sw (l : List LS) (i j : Nat) : List LS := (l.set i (l.getD j dl)).set j (l.getD i dl)
theorem sw_len (l : List LS) (i j : Nat) : (sw l i j).length = l.length := by simp [sw]
theorem sw_perm {l : List LS} {i j : Nat} (hi : i < l.length) (hj : j < l.length) : (sw l i j).Perm l := by
  have : ((l.set i l[j]).set j l[i]).Perm l := List.set_set_perm hi hj
  unfold sw
  simpa [List.getD_eq_getElem?_getD, hi, hj] using this
theorem sw_j {l : List LS} {i j : Nat} (hj : j < l.length) : (sw l i j).getD j dl = l.getD i dl := by
  simp [sw, List.getD_eq_getElem?_getD, List.getElem?_set, hj]
theorem sw_i {l : List LS} {i j : Nat} (hi : i < l.length) (h : i ≠ j) : (sw l i j).getD i dl = l.getD j dl := by
  have h' : ¬ j = i := fun e => h e.symm
  simp [sw, List.getD_eq_getElem?_getD, List.getElem?_set, hi, h']
theorem sw_m {l : List LS} {i j m : Nat} (h1 : m ≠ i) (h2 : m ≠ j) : (sw l i j).getD m dl = l.getD m dl := by
  have h1' : ¬ i = m := fun e => h1 e.symm
  have h2' : ¬ j = m := fun e => h2 e.symm
  simp [sw, List.getD_eq_getElem?_getD, List.getElem?_set, h1', h2']
theorem swap_ok {l : List LS} {i j : Nat} (hi : i < l.length) (hj : j < l.length) : pitch_worse_Swap (i : Int) (j : Int) (PL l) = some (PL (sw l i j)) := by
  unfold pitch_worse_Swap
  rw [need_t (by simp; omega), need_t (by simp; omega), need_t (by simp; omega), need_t (by simp; omega)]
  simp only [Int.toNat_natCast]
  rw [PL_get hi, PL_get hj]
  simp only [rwp, List.getD_cons_zero, List.getD_cons_succ]
  congr 1
  simp [sw, PL, List.map_set, rwp]

/-- no child is worse than its parent -/
def HP (t : Nat) (l : List LS) : Prop := ∀ i, 0 < i → i < t → ¬ pr (l.getD i dl) (l.getD ((i - 1) / 2) dl)

theorem up_l0 (k : Nat) {t : Nat} (ht : t ≤ 1000) : ∀ n j (l : List LS), t = l.length → j < t → j < n →
    (∀ i, 0 < i → i < t → i ≠ j → ¬ pr (l.getD i dl) (l.getD ((i - 1) / 2) dl)) →
    (∀ i, 0 < i → i < t → (i - 1) / 2 = j → 0 < j → ¬ pr (l.getD i dl) (l.getD ((j - 1) / 2) dl)) →
    ∃ l', heap_up_l0 k n ((j : Int), PL l) = some (PL l') ∧ l'.Perm l ∧ HP t l' := by
  intro n
  induction n with
  | zero => intro j l _ _ h; omega
  | succ n ih =>
    intro j l hl hj hn h1 h2
    rw [show heap_up_l0 k (n + 1) = heap_up_l0F k (heap_up_l0 k n) from rfl]
    unfold heap_up_l0F
    have w : IntKind.i64.wrap ((IntKind.i64.wrap ((j : Int) - 1)).tdiv 2) = (((j - 1) / 2 : Nat) : Int) := by
      rw [wid (x := (j : Int) - 1) (by omega) (by omega)]
      by_cases h0 : j = 0
      · subst h0; decide
      · rw [IntWalk.i64_quo _ _ ⟨by omega, by omega, by omega⟩]; omega
    simp only [w, br_ite]
    by_cases h0 : j = 0
    · subst h0
      rw [if_pos (by omega)]
      exact ⟨l, rfl, .refl _, fun i a b => h1 i a b (by omega)⟩
    · rw [if_neg (by omega), less_ok (by omega) (by omega : (j - 1) / 2 < l.length)]
      simp only [Option.bind_some]
      generalize hp : (j - 1) / 2 = p at *
      by_cases hpr : pr (l.getD j dl) (l.getD p dl)
      · rw [br_f (nd_f hpr), swap_ok (i := p) (j := j) (by omega) (by omega)]
        simp only [Option.bind_some]
        have hpl : p < l.length := by omega
        have hjl : j < l.length := by omega
        have A : ∀ i, 0 < i → i < t → i ≠ p → ¬ pr ((sw l p j).getD i dl) ((sw l p j).getD ((i - 1) / 2) dl) := by
          intro i hi0 hit hip
          have hA := p_asymm hpr
          by_cases hij : i = j
          · subst hij
            rw [sw_j hjl, hp, sw_i hpl (by omega)]; exact hA
          · rw [sw_m hip hij]
            by_cases hpi : (i - 1) / 2 = p
            · rw [hpi, sw_i hpl (by omega)]
              have := h1 i hi0 hit hij
              rw [hpi] at this
              exact p_np hpr this
            · by_cases hpj : (i - 1) / 2 = j
              · rw [hpj, sw_j hjl]
                exact h2 i hi0 hit hpj (by omega)
              · rw [sw_m hpi hpj]
                exact h1 i hi0 hit hij
        have B : ∀ i, 0 < i → i < t → (i - 1) / 2 = p → 0 < p → ¬ pr ((sw l p j).getD i dl) ((sw l p j).getD ((p - 1) / 2) dl) := by
          intro i hi0 hit hpi hp0
          have hpp : (sw l p j).getD ((p - 1) / 2) dl = l.getD ((p - 1) / 2) dl := sw_m (by omega) (by omega)
          have hpn := h1 p hp0 (by omega) (by omega)
          rw [hpp]
          by_cases hij : i = j
          · subst hij; rw [sw_j hjl]; exact hpn
          · rw [sw_m (by omega) hij]
            have := h1 i hi0 hit hij
            rw [hpi] at this
            exact np_trans this hpn
        obtain ⟨l', e, hp1, hp2⟩ := ih p (sw l p j) (by rw [sw_len]; exact hl) (by omega) (by omega) A B
        exact ⟨l', e, hp1.trans (sw_perm hpl hjl), hp2⟩
      · rw [br_t (nd_t hpr)]
        refine ⟨l, rfl, .refl _, fun i a b => ?_⟩
        by_cases hij : i = j
        · subst hij; rw [hp]; exact hpr
        · exact h1 i a b hij

theorem down_l0 (k : Nat) (i0 : Int) {t : Nat} (ht : t ≤ 1000) : ∀ n i (l : List LS), t ≤ l.length → i < t → t < n + i →
    (∀ m, 0 < m → m < t → (m - 1) / 2 ≠ i → ¬ pr (l.getD m dl) (l.getD ((m - 1) / 2) dl)) →
    (∀ m, 0 < m → m < t → (m - 1) / 2 = i → 0 < i → ¬ pr (l.getD m dl) (l.getD ((i - 1) / 2) dl)) →
    ∃ l' i', heap_down_l0 k n (i0, (t : Int), (i : Int), PL l) = some (i0, i', PL l') ∧ l'.Perm l ∧ (∀ m, t ≤ m → l'.getD m dl = l.getD m dl) ∧ HP t l' := by
  intro n
  induction n with
  | zero => intro i l _ _ h; omega
  | succ n ih =>
    intro i l hl hi hn h1 h2
    rw [show heap_down_l0 k (n + 1) = heap_down_l0F k (heap_down_l0 k n) from rfl]
    unfold heap_down_l0F
    have w : IntKind.i64.wrap ((IntKind.i64.wrap (2 * (i : Int))) + 1) = ((2 * i + 1 : Nat) : Int) := by
      rw [wid (x := 2 * (i : Int)) (by omega) (by omega), wid (by omega) (by omega)]; omega
    have w2 : IntKind.i64.wrap (((2 * i + 1 : Nat) : Int) + 1) = ((2 * i + 2 : Nat) : Int) := by rw [wid (by omega) (by omega)]; omega
    have hil : i < l.length := by omega
    have step : ∀ j, j < t → (j - 1) / 2 = i → i < j → pr (l.getD j dl) (l.getD i dl) → (∀ m, m < t → i < m → (m - 1) / 2 = i → m ≠ j → ¬ pr (l.getD m dl) (l.getD j dl)) →
        ∃ l' i', ((pitch_worse_Swap (i : Int) (j : Int) (PL l)).bind fun b0_2 => heap_down_l0 k n (i0, (t : Int), (j : Int), b0_2)) = some (i0, i', PL l') ∧ l'.Perm l ∧ (∀ m, t ≤ m → l'.getD m dl = l.getD m dl) ∧ HP t l' := by
      intro j hj hpj hij hpr hoth
      have hjl : j < l.length := by omega
      rw [swap_ok (i := i) (j := j) hil hjl]
      simp only [Option.bind_some]
      have A : ∀ m, 0 < m → m < t → (m - 1) / 2 ≠ j → ¬ pr ((sw l i j).getD m dl) ((sw l i j).getD ((m - 1) / 2) dl) := by
        intro m hm0 hmt hpm
        by_cases hmj : m = j
        · subst hmj; rw [sw_j hjl, hpj, sw_i hil (by omega)]; exact p_asymm hpr
        · by_cases hmi : m = i
          · subst hmi
            rw [sw_i hil (by omega), sw_m (by omega) (by omega)]
            exact h2 j (by omega) hj hpj hm0
          · rw [sw_m hmi hmj]
            by_cases hpi : (m - 1) / 2 = i
            · rw [hpi, sw_i hil (by omega)]
              exact hoth m hmt (by omega) hpi hmj
            · rw [sw_m hpi hpm]
              exact h1 m hm0 hmt hpi
      have B : ∀ m, 0 < m → m < t → (m - 1) / 2 = j → 0 < j → ¬ pr ((sw l i j).getD m dl) ((sw l i j).getD ((j - 1) / 2) dl) := by
        intro m hm0 hmt hpm hj0
        rw [hpj, sw_i hil (by omega), sw_m (by omega) (by omega)]
        have := h1 m hm0 hmt (by omega)
        rw [hpm] at this
        exact this
      obtain ⟨l', i', e, q1, q2, q3⟩ := ih j (sw l i j) (by rw [sw_len]; exact hl) hj (by omega) A B
      exact ⟨l', i', e, q1.trans (sw_perm hil hjl), fun m hm => (q2 m hm).trans (sw_m (by omega) (by omega)), q3⟩
    have stop : (∀ m, 0 < m → m < t → (m - 1) / 2 = i → ¬ pr (l.getD m dl) (l.getD i dl)) → HP t l := by
      intro h m hm0 hmt
      by_cases hpm : (m - 1) / 2 = i
      · rw [hpm]; exact h m hm0 hmt hpm
      · exact h1 m hm0 hmt hpm
    simp only [w, br_ite]
    by_cases hj1 : t ≤ 2 * i + 1
    · rw [if_pos (by omega)]
      exact ⟨l, _, rfl, .refl _, fun _ _ => rfl, stop (fun m a b d => by omega)⟩
    · rw [if_neg (by omega), if_neg (by omega), w2]
      by_cases hj2 : 2 * i + 2 < t
      · rw [if_pos (by omega), less_ok (by omega) (by omega : 2 * i + 1 < l.length)]
        simp only [Option.bind_some]
        by_cases hp21 : pr (l.getD (2 * i + 2) dl) (l.getD (2 * i + 1) dl)
        · rw [br_t (d_t hp21), less_ok (by omega) hil]
          simp only [Option.bind_some]
          by_cases hpr : pr (l.getD (2 * i + 2) dl) (l.getD i dl)
          · rw [br_f (nd_f hpr)]
            refine step _ hj2 (by omega) (by omega) hpr (fun m a b d e => ?_)
            have : m = 2 * i + 1 := by omega
            subst this; exact p_asymm hp21
          · rw [br_t (nd_t hpr)]
            refine ⟨l, _, rfl, .refl _, fun _ _ => rfl, stop (fun m a b d => ?_)⟩
            by_cases hm : m = 2 * i + 2
            · subst hm; exact hpr
            · have : m = 2 * i + 1 := by omega
              subst this; exact np_trans (p_asymm hp21) hpr
        · rw [br_f (d_f hp21), less_ok (by omega : 2 * i + 1 < l.length) hil]
          simp only [Option.bind_some]
          by_cases hpr : pr (l.getD (2 * i + 1) dl) (l.getD i dl)
          · rw [br_f (nd_f hpr)]
            refine step _ (by omega) (by omega) (by omega) hpr (fun m a b d e => ?_)
            have : m = 2 * i + 2 := by omega
            subst this; exact hp21
          · rw [br_t (nd_t hpr)]
            refine ⟨l, _, rfl, .refl _, fun _ _ => rfl, stop (fun m a b d => ?_)⟩
            by_cases hm : m = 2 * i + 1
            · subst hm; exact hpr
            · have : m = 2 * i + 2 := by omega
              subst this; exact np_trans hp21 hpr
      · rw [if_neg (by omega), less_ok (by omega : 2 * i + 1 < l.length) hil]
        simp only [Option.bind_some]
        by_cases hpr : pr (l.getD (2 * i + 1) dl) (l.getD i dl)
        · rw [br_f (nd_f hpr)]
          exact step _ (by omega) (by omega) (by omega) hpr (fun m a b d e => by omega)
        · rw [br_t (nd_t hpr)]
          refine ⟨l, _, rfl, .refl _, fun _ _ => rfl, stop (fun m a b d => ?_)⟩
          have : m = 2 * i + 1 := by omega
          subst this; exact hpr

/-- the root is a worst one -/
theorem HP.root {t : Nat} {l : List LS} (h : HP t l) : ∀ i, i < t → ¬ pr (l.getD i dl) (l.getD 0 dl) := by
  intro i
  induction i using Nat.strongRecOn with
  | _ i ih =>
    intro hi
    by_cases h0 : i = 0
    · subst h0; exact bt_irr _
    · exact np_trans (h i (by omega) hi) (ih _ (by omega) (by omega))

theorem push_ok {k : Nat} (hk : 1000 ≤ k) {l : List LS} (hl : l.length ≤ 900) (h : HP l.length l) (a : LS) :
    ∃ l', heap_Push k a.1 a.2 (PL l) = some (PL l') ∧ l'.Perm (a :: l) ∧ HP l'.length l' := by
  unfold heap_Push pitch_worse_Push pitch_worse_Len heap_up
  have hlen : (l ++ [a]).length = l.length + 1 := by simp
  obtain ⟨l', e, q1, q2⟩ := up_l0 k (t := l.length + 1) (by omega) k l.length (l ++ [a]) (by simp) (by omega) (by omega) (fun i h0 h1 h2 => by
      have e1 : (l ++ [a]).getD i dl = l.getD i dl := by simp [List.getD_eq_getElem?_getD, List.getElem?_append_left (show i < l.length by omega)]
      have e2 : (l ++ [a]).getD ((i - 1) / 2) dl = l.getD ((i - 1) / 2) dl := by simp [List.getD_eq_getElem?_getD, List.getElem?_append_left (show (i - 1) / 2 < l.length by omega)]
      rw [e1, e2]; exact h i h0 (by omega)) (fun i h0 h1 h2 h3 => by omega)
  have ep : PL l ++ [[a.1, a.2]] = PL (l ++ [a]) := by simp [PL, rwp]
  rw [ep, need_t (by simp; omega)]
  simp only [bind_s]
  rw [show IntKind.i64.wrap (((PL (l ++ [a])).length : Int) - 1) = (l.length : Int) by rw [wid (by simp only [List.length_map, List.length_append, List.length_cons, List.length_nil]; omega) (by simp only [List.length_map, List.length_append, List.length_cons, List.length_nil]; omega)]; simp, e]
  simp only [bind_s]
  refine ⟨l', rfl, q1.trans List.perm_append_comm, ?_⟩
  rw [q1.length_eq, hlen]; exact q2

theorem getD_last {l : List LS} (h : l ≠ []) : l.getD (l.length - 1) dl = l.getLast h := by
  rw [List.getLast_eq_getElem]
  have : l.length - 1 < l.length := by have := List.length_pos_iff.2 h; omega
  simp [List.getD_eq_getElem?_getD, this]

theorem pop_ok {k : Nat} (hk : 2000 ≤ k) {l : List LS} (h0 : 0 < l.length) (hl : l.length ≤ 900) (h : HP l.length l) :
    ∃ l' r, heap_Pop_2 k (PL l) = some (r.1, r.2, PL l') ∧ l.Perm (r :: l') ∧ HP l'.length l' ∧ ∀ x ∈ l', ¬ pr x r := by
  unfold heap_Pop_2 pitch_worse_Len heap_down
  simp only [bind_s]
  have e0 : IntKind.i64.wrap (((PL l).length : Int) - 1) = ((l.length - 1 : Nat) : Int) := by rw [wid (by simp; omega) (by simp; omega)]; simp; omega
  have hp0 : (0 : Nat) < l.length := h0
  have hn0 : l.length - 1 < l.length := by omega
  rw [e0, show (0 : Int) = ((0 : Nat) : Int) from rfl, swap_ok hp0 hn0]
  simp only [bind_s]
  -- what the down gives
  have main : ∃ l2 i', heap_down_l0 k k (((0 : Nat) : Int), ((l.length - 1 : Nat) : Int), ((0 : Nat) : Int), PL (sw l 0 (l.length - 1))) = some (((0 : Nat) : Int), i', PL l2) ∧ l2.Perm (sw l 0 (l.length - 1)) ∧
      (∀ m, l.length - 1 ≤ m → l2.getD m dl = (sw l 0 (l.length - 1)).getD m dl) ∧ HP (l.length - 1) l2 := by
    by_cases h1 : l.length = 1
    · refine ⟨sw l 0 (l.length - 1), ((0 : Nat) : Int), ?_, .refl _, fun _ _ => rfl, fun i a b => by omega⟩
      obtain ⟨k, rfl⟩ : ∃ m, k = m + 1 := ⟨k - 1, by omega⟩
      rw [show heap_down_l0 (k + 1) (k + 1) = heap_down_l0F (k + 1) (heap_down_l0 (k + 1) k) from rfl]
      unfold heap_down_l0F
      simp only
      rw [h1, br_y (by decide)]
    · refine down_l0 k _ (t := l.length - 1) (by omega) k 0 _ (by rw [sw_len]; omega) (by omega) (by omega) (fun m a b c => ?_) (fun m a b c d => by omega)
      rw [sw_m (by omega) (by omega), sw_m (by omega) (by omega)]
      exact h m a (by omega)
  obtain ⟨l2, i', e1, q1, q2, q3⟩ := main
  rw [e1]
  simp only [bind_s]
  have hl2 : l2.length = l.length := by rw [q1.length_eq, sw_len]
  have hne : l2 ≠ [] := List.length_pos_iff.1 (by omega)
  unfold pitch_worse_Pop_2
  have e2 : IntKind.i64.wrap (((PL l2).length : Int) - 1) = ((l2.length - 1 : Nat) : Int) := by rw [wid (by simp; omega) (by simp; omega)]; simp; omega
  simp only [e2]
  rw [need_t (by simp only [List.length_map]; omega), need_t (by simp only [List.length_map]; omega), Int.toNat_natCast, PL_get (by omega), show (((l2.length - 1 : Nat) : Int) - 0).toNat = l2.length - 1 by omega]
  simp only [bind_s, rwp, List.getD_cons_zero, List.getD_cons_succ]
  have er : l2.getD (l2.length - 1) dl = l.getD 0 dl := by rw [hl2, q2 _ (Nat.le_refl _), sw_j hn0]
  have hsplit : l2.take (l2.length - 1) ++ [l2.getD (l2.length - 1) dl] = l2 := by
    rw [getD_last hne, ← List.dropLast_eq_take]
    exact List.dropLast_concat_getLast hne
  have hperm : l.Perm (l.getD 0 dl :: l2.take (l2.length - 1)) := by
    rw [er] at hsplit
    have p1 : l.Perm l2 := (q1.trans (sw_perm hp0 hn0)).symm
    refine p1.trans ?_
    have := List.perm_append_comm (l₁ := l2.take (l2.length - 1)) (l₂ := [l.getD 0 dl])
    rw [hsplit] at this
    simpa using this
  refine ⟨l2.take (l2.length - 1), l.getD 0 dl, by rw [er]; simp [PL, List.map_take], hperm, ?_, ?_⟩
  · intro i a b
    have hb : i < l2.length - 1 := by simpa using b
    have g1 : (l2.take (l2.length - 1)).getD i dl = l2.getD i dl := by simp only [List.getD_eq_getElem?_getD, List.getElem?_take]; rw [if_pos hb]
    have g2 : (l2.take (l2.length - 1)).getD ((i - 1) / 2) dl = l2.getD ((i - 1) / 2) dl := by simp only [List.getD_eq_getElem?_getD, List.getElem?_take]; rw [if_pos (by omega)]
    rw [g1, g2]
    exact q3 i a (by omega)
  · intro x hx
    have hx' : x ∈ l := hperm.symm.subset (List.mem_cons_of_mem _ hx)
    obtain ⟨i, hi, rfl⟩ := List.mem_iff_getElem.1 hx'
    have := h.root i hi
    simpa [List.getD_eq_getElem?_getD, hi] using this
end Go.Proofs.Ytblaikeffnpagaa.Pure
