/- Plain laws of the Lean functions. Conditions: those of each statement. -/
import Derived.Test.YtdimjdlomgpbgaaH3
set_option linter.unusedVariables false
set_option linter.unusedSimpArgs false
namespace Go.Proofs.Ytdimjdlomgpbgaa.Pure
open Go Go.Ab

theorem sw_j (o : Nat → Nat) (i j : Nat) : sw o i j j = o i := by unfold sw; rw [if_pos rfl]
theorem sw_i (o : Nat → Nat) {i j : Nat} (h : i ≠ j) : sw o i j i = o j := by unfold sw; rw [if_neg h, if_pos rfl]
theorem sw_m (o : Nat → Nat) {i j m : Nat} (h1 : m ≠ i) (h2 : m ≠ j) : sw o i j m = o m := by unfold sw; rw [if_neg h2, if_neg h1]

/-- no child is prior to its parent -/
def HP (t : Nat) (W L B : Nat → Int) (o : Nat → Nat) : Prop := ∀ i, 0 < i → i < t → ¬ prior W L B (o i) (o ((i - 1) / 2))

theorem np_trans {W L B : Nat → Int} {x y z : Nat} (h1 : ¬ prior W L B x y) (h2 : ¬ prior W L B y z) : ¬ prior W L B x z := by
  unfold prior at *; omega
theorem p_asymm {W L B : Nat → Int} {x y : Nat} (h : prior W L B x y) : ¬ prior W L B y x := by
  unfold prior at *; omega
theorem p_np {W L B : Nat → Int} {x y z : Nat} (h1 : prior W L B y z) (h2 : ¬ prior W L B x z) : ¬ prior W L B x y := by
  unfold prior at *; omega

theorem up_l0 {t : Nat} {W L B : Nat → Int} (hb : Bd t W L B) : ∀ n j c o, j < t → j < n → Gd t W L B c o →
    (∀ i, 0 < i → i < t → i ≠ j → ¬ prior W L B (o i) (o ((i - 1) / 2))) →
    (∀ i, 0 < i → i < t → (i - 1) / 2 = j → 0 < j → ¬ prior W L B (o i) (o ((j - 1) / 2))) →
    ∃ c' o', heap_up_l0 100 n ((j : Int), c) = some c' ∧ Gd t W L B c' o' ∧ HP t W L B o' := by
  intro n
  induction n with
  | zero => intro j c o _ h; omega
  | succ n ih =>
    intro j c o hj hn hg h1 h2
    have hn40 := hb.n
    show ∃ c' o', (let t7 := IntKind.i64.wrap ((IntKind.i64.wrap ((j : Int) - 1)).tdiv 2); br (decide (t7 = (j : Int))) (some c) ((alloc_claims_Less (j : Int) t7 c).bind fun (t15, b0) => br (!t15) (some c) ((alloc_claims_Swap t7 (j : Int) c).bind fun b0_1 => heap_up_l0 100 n (t7, b0_1)))) = some c' ∧ _
    have w : IntKind.i64.wrap ((IntKind.i64.wrap ((j : Int) - 1)).tdiv 2) = (((j - 1) / 2 : Nat) : Int) := by
      rw [wid (x := (j : Int) - 1) (by omega) (by omega)]
      by_cases h0 : j = 0
      · subst h0; decide
      · rw [IntWalk.i64_quo _ _ ⟨by omega, by omega, by omega⟩]; omega
    simp only [w, br_ite]
    by_cases h0 : j = 0
    · subst h0
      rw [if_pos (by omega)]
      exact ⟨c, o, rfl, hg, fun i a b => h1 i a b (by omega)⟩
    · rw [if_neg (by omega), less_ok hb hg hj (by omega : (j - 1) / 2 < t)]
      simp only [Option.bind_some]
      generalize hp : (j - 1) / 2 = p at *
      by_cases hpr : prior W L B (o j) (o p)
      · rw [br_f (by simp [hpr])]
        obtain ⟨c', e, hg'⟩ := swap_ok hg (i := p) (j := j) (by omega) hj
        rw [e]
        simp only [Option.bind_some]
        refine ih p c' _ (by omega) (by omega) hg' ?_ ?_
        · intro i hi0 hit hip
          have hA := p_asymm hpr
          by_cases hij : i = j
          · subst hij
            rw [sw_j, hp, sw_i _ (by omega)]; exact hA
          · rw [sw_m _ hip hij]
            by_cases hpi : (i - 1) / 2 = p
            · rw [hpi, sw_i _ (by omega)]
              have := h1 i hi0 hit hij
              rw [hpi] at this
              exact p_np hpr this
            · by_cases hpj : (i - 1) / 2 = j
              · rw [hpj, sw_j]
                exact h2 i hi0 hit hpj (by omega)
              · rw [sw_m _ hpi hpj]
                exact h1 i hi0 hit hij
        · intro i hi0 hit hpi hp0
          have hpp : sw o p j ((p - 1) / 2) = o ((p - 1) / 2) := sw_m _ (by omega) (by omega)
          have hpn := h1 p hp0 (by omega) (by omega)
          rw [hpp]
          by_cases hij : i = j
          · subst hij; rw [sw_j]; exact hpn
          · rw [sw_m _ (by omega) hij]
            have := h1 i hi0 hit hij
            rw [hpi] at this
            exact np_trans this hpn
      · rw [br_t (by simp [hpr])]
        refine ⟨c, o, rfl, hg, fun i a b => ?_⟩
        by_cases hij : i = j
        · subst hij; rw [hp]; exact hpr
        · exact h1 i a b hij

theorem down_l0 {t : Nat} {W L B : Nat → Int} (hb : Bd t W L B) (i0 : Int) {i : Nat} {c : List (List Int)} {o : Nat → Nat} (hi : i < t) (hg : Gd t W L B c o)
    (h1 : ∀ m, 0 < m → m < t → (m - 1) / 2 ≠ i → ¬ prior W L B (o m) (o ((m - 1) / 2)))
    (h2 : ∀ m, 0 < m → m < t → (m - 1) / 2 = i → 0 < i → ¬ prior W L B (o m) (o ((i - 1) / 2))) :
    ∃ out, heap_down_l0 100 100 (i0, (t : Int), (i : Int), c) = some out ∧ ∃ c' o' i', out = (i0, i', c') ∧ Gd t W L B c' o' ∧ HP t W L B o' := by
  refine itN_ok (I := Int × Int × Int × List (List Int)) (O := Int × Int × List (List Int))
    (fun d => ∃ i c o, d = (i0, (t : Int), ((i : Nat) : Int), c) ∧ i < t ∧ Gd t W L B c o ∧
      (∀ m, 0 < m → m < t → (m - 1) / 2 ≠ i → ¬ prior W L B (o m) (o ((m - 1) / 2))) ∧
      (∀ m, 0 < m → m < t → (m - 1) / 2 = i → 0 < i → ¬ prior W L B (o m) (o ((i - 1) / 2))))
    (fun d => ((t : Int) - d.2.2.1).toNat) (fun _ out => ∃ c' o' i', out = (i0, i', c') ∧ Gd t W L B c' o' ∧ HP t W L B o') ?_ 100 _ ⟨i, c, o, rfl, hi, hg, h1, h2⟩ (by have := hb.n; simp only; omega)
  · clear hi hg h1 h2
    rintro rec _ ⟨i, c, o, rfl, hi, hg, h1, h2⟩ ih
    have hn40 := hb.n
    have w : IntKind.i64.wrap ((IntKind.i64.wrap (2 * (i : Int))) + 1) = ((2 * i + 1 : Nat) : Int) := by
      rw [wid (x := 2 * (i : Int)) (by omega) (by omega), wid (by omega) (by omega)]; omega
    have w2 : IntKind.i64.wrap (((2 * i + 1 : Nat) : Int) + 1) = ((2 * i + 2 : Nat) : Int) := by rw [wid (by omega) (by omega)]; omega
    -- one swap with the child j, the other child being no better
    have step : ∀ j, j < t → (j - 1) / 2 = i → i < j → prior W L B (o j) (o i) → (∀ m, m < t → i < m → (m - 1) / 2 = i → m ≠ j → ¬ prior W L B (o m) (o j)) →
        ∃ out, ((alloc_claims_Swap (i : Int) (j : Int) c).bind fun b0_2 => rec (i0, (t : Int), (j : Int), b0_2)) = some out ∧ ∃ c' o' i', out = (i0, i', c') ∧ Gd t W L B c' o' ∧ HP t W L B o' := by
      intro j hj hpj hij hpr hoth
      obtain ⟨c', e, hg'⟩ := swap_ok hg (i := i) (j := j) hi hj
      rw [e]
      simp only [Option.bind_some]
      refine ih _ ⟨j, c', _, rfl, hj, hg', ?_, ?_⟩ (by simp only; omega)
      · intro m hm0 hmt hpm
        by_cases hmj : m = j
        · subst hmj; rw [sw_j, hpj, sw_i _ (by omega)]; exact p_asymm hpr
        · by_cases hmi : m = i
          · subst hmi
            rw [sw_i _ (by omega), sw_m _ (by omega) (by omega)]
            exact h2 j (by omega) hj hpj hm0
          · rw [sw_m _ hmi hmj]
            by_cases hpi : (m - 1) / 2 = i
            · rw [hpi, sw_i _ (by omega)]
              exact hoth m hmt (by omega) hpi hmj
            · rw [sw_m _ hpi hpm]
              exact h1 m hm0 hmt hpi
      · intro m hm0 hmt hpm hj0
        rw [hpj, sw_i _ (by omega), sw_m _ (by omega) (by omega)]
        have := h1 m hm0 hmt (by omega)
        rw [hpm] at this
        exact this
    -- no child is prior: the heap stands
    have stop : (∀ m, 0 < m → m < t → (m - 1) / 2 = i → ¬ prior W L B (o m) (o i)) → HP t W L B o := by
      intro h m hm0 hmt
      by_cases hpm : (m - 1) / 2 = i
      · rw [hpm]; exact h m hm0 hmt hpm
      · exact h1 m hm0 hmt hpm
    simp only [w, br_ite]
    by_cases hj1 : t ≤ 2 * i + 1
    · rw [if_pos (by omega)]
      exact ⟨_, rfl, c, o, _, rfl, hg, stop (fun m a b d => by omega)⟩
    · rw [if_neg (by omega), if_neg (by omega), w2]
      by_cases hj2 : 2 * i + 2 < t
      · rw [if_pos (by omega), less_ok hb hg hj2 (by omega : 2 * i + 1 < t)]
        simp only [Option.bind_some]
        by_cases hp21 : prior W L B (o (2 * i + 2)) (o (2 * i + 1))
        · rw [br_t (by simp [hp21]), less_ok hb hg hj2 hi]
          simp only [Option.bind_some]
          by_cases hpr : prior W L B (o (2 * i + 2)) (o i)
          · rw [br_f (by simp [hpr])]
            refine step _ hj2 (by omega) (by omega) hpr (fun m a b d e => ?_)
            have : m = 2 * i + 1 := by omega
            subst this; exact p_asymm hp21
          · rw [br_t (by simp [hpr])]
            refine ⟨_, rfl, c, o, _, rfl, hg, stop (fun m a b d => ?_)⟩
            by_cases hm : m = 2 * i + 2
            · subst hm; exact hpr
            · have : m = 2 * i + 1 := by omega
              subst this; exact np_trans (p_asymm hp21) hpr
        · rw [br_f (by simp [hp21]), less_ok hb hg (by omega : 2 * i + 1 < t) hi]
          simp only [Option.bind_some]
          by_cases hpr : prior W L B (o (2 * i + 1)) (o i)
          · rw [br_f (by simp [hpr])]
            refine step _ (by omega) (by omega) (by omega) hpr (fun m a b d e => ?_)
            have : m = 2 * i + 2 := by omega
            subst this; exact hp21
          · rw [br_t (by simp [hpr])]
            refine ⟨_, rfl, c, o, _, rfl, hg, stop (fun m a b d => ?_)⟩
            by_cases hm : m = 2 * i + 1
            · subst hm; exact hpr
            · have : m = 2 * i + 2 := by omega
              subst this; exact np_trans hp21 hpr
      · rw [if_neg (by omega), less_ok hb hg (by omega : 2 * i + 1 < t) hi]
        simp only [Option.bind_some]
        by_cases hpr : prior W L B (o (2 * i + 1)) (o i)
        · rw [br_f (by simp [hpr])]
          exact step _ (by omega) (by omega) (by omega) hpr (fun m a b d e => by omega)
        · rw [br_t (by simp [hpr])]
          refine ⟨_, rfl, c, o, _, rfl, hg, stop (fun m a b d => ?_)⟩
          have : m = 2 * i + 1 := by omega
          subst this; exact hpr

theorem root_best {t : Nat} {W L B : Nat → Int} {o : Nat → Nat} (h : HP t W L B o) : ∀ n i, i ≤ n → i < t → ¬ prior W L B (o i) (o 0) := by
  intro n
  induction n with
  | zero => intro i hi _; have : i = 0 := by omega
            subst this; unfold prior; omega
  | succ n ih =>
    intro i hi hit
    by_cases h0 : i = 0
    · subst h0; unfold prior; omega
    · exact np_trans (h i (by omega) hit) (ih ((i - 1) / 2) (by omega) (by omega))
end Go.Proofs.Ytdimjdlomgpbgaa.Pure
