/- Plain laws of the Lean functions. Conditions: those of each statement. -/
import Derived.Test.YtdimjdlomgpbgaaH2
set_option linter.unusedVariables false
set_option linter.unusedSimpArgs false
namespace Go.Proofs.Ytdimjdlomgpbgaa.Pure
open Go Go.Ab

/-! the heap of claims -/
structure Bd (t : Nat) (W L B : Nat → Int) : Prop where
  n : t ≤ 40
  w1 : ∀ a, a < t → 1 ≤ W a
  w2 : ∀ a, a < t → W a ≤ 1000
  l1 : ∀ a, a < t → 0 ≤ L a
  l2 : ∀ a, a < t → L a ≤ 1000
  b1 : ∀ a, a < t → 0 ≤ B a
  b2 : ∀ a, a < t → B a ≤ 1048676

def clm (W L B : Nat → Int) (a : Nat) : Int := 16 * L a - 64 * B a / W a
def cm (W L B : Nat → Int) (a : Nat) : List Int := [(a : Int), W a, L a, B a]
/-- the first has the better claim -/
def prior (W L B : Nat → Int) (x y : Nat) : Prop := clm W L B y < clm W L B x ∨ (clm W L B x = clm W L B y ∧ x < y)

/-- the heap's list holds the claims of the first t bands, in the order of o -/
structure Gd (t : Nat) (W L B : Nat → Int) (c : List (List Int)) (o : Nat → Nat) : Prop where
  len : c.length = t
  lt : ∀ i, i < t → o i < t
  inj : ∀ i j, i < t → j < t → o i = o j → i = j
  sur : ∀ a, a < t → ∃ i, i < t ∧ o i = a
  get : ∀ i, i < t → c.getD i [] = cm W L B (o i)

theorem div_ok {d b : Int} (hd : 0 ≤ d) (hd2 : d ≤ 1048676) (hb : 1 ≤ b) (hb2 : b ≤ 1000) : fix_Div (IntKind.i64.wrap (64 * d)) b 0 = some (64 * d / b) := by
  have q0 := Int.ediv_nonneg (by omega : 0 ≤ 64 * d) (by omega : 0 ≤ b)
  have q1 := Int.ediv_le_self b (by omega : 0 ≤ 64 * d)
  have fa : fix_factor (64 * d) = some (64 * d) := by
    unfold fix_factor fix_Clamp
    simp only [br_ite]
    rw [if_neg (by omega), if_neg (by omega), if_neg (by omega)]; rfl
  have fb : fix_factor b = some b := by
    unfold fix_factor fix_Clamp
    simp only [br_ite]
    rw [if_neg (by omega), if_neg (by omega), if_neg (by omega)]; rfl
  have p1 : (64 * d) * 2 ^ (min ((0 : Int).toNat) 64) = 64 * d := by simp
  rw [wid (by omega) (by omega)]
  unfold fix_Div
  rw [fa, fb]
  simp only [Option.bind_some, p1, br_ite]
  rw [if_neg (by omega), if_neg (by omega), if_neg (by omega), need_t (by omega), need_t (by omega), need_t (by omega), wid (x := 64 * d) (by omega) (by omega), IntWalk.i64_quo _ _ ⟨by omega, by omega, hb⟩]
  have e1 : decide (64 * d < 0) = false := by simp; omega
  have e2 : decide (b < 0) = false := by simp; omega
  rw [e1, e2]
  simp [br]
  split <;> rfl

theorem claim_ok {t : Nat} {W L B : Nat → Int} (hb : Bd t W L B) {a : Nat} (ha : a < t) : alloc_band_claim (a : Int) (W a) (L a) (B a) = some (clm W L B a) := by
  have q0 := Int.ediv_nonneg (a := 64 * B a) (b := W a) (by have := hb.b1 a ha; omega) (by have := hb.w1 a ha; omega)
  have q1 := Int.ediv_le_self (W a) (a := 64 * B a) (by have := hb.b1 a ha; omega)
  have := hb.b2 a ha
  have := hb.l1 a ha
  have := hb.l2 a ha
  unfold alloc_band_claim clm
  rw [div_ok (hb.b1 a ha) (hb.b2 a ha) (hb.w1 a ha) (hb.w2 a ha)]
  simp only [Option.bind_some]
  rw [wid (x := 16 * L a) (by omega) (by omega), wid (by omega) (by omega)]

instance (W L B : Nat → Int) (x y : Nat) : Decidable (prior W L B x y) := by unfold prior; infer_instance

theorem less_ok {t : Nat} {W L B : Nat → Int} (hb : Bd t W L B) {c : List (List Int)} {o : Nat → Nat} (h : Gd t W L B c o) {i j : Nat} (hi : i < t) (hj : j < t) :
    alloc_claims_Less (i : Int) (j : Int) c = some (decide (prior W L B (o i) (o j)), c) := by
  unfold alloc_claims_Less
  have hl := h.len
  simp only [Int.toNat_natCast, h.get i hi, h.get j hj]
  rw [need_t (by omega)]
  have a1 := claim_ok hb (h.lt i hi)
  have a2 := claim_ok hb (h.lt j hj)
  simp only [cm, List.getD_cons_zero, List.getD_cons_succ, a1, a2, Option.bind_some, br_ite]
  rw [need_t (by omega)]
  unfold prior
  by_cases h1 : clm W L B (o j) < clm W L B (o i)
  · rw [if_pos h1]; simp [h1]
  · rw [if_neg h1]
    by_cases h2 : clm W L B (o i) = clm W L B (o j)
    · rw [if_pos h2, need_t (by omega), need_t (by omega)]; simp [h2]
    · rw [if_neg h2]; simp [h1, h2]

def sw (o : Nat → Nat) (i j : Nat) : Nat → Nat := fun m => if m = j then o i else if m = i then o j else o m

theorem swap_ok {t : Nat} {W L B : Nat → Int} {c : List (List Int)} {o : Nat → Nat} (h : Gd t W L B c o) {i j : Nat} (hi : i < t) (hj : j < t) :
    ∃ c', alloc_claims_Swap (i : Int) (j : Int) c = some c' ∧ Gd t W L B c' (sw o i j) := by
  have hl := h.len
  refine ⟨(c.set i (cm W L B (o j))).set j (cm W L B (o i)), ?_, ?_⟩
  · unfold alloc_claims_Swap
    simp only [Int.toNat_natCast, h.get i hi, h.get j hj, cm, List.getD_cons_zero, List.getD_cons_succ, List.length_set]
    rw [need_t (by omega), need_t (by omega), need_t (by omega), need_t (by omega)]
  · refine ⟨by simp [hl], ?_, ?_, ?_, ?_⟩
    · intro m hm; unfold sw; split
      · exact h.lt i hi
      · split
        · exact h.lt j hj
        · exact h.lt m hm
    · intro m n hm hn he
      have x1 := h.inj m n hm hn
      have x2 := h.inj i n hi hn
      have x3 := h.inj j n hj hn
      have x4 := h.inj m i hm hi
      have x5 := h.inj m j hm hj
      have x6 := h.inj i j hi hj
      unfold sw at he
      by_cases a : m = j <;> by_cases b : m = i <;> by_cases d : n = j <;> by_cases e : n = i <;> simp only [a, b, d, e, if_true, if_false] at he x1 x2 x3 x4 x5 x6 ⊢ <;> first | omega | grind
    · intro a ha
      obtain ⟨m, hm, rfl⟩ := h.sur a ha
      by_cases h1 : m = i
      · refine ⟨j, hj, ?_⟩; unfold sw; rw [if_pos rfl, h1]
      · by_cases h2 : m = j
        · refine ⟨i, hi, ?_⟩; unfold sw
          by_cases h3 : i = j
          · rw [if_pos h3, h2, h3]
          · rw [if_neg h3, if_pos rfl, h2]
        · refine ⟨m, hm, ?_⟩; unfold sw; rw [if_neg h2, if_neg h1]
    · intro m hm
      have g := h.get m hm
      have e0 : ∀ (l : List (List Int)) (k : Nat), l.getD k [] = (l[k]?).getD [] := fun l k => rfl
      rw [e0] at g ⊢
      simp only [List.getElem?_set, List.length_set, hl]
      unfold sw
      by_cases h1 : m = j
      · subst h1; simp [hm]
      · rw [if_neg (fun e => h1 e.symm), if_neg h1]
        by_cases h2 : m = i
        · subst h2; simp [hm]
        · rw [if_neg (fun e => h2 e.symm), if_neg h2]; exact g
end Go.Proofs.Ytdimjdlomgpbgaa.Pure
