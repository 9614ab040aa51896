/- Plain laws of the Lean functions. Conditions: those of each statement. -/
import Derived.Test.YtdimjdlomgpbgaaH4
set_option linter.unusedVariables false
set_option linter.unusedSimpArgs false
namespace Go.Proofs.Ytdimjdlomgpbgaa.Pure
open Go Go.Ab

theorem push_ok {t : Nat} {W L B : Nat → Int} (hb : Bd (t + 1) W L B) {c : List (List Int)} {o : Nat → Nat} (hg : Gd t W L B c o) (hh : HP t W L B o) :
    ∃ c' o', heap_Push 100 (t : Int) (W t) (L t) (B t) c = some c' ∧ Gd (t + 1) W L B c' o' ∧ HP (t + 1) W L B o' := by
  have hn := hb.n
  have hl := hg.len
  have hg1 : Gd (t + 1) W L B (c ++ [cm W L B t]) (fun i => if i = t then t else o i) := by
    refine ⟨by simp [hl], ?_, ?_, ?_, ?_⟩
    · intro i hi
      by_cases h : i = t
      · simp [h]
      · simp only [if_neg h]; have := hg.lt i (by omega); omega
    · intro i j hi hj he
      replace he : (if i = t then t else o i) = (if j = t then t else o j) := he
      by_cases h : i = t <;> by_cases h2 : j = t
      · omega
      · rw [if_pos h, if_neg h2] at he
        have := hg.lt j (by omega); omega
      · rw [if_neg h, if_pos h2] at he
        have := hg.lt i (by omega); omega
      · rw [if_neg h, if_neg h2] at he
        exact hg.inj i j (by omega) (by omega) he
    · intro a ha
      by_cases h : a = t
      · exact ⟨t, by omega, by simp [h]⟩
      · obtain ⟨i, hi, e⟩ := hg.sur a (by omega)
        exact ⟨i, by omega, by simp only [if_neg (by omega : i ≠ t)]; exact e⟩
    · intro i hi
      by_cases h : i = t
      · subst h; simp [List.getD, hl, List.getElem?_append]
      · have := hg.get i (by omega)
        simp only [if_neg h]
        rw [← this]
        simp [List.getD, List.getElem?_append, (by omega : i < c.length)]
  have hup := up_l0 hb 100 t (c ++ [cm W L B t]) _ (by omega) (by omega) hg1 (fun i a b d => by
      have := hh i a (by omega)
      rw [if_neg d, if_neg (by omega)]; exact this) (fun i a b d e => by omega)
  obtain ⟨c', o', e, hg', hh'⟩ := hup
  refine ⟨c', o', ?_, hg', hh'⟩
  unfold heap_Push alloc_claims_Push alloc_claims_Len heap_up
  have w : IntKind.i64.wrap ((((c ++ [cm W L B t]).length : Nat) : Int) - 1) = (t : Int) := by
    rw [wid (by simp only [List.length_append, hl, List.length_cons, List.length_nil]; omega) (by simp only [List.length_append, hl, List.length_cons, List.length_nil]; omega)]
    simp only [List.length_append, hl, List.length_cons, List.length_nil]; omega
  have ec : cm W L B t = [(t : Int), W t, L t, B t] := rfl
  rw [← ec, need_t (by simp [hl]; omega)]
  simp only [Option.bind_some, w, e]

theorem up_zero (c : List (List Int)) : heap_up_l0 100 100 (0, c) = some c := rfl

/-- the heap behind one more bit for its best claim -/
theorem fix_ok {t : Nat} {W L B : Nat → Int} (hb : Bd t W L B) (ht : 0 < t) {c : List (List Int)} {o : Nat → Nat} (hg : Gd t W L B c o)
    (h1 : ∀ m, 0 < m → m < t → (m - 1) / 2 ≠ 0 → ¬ prior W L B (o m) (o ((m - 1) / 2))) :
    ∃ c' o', heap_Fix 100 0 c = some c' ∧ Gd t W L B c' o' ∧ HP t W L B o' := by
  obtain ⟨out, e, c', o', i', rfl, hg', hh'⟩ := down_l0 hb 0 ht hg h1 (fun m a b d e => by omega)
  refine ⟨c', o', ?_, hg', hh'⟩
  have hn := hb.n
  unfold heap_Fix alloc_claims_Len heap_down
  have e' : heap_down_l0 100 100 (0, (((c.length : Nat)) : Int), 0, c) = some (0, i', c') := by rw [hg.len]; exact e
  simp only [Option.bind_some, e']
  by_cases h : (0 : Int) < i'
  · rw [br_f (by simp [h])]
  · rw [br_t (by simp [h])]
    unfold heap_up
    rw [up_zero]; rfl

end Go.Proofs.Ytdimjdlomgpbgaa.Pure
