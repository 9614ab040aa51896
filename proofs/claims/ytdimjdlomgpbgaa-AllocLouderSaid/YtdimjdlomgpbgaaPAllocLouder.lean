/- The plain law AllocLouder over the Lean functions. Condition: the values are ones that Go can hold. -/
import Derived.Test.YtdimjdlomgpbgaaH9
set_option linter.unusedVariables false
set_option linter.unusedSimpArgs false
namespace Go.Proofs.Ytdimjdlomgpbgaa.Pure
open Go Go.Ab

theorem itB_ge (m : Nat) (W L : Nat → Int) : ∀ n B a, B a ≤ itB m W L n B a := by
  intro n
  induction n with
  | zero => intro B a; exact Int.le_refl _
  | succ n ih =>
    intro B a
    have := ih (upd B (am W L B m)) a
    have h : B a ≤ upd B (am W L B m) a := by unfold upd; split <;> omega
    unfold itB; omega

theorem lou_l0 {total width a : Int} {n : Nat} (hn : n ≤ 30) : ∃ o, madrigallaw18_AllocLouder_l0 100 100 (total, width, a, (n : Int), 0, [], []) = some o ∧ o = (total, (n : Int), List.replicate n width, List.replicate n a) := by
  refine itN_ok (I := Int × Int × Int × Int × Int × List Int × List Int) (O := Int × Int × List Int × List Int)
    (fun d => ∃ i : Nat, i ≤ n ∧ d = (total, width, a, (n : Int), (i : Int), List.replicate i width, List.replicate i a)) (fun d => ((n : Int) - d.2.2.2.2.1).toNat) (fun _ o => o = (total, (n : Int), List.replicate n width, List.replicate n a)) ?_ 100 (total, width, a, (n : Int), 0, [], []) ⟨0, by omega, rfl⟩ (by simp only; omega)
  rintro rec _ ⟨i, h, rfl⟩ ih
  simp only [br_ite]
  by_cases hi : (i : Int) < n
  · have w2 : IntKind.i64.wrap ((i : Int) + 1) = ((i + 1 : Nat) : Int) := by rw [wid (by omega) (by omega)]; omega
    rw [if_pos hi, need_t (by simp; omega), need_t (by simp; omega), w2, ← List.replicate_succ', ← List.replicate_succ']
    exact ih _ ⟨i + 1, by omega, rfl⟩ (by simp only; omega)
  · rw [if_neg hi]
    have : i = n := by omega
    subst this
    exact ⟨_, rfl, rfl⟩

theorem lou_l2 {total : Int} {n : Nat} (hn : n ≤ 30) (h1 : 1 ≤ n) (h0 : 0 ≤ total) (h2 : total ≤ 5000) {y : List Int} (hy : y.length = n) (hge : ∀ i, i < n → total / n ≤ y.getD i 0) :
    ∃ o, madrigallaw18_AllocLouder_l2 100 100 (total, (n : Int), 0, y) = some o ∧ o = .inl () := by
  refine itN_ok (I := Int × Int × Int × List Int) (O := Unit ⊕ Bool)
    (fun d => ∃ i : Nat, i ≤ n ∧ d = (total, (n : Int), (i : Int), y)) (fun d => ((n : Int) - d.2.2.1).toNat) (fun _ o => o = .inl ()) ?_ 100 (total, (n : Int), 0, y) ⟨0, by omega, rfl⟩ (by simp only; omega)
  rintro rec _ ⟨i, h, rfl⟩ ih
  simp only [br_ite, hy, Int.toNat_natCast]
  by_cases hi : (i : Int) < n
  · have w2 : IntKind.i64.wrap ((i : Int) + 1) = ((i + 1 : Nat) : Int) := by rw [wid (by omega) (by omega)]; omega
    have hg := hge i (by omega)
    rw [if_pos hi, need_t (by omega), need_t (by omega), IntWalk.i64_quo _ _ ⟨h0, by omega, by omega⟩, if_neg (by omega), w2]
    exact ih _ ⟨i + 1, by omega, rfl⟩ (by simp only; omega)
  · rw [if_neg hi]
    exact ⟨_, rfl, rfl⟩

theorem S_const (k : Int) : ∀ n : Nat, S (fun _ => k) n = n * k := by
  intro n
  induction n with
  | zero => simp [S]
  | succ n ih => rw [S_succ, ih]; have : ((n + 1 : Nat) : Int) = n + 1 := by omega
                 rw [this, Int.add_mul]; omega
theorem S_congr {f g : Nat → Int} : ∀ n, (∀ a, a < n → f a = g a) → S f n = S g n := by
  intro n
  induction n with
  | zero => intro _; rfl
  | succ n ih => intro h; rw [S_succ, S_succ, ih (fun a ha => h a (by omega)), h n (by omega)]

theorem AllocLouder : ∀ (total : Int) (width : Int) (a : Int) (b : Int) (n : Int), (Lit.int .i64 total).wf = true → (Lit.int .i64 width).wf = true → (Lit.int .i64 a).wf = true → (Lit.int .i64 b).wf = true → (Lit.int .i64 n).wf = true → ∃ k, madrigallaw18_AllocLouder k total width a b n = some true := by
  intro total width a b n _ _ _ _ _
  refine ⟨100, ?_⟩
  unfold madrigallaw18_AllocLouder
  rw [awake_ok]
  simp only [Option.bind_some, br_ite]
  rw [br_f (b := !true) rfl]
  by_cases h1 : total < 0
  · rw [if_pos h1]
  rw [if_neg h1]
  by_cases h2 : 5000 < total
  · rw [if_pos h2]
  rw [if_neg h2]
  by_cases h3 : width < 1
  · rw [if_pos h3]
  rw [if_neg h3]
  by_cases h4 : 1000 < width
  · rw [if_pos h4]
  rw [if_neg h4]
  by_cases h5 : a < b
  · rw [if_pos h5]
  rw [if_neg h5]
  by_cases h6 : b < 0
  · rw [if_pos h6]
  rw [if_neg h6]
  by_cases h7 : 1000 < a
  · rw [if_pos h7]
  rw [if_neg h7]
  by_cases h8 : n < 1
  · rw [if_pos h8]
  rw [if_neg h8]
  by_cases h9 : 30 < n
  · rw [if_pos h9]
  rw [if_neg h9]
  have ok2 : ∀ i, i < [width, width].length → okAt [width, width] [a, b] i := by
    intro i hi
    match i, hi with
    | 0, _ => exact ⟨by simp; omega, by simp; omega, by simp; omega, by simp; omega⟩
    | 1, _ => exact ⟨by simp; omega, by simp; omega, by simp; omega, by simp; omega⟩
    | i + 2, h => simp at h; omega
  rw [share_ok (ws := [width, width]) (ls := [a, b]) (by simp) (by simp) (by omega) (by omega) ok2]
  have hS : S (gf [width, width]) 2 = 2 * width := by simp [S, gf]; omega
  have hB0 : ∀ i, i < 2 → B0 total (2 * width) (gf [width, width]) i = total / 2 := by
    intro i hi
    have : gf [width, width] i = width := by
      match i, hi with
      | 0, _ => rfl
      | 1, _ => rfl
    unfold B0
    rw [this]
    exact Int.mul_ediv_mul_of_pos_left total 2 (by omega)
  have hSB : S (B0 total (2 * width) (gf [width, width])) 2 = total / 2 + total / 2 := by rw [S_succ, S_succ, hB0 0 (by omega), hB0 1 (by omega)]; simp [S]
  have hfin : fin total [width, width] [a, b] 0 = total / 2 + total % 2 ∧ fin total [width, width] [a, b] 1 = total / 2 := by
    have hl2 : [width, width].length = 2 := rfl
    unfold fin
    rw [hl2, hS, hSB]
    by_cases hp : total % 2 = 0
    · have : (total - (total / 2 + total / 2)).toNat = 0 := by omega
      rw [this]
      simp only [itB]
      rw [hB0 0 (by omega), hB0 1 (by omega)]; omega
    · have : (total - (total / 2 + total / 2)).toNat = 1 := by omega
      rw [this]
      simp only [itB]
      have ham : am (gf [width, width]) (gf [a, b]) (B0 total (2 * width) (gf [width, width])) 2 = 0 := by
        have g0 : gf [width, width] 0 = width := rfl
        have g1 : gf [width, width] 1 = width := rfl
        have l0 : gf [a, b] 0 = a := rfl
        have l1 : gf [a, b] 1 = b := rfl
        have e1 : am (gf [width, width]) (gf [a, b]) (B0 total (2 * width) (gf [width, width])) 1 = 0 := by
          unfold am; split <;> rfl
        have e2 : am (gf [width, width]) (gf [a, b]) (B0 total (2 * width) (gf [width, width])) 2 = if clm (gf [width, width]) (gf [a, b]) (B0 total (2 * width) (gf [width, width])) (am (gf [width, width]) (gf [a, b]) (B0 total (2 * width) (gf [width, width])) 1) < clm (gf [width, width]) (gf [a, b]) (B0 total (2 * width) (gf [width, width])) 1 then 1 else am (gf [width, width]) (gf [a, b]) (B0 total (2 * width) (gf [width, width])) 1 := rfl
        have hc : ¬ clm (gf [width, width]) (gf [a, b]) (B0 total (2 * width) (gf [width, width])) 0 < clm (gf [width, width]) (gf [a, b]) (B0 total (2 * width) (gf [width, width])) 1 := by
          unfold clm
          rw [hB0 0 (by omega), hB0 1 (by omega), g0, g1, l0, l1]
          omega
        rw [e2, e1, if_neg hc]
      rw [ham]
      unfold upd
      rw [if_pos rfl, if_neg (by omega), hB0 0 (by omega), hB0 1 (by omega)]
      omega
  have hr : (List.range 2).map (fin total [width, width] [a, b]) = [total / 2 + total % 2, total / 2] := by
    have : List.range 2 = [0, 1] := rfl
    rw [this]; simp [hfin.1, hfin.2]
  have hl2 : [width, width].length = 2 := rfl
  rw [hl2, hr]
  simp only [Option.bind_some, List.length_cons, List.length_nil, List.getD_cons_zero, List.getD_cons_succ]
  rw [br_f (by simp), br_f (by simp), need_t (by omega), need_t (by omega), if_neg (by omega), need_t (by omega), need_t (by omega), wid (by omega) (by omega), if_neg (by omega)]
  obtain ⟨m, rfl⟩ := Int.eq_ofNat_of_zero_le (by omega : 0 ≤ n)
  obtain ⟨o, e, rfl⟩ := lou_l0 (total := total) (width := width) (a := a) (n := m) (by omega)
  rw [e]
  simp only [Option.bind_some]
  have hlw : (List.replicate m width).length = m := by simp
  have okm : ∀ i, i < (List.replicate m width).length → okAt (List.replicate m width) (List.replicate m a) i := by
    intro i hi
    rw [hlw] at hi
    have e1 : (List.replicate m width).getD i 0 = width := by simp [List.getD, hi]
    have e2 : (List.replicate m a).getD i 0 = a := by simp [List.getD, hi]
    unfold okAt
    rw [e1, e2]; omega
  rw [share_ok (ws := List.replicate m width) (ls := List.replicate m a) (by simp; omega) (by simp) (by omega) (by omega) okm, hlw]
  simp only [Option.bind_some]
  have hly : ((List.range m).map (fin total (List.replicate m width) (List.replicate m a))).length = m := by simp
  rw [br_f (by simp), br_f (by simp)]
  have hSm : S (gf (List.replicate m width)) m = m * width := by
    rw [← S_const]
    apply S_congr
    intro i hi
    simp [gf, List.getD, hi]
  obtain ⟨o, e, rfl⟩ := lou_l2 (total := total) (n := m) (by omega) (by omega) (by omega) (by omega) hly (fun i hi => by
    have e1 : ((List.range m).map (fin total (List.replicate m width) (List.replicate m a))).getD i 0 = fin total (List.replicate m width) (List.replicate m a) i := by simp [List.getD, hi]
    have e2 : gf (List.replicate m width) i = width := by simp [gf, List.getD, hi]
    have h := itB_ge m (gf (List.replicate m width)) (gf (List.replicate m a)) (total - S (B0 total (m * width) (gf (List.replicate m width))) m).toNat (B0 total (m * width) (gf (List.replicate m width))) i
    have e3 : B0 total (m * width) (gf (List.replicate m width)) i = total / m := by
      unfold B0
      rw [e2]
      exact Int.mul_ediv_mul_of_pos_left total m (by omega)
    rw [e3] at h
    rw [e1]
    unfold fin
    rw [hlw, hSm]
    exact h)
  rw [e]
  rfl
end Go.Proofs.Ytdimjdlomgpbgaa.Pure
