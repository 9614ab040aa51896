/- Totality of the transform's functions. Conditions: those of each statement. -/
import Derived.Test.YtnhbohcjmdfmiaaGreatMF
import Derived.Test.YtnhbohcjmdfmiaaGreatBb6
set_option linter.unusedVariables false
set_option linter.unusedSimpArgs false
namespace Go.Proofs.YtnhbohcjmdfmiaaGreat
open Go Go.Ab Go.Proofs

theorem clamp_ok (a lo hi : Int) : Ok (fix_Clamp a lo hi) fun _ => True := ⟨_, clamp_eq a lo hi, trivial⟩
theorem mul_ok (a b s : Int) : Ok (fix_Mul a b s) fun _ => True := ⟨_, mul_eq a b s, trivial⟩
theorem sat_ok (a : Int) : Ok (fix_Sat16 a) fun _ => True := ⟨_, sat_eq a, trivial⟩
theorem series_ok (k : Nat) (hk : 5000 ≤ k) (z : Int) (l : List Int) (h1 : 1 ≤ l.length) (h2 : l.length ≤ 10) : Ok (fix_series k z l) fun _ => True := by
  unfold fix_series
  refine ok_need ⟨by omega, by omega⟩ (ok_need ⟨by omega, by omega⟩ (ok_bind (R := fun _ => True) ?_ fun r _ => ok_some trivial))
  refine ok_it (Q := fun _ => True) (fun m d => d.2.2.2.1 = l.length - 1 ∧ d.2.2.2.2.1 = ((l.length - 1 : Nat) : Int) ∧ 0 ≤ d.2.2.2.2.2.1 ∧ d.2.2.2.2.2.1 + m = ((l.length - 1 : Nat) : Int)) ?_ k (l.length - 1) _ ⟨by simp only; omega, by simp only; omega, by simp only; omega, by simp only; omega⟩ (by omega)
  rintro m ⟨z, s, o, n, t13, t14, t12⟩ rec ⟨e1, e2, e3, e4⟩ ih
  simp only at e1 e2 e3 e4
  unfold fix_series_l0F
  refine ok_brd (fun h => ok_need ⟨by omega, by omega⟩ (ok_bind (mul_ok _ _ _) fun r _ => ih (m - 1) _ (by omega) ⟨by simp only; omega, by simp only; omega, ?_, ?_⟩)) fun _ => ok_some trivial
  · simp only; rw [wr (by omega) (by omega)]; omega
  · simp only; rw [wr (by omega) (by omega)]; omega
theorem cos7_ok (k : Nat) (hk : 5000 ≤ k) (a : Int) (t : Bool) : Ok (fix_Cos_c7 k (a, t)) fun _ => True := by
  unfold fix_Cos_c7
  refine ok_brd (fun _ => ok_bind (mul_ok _ _ _) fun _ _ => ok_bind (mul_ok _ _ _) fun _ _ => ok_bind (series_ok k hk _ _ (by decide) (by decide)) fun _ _ => ok_bind (mul_ok _ _ _) fun _ _ => ok_br (fun _ => ok_some trivial) fun _ => ok_some trivial) fun _ =>
    ok_bind (mul_ok _ _ _) fun _ _ => ok_bind (mul_ok _ _ _) fun _ _ => ok_bind (series_ok k hk _ _ (by decide) (by decide)) fun _ _ => ok_bind (mul_ok _ _ _) fun _ _ => ok_bind (mul_ok _ _ _) fun _ _ => ok_br (fun _ => ok_some trivial) fun _ => ok_some trivial
theorem cos4_ok (k : Nat) (hk : 5000 ≤ k) (a : Int) : Ok (fix_Cos_c4 k a) fun _ => True := by
  unfold fix_Cos_c4
  exact ok_brd (fun _ => ok_bind (cos7_ok k hk _ _) fun _ _ => ok_some trivial) fun _ => ok_bind (cos7_ok k hk _ _) fun _ _ => ok_some trivial
theorem cos_ok (k : Nat) (hk : 5000 ≤ k) (a : Int) : Ok (fix_Cos k a) fun _ => True := by
  unfold fix_Cos
  exact ok_brd (fun _ => ok_bind (cos4_ok k hk _) fun _ _ => ok_some trivial) fun _ => ok_bind (cos4_ok k hk _) fun _ _ => ok_some trivial
theorem sin_ok (k : Nat) (hk : 5000 ≤ k) (a : Int) : Ok (fix_Sin k a) fun _ => True := by
  unfold fix_Sin
  exact ok_bind (cos_ok k hk _) fun _ _ => ok_some trivial
theorem window_ok (k : Nat) (hk : 5000 ≤ k) (l : Nat) (h1 : 1 ≤ l) (h2 : l ≤ 480) : Ok (tabs_Window k l) fun r => ∃ w, r = .inr w ∧ w.length = l := by
  unfold tabs_Window
  refine ok_brd (fun h => by omega) fun _ => ok_brd (fun h => by omega) fun _ => ok_need ⟨by omega, rfl, by omega, by omega⟩ ?_
  rw [Int.toNat_natCast]
  refine ok_bind (R := fun w => w.length = l) ?_ fun w hw => ok_some ⟨w, rfl, hw⟩
  refine ok_it (fun m d => d.1 = (l : Int) ∧ d.2.1 = (l : Int) ∧ 0 ≤ d.2.2.1 ∧ d.2.2.1 + m = (l : Int) ∧ d.2.2.2.length = l) ?_ k l _ ⟨by simp only, by simp only [List.length_replicate], by simp only; omega, by simp only; omega, by simp only [List.length_replicate]⟩ (by omega)
  rintro m ⟨l', t15, t16, out⟩ rec ⟨e1, e2, e3, e4, e5⟩ ih
  simp only at e1 e2 e3 e4 e5
  unfold tabs_Window_l0F
  refine ok_brd (fun h => ok_need (by omega) (ok_bind (sin_ok k hk _) fun _ _ => ok_bind (mul_ok _ _ _) fun _ _ => ok_bind (sin_ok k hk _) fun _ _ => ok_need ⟨by omega, by omega⟩ (ih (m - 1) _ (by omega) ⟨e1, e2, ?_, ?_, by simp only [List.length_set]; exact e5⟩))) fun _ => ok_some e5
  · simp only; rw [wr (by omega) (by omega)]; omega
  · simp only; rw [wr (by omega) (by omega)]; omega
theorem good_mdct (n l : Nat) (h : 4 ≤ n ∧ n ≤ 480 ∧ 2 ≤ l ∧ l ≤ n ∧ (n - l) % 2 = 0) : mdct_Good n l = some true := by
  unfold mdct_Good
  have e : IntKind.i64.wrap ((n : Int) - l) = ((n - l : Nat) : Int) := by rw [wr (by omega) (by omega)]; omega
  rw [decide_eq_true (by omega), decide_eq_true (by omega), decide_eq_true (by omega), decide_eq_true (by omega), e]
  show some _ = some true
  congr 1
  rw [decide_eq_true_iff]
  rw [Int.tmod_eq_emod_of_nonneg (by omega)]
  omega
theorem shape_ok (k : Nat) (hk : 5000 ≤ k) (n l : Nat) (h : 4 ≤ n ∧ n ≤ 480 ∧ 2 ≤ l ∧ l ≤ n ∧ (n - l) % 2 = 0) : Ok (mdct_Shape k n l) fun r => r.length = 2 * n := by
  unfold mdct_Shape
  rw [good_mdct n l h]
  have e2 : IntKind.i64.wrap (2 * (n : Int)) = ((2 * n : Nat) : Int) := by rw [wr (by omega) (by omega)]; omega
  show Ok (need _ _) _
  simp only [e2, Int.toNat_natCast]
  refine ok_need ⟨by omega, trivial, by omega, by omega⟩ (ok_bind (window_ok k hk l (by omega) (by omega)) ?_)
  rintro r ⟨w, rfl, hw⟩
  simp only
  refine ok_bind (R := fun r => r.length = 2 * n) ?_ fun r hr => ok_some hr
  unfold mdct_Shape_c5
  have e3 : IntKind.i64.wrap ((IntKind.i64.wrap ((n : Int) - l)).tdiv 2) = (((n - l) / 2 : Nat) : Int) := by
    rw [show IntKind.i64.wrap ((n : Int) - l) = ((n - l : Nat) : Int) by rw [wr (by omega) (by omega)]; omega, Int.tdiv_eq_ediv_of_nonneg (by omega), wr (by omega) (by omega)]
    omega
  simp only [e3]
  have hfrom : (n - l) / 2 + (n - l) / 2 + l = n := by omega
  generalize (n - l) / 2 = fr at hfrom ⊢
  refine ok_bind (R := fun r => r.length = 2 * n) ?_ fun b hb => ok_bind (R := fun r => r.length = 2 * n) ?_ fun r hr => ok_some hr
  · refine ok_it (fun m d => d.1 = (n : Int) ∧ d.2.1 = (fr : Int) ∧ d.2.2.1 = (l : Int) ∧ 0 ≤ d.2.2.2.1 ∧ d.2.2.2.1 + m = (l : Int) ∧ d.2.2.2.2.1.length = 2 * n ∧ d.2.2.2.2.2.length = l) ?_ k l _ ⟨rfl, rfl, by simp only [hw], by simp only; omega, by simp only; omega, by simp only [List.length_replicate], hw⟩ (by omega)
    rintro m ⟨n', fr', t26, t27, out, t25⟩ rec ⟨e1, e4, e5, e6, e7, e8, e9⟩ ih
    simp only at e1 e4 e5 e6 e7 e8 e9
    subst e1 e4 e5
    unfold mdct_Shape_l0v1F
    refine ok_brd (fun hlt => ?_) fun _ => ok_some e8
    have w1 : IntKind.i64.wrap ((fr : Int) + t27) = fr + t27 := wr (by omega) (by omega)
    have w2 : IntKind.i64.wrap (IntKind.i64.wrap (IntKind.i64.wrap (((2 * n : Nat) : Int) - 1) - fr) - t27) = 2 * n - 1 - fr - t27 := by
      rw [wr (x := ((2 * n : Nat) : Int) - 1) (by omega) (by omega), wr (x := ((2 * n : Nat) : Int) - 1 - fr) (by omega) (by omega), wr (by omega) (by omega)]; omega
    simp only [w1, e2, w2, List.length_set]
    refine ok_need ⟨by omega, by omega⟩ (ok_need ⟨by omega, by omega⟩ (ok_need ⟨by omega, by omega⟩ (ih (m - 1) _ (by omega) ⟨rfl, rfl, rfl, ?_, ?_, by simp only [List.length_set]; exact e8, e9⟩)))
    · simp only; rw [wr (by omega) (by omega)]; omega
    · simp only; rw [wr (by omega) (by omega)]; omega
  · have w0 : IntKind.i64.wrap ((fr : Int) + l) = ((fr + l : Nat) : Int) := by rw [wr (by omega) (by omega)]; omega
    rw [w0]
    refine ok_it (fun m d => d.1 = (n : Int) ∧ d.2.1 = (l : Int) ∧ d.2.2.1 = (fr : Int) ∧ 0 ≤ d.2.2.2.1 ∧ d.2.2.2.1 ≤ 2 * (n : Int) - fr - l ∧ d.2.2.2.1 + m = 2 * (n : Int) - fr - l ∧ d.2.2.2.2.length = 2 * n) ?_ k (2 * fr) _ ⟨rfl, rfl, rfl, by simp only; omega, by simp only; omega, by simp only; omega, hb⟩ (by omega)
    rintro m ⟨n', l', fr', kk, out⟩ rec ⟨e1, e4, e5, e6, e6', e7, e8⟩ ih
    simp only at e1 e4 e5 e6 e6' e7 e8
    subst e1 e4 e5
    unfold mdct_Shape_l2F
    have w2 : IntKind.i64.wrap (IntKind.i64.wrap (((2 * n : Nat) : Int) - fr) - l) = 2 * n - fr - l := by
      rw [wr (x := ((2 * n : Nat) : Int) - fr) (by omega) (by omega), wr (by omega) (by omega)]; omega
    simp only [e2, w2]
    refine ok_brd (fun hlt => ok_need ⟨by omega, by omega⟩ (ih (m - 1) _ (by omega) ⟨rfl, rfl, rfl, ?_, ?_, ?_, by simp only [List.length_set]; exact e8⟩)) fun _ => ok_some e8
    · simp only; rw [wr (by omega) (by omega)]; omega
    · simp only; rw [wr (by omega) (by omega)]; omega
    · simp only; rw [wr (by omega) (by omega)]; omega
theorem waves_ok (k : Nat) (hk : 5000 ≤ k) (n : Nat) (h1 : 1 ≤ n) (h2 : n ≤ 480) : Ok (mdct_waves k n) fun r => r.length = 8 * n := by
  unfold mdct_waves
  have e8 : IntKind.i64.wrap (8 * (n : Int)) = ((8 * n : Nat) : Int) := by rw [wr (by omega) (by omega)]; omega
  simp only [e8, Int.toNat_natCast, List.length_replicate]
  refine ok_need ⟨by omega, trivial, by omega, by omega⟩ (ok_bind (R := fun r => r.length = 8 * n) ?_ fun r hr => ok_some hr)
  refine ok_it (fun m d => d.1 = (n : Int) ∧ d.2.1 = ((8 * n : Nat) : Int) ∧ 0 ≤ d.2.2.1 ∧ d.2.2.1 + m = ((8 * n : Nat) : Int) ∧ d.2.2.2.length = 8 * n) ?_ k (8 * n) _ ⟨rfl, rfl, by simp only; omega, by simp only; omega, by simp only [List.length_replicate]⟩ (by omega)
  rintro m ⟨n', t9, t10, out⟩ rec ⟨e1, e2, e3, e4, e5⟩ ih
  simp only at e1 e2 e3 e4 e5
  unfold mdct_waves_l0F
  refine ok_brd (fun h => ok_need (by omega) (ok_bind (cos_ok k hk _) fun _ _ => ok_need ⟨by omega, by omega⟩ (ih (m - 1) _ (by omega) ⟨e1, e2, ?_, ?_, by simp only [List.length_set]; exact e5⟩))) fun _ => ok_some e5
  · simp only; rw [wr (by omega) (by omega)]; omega
  · simp only; rw [wr (by omega) (by omega)]; omega
theorem down_ok (a b : Int) (h : b ≠ 0) : Ok (mdct_down a b) fun _ => True := by
  unfold mdct_down
  exact ok_need h (ok_need h (ok_brd (fun _ => ok_some trivial) fun _ => ok_some trivial))
theorem inverse_ok (k : Nat) (hk : 5000 ≤ k) (l : Nat) (f : List Int) (h : 4 ≤ f.length ∧ f.length ≤ 480 ∧ 2 ≤ l ∧ l ≤ f.length ∧ (f.length - l) % 2 = 0) : Ok (mdct_Inverse k l f) fun r => r.length = 2 * f.length := by
  unfold mdct_Inverse
  have e2 : IntKind.i64.wrap (2 * (f.length : Int)) = ((2 * f.length : Nat) : Int) := by rw [wr (by omega) (by omega)]; omega
  have e8 : IntKind.i64.wrap (8 * (f.length : Int)) = ((8 * f.length : Nat) : Int) := by rw [wr (by omega) (by omega)]; omega
  simp only [e2, Int.toNat_natCast, List.length_replicate]
  refine ok_bind (shape_ok k hk f.length l h) fun sh hsh => ok_need ⟨by omega, trivial, by omega, by omega⟩ (ok_bind (R := fun r => r.length = f.length) ?_ fun g hg => ok_bind (waves_ok k hk f.length (by omega) (by omega)) fun c hc => ok_need ⟨by omega, trivial, by omega, by omega⟩ (ok_bind (R := fun r => r.length = 2 * f.length) ?_ fun r hr => ok_some hr))
  · refine ok_it (fun m d => d.1 = (f.length : Int) ∧ 0 ≤ d.2.1 ∧ d.2.1 + m = (f.length : Int) ∧ d.2.2.1.length = f.length ∧ d.2.2.2 = f) ?_ k f.length _ ⟨rfl, by simp only; omega, by simp only; omega, by simp only [List.length_replicate], rfl⟩ (by omega)
    rintro m ⟨t33, t34, g, t32⟩ rec ⟨e1, e3, e4, e5, e6⟩ ih
    simp only at e1 e3 e4 e5 e6
    subst e6
    unfold mdct_Inverse_l0F
    refine ok_brd (fun hlt => ok_need ⟨by omega, by omega⟩ (ok_bind (clamp_ok _ _ _) fun _ _ => ok_need ⟨by omega, by omega⟩ (ih (m - 1) _ (by omega) ⟨e1, ?_, ?_, by simp only [List.length_set]; exact e5, rfl⟩))) fun _ => ok_some e5
    · simp only; rw [wr (by omega) (by omega)]; omega
    · simp only; rw [wr (by omega) (by omega)]; omega
  · refine ok_it (fun m d => d.1 = (f.length : Int) ∧ d.2.1 = ((2 * f.length : Nat) : Int) ∧ 0 ≤ d.2.2.1 ∧ d.2.2.1 + m = ((2 * f.length : Nat) : Int) ∧ d.2.2.2.1 = sh ∧ d.2.2.2.2.1 = g ∧ d.2.2.2.2.2.1 = c ∧ d.2.2.2.2.2.2.length = 2 * f.length) ?_ k (2 * f.length) _ ⟨rfl, rfl, by simp only; omega, by simp only; omega, rfl, rfl, rfl, by simp only [List.length_replicate]⟩ (by omega)
    rintro m ⟨n, t51, t52, sh', g', c', out⟩ rec ⟨q1, q2, q3, q4, q5, q6, q7, q8⟩ ih
    simp only at q1 q2 q3 q4 q5 q6 q7 q8
    subst q1 q2 q5 q6 q7
    unfold mdct_Inverse_l2F
    simp only [e8]
    refine ok_brd (fun hlt => ok_need (by omega) (ok_need (by omega) (ok_bind (R := fun _ => True) ?_ fun s _ => ok_need ⟨by omega, by omega⟩ (ok_bind (down_ok _ _ ?_) fun _ _ => ok_bind (clamp_ok _ _ _) fun _ _ => ok_bind (mul_ok _ _ _) fun _ _ => ok_need ⟨by omega, by omega⟩ (ih (m - 1) _ (by omega) ⟨rfl, rfl, ?_, ?_, rfl, rfl, rfl, by simp only [List.length_set]; exact q8⟩))))) fun _ => ok_some q8
    · have w1 : IntKind.i64.wrap (IntKind.i64.wrap (IntKind.i64.wrap (2 * t52) + 1) + (f.length : Int)) = 2 * t52 + 1 + f.length := by
        rw [wr (x := 2 * t52) (by omega) (by omega), wr (x := 2 * t52 + 1) (by omega) (by omega), wr (by omega) (by omega)]
      have w2 : IntKind.i64.wrap (2 * (2 * t52 + 1 + (f.length : Int))) = 2 * (2 * t52 + 1 + f.length) := wr (by omega) (by omega)
      simp only [w1, w2, hg]
      have a1 : 0 ≤ (2 * t52 + 1 + (f.length : Int)).tmod ((8 * f.length : Nat) : Int) := Int.tmod_nonneg _ (by omega)
      have a2 : (2 * t52 + 1 + (f.length : Int)).tmod ((8 * f.length : Nat) : Int) < ((8 * f.length : Nat) : Int) := Int.tmod_lt_of_pos _ (by omega)
      have a3 : 0 ≤ (2 * (2 * t52 + 1 + (f.length : Int))).tmod ((8 * f.length : Nat) : Int) := Int.tmod_nonneg _ (by omega)
      have a4 : (2 * (2 * t52 + 1 + (f.length : Int))).tmod ((8 * f.length : Nat) : Int) < ((8 * f.length : Nat) : Int) := Int.tmod_lt_of_pos _ (by omega)
      refine ok_it (Q := fun _ => True) (fun m d => 0 ≤ d.2.1 ∧ d.2.1 < ((8 * f.length : Nat) : Int) ∧ 0 ≤ d.2.2.1 ∧ d.2.2.1 < ((8 * f.length : Nat) : Int) ∧ d.2.2.2.1 = (f.length : Int) ∧ 0 ≤ d.2.2.2.2.1 ∧ d.2.2.2.2.1 + m = (f.length : Int) ∧ d.2.2.2.2.2.1.length = 8 * f.length ∧ d.2.2.2.2.2.2.length = f.length) ?_ k f.length _ ⟨a1, a2, a3, a4, rfl, by simp only; omega, by simp only; omega, hc, hg⟩ (by omega)
      clear a1 a2 a3 a4 w1 w2
      rintro m ⟨s, p, step, t73, t74, c, t72⟩ rec ⟨b1, b2, b3, b4, b5, b6, b7, b8, b9⟩ ih
      simp only at b1 b2 b3 b4 b5 b6 b7 b8 b9
      subst b5
      unfold mdct_Inverse_l4F
      have v1 : IntKind.i64.wrap (p + step) = p + step := wr (by omega) (by omega)
      have v2 : ∀ h : t74 < f.length, IntKind.i64.wrap (t74 + 1) = t74 + 1 := fun h => wr (by omega) (by omega)
      simp only [v1]
      refine ok_brd (fun hlt => ok_need ⟨by omega, by omega⟩ (ok_need ⟨by omega, by omega⟩ (ok_brd (fun hge => ih (m - 1) _ (by omega) ?_) fun hge => ih (m - 1) _ (by omega) ?_))) fun _ => ok_some trivial
      · have v3 : IntKind.i64.wrap (p + step - (c.length : Int)) = p + step - c.length := wr (by omega) (by omega)
        simp only [v2 hlt, v3]
        exact ⟨by omega, by omega, b3, b4, trivial, by omega, by omega, b8, b9⟩
      · simp only [v2 hlt]
        exact ⟨by omega, by omega, b3, b4, trivial, by omega, by omega, b8, b9⟩
    · rw [wr (x := 32768 * (f.length : Int)) (by omega) (by omega)]; omega
    · simp only; rw [wr (by omega) (by omega)]; omega
    · simp only; rw [wr (by omega) (by omega)]; omega
theorem next_ok (k : Nat) (hk : 5000 ≤ k) (n l : Nat) (f kept : List Int) (hf : f.length = n) (hkp : kept.length = n) (h : 4 ≤ n ∧ n ≤ 480 ∧ 2 ≤ l ∧ l ≤ n ∧ (n - l) % 2 = 0) : Ok (mdct_Joiner_Next k n l f kept) fun r => ∃ out kept', r = ((n : Int), (l : Int), out, kept') ∧ out.length = n ∧ kept'.length = n := by
  unfold mdct_Joiner_Next
  rw [hf]
  refine ok_brn (fun hn => absurd rfl hn) fun _ => ok_bind (inverse_ok k hk l f (by rw [hf]; exact h)) fun y hy => ?_
  rw [hf] at hy
  simp only [Int.toNat_natCast, List.length_replicate]
  refine ok_need ⟨by omega, trivial, by omega, by omega⟩ (ok_bind (R := fun r => r.length = n) ?_ fun out hout => ok_need ⟨by omega, by omega⟩ (ok_some ⟨out, _, rfl, hout, ?_⟩))
  · refine ok_it (fun m d => d.1 = (n : Int) ∧ 0 ≤ d.2.1 ∧ d.2.1 + m = (n : Int) ∧ d.2.2.2.2.1 = y ∧ d.2.2.2.2.2.1.length = n ∧ d.2.2.2.2.2.2 = kept) ?_ k n _ ⟨rfl, by simp only; omega, by simp only; omega, rfl, by simp only [List.length_replicate], rfl⟩ (by omega)
    rintro m ⟨t35, t36, j0, j1, y', out, kp⟩ rec ⟨e1, e2, e3, e4, e5, e6⟩ ih
    simp only at e1 e2 e3 e4 e5 e6
    subst e1 e4 e6
    unfold mdct_Joiner_Next_l0F
    refine ok_brd (fun hlt => ok_need ⟨by omega, by omega⟩ (ok_need ⟨by omega, by omega⟩ (ok_bind (clamp_ok _ _ _) fun _ _ => ok_need ⟨by omega, by omega⟩ (ih (m - 1) _ (by omega) ⟨rfl, ?_, ?_, rfl, by simp only [List.length_set]; exact e5, rfl⟩)))) fun _ => ok_some e5
    · simp only; rw [wr (by omega) (by omega)]; omega
    · simp only; rw [wr (by omega) (by omega)]; omega
  · simp only [List.length_take, List.length_drop, hy]
    omega
end Go.Proofs.YtnhbohcjmdfmiaaGreat
