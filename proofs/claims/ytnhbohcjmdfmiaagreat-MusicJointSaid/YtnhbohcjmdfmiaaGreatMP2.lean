/- Frames of music are played, whatever they hold; two channels told jointly play alike. Conditions: those of each statement. -/
import Derived.Test.YtnhbohcjmdfmiaaGreatMP1
set_option linter.unusedVariables false
set_option linter.unusedSimpArgs false
namespace Go.Proofs.YtnhbohcjmdfmiaaGreat
open Go Go.Ab Go.Proofs

theorem lower1_ok (v a b : Int) : Ok (emph_Filter_Lower_1 v a b) fun _ => True := by
  unfold emph_Filter_Lower_1 emph_kept
  exact ok_bind (mul_ok _ _ _) fun _ _ => ok_bind (ok_bind (clamp_ok _ _ _) fun _ _ => ok_some trivial) fun _ _ => ok_some (by trivial)
theorem lower_ok (k : Nat) (hk : 5000 ≤ k) (a b : Int) (x : List Int) (h : x.length ≤ 4096) : Ok (emph_Filter_Lower k a b x) fun r => r.2.2.length = x.length := by
  unfold emph_Filter_Lower emph_each
  have e : (if 4096 < (x.length : Int) then 4096 else (x.length : Int)) = x.length := if_neg (by omega)
  simp only [e, Int.sub_zero, Int.toNat_natCast]
  refine ok_bind (R := fun r => r.2.2.length = x.length) ?_ fun r hr => ok_some hr
  refine ok_need ⟨by omega, by omega⟩ (ok_need ⟨by omega, trivial, by omega, by omega⟩ (ok_bind (R := fun r => r.1.length = x.length) ?_ fun r hr => ok_some hr))
  refine ok_it (fun m d => d.1 = 0 ∧ d.2.1 = x.length ∧ d.2.2.1 = (x.length : Int) ∧ 0 ≤ d.2.2.2.1 ∧ d.2.2.2.1 + m = (x.length : Int) ∧ d.2.2.2.2.1.length = x.length) ?_ k x.length _ ⟨rfl, rfl, rfl, by simp only; omega, by simp only; omega, by simp only [List.length_replicate]⟩ (by omega)
  rintro m ⟨o, n, t17, t18, out, t16, a, b⟩ rec ⟨e1, e2, e3, e4, e5, e6⟩ ih
  simp only at e1 e2 e3 e4 e5 e6
  unfold emph_each_l0F
  refine ok_brd (fun hlt => ok_need ⟨by omega, by omega⟩ (ok_bind (R := fun _ => True) (by unfold emph_kept; exact ok_bind (clamp_ok _ _ _) fun _ _ => ok_some trivial) fun _ _ => ok_bind (lower1_ok _ _ _) fun r _ => ok_need ⟨by omega, by omega⟩ (ih (m - 1) _ (by omega) ⟨e1, e2, e3, ?_, ?_, by simp only [List.length_set]; exact e6⟩))) fun _ => ok_some e6
  · simp only; rw [wr (by omega) (by omega)]; omega
  · simp only; rw [wr (by omega) (by omega)]; omega
theorem clip_ok (k : Nat) (x : List Int) (h : x.length ≤ 4096) (hk : 5000 ≤ k) : Ok (music_Player_Play_l2v1 k k ((x.length : Int), 0, x)) fun r => r.length = x.length := by
  refine ok_it (fun m d => d.1 = (x.length : Int) ∧ 0 ≤ d.2.1 ∧ d.2.1 + m = (x.length : Int) ∧ d.2.2.length = x.length) ?_ k x.length _ ⟨rfl, by simp only; omega, by simp only; omega, rfl⟩ (by omega)
  rintro m ⟨t70, t71, y⟩ rec ⟨e1, e2, e3, e4⟩ ih
  simp only at e1 e2 e3 e4
  unfold music_Player_Play_l2v1F
  refine ok_brd (fun hlt => ok_need ⟨by omega, by omega⟩ (ok_bind (sat_ok _) fun _ _ => ok_need ⟨by omega, by omega⟩ (ih (m - 1) _ (by omega) ⟨e1, ?_, ?_, by simp only [List.length_set]; exact e4⟩))) fun _ => ok_some e4
  · simp only; rw [wr (by omega) (by omega)]; omega
  · simp only; rw [wr (by omega) (by omega)]; omega
theorem clip_2 (k : Nat) : music_Player_Play_2_l2v1 k = music_Player_Play_l2v1 k := rfl
theorem sum_ok (a b s : Int) : Ok (music_sum a b s) fun _ => True := by
  unfold music_sum
  exact ok_brd (fun _ => ok_bind (clamp_ok _ _ _) fun _ _ => ok_some trivial) fun _ => ok_brd (fun _ => ok_bind (clamp_ok _ _ _) fun _ _ => ok_some trivial) fun _ => ok_bind (clamp_ok _ _ _) fun _ _ => ok_some trivial
theorem and_one (a : Int) : ((BitVec.ofInt 64 a &&& BitVec.ofInt 64 1).toNat : Int) = a % 2 := by
  have h : (BitVec.ofInt 64 a &&& BitVec.ofInt 64 1).toNat = (BitVec.ofInt 64 a).toNat % 2 := by
    rw [BitVec.toNat_and]
    have : (BitVec.ofInt 64 1).toNat = 1 := by decide
    rw [this, Nat.and_one_is_mod]
  rw [h, BitVec.toNat_ofInt]
  omega
theorem sum_nought (a s : Int) (hs : s = 1 ∨ s = -1) (h1 : a ≤ 17179869184) (h2 : -17179869184 ≤ a) : music_sum a 0 s = some a := by
  unfold music_sum
  have e0 : (0 : Int).fdiv 2 = 0 := by decide
  have e1 : IntKind.i64.wrap (s * 0) = 0 := by rw [Int.mul_zero]; decide
  have ea : IntKind.i64.wrap (a.fdiv 2 + 0) = a / 2 := by
    rw [Int.fdiv_eq_ediv_of_nonneg _ (by omega), Int.add_zero, wr (by omega) (by omega)]
  simp only [e0, e1, ea, and_one]
  rw [decide_eq_false (by omega), decide_eq_false (by omega)]
  have e2 : IntKind.i64.wrap (IntKind.i64.wrap (IntKind.i64.wrap (2 * (a / 2)) + IntKind.i64.wrap (a % 2)) + IntKind.i64.wrap (s * IntKind.i64.wrap (0 % 2))) = a := by
    rw [show IntKind.i64.wrap (0 % 2) = 0 by decide, e1, wr (x := 2 * (a / 2)) (by omega) (by omega), wr (x := a % 2) (by omega) (by omega), Int.add_zero]
    rw [wr (x := 2 * (a / 2) + a % 2) (by omega) (by omega), wr (by omega) (by omega)]
    omega
  show Option.bind (fix_Clamp _ _ _) _ = _
  rw [e2]
  unfold fix_Clamp
  rw [decide_eq_false (by omega), decide_eq_false (by omega), decide_eq_false (by omega)]
  rfl
theorem set_take (l f : List Int) (i : Nat) (hi : i < f.length) (hl : l.length = f.length) (h : l.take i = f.take i) : (l.set i (f.getD i 0)).take (i + 1) = f.take (i + 1) := by
  apply List.ext_getElem?
  intro j
  simp only [List.getElem?_take, List.getElem?_set]
  by_cases hj : j < i + 1
  · rw [if_pos hj, if_pos hj]
    by_cases e : i = j
    · subst e
      rw [if_pos rfl, if_pos (by omega)]
      simp [List.getD_eq_getElem?_getD, hi]
    · rw [if_neg e]
      have := congrArg (fun z => z[j]?) h
      simp only [List.getElem?_take] at this
      rw [if_pos (by omega), if_pos (by omega)] at this
      exact this
  · rw [if_neg hj, if_neg hj]
theorem apart_ok (k : Nat) (hk : 5000 ≤ k) (f : List Int) (h : f.length ≤ 4096) : Ok (music_apart k f (List.replicate f.length 0)) fun r => r.1.length = f.length ∧ r.2.length = f.length ∧ ((∀ i : Nat, i < f.length → f.getD i 0 ≤ 17179869184 ∧ -17179869184 ≤ f.getD i 0) → r.1 = f ∧ r.2 = f) := by
  unfold music_apart
  simp only [Int.toNat_natCast]
  refine ok_need ⟨by omega, trivial, by omega, by omega⟩ (ok_need ⟨by omega, trivial, by omega, by omega⟩ (ok_bind (R := fun r => r.1.length = f.length ∧ r.2.length = f.length ∧ ((∀ i : Nat, i < f.length → f.getD i 0 ≤ 17179869184 ∧ -17179869184 ≤ f.getD i 0) → r.1 = f ∧ r.2 = f)) ?_ fun r hr => ok_some hr))
  refine ok_it (fun m d => d.1 = (f.length : Int) ∧ 0 ≤ d.2.1 ∧ d.2.1 + m = (f.length : Int) ∧ d.2.2.1 = f ∧ d.2.2.2.1 = List.replicate f.length 0 ∧ d.2.2.2.2.1.length = f.length ∧ d.2.2.2.2.2.length = f.length ∧ ((∀ i : Nat, i < f.length → f.getD i 0 ≤ 17179869184 ∧ -17179869184 ≤ f.getD i 0) → d.2.2.2.2.1.take d.2.1.toNat = f.take d.2.1.toNat ∧ d.2.2.2.2.2.take d.2.1.toNat = f.take d.2.1.toNat)) ?_ k f.length _ ⟨rfl, by simp only; omega, by simp only; omega, rfl, rfl, by simp only [List.length_replicate], by simp only [List.length_replicate], fun _ => by simp⟩ (by omega)
  rintro m ⟨t15, t16, a, b, x, y⟩ rec ⟨e1, e2, e3, e4, e5, e6, e7, e8⟩ ih
  simp only at e1 e2 e3 e4 e5 e6 e7 e8
  subst e1 e4 e5
  unfold music_apart_l0F
  simp only [List.length_replicate]
  refine ok_brd (fun hlt => ?_) fun hge => ok_some ⟨e6, e7, fun hb => ?_⟩
  · have hz : (List.replicate a.length (0 : Int)).getD t16.toNat 0 = 0 := by
      rw [List.getD_eq_getElem?_getD, List.getElem?_replicate]; split <;> rfl
    rw [hz]
    refine ok_need ⟨by omega, by omega⟩ (ok_need ⟨by omega, by omega⟩ ?_)
    by_cases hin : a.getD t16.toNat 0 ≤ 17179869184 ∧ -17179869184 ≤ a.getD t16.toNat 0
    · rw [sum_nought _ 1 (.inl rfl) hin.1 hin.2, sum_nought _ (-1) (.inr rfl) hin.1 hin.2]
      refine ok_need ⟨by omega, by omega⟩ (ok_need ⟨by omega, by omega⟩ (ok_need ⟨by omega, by omega⟩ (ok_need ⟨by omega, by omega⟩ (ih (m - 1) _ (by omega) ⟨rfl, ?_, ?_, rfl, rfl, by simp only [List.length_set]; exact e6, by simp only [List.length_set]; exact e7, fun hb => ?_⟩))))
      · simp only; rw [wr (by omega) (by omega)]; omega
      · simp only; rw [wr (by omega) (by omega)]; omega
      · simp only
        rw [wr (by omega) (by omega), show (t16 + 1).toNat = t16.toNat + 1 by omega]
        obtain ⟨g1, g2⟩ := e8 hb
        exact ⟨set_take x a _ (by omega) e6 g1, set_take y a _ (by omega) e7 g2⟩
    · refine ok_bind (sum_ok _ _ _) fun _ _ => ok_need ⟨by omega, by omega⟩ (ok_need ⟨by omega, by omega⟩ (ok_bind (sum_ok _ _ _) fun _ _ => ok_need ⟨by omega, by omega⟩ (ok_need ⟨by omega, by omega⟩ (ih (m - 1) _ (by omega) ⟨rfl, ?_, ?_, rfl, rfl, by simp only [List.length_set]; exact e6, by simp only [List.length_set]; exact e7, fun hb => absurd (hb t16.toNat (by omega)) hin⟩))))
      · simp only; rw [wr (by omega) (by omega)]; omega
      · simp only; rw [wr (by omega) (by omega)]; omega
  · obtain ⟨g1, g2⟩ := e8 hb
    have q1 : x.take t16.toNat = x := List.take_of_length_le (by omega)
    have q2 : y.take t16.toNat = y := List.take_of_length_le (by omega)
    have q3 : a.take t16.toNat = a := List.take_of_length_le (by omega)
    rw [q1, q3] at g1
    rw [q2, q3] at g2
    exact ⟨g1, g2⟩
theorem same_ok (k : Nat) (hk : 5000 ≤ k) (a : List Int) (h : a.length ≤ 4096) : madrigallaw21_same k a a = some true := by
  unfold madrigallaw21_same
  rw [show (!decide ((a.length : Int) = a.length)) = false by simp]
  have key : Ok (madrigallaw21_same_l0 k k (0, a, a)) fun r => r = .inl () := by
    refine ok_it (fun m d => 0 ≤ d.1 ∧ d.1 + m = (a.length : Int) ∧ d.2.1 = a ∧ d.2.2 = a) ?_ k a.length _ ⟨by simp only; omega, by simp only; omega, rfl, rfl⟩ (by omega)
    rintro m ⟨i, x, y⟩ rec ⟨e1, e2, e3, e4⟩ ih
    simp only at e1 e2 e3 e4
    subst e3
    subst e4
    unfold madrigallaw21_same_l0F
    refine ok_brd (fun hlt => ok_need ⟨by omega, by omega⟩ (ok_need ⟨by omega, by omega⟩ (ok_brn (fun hn => absurd rfl hn) fun _ => ih (m - 1) _ (by omega) ⟨?_, ?_, rfl, rfl⟩))) fun _ => ok_some rfl
    · simp only; rw [wr (by omega) (by omega)]; omega
    · simp only; rw [wr (by omega) (by omega)]; omega
  obtain ⟨r, e, rfl⟩ := key
  show Option.bind (madrigallaw21_same_l0 k k (0, a, a)) _ = _
  rw [e]
  rfl
theorem same_tot (k : Nat) (hk : 5000 ≤ k) (a b : List Int) (h : a.length ≤ 4096) : Ok (madrigallaw21_same k a b) fun _ => True := by
  unfold madrigallaw21_same
  refine ok_brn (fun _ => ok_some trivial) fun hl => ok_bind (R := fun _ => True) ?_ fun r _ => ?_
  · refine ok_it (Q := fun _ => True) (fun m d => 0 ≤ d.1 ∧ d.1 + m = (a.length : Int) ∧ d.2.1 = a ∧ d.2.2 = b) ?_ k a.length _ ⟨by simp only; omega, by simp only; omega, rfl, rfl⟩ (by omega)
    rintro m ⟨i, x, y⟩ rec ⟨e1, e2, e3, e4⟩ ih
    simp only at e1 e2 e3 e4
    subst e3
    subst e4
    unfold madrigallaw21_same_l0F
    refine ok_brd (fun hlt => ok_need ⟨by omega, by omega⟩ (ok_need ⟨by omega, by omega⟩ (ok_brn (fun _ => ok_some trivial) fun _ => ih (m - 1) _ (by omega) ⟨?_, ?_, rfl, rfl⟩))) fun _ => ok_some trivial
    · simp only; rw [wr (by omega) (by omega)]; omega
    · simp only; rw [wr (by omega) (by omega)]; omega
  · cases r with
    | inl u => exact ok_some trivial
    | inr b => exact ok_some trivial
end Go.Proofs.YtnhbohcjmdfmiaaGreat
