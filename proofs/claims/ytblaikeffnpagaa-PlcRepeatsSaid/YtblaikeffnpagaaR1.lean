/- Plain laws of the Lean functions, or the contract of a function of the library. Conditions: those of each statement. -/
import Derived.Test.YtblaikeffnpagaaRF
set_option linter.unusedVariables false
set_option linter.unusedSimpArgs false
namespace Go.Proofs.Ytblaikeffnpagaa.Pure
open Go Go.Ab

theorem wid {x : Int} (h1 : -9223372036854775808 ≤ x) (h2 : x ≤ 9223372036854775807) : IntKind.i64.wrap x = x := IntWalk.i64_in x ⟨h1, h2⟩
theorem need_t {X : Type} {p : Prop} [Decidable p] (h : p) (t : Option X) : need p t = t := if_pos h
theorem br_t {X : Type} {b : Bool} (h : b = true) (t e : Option X) : br b t e = t := by subst h; rfl
theorem br_f {X : Type} {b : Bool} (h : b = false) (t e : Option X) : br b t e = e := by subst h; rfl
theorem br_ite {X : Type} {p : Prop} [Decidable p] (t e : Option X) : br (decide p) t e = if p then t else e := by
  by_cases h : p <;> simp [br, h]
theorem br_y {X : Type} {p : Prop} [Decidable p] (h : p) (t e : Option X) : br (decide p) t e = t := br_t (by simpa using h) t e
theorem br_n {X : Type} {p : Prop} [Decidable p] (h : ¬ p) (t e : Option X) : br (decide p) t e = e := br_f (by simpa using h) t e
theorem bind_s {A B : Type} (a : A) (f : A → Option B) : (some a).bind f = f a := rfl
theorem mul_bd {a b : Int} {A B : Nat} (ha : a.natAbs ≤ A) (hb : b.natAbs ≤ B) : (a * b).natAbs ≤ A * B := by
  rw [Int.natAbs_mul]; exact Nat.mul_le_mul ha hb
theorem half {n : Nat} (h : n ≤ 1000000000) : IntKind.i64.wrap (((n : Nat) : Int).tdiv 2) = ((n / 2 : Nat) : Int) := by
  rw [IntWalk.i64_quo _ _ ⟨by omega, by omega, by omega⟩]; omega
theorem tdiv_nn {a b : Int} (h : 0 ≤ a) : a.tdiv b = a / b := Int.tdiv_eq_ediv_of_nonneg h
theorem fdiv_nn {a b : Int} (h : 0 ≤ b) : a.fdiv b = a / b := Int.fdiv_eq_ediv_of_nonneg a h

/-! samples of 16 bits -/
def s16 (a : Int) : Int := if a < -32768 then -32768 else if 32767 < a then 32767 else a
theorem s16_bd (a : Int) : (s16 a).natAbs ≤ 32768 := by unfold s16; split <;> (try split) <;> omega
theorem clamp16 (a : Int) : fix_Clamp a (-32768) 32767 = some (s16 a) := by
  unfold fix_Clamp s16
  rw [br_n (by omega)]
  simp only [br_ite]
  split
  · rfl
  · split <;> rfl
theorem sat16_ok (a : Int) : fix_Sat16 a = some (s16 a) := by unfold fix_Sat16; rw [clamp16]; rfl
theorem rclamp16 (a : Int) : madrigalref1_Clamp a (-32768) 32767 = some (s16 a) := by
  unfold madrigalref1_Clamp s16
  simp only [br_ite]
  split
  · rfl
  · rw [if_neg (by omega)]; split <;> rfl

/-! a sum over places -/
def acc (f : Nat → Int) : Nat → Nat → Int
  | _, 0 => 0
  | a, n + 1 => f a + acc f (a + 1) n
theorem acc_congr {f g : Nat → Int} : ∀ n a, (∀ i, a ≤ i → i < a + n → f i = g i) → acc f a n = acc g a n
  | 0, _, _ => rfl
  | n + 1, a, h => by
    simp only [acc]
    rw [h a (by omega) (by omega), acc_congr n (a + 1) fun i h1 h2 => h i (by omega) (by omega)]
theorem acc_bd {f : Nat → Int} {M : Nat} (h : ∀ i, (f i).natAbs ≤ M) : ∀ n a, (acc f a n).natAbs ≤ n * M
  | 0, _ => by simp [acc]
  | n + 1, a => by
    have h1 := h a
    have h2 := acc_bd h n (a + 1)
    simp only [acc]
    rw [Nat.add_mul, Nat.one_mul]
    omega
theorem acc_nn {f : Nat → Int} (h : ∀ i, 0 ≤ f i) : ∀ n a, 0 ≤ acc f a n
  | 0, _ => Int.le_refl _
  | n + 1, a => by
    have h1 := h a
    have h2 := acc_nn h n (a + 1)
    simp only [acc]; omega
theorem sq_nn (a : Int) : 0 ≤ a * a := by
  rcases Int.le_total 0 a with h | h
  · exact Int.mul_nonneg h h
  · exact Int.mul_nonneg_of_nonpos_of_nonpos h h

/-! the score -/
def cf (x : List Int) (lag i : Nat) : Int := s16 (x.getD i 0) * s16 (x.getD (i - lag) 0)
def ef (x : List Int) (lag i : Nat) : Int := s16 (x.getD (i - lag) 0) * s16 (x.getD (i - lag) 0)
theorem cf_bd (x : List Int) (lag i : Nat) : (cf x lag i).natAbs ≤ 1073741824 := mul_bd (A := 32768) (B := 32768) (s16_bd _) (s16_bd _)
theorem ef_bd (x : List Int) (lag i : Nat) : (ef x lag i).natAbs ≤ 1073741824 := mul_bd (A := 32768) (B := 32768) (s16_bd _) (s16_bd _)
theorem ef_nn (x : List Int) (lag i : Nat) : 0 ≤ ef x lag i := sq_nn _
def C (x : List Int) (lag : Nat) : Int := acc (cf x lag) (x.length / 2) (x.length - x.length / 2)
def E (x : List Int) (lag : Nat) : Int := acc (ef x lag) (x.length / 2) (x.length - x.length / 2)
def sc (x : List Int) (lag : Nat) : Int := if C x lag ≤ 0 then 0 else (C x lag / 256 * (C x lag / 256)) / (E x lag / 65536 + 1)
def good (x : List Int) (lag : Int) : Prop := 2 ≤ x.length ∧ x.length ≤ 960 ∧ 1 ≤ lag ∧ lag ≤ ((x.length / 2 : Nat) : Int)
instance (x : List Int) (lag : Int) : Decidable (good x lag) := by unfold good; infer_instance
def scr (x : List Int) (lag : Int) : Int := if good x lag then sc x lag.toNat else 0

theorem score_l0 (k : Nat) {x : List Int} {lag : Nat} : ∀ r K n (c e : Int), x.length ≤ 960 → n + r = x.length → lag ≤ n → r < K → c.natAbs + r * 1073741824 ≤ 2000000000000 → e.natAbs + r * 1073741824 ≤ 2000000000000 →
    pitch_Score_l0 k K ((lag : Int), c, e, (n : Int), x) = some (c + acc (cf x lag) n r, e + acc (ef x lag) n r, x) := by
  intro r
  induction r with
  | zero =>
    intro K n c e hx hn hl hK _ _
    obtain ⟨K, rfl⟩ : ∃ m, K = m + 1 := ⟨K - 1, by omega⟩
    rw [show pitch_Score_l0 k (K + 1) = pitch_Score_l0F k (pitch_Score_l0 k K) from rfl]
    unfold pitch_Score_l0F
    simp only [acc]
    rw [br_n (by omega)]
    simp
  | succ r ih =>
    intro K n c e hx hn hl hK hc he
    obtain ⟨K, rfl⟩ : ∃ m, K = m + 1 := ⟨K - 1, by omega⟩
    have b1 := cf_bd x lag n
    have b2 := ef_bd x lag n
    rw [show pitch_Score_l0 k (K + 1) = pitch_Score_l0F k (pitch_Score_l0 k K) from rfl]
    unfold pitch_Score_l0F
    simp only
    have e1 : IntKind.i64.wrap ((n : Int) - (lag : Int)) = ((n - lag : Nat) : Int) := by rw [wid (by omega) (by omega)]; omega
    rw [br_y (by omega), need_t (by omega), sat16_ok, bind_s, e1, need_t (by omega), sat16_ok, bind_s, Int.toNat_natCast, Int.toNat_natCast]
    show pitch_Score_l0 k K ((lag : Int), IntKind.i64.wrap (c + IntKind.i64.wrap (cf x lag n)), IntKind.i64.wrap (e + IntKind.i64.wrap (ef x lag n)), IntKind.i64.wrap ((n : Int) + 1), x) = _
    rw [wid (x := cf x lag n) (by omega) (by omega), wid (x := ef x lag n) (by omega) (by omega), wid (x := c + _) (by omega) (by omega), wid (x := e + _) (by omega) (by omega), wid (x := (n : Int) + 1) (by omega) (by omega),
      show ((n : Int) + 1) = ((n + 1 : Nat) : Int) by omega, ih K (n + 1) _ _ hx (by omega) (by omega) (by omega) (by omega) (by omega)]
    simp only [acc, Int.add_assoc]

theorem CE_bd {x : List Int} (h : x.length ≤ 960) (lag : Nat) : (C x lag).natAbs ≤ 515396075520 ∧ (E x lag).natAbs ≤ 515396075520 ∧ 0 ≤ E x lag := by
  have h1 := acc_bd (cf_bd x lag) (x.length - x.length / 2) (x.length / 2)
  have h2 := acc_bd (ef_bd x lag) (x.length - x.length / 2) (x.length / 2)
  have h3 := acc_nn (ef_nn x lag) (x.length - x.length / 2) (x.length / 2)
  have h4 : (x.length - x.length / 2) * 1073741824 ≤ 480 * 1073741824 := Nat.mul_le_mul_right _ (by omega)
  unfold C E
  omega

theorem sc_bd {x : List Int} (h : x.length ≤ 960) (lag : Nat) : 0 ≤ sc x lag ∧ sc x lag ≤ 5000000000000000000 ∧ (0 < C x lag → 0 ≤ C x lag / 256 * (C x lag / 256) ∧ C x lag / 256 * (C x lag / 256) ≤ 5000000000000000000) := by
  obtain ⟨h1, h2, h3⟩ := CE_bd h lag
  have hb : (C x lag / 256 * (C x lag / 256)).natAbs ≤ 2013265920 * 2013265920 := mul_bd (by omega) (by omega)
  have hn := sq_nn (C x lag / 256)
  unfold sc
  split
  · omega
  · have q0 := Int.ediv_nonneg hn (show 0 ≤ E x lag / 65536 + 1 by omega)
    have q1 := Int.ediv_le_self (E x lag / 65536 + 1) hn
    omega

theorem score_ok {k : Nat} (hk : 1000 ≤ k) {x : List Int} (hx : x.length * 8 ≤ 140737488355328) (lag : Int) : pitch_Score k lag x = some (scr x lag, x) := by
  unfold pitch_Score pitch_may
  by_cases h1 : 2 ≤ x.length
  · rw [br_y (by omega), bind_s]
    simp only
    by_cases h2 : x.length ≤ 960
    · have e2 : (!decide (((x.length : Nat) : Int) ≤ 960)) = false := by simp; omega
      rw [e2, br_f rfl]
      by_cases h3 : lag < 1
      · rw [br_y h3, scr, if_neg (fun h => by unfold good at h; omega)]
      · rw [br_n h3, half (by omega)]
        by_cases h4 : ((x.length / 2 : Nat) : Int) < lag
        · rw [br_y h4, scr, if_neg (fun h => by unfold good at h; omega)]
        · obtain ⟨l, rfl⟩ := Int.eq_ofNat_of_zero_le (show 0 ≤ lag by omega)
          have hr := score_l0 k (x := x) (lag := l) (x.length - x.length / 2) k (x.length / 2) 0 0 h2 (by omega) (by omega) (by omega) (by omega) (by omega)
          rw [br_n h4, hr, bind_s]
          obtain ⟨b1, b2, b3⟩ := CE_bd h2 l
          obtain ⟨b4, b5, b6⟩ := sc_bd h2 l
          have hg : good x (l : Int) := ⟨h1, h2, by omega, by omega⟩
          rw [scr, if_pos hg, Int.toNat_natCast]
          simp only [Int.zero_add]
          change br (decide (C x l ≤ 0)) _ (need (IntKind.i64.wrap ((E x l).fdiv 65536 + 1) ≠ 0) (some (IntKind.i64.wrap ((IntKind.i64.wrap ((C x l).fdiv 256 * (C x l).fdiv 256)).tdiv (IntKind.i64.wrap ((E x l).fdiv 65536 + 1))), x))) = _
          unfold sc at b4 b5 ⊢
          rw [br_ite]
          split
          · rfl
          · rename_i hc
            rw [if_neg hc] at b4 b5
            have b7 := b6 (by omega)
            rw [fdiv_nn (by omega), fdiv_nn (by omega), wid (x := E x l / 65536 + 1) (by omega) (by omega), need_t (by omega), wid (x := C x l / 256 * _) (by omega) (by omega), tdiv_nn b7.1, wid (by omega) (by omega)]
    · have e2 : (!decide (((x.length : Nat) : Int) ≤ 960)) = true := by simp; omega
      rw [e2, br_t rfl, scr, if_neg (fun h => by unfold good at h; omega)]
  · rw [br_n (by omega), bind_s]
    simp only [Bool.not_false]
    rw [br_t rfl, scr, if_neg (fun h => by unfold good at h; omega)]

end Go.Proofs.Ytblaikeffnpagaa.Pure
