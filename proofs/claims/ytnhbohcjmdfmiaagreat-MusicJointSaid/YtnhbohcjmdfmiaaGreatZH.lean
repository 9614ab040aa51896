/- Concrete runs: fixed-point functions in one step each. No condition. -/
import Derived.Test.YtnhbohcjmdfmiaaGreatC18
import Derived.Test.YtnhbohcjmdfmiaaGreatZF
set_option linter.unusedVariables false
set_option linter.unusedSimpArgs false
namespace Go.Proofs.YtnhbohcjmdfmiaaGreat
open Go Go.Ab Go.Proofs
noncomputable section

def clampI (a lo hi : Int) : Int := Bool.rec (Bool.rec (Bool.rec a hi (ltI hi a)) lo (ltI a lo)) lo (ltI hi lo)
theorem clamp_eq (a lo hi : Int) : fix_Clamp a lo hi = some (clampI a lo hi) := by
  unfold fix_Clamp clampI
  simp only [ltI_eq]
  by_cases h1 : hi < lo
  · simp [h1, br]
  · by_cases h2 : a < lo
    · simp [h1, h2, br]
    · by_cases h3 : hi < a <;> simp [h1, h2, h3, br]
theorem sat_eq (a : Int) : fix_Sat16 a = some (clampI a (-32768) 32767) := by unfold fix_Sat16; rw [clamp_eq]; rfl
def facI (a : Int) : Int := Int.rec (fun n => Bool.rec (.ofNat 2147483648) (.ofNat n) (Nat.ble n 2147483648)) (fun n => Bool.rec (.negSucc 2147483647) (.negSucc n) (Nat.ble n 2147483647)) a
theorem fac_eq (a : Int) : fix_factor a = some (facI a) ∧ -2147483648 ≤ facI a ∧ facI a ≤ 2147483648 := by
  unfold fix_factor
  rw [clamp_eq]
  have key : clampI a (-2147483648) 2147483648 = facI a ∧ -2147483648 ≤ facI a ∧ facI a ≤ 2147483648 := by
    unfold clampI
    simp only [ltI_eq]
    cases a with
    | ofNat n =>
      have e1 : facI (.ofNat n) = if n ≤ 2147483648 then .ofNat n else .ofNat 2147483648 := by
        show (Bool.rec (motive := fun _ => Int) (.ofNat 2147483648) (.ofNat n) (Nat.ble n 2147483648)) = _
        rw [ble_eq]
        by_cases h : n ≤ 2147483648 <;> simp [h]
      rw [e1]
      have h1 : ¬ ((2147483648 : Int) < -2147483648) := by omega
      have h2 : ¬ (Int.ofNat n < -2147483648) := by show ¬ ((n : Int) < _); omega
      by_cases h : n ≤ 2147483648
      · have h3 : ¬ ((2147483648 : Int) < Int.ofNat n) := by show ¬ (_ < (n : Int)); omega
        simp only [h1, h2, h3, decide_false, if_pos h]
        exact ⟨trivial, by show _ ≤ (n : Int); omega, by show (n : Int) ≤ _; omega⟩
      · have h3 : (2147483648 : Int) < Int.ofNat n := by show _ < (n : Int); omega
        simp only [h1, h2, h3, decide_false, decide_true, if_neg h]
        exact ⟨rfl, by decide, by decide⟩
    | negSucc n =>
      have e1 : facI (.negSucc n) = if n ≤ 2147483647 then .negSucc n else .negSucc 2147483647 := by
        show (Bool.rec (motive := fun _ => Int) (.negSucc 2147483647) (.negSucc n) (Nat.ble n 2147483647)) = _
        rw [ble_eq]
        by_cases h : n ≤ 2147483647 <;> simp [h]
      rw [e1]
      have h1 : ¬ ((2147483648 : Int) < -2147483648) := by omega
      have h3 : ¬ ((2147483648 : Int) < Int.negSucc n) := by omega
      by_cases h : n ≤ 2147483647
      · have h2 : ¬ (Int.negSucc n < -2147483648) := by omega
        simp only [h1, h2, h3, decide_false, if_pos h]
        exact ⟨trivial, by omega, by omega⟩
      · have h2 : Int.negSucc n < -2147483648 := by omega
        simp only [h1, h2, decide_false, decide_true, if_neg h]
        exact ⟨rfl, by decide, by decide⟩
  exact ⟨by rw [key.1]; rfl, key.2⟩
def mulI (a b : Int) : Int := Int.rec (fun x => Int.rec (fun y => .ofNat (Nat.mul x y)) (fun y => Int.negOfNat (Nat.mul x (Nat.succ y))) b) (fun x => Int.rec (fun y => Int.negOfNat (Nat.mul (Nat.succ x) y)) (fun y => .ofNat (Nat.mul (Nat.succ x) (Nat.succ y))) b) a
theorem mulI_eq (a b : Int) : mulI a b = a * b := by cases a <;> cases b <;> rfl
def shrI (a : Int) (s : Nat) : Int := Int.rec (fun m => .ofNat (Nat.div m (Nat.pow 2 s))) (fun m => .negSucc (Nat.div m (Nat.pow 2 s))) a
theorem shrI_eq (a : Int) (s : Nat) : shrI a s = a.fdiv (2 ^ s) := by
  have hp : 0 < 2 ^ s := Nat.pow_pos (by decide)
  have e : ((2 : Int) ^ s) = ((2 ^ s : Nat) : Int) := by rw [Int.natCast_pow]; rfl
  rw [e]
  obtain ⟨q, hq⟩ : ∃ q, 2 ^ s = q + 1 := ⟨2 ^ s - 1, by omega⟩
  cases a with
  | ofNat m =>
    show Int.ofNat (m / 2 ^ s) = _
    rw [hq]
    cases m with
    | zero => simp [Int.fdiv]
    | succ m => rfl
  | negSucc m => show Int.negSucc (m / 2 ^ s) = _; rw [hq]; rfl
def mulH (a b s : Int) : Int := Int.rec (fun s => Bool.rec (Bool.rec (shrI (addI (mulI (facI a) (facI b)) (.ofNat (Nat.pow 2 (Nat.sub s 1)))) s) 0 (Nat.ble 63 s)) (mulI (facI a) (facI b)) (Nat.beq s 0)) (fun _ => 0) s
theorem mul_bd {x y : Int} (h1 : -2147483648 ≤ x ∧ x ≤ 2147483648) (h2 : -2147483648 ≤ y ∧ y ≤ 2147483648) : -4611686018427387904 ≤ x * y ∧ x * y ≤ 4611686018427387904 := by
  have a1 : x.natAbs ≤ 2147483648 := by omega
  have a2 : y.natAbs ≤ 2147483648 := by omega
  have a3 : (x * y).natAbs ≤ 2147483648 * 2147483648 := by rw [Int.natAbs_mul]; exact Nat.mul_le_mul a1 a2
  omega
theorem mul_eq (a b s : Int) : fix_Mul a b s = some (mulH a b s) := by
  unfold fix_Mul
  obtain ⟨a1, a2⟩ := fac_eq a
  obtain ⟨b1, b2⟩ := fac_eq b
  rw [a1, b1]
  simp only [Option.bind_some]
  have hb := mul_bd a2 b2
  have hw : IntKind.i64.wrap (facI a * facI b) = facI a * facI b := by rw [IntKind.wrap_i64]; omega
  rw [hw]
  cases s with
  | negSucc n =>
    have h1 : ¬ (Int.negSucc n = 0) := by omega
    have h2 : Int.negSucc n < 0 := by omega
    have e0 : mulH a b (.negSucc n) = 0 := rfl
    rw [decide_eq_false h1, decide_eq_true h2, e0]
    simp only [br]
  | ofNat n =>
    have e0 : mulH a b (.ofNat n) = cond (Nat.beq n 0) (facI a * facI b) (cond (Nat.ble 63 n) 0 (shrI (facI a * facI b + .ofNat (2 ^ (n - 1))) n)) := by
      rw [← mulI_eq, ← addI_eq]
      unfold mulH
      simp only
      cases Nat.beq n 0 <;> cases Nat.ble 63 n <;> rfl
    rw [e0, ble_eq]
    by_cases h0 : n = 0
    · subst h0
      have h1 : Int.ofNat 0 = 0 := rfl
      simp only [h1, decide_true, br]; rfl
    · have hn0 : Nat.beq n 0 = false := Bool.eq_false_iff.2 fun q => h0 (Nat.eq_of_beq_eq_true q)
      have h1 : ¬ (Int.ofNat n = 0) := by show ¬ ((n : Int) = 0); omega
      have h2 : ¬ (Int.ofNat n < 0) := by show ¬ ((n : Int) < 0); omega
      rw [hn0, cond_false]
      by_cases h3 : 63 ≤ n
      · have h4 : (62 : Int) < Int.ofNat n := by show (62 : Int) < (n : Int); omega
        simp only [decide_eq_false h1, decide_eq_false h2, decide_eq_true h4, decide_eq_true h3, br, cond_true]
      · have h4 : ¬ ((62 : Int) < Int.ofNat n) := by show ¬ ((62 : Int) < (n : Int)); omega
        have e1 : IntKind.i64.wrap (Int.ofNat n - 1) = ((n - 1 : Nat) : Int) := by rw [IntKind.wrap_i64]; show _ = ((n - 1 : Nat) : Int); have : Int.ofNat n = (n : Int) := rfl; rw [this]; omega
        have e2 : min (Int.toNat ((n - 1 : Nat) : Int)) 64 = n - 1 := by rw [Int.toNat_natCast]; omega
        have e3 : min (Int.ofNat n).toNat 64 = n := by show min n 64 = n; omega
        have hp : (2 : Nat) ^ (n - 1) ≤ 2 ^ 61 := Nat.pow_le_pow_right (by decide) (by omega)
        have e4 : ((2 : Int) ^ (n - 1)) = ((2 ^ (n - 1) : Nat) : Int) := by rw [Int.natCast_pow]; rfl
        have hpp : 0 < (2 : Nat) ^ (n - 1) := Nat.pow_pos (by decide)
        have h61 : (2 : Nat) ^ 61 = 2305843009213693952 := by decide
        generalize hz : (2 : Nat) ^ (n - 1) = z at *
        have e5 : IntKind.i64.wrap (1 * 2 ^ (n - 1)) = (z : Int) := by rw [Int.one_mul, e4, IntKind.wrap_i64]; omega
        have e6 : IntKind.i64.wrap (facI a * facI b + (z : Int)) = facI a * facI b + (z : Int) := by rw [IntKind.wrap_i64]; omega
        simp only [decide_eq_false h1, decide_eq_false h2, decide_eq_false h4, decide_eq_false h3, br, cond_false]
        rw [e1, need_mk (by omega), need_mk (by simp), e2, e3, e5, e6, shrI_eq]
        rfl
end
end Go.Proofs.YtnhbohcjmdfmiaaGreat
