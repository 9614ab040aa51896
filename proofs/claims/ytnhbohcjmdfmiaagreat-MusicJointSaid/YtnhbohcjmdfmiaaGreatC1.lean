/- Concrete runs: trees of fours with ways that are worked out once; whole numbers as the digits of one number. No condition. -/
import Derived.Test.YtnhbohcjmdfmiaaGreatBb6
set_option linter.unusedVariables false
set_option linter.unusedSimpArgs false
namespace Go.Ab
open Go
noncomputable section

/-! trees of fours, of a fixed depth -/
structure Q4 (α : Type) where (a b c d : α)
def QT (α : Type) : Nat → Type
  | 0 => α
  | d + 1 => Q4 (QT α d)
def QT.fill {α : Type} (x : α) : (d : Nat) → QT α d
  | 0 => x
  | d + 1 => (⟨QT.fill x d, QT.fill x d, QT.fill x d, QT.fill x d⟩ : Q4 (QT α d))
def Q4.at {α : Type} (t : Q4 α) (i : Nat) : α := Nat.rec t.a (fun i _ => Nat.rec t.b (fun i _ => Nat.rec t.c (fun _ _ => t.d) i) i) i
def Q4.put {α : Type} (t : Q4 α) (i : Nat) (x : α) : Q4 α := Nat.rec ⟨x, t.b, t.c, t.d⟩ (fun i _ => Nat.rec ⟨t.a, x, t.c, t.d⟩ (fun i _ => Nat.rec ⟨t.a, t.b, x, t.d⟩ (fun _ _ => ⟨t.a, t.b, t.c, x⟩) i) i) i
def QT.get {α : Type} : (d : Nat) → Nat → QT α d → α
  | 0, _, t => t
  | d + 1, i, t => QT.get d (i / 4) (Q4.at t (i % 4))
def QT.set {α : Type} : (d : Nat) → Nat → α → QT α d → QT α d
  | 0, _, x, _ => x
  | d + 1, i, x, t => Q4.put t (i % 4) (QT.set d (i / 4) x (Q4.at t (i % 4)))

theorem Q4.at_put {α : Type} (t : Q4 α) (i j : Nat) (x : α) (hi : i < 4) (hj : j < 4) : (t.put j x).at i = if i = j then x else t.at i := by
  match i, hi, j, hj with
  | 0, _, 0, _ => rfl | 0, _, 1, _ => rfl | 0, _, 2, _ => rfl | 0, _, 3, _ => rfl
  | 1, _, 0, _ => rfl | 1, _, 1, _ => rfl | 1, _, 2, _ => rfl | 1, _, 3, _ => rfl
  | 2, _, 0, _ => rfl | 2, _, 1, _ => rfl | 2, _, 2, _ => rfl | 2, _, 3, _ => rfl
  | 3, _, 0, _ => rfl | 3, _, 1, _ => rfl | 3, _, 2, _ => rfl | 3, _, 3, _ => rfl

theorem QT.get_set {α : Type} : ∀ (d i j : Nat) (x : α) (t : QT α d), i < 4 ^ d → j < 4 ^ d → QT.get d i (QT.set d j x t) = if i = j then x else QT.get d i t
  | 0, i, j, x, t, hi, hj => by rw [if_pos (by omega)]; rfl
  | d + 1, i, j, x, t, hi, hj => by
    have e : (4 : Nat) ^ (d + 1) = 4 * 4 ^ d := Nat.pow_succ'
    have key : ∀ q : Q4 (QT α d), QT.get d (i / 4) (Q4.at (Q4.put q (j % 4) (QT.set d (j / 4) x (Q4.at q (j % 4)))) (i % 4)) = if i = j then x else QT.get d (i / 4) (Q4.at q (i % 4)) := by
      intro q
      rw [Q4.at_put _ _ _ _ (Nat.mod_lt _ (by omega)) (Nat.mod_lt _ (by omega))]
      by_cases h : i % 4 = j % 4
      · rw [if_pos h, QT.get_set d _ _ _ _ (by omega) (by omega), ← h]
        by_cases h2 : i / 4 = j / 4
        · rw [if_pos h2, if_pos (by omega)]
        · rw [if_neg h2, if_neg (by omega)]
      · rw [if_neg h, if_neg (by omega)]
    exact key t

theorem QT.get_fill {α : Type} (x : α) : ∀ (d i : Nat), QT.get d i (QT.fill x d) = x
  | 0, _ => rfl
  | d + 1, i => by
    have h : i % 4 < 4 := Nat.mod_lt _ (by omega)
    have e : Q4.at (QT.fill x (d + 1)) (i % 4) = QT.fill x d := by
      generalize i % 4 = m at h
      match m, h with
      | 0, _ => rfl | 1, _ => rfl | 2, _ => rfl | 3, _ => rfl
    show QT.get d (i / 4) (Q4.at (QT.fill x (d + 1)) (i % 4)) = x
    rw [e, QT.get_fill x d]

/-! ways that are worked out: closures -/
inductive GetC (α : Type) (d : Nat) where | mk (f : QT α d → α)
inductive SetC (α : Type) (d : Nat) where | mk (f : α → QT α d → QT α d)
def runG {α : Type} {d : Nat} (g : GetC α d) (t : QT α d) : α := GetC.rec (fun f => f t) g
def runS {α : Type} {d : Nat} (g : SetC α d) (x : α) (t : QT α d) : QT α d := SetC.rec (fun f => f x t) g
/-- a number, worked out -/
def natK {γ : Type} (n : Nat) (k : Nat → γ) : γ := Nat.rec (k 0) (fun m _ => k (Nat.succ m)) n
theorem natK_eq {γ : Type} (n : Nat) (k : Nat → γ) : natK n k = k n := by cases n <;> rfl

def getC {α : Type} : (d : Nat) → Nat → GetC α d
  | 0, _ => .mk fun t => t
  | d + 1, i => natK (Nat.div i 4) fun j => GetC.rec (fun g =>
      Nat.rec (.mk fun t => Q4.rec (motive := fun _ => α) (fun x _ _ _ => g x) t) (fun i _ => Nat.rec (.mk fun t => Q4.rec (motive := fun _ => α) (fun _ x _ _ => g x) t) (fun i _ => Nat.rec (.mk fun t => Q4.rec (motive := fun _ => α) (fun _ _ x _ => g x) t) (fun _ _ => .mk fun t => Q4.rec (motive := fun _ => α) (fun _ _ _ x => g x) t) i) i) (Nat.mod i 4)) (getC d j)
def setC {α : Type} : (d : Nat) → Nat → SetC α d
  | 0, _ => .mk fun x _ => x
  | d + 1, i => natK (Nat.div i 4) fun j => SetC.rec (fun g =>
      Nat.rec (.mk fun x t => Q4.rec (motive := fun _ => Q4 (QT α d)) (fun a b c e => ⟨g x a, b, c, e⟩) t) (fun i _ => Nat.rec (.mk fun x t => Q4.rec (motive := fun _ => Q4 (QT α d)) (fun a b c e => ⟨a, g x b, c, e⟩) t) (fun i _ =>
        Nat.rec (.mk fun x t => Q4.rec (motive := fun _ => Q4 (QT α d)) (fun a b c e => ⟨a, b, g x c, e⟩) t) (fun _ _ => .mk fun x t => Q4.rec (motive := fun _ => Q4 (QT α d)) (fun a b c e => ⟨a, b, c, g x e⟩) t) i) i) (Nat.mod i 4)) (setC d j)

theorem getC_run {α : Type} : ∀ (d i : Nat) (t : QT α d), runG (getC d i) t = QT.get d i t
  | 0, _, _ => rfl
  | d + 1, i, t => by
    have ih := getC_run (α := α) d (i / 4)
    show runG (natK (i / 4) _) t = QT.get d (i / 4) (Q4.at t (i % 4))
    rw [natK_eq, ← ih]
    generalize getC d (i / 4) = G
    have h : i % 4 < 4 := Nat.mod_lt _ (by omega)
    have key : ∀ q : Q4 (QT α d), runG (d := d + 1) (GetC.rec (fun g => Nat.rec (.mk fun t => Q4.rec (motive := fun _ => α) (fun x _ _ _ => g x) t) (fun i _ => Nat.rec (.mk fun t => Q4.rec (motive := fun _ => α) (fun _ x _ _ => g x) t) (fun i _ => Nat.rec (.mk fun t => Q4.rec (motive := fun _ => α) (fun _ _ x _ => g x) t) (fun _ _ => .mk fun t => Q4.rec (motive := fun _ => α) (fun _ _ _ x => g x) t) i) i) (i % 4)) G) q = runG G (Q4.at q (i % 4)) := by
      intro q
      generalize i % 4 = m at h
      cases G; cases q
      match m, h with
      | 0, _ => rfl | 1, _ => rfl | 2, _ => rfl | 3, _ => rfl
    exact key t

theorem setC_run {α : Type} : ∀ (d i : Nat) (x : α) (t : QT α d), runS (setC d i) x t = QT.set d i x t
  | 0, _, _, _ => rfl
  | d + 1, i, x, t => by
    have ih := setC_run (α := α) d (i / 4) x
    show runS (natK (i / 4) _) x t = Q4.put t (i % 4) (QT.set d (i / 4) x (Q4.at t (i % 4)))
    rw [natK_eq, ← ih]
    have h : i % 4 < 4 := Nat.mod_lt _ (by omega)
    generalize setC d (i / 4) = G
    have key : ∀ q : Q4 (QT α d), runS (d := d + 1) (SetC.rec (fun g => Nat.rec (.mk fun x t => Q4.rec (motive := fun _ => Q4 (QT α d)) (fun a b c e => ⟨g x a, b, c, e⟩) t) (fun i _ => Nat.rec (.mk fun x t => Q4.rec (motive := fun _ => Q4 (QT α d)) (fun a b c e => ⟨a, g x b, c, e⟩) t) (fun i _ =>
        Nat.rec (.mk fun x t => Q4.rec (motive := fun _ => Q4 (QT α d)) (fun a b c e => ⟨a, b, g x c, e⟩) t) (fun _ _ => .mk fun x t => Q4.rec (motive := fun _ => Q4 (QT α d)) (fun a b c e => ⟨a, b, c, g x e⟩) t) i) i) (i % 4)) G) x q = Q4.put q (i % 4) (runS G x (Q4.at q (i % 4))) := by
      intro q
      generalize i % 4 = m at h
      cases G; cases q
      match m, h with
      | 0, _ => rfl | 1, _ => rfl | 2, _ => rfl | 3, _ => rfl
    exact key t

/-! whole numbers as digits -/
def dB : Nat := 73786976294838206464       -- 2^66
def dH : Nat := 36893488147419103232       -- 2^65
def dGet (a i : Nat) : Nat := Nat.mod (Nat.div a (Nat.pow 73786976294838206464 i)) 73786976294838206464
def dSet (a i v : Nat) : Nat := Nat.add (Nat.sub a (Nat.mul (dGet a i) (Nat.pow 73786976294838206464 i))) (Nat.mul v (Nat.pow 73786976294838206464 i))
def dDec (v : Nat) : Int := Bool.rec (.negSucc (Nat.sub 73786976294838206463 v)) (.ofNat v) (Nat.ble v 36893488147419103231)

theorem dGet_eq (a i : Nat) : dGet a i = a / dB ^ i % dB := rfl
theorem dGet_lt (a i : Nat) : dGet a i < dB := by rw [dGet_eq]; exact Nat.mod_lt _ (by decide)
theorem dGet_lo {a k i : Nat} (c : Nat) (h : i < k) : dGet (a + c * dB ^ k) i = dGet a i := by
  rw [dGet_eq, dGet_eq]
  have e : dB ^ k = dB ^ i * (dB * dB ^ (k - i - 1)) := by
    rw [← Nat.pow_succ', ← Nat.pow_add]; congr 1; omega
  rw [e, ← Nat.mul_assoc, Nat.mul_comm c, Nat.mul_assoc, Nat.add_mul_div_left _ _ (Nat.pow_pos (by decide)), Nat.mul_left_comm c, Nat.add_mul_mod_self_left]
theorem dGet_hi {a k : Nat} (h : a < dB ^ k) (c j : Nat) : dGet (a + c * dB ^ k) (k + j) = dGet c j := by
  rw [dGet_eq, dGet_eq, Nat.pow_add, ← Nat.div_div_eq_div_mul, Nat.add_mul_div_right _ _ (Nat.pow_pos (by decide)), Nat.div_eq_of_lt h, Nat.zero_add]
theorem split3 (a i : Nat) : a = a % dB ^ i + (dGet a i + (a / dB ^ (i + 1)) * dB) * dB ^ i := by
  have h1 := Nat.div_add_mod a (dB ^ i)
  have h2 := Nat.div_add_mod (a / dB ^ i) dB
  have h3 : a / dB ^ i / dB = a / dB ^ (i + 1) := by rw [Nat.div_div_eq_div_mul, ← Nat.pow_succ]
  rw [h3] at h2
  have h4 : dGet a i + (a / dB ^ (i + 1)) * dB = a / dB ^ i := by rw [dGet_eq, Nat.mul_comm]; omega
  rw [h4, Nat.mul_comm]; omega
theorem sub_swap {a r g c v B D : Nat} (h : a = r + (g + c * B) * D) : a - g * D + v * D = r + (v + c * B) * D := by
  rw [Nat.add_mul] at h ⊢
  omega
theorem dSet_eq (a i v : Nat) : dSet a i v = a % dB ^ i + (v + (a / dB ^ (i + 1)) * dB) * dB ^ i := sub_swap (split3 a i)
theorem dGet_set (a i v j : Nat) (hv : v < dB) : dGet (dSet a i v) j = if j = i then v else dGet a j := by
  rw [dSet_eq]
  have hm : a % dB ^ i < dB ^ i := Nat.mod_lt _ (Nat.pow_pos (by decide))
  by_cases h : j = i
  · subst h
    rw [if_pos rfl]
    have this : dGet (a % dB ^ j + (v + a / dB ^ (j + 1) * dB) * dB ^ j) j = dGet (v + a / dB ^ (j + 1) * dB) 0 := dGet_hi hm (v + (a / dB ^ (j + 1)) * dB) 0
    rw [this, dGet_eq, Nat.pow_zero, Nat.div_one, Nat.add_mul_mod_self_right, Nat.mod_eq_of_lt hv]
  · rw [if_neg h]
    have hs := split3 a i
    by_cases h1 : j < i
    · rw [dGet_lo _ h1]
      conv => rhs; rw [hs]
      rw [dGet_lo _ h1]
    · obtain ⟨k, rfl⟩ : ∃ k, j = i + (k + 1) := ⟨j - i - 1, by omega⟩
      rw [dGet_hi hm]
      conv => rhs; rw [hs]
      rw [dGet_hi hm]
      have hd : ∀ x : Nat, x < dB → dGet (x + a / dB ^ (i + 1) * dB) (k + 1) = dGet (a / dB ^ (i + 1)) k := by
        intro x hx
        have := dGet_hi (a := x) (k := 1) (by simpa using hx) (a / dB ^ (i + 1)) k
        rw [Nat.pow_one] at this
        rw [← this]; congr 1; omega
      rw [hd v hv, hd _ (dGet_lt a i)]
theorem dGet_zero (i : Nat) : dGet 0 i = 0 := by rw [dGet_eq]; simp
theorem dSet_lt {a k i v : Nat} (ha : a < dB ^ k) (hi : i < k) (hv : v < dB) : dSet a i v < dB ^ k := by
  rw [dSet_eq]
  have hm : a % dB ^ i < dB ^ i := Nat.mod_lt _ (Nat.pow_pos (by decide))
  have e : dB ^ k = dB ^ (i + 1) * dB ^ (k - i - 1) := by rw [← Nat.pow_add]; congr 1; omega
  have hc : a / dB ^ (i + 1) < dB ^ (k - i - 1) := by
    rw [Nat.div_lt_iff_lt_mul (Nat.pow_pos (by decide)), Nat.mul_comm, ← e]; exact ha
  have h1 : v + a / dB ^ (i + 1) * dB + 1 ≤ dB ^ (k - i - 1) * dB := by
    have : (a / dB ^ (i + 1) + 1) * dB ≤ dB ^ (k - i - 1) * dB := Nat.mul_le_mul_right _ hc
    rw [Nat.add_mul, Nat.one_mul] at this
    omega
  have h2 : (v + a / dB ^ (i + 1) * dB + 1) * dB ^ i ≤ dB ^ (k - i - 1) * dB * dB ^ i := Nat.mul_le_mul_right _ h1
  have h3 : dB ^ (k - i - 1) * dB * dB ^ i = dB ^ k := by
    rw [e, Nat.pow_succ, Nat.mul_comm (dB ^ i * dB), Nat.mul_assoc, Nat.mul_comm dB]
  rw [h3, Nat.add_mul, Nat.one_mul] at h2
  omega

/-- a whole number as a digit -/
def enc? (n : Int) : Option Nat := Int.rec (fun a => Bool.rec none (some a) (Nat.ble a 36893488147419103231)) (fun a => Bool.rec none (some (Nat.sub 73786976294838206463 a)) (Nat.ble a 36893488147419103231)) n
theorem enc_dec {n : Int} {v : Nat} (h : enc? n = some v) : v < dB ∧ dDec v = n := by
  cases n with
  | ofNat a =>
    simp only [enc?] at h
    cases hb : Nat.ble a 36893488147419103231 with
    | false => rw [hb] at h; cases h
    | true =>
      rw [hb] at h
      cases h
      have := Nat.le_of_ble_eq_true hb
      refine ⟨by unfold dB; omega, ?_⟩
      simp only [dDec, hb]
  | negSucc a =>
    simp only [enc?] at h
    cases hb : Nat.ble a 36893488147419103231 with
    | false => rw [hb] at h; cases h
    | true =>
      rw [hb] at h
      cases h
      have := Nat.le_of_ble_eq_true hb
      have e : Nat.ble (Nat.sub 73786976294838206463 a) 36893488147419103231 = false := by
        have : ¬ (73786976294838206463 - a ≤ 36893488147419103231) := by omega
        exact Bool.eq_false_iff.2 fun h => this (Nat.le_of_ble_eq_true h)
      refine ⟨by show 73786976294838206463 - a < dB; unfold dB; omega, ?_⟩
      simp only [dDec, e]
      congr 1
      show 73786976294838206463 - (73786976294838206463 - a) = a
      omega
end
end Go.Ab
