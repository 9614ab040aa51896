/- Concrete runs: where operands lie. No condition. -/
import Derived.Test.YtnhbohcjmdfmiaaGreatC3
set_option linter.unusedVariables false
set_option linter.unusedSimpArgs false
namespace Go.Ab
open Go
noncomputable section
variable {e k : Nat}

theorem stkC_top (k : Nat) (st : ST k) (v : CV) (tm : QT CV e) : (stkC (e := e) (k + 1) 0).run ((st, v) : Prod (ST k) CV) tm = v := rfl
theorem stkC_push (k n : Nat) (st : ST k) (v : CV) (tm : QT CV e) : (stkC (e := e) (k + 1) (n + 1)).run ((st, v) : Prod (ST k) CV) tm = (stkC k n).run st tm := by
  have e1 : stkC (e := e) (k + 1) (n + 1) = OpA.rec (motive := fun _ => OpA e (k + 1)) (fun f => OpA.mk (k := k + 1) fun (st : Prod (ST k) CV) tm => f st.1 tm) (stkC k n) := rfl
  rw [e1]
  generalize stkC (e := e) k n = X
  cases X; rfl

def SR.okAt (k : Nat) : SR → Prop | .lvl l => l < k | _ => True

theorem srC_slot (k k' : Nat) (j : Nat) (st : ST k) (st' : ST k') (tm : QT CV e) : (srC k (.slot j)).run st tm = (srC k' (.slot j)).run st' tm := by
  simp only [srC]
  cases Nat.ble (Nat.succ j) (Nat.pow 4 e)
  · rfl
  · simp only
    generalize getC (α := CV) e j = X
    cases X; rfl

theorem srC_push {k : Nat} {r : SR} (h : r.okAt k) (st : ST k) (v : CV) (tm : QT CV e) : (srC (k + 1) r).run ((st, v) : Prod (ST k) CV) tm = (srC k r).run st tm := by
  cases r with
  | lvl l =>
    have hl : l < k := h
    show (stkC (k + 1) (k + 1 - 1 - l)).run _ _ = (stkC k (k - 1 - l)).run _ _
    rw [show k + 1 - 1 - l = (k - 1 - l) + 1 by omega, stkC_push]
  | slot j => exact srC_slot _ _ _ _ _ _
  | cst v => rfl

/-- the value of a temporary -/
def valT (E : EM) (k : Nat) (st : ST k) (tm : QT CV e) (t : Nat) : CV := (srC k (lookN E t)).run st tm
def EOk (E : EM) (k : Nat) : Prop := ∀ t, (lookN E t).okAt k

theorem lookN_set (E : EM) (u t : Nat) (r : SR) (hu : u < 1024) : lookN (setE E u r) t = if t = u then r else lookN E t := by
  unfold lookN setE
  have h1 : Nat.ble u 1023 = true := Nat.ble_eq_true_of_le (by omega)
  rw [h1]
  simp only
  by_cases ht : t < 1024
  · have h2 : Nat.ble t 1023 = true := Nat.ble_eq_true_of_le (by omega)
    rw [h2]
    simp only
    rw [getC_run, setC_run, QT.get_set 5 t u r E (by omega) (by omega), getC_run]
  · have h2 : Nat.ble t 1023 = false := Bool.eq_false_iff.2 fun h => by have := Nat.le_of_ble_eq_true h; omega
    rw [h2, if_neg (by omega)]
theorem setE_big (E : EM) (u : Nat) (r : SR) (hu : ¬ u < 1024) : setE E u r = E := by
  unfold setE
  have h2 : Nat.ble u 1023 = false := Bool.eq_false_iff.2 fun h => by have := Nat.le_of_ble_eq_true h; omega
  rw [h2]
theorem lookN_big (E : EM) (u : Nat) (hu : ¬ u < 1024) : lookN E u = .cst (.oth .undef) := by
  unfold lookN
  have h2 : Nat.ble u 1023 = false := Bool.eq_false_iff.2 fun h => by have := Nat.le_of_ble_eq_true h; omega
  rw [h2]

theorem EOk.set {E : EM} {k : Nat} (h : EOk E k) (u : Nat) {r : SR} (hr : r.okAt k) : EOk (setE E u r) k := by
  intro t
  by_cases hu : u < 1024
  · rw [lookN_set E u t r hu]
    split
    · exact hr
    · exact h t
  · rw [setE_big E u r hu]; exact h t
theorem SR.okAt.succ {k : Nat} {r : SR} (h : r.okAt k) : r.okAt (k + 1) := by
  cases r with
  | lvl l => exact Nat.lt_succ_of_lt h
  | slot j => trivial
  | cst v => trivial
theorem EOk.pushed {E : EM} {k : Nat} (h : EOk E k) (o : Oper) : EOk (pushed E k o) (k + 1) := by
  have h1 : EOk E (k + 1) := fun t => (h t).succ
  unfold Ab.pushed
  cases o.dst with
  | none => exact h1
  | some t => exact h1.set t (Nat.lt_succ_self k)

theorem valT_push {E : EM} {k : Nat} (h : EOk E k) (st : ST k) (v : CV) (tm : QT CV e) (t : Nat) : valT E (k + 1) ((st, v) : Prod (ST k) CV) tm t = valT E k st tm t := srC_push (h t) st v tm
theorem valT_pushed {E : EM} {k : Nat} (h : EOk E k) (o : Oper) (st : ST k) (v : CV) (tm : QT CV e) (t : Nat) :
    valT (pushed E k o) (k + 1) ((st, v) : Prod (ST k) CV) tm t = if o.dst = some t ∧ t < 1024 then v else valT E k st tm t := by
  unfold Ab.pushed
  cases hd : o.dst with
  | none => rw [if_neg (by simp)]; exact valT_push h st v tm t
  | some u =>
    simp only [Option.some.injEq]
    by_cases hu : u < 1024
    · by_cases ht : u = t
      · subst ht
        rw [if_pos ⟨rfl, hu⟩]
        unfold valT
        rw [lookN_set E u u _ hu, if_pos rfl]
        show (stkC (k + 1) (k + 1 - 1 - k)).run _ _ = v
        rw [show k + 1 - 1 - k = 0 by omega]; rfl
      · rw [if_neg (by simp [ht])]
        unfold valT
        rw [lookN_set E u t _ hu, if_neg (fun h => ht h.symm)]
        exact srC_push (h t) st v tm
    · rw [setE_big E u _ hu]
      by_cases ht : u = t
      · subst ht
        rw [if_neg (by simp [hu])]
        exact valT_push h st v tm u
      · rw [if_neg (by simp [ht])]
        exact valT_push h st v tm t
end
end Go.Ab
