/- Concrete runs: functions and slots looked up in trees; tables of closed calls. No condition. -/
import Derived.Test.YtnhbohcjmdfmiaaGreatC23
set_option linter.unusedVariables false
set_option linter.unusedSimpArgs false
namespace Go.Ab
open Go
noncomputable section
variable {e : Nat}

/-! a list laid into a tree -/
def layT {α : Type} (l : List α) (j : Nat) (t : QT (Option α) 5) : QT (Option α) 5 := List.rec (motive := fun _ => Nat → QT (Option α) 5 → QT (Option α) 5) (fun _ t => t) (fun x _ ih j t => natK j fun j => ih (Nat.succ j) (runS (setC 5 j) (some x) t)) l j t
theorem layT_get {α : Type} : ∀ (l : List α) (j : Nat) (t : QT (Option α) 5) (i : Nat), j + l.length ≤ 1024 → i < 1024 → QT.get 5 i (layT l j t) = if j ≤ i ∧ i < j + l.length then l[i - j]? else QT.get 5 i t
  | [], j, t, i, _, _ => by
    rw [if_neg (by simp only [List.length_nil]; omega)]; rfl
  | x :: l, j, t, i, hj, hi => by
    have e1 : layT (x :: l) j t = natK j fun j => layT l (Nat.succ j) (runS (setC 5 j) (some x) t) := rfl
    simp only [List.length_cons] at hj ⊢
    rw [e1, natK_eq, setC_run, layT_get l (j + 1) _ i (by omega) hi, QT.get_set 5 i j _ t (by omega) (by omega)]
    by_cases h1 : j + 1 ≤ i ∧ i < j + 1 + l.length
    · rw [if_pos h1, if_pos (by omega), show i - j = (i - (j + 1)) + 1 by omega]; rfl
    · rw [if_neg h1]
      by_cases h2 : i = j
      · subst h2; rw [if_pos rfl, if_pos (by omega)]; simp
      · rw [if_neg h2, if_neg (by omega)]
def funT (P : Program) : QT (Option Func) 5 := layT P.funcs.toList 0 (QT.fill none 5)
def funAt (P : Program) (f : Nat) : Option Func := Bool.rec none (runG (getC 5 f) (funT P)) (Nat.ble f 1023)
theorem funAt_eq {P : Program} (h : P.funcs.size ≤ 1024) (f : Nat) : funAt P f = P.funcs[f]? := by
  unfold funAt
  cases hb : Nat.ble f 1023 with
  | false =>
    have : ¬ f ≤ 1023 := fun q => by rw [Nat.ble_eq_true_of_le q] at hb; cases hb
    rw [Array.getElem?_eq_none (by omega)]
  | true =>
    have hf := Nat.le_of_ble_eq_true hb
    show runG (getC 5 f) (funT P) = _
    rw [getC_run]
    unfold funT
    rw [layT_get _ _ _ _ (by simpa using h) (by omega)]
    by_cases hl : f < P.funcs.size
    · rw [if_pos (by simpa using hl)]; simp
    · rw [if_neg (by simpa using hl), QT.get_fill, Array.getElem?_eq_none (by omega)]
/-- slots, laid so -/
def slotT (l : List (List Nat)) : Tab := fun f => Bool.rec [] (Option.rec [] (fun x => x) (runG (getC 5 f) (layT l 0 (QT.fill none 5)))) (Nat.ble f 1023)

def fnG (P : Program) (N : Nat) (S : Tab) (f : FuncId) (o : Option Func) : FnC :=
  match o with
  | some fn => match fn.body, Nat.ble fn.ntmps 1024 && below fn.ntmps (S f) with
    | some code, true => fnB P N S f fn code (fun e => cmF code e P fn.ntmps (slotsE (S f) 0) N)
    | _, _ => .bad
  | none => .bad
theorem fnG_eq (P : Program) (N : Nat) (S : Tab) (f : FuncId) : fnG P N S f P.funcs[f]? = fnF P N S f := rfl
def callK (P : Program) (N : Nat) (S : Tab) (hk : CallI) (d : Nat) : CallI :=
  Nat.rec (fun _ _ _ _ => .bad) (fun _ ih f args T n => Res.rec
    (FnC.rec .bad (fun _ b ini res => Out.rec .bad res (fun _ _ _ _ => .bad) res (b ih (ini args) T n)) (fnG P N S f (funAt P f)))
    (fun v T n => .ok v T n) (hk f args T n)) d
theorem callK_eq {P : Program} (h : P.funcs.size ≤ 1024) (N : Nat) (S : Tab) (hk : CallI) : ∀ d, callK P N S hk d = callJ P N S hk d
  | 0 => rfl
  | d + 1 => by
    funext f args T n
    have e1 : callK P N S hk (d + 1) f args T n = Res.rec
      (FnC.rec .bad (fun _ b ini res => Out.rec .bad res (fun _ _ _ _ => .bad) res (b (callK P N S hk d) (ini args) T n)) (fnG P N S f (funAt P f))) (fun v T n => .ok v T n) (hk f args T n) := rfl
    have e2 : callJ P N S hk (d + 1) f args T n = Res.rec
      (FnC.rec .bad (fun _ b ini res => Out.rec .bad res (fun _ _ _ _ => .bad) res (b (callJ P N S hk d) (ini args) T n)) (fnF P N S f)) (fun v T n => .ok v T n) (hk f args T n) := rfl
    rw [e1, e2, callK_eq h N S hk d, funAt_eq h, fnG_eq]
theorem callK_ok {P : Program} (hm : P.follows .mixedOrders = true) (hs : P.funcs.size ≤ 1024) (h : ∀ (f : FuncId) fn, P.funcs[f]? = some fn → funcGood P fn = true) (N : Nat) (S : Tab) {hk : CallI} (hhk : HkOk P hk) (d : Nat) : CallsOk P (callK P N S hk d) := by
  rw [callK_eq hs]; exact callJ_ok hm h N S hhk d

/-! tables of closed calls of whole numbers -/
inductive BT where | e | n (k v : Int) (l r : BT)
def btGet (t : BT) (a : Int) : Option CV := BT.rec none (fun k v _ _ il ir => Bool.rec (Bool.rec ir il (ltI a k)) (some (.i v)) (eqI a k)) t
def btAll (p : Int → Int → Bool) (t : BT) : Bool := BT.rec true (fun k v _ _ il ir => Bool.rec false (Bool.rec false ir il) (p k v)) t
theorem btGet_all {p : Int → Int → Bool} {a : Int} {v : CV} : ∀ {t : BT}, btAll p t = true → btGet t a = some v → ∃ z, v = .i z ∧ p a z = true
  | .e, _, h => by cases h
  | .n k z l r, h1, h2 => by
    have e1 : btAll p (.n k z l r) = Bool.rec false (Bool.rec false (btAll p r) (btAll p l)) (p k z) := rfl
    have e2 : btGet (.n k z l r) a = Bool.rec (Bool.rec (btGet r a) (btGet l a) (ltI a k)) (some (.i z)) (eqI a k) := rfl
    rw [e1] at h1
    cases hp : p k z with
    | false => rw [hp] at h1; cases h1
    | true =>
      rw [hp] at h1
      cases hl : btAll p l with
      | false => rw [hl] at h1; cases h1
      | true =>
        rw [hl] at h1
        rw [e2, eqI_eq] at h2
        by_cases hk : a = k
        · rw [decide_eq_true hk] at h2
          cases h2
          exact ⟨z, rfl, by rw [hk]; exact hp⟩
        · rw [decide_eq_false hk] at h2
          cases hlt : ltI a k with
          | true => rw [hlt] at h2; exact btGet_all hl h2
          | false => rw [hlt] at h2; exact btGet_all h1 h2
end
end Go.Ab
