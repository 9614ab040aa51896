/- Plain laws of the Lean functions. Conditions: those of each statement. -/
import Derived.Test.YtdimjdlomgpbgaaH5
set_option linter.unusedVariables false
set_option linter.unusedSimpArgs false
namespace Go.Proofs.Ytdimjdlomgpbgaa.Pure
open Go Go.Ab

def S (f : Nat → Int) : Nat → Int
  | 0 => 0
  | n + 1 => S f n + f n
theorem S_succ (f : Nat → Int) (n : Nat) : S f (n + 1) = S f n + f n := rfl
theorem S_bd {f : Nat → Int} {k : Int} : ∀ n, (∀ a, a < n → 0 ≤ f a ∧ f a ≤ k) → 0 ≤ S f n ∧ S f n ≤ n * k := by
  intro n
  induction n with
  | zero => intro _; simp [S]
  | succ n ih =>
    intro h
    have a := ih (fun a ha => h a (by omega))
    have b := h n (by omega)
    have e : ((n + 1 : Nat) : Int) * k = n * k + k := by rw [Int.natCast_add, Int.add_mul]; simp
    rw [e]; unfold S; omega
theorem S_ge {f : Nat → Int} : ∀ n, (∀ a, a < n → 0 ≤ f a) → ∀ a, a < n → f a ≤ S f n := by
  intro n
  induction n with
  | zero => intro _ a h; omega
  | succ n ih =>
    intro h a ha
    have hp : 0 ≤ S f n := by
      have : ∀ k, k ≤ n → 0 ≤ S f k := by
        intro k
        induction k with
        | zero => intro _; exact Int.le_refl _
        | succ k ihk => intro hk; have := ihk (by omega); have := h k (by omega); unfold S; omega
      exact this n (Nat.le_refl n)
    have hn := h n (by omega)
    unfold S
    by_cases e : a = n
    · subst e; omega
    · have := ih (fun a ha => h a (by omega)) a (by omega); omega

def okAt (ws ls : List Int) (a : Nat) : Prop := 1 ≤ ws.getD a 0 ∧ ws.getD a 0 ≤ 1000 ∧ 0 ≤ ls.getD a 0 ∧ ls.getD a 0 ≤ 1000

theorem share_l0 {ws ls : List Int} (hm : ws.length ≤ 40) (hl : ls.length = ws.length) (total : Int) :
    ∃ o, alloc_Share_l0 100 100 (total, 0, (ws.length : Int), 0, ws, ls) = some o ∧
      (((∀ a, a < ws.length → okAt ws ls a) ∧ o = .inl (total, S (fun a => ws.getD a 0) ws.length, ws, ls)) ∨ ((¬ ∀ a, a < ws.length → okAt ws ls a) ∧ o = .inr (1, ws, ls))) := by
  refine itN_ok (I := Int × Int × Int × Int × List Int × List Int) (O := (Int × Int × List Int × List Int) ⊕ (Int × List Int × List Int))
    (fun d => ∃ i : Nat, i ≤ ws.length ∧ (∀ a, a < i → okAt ws ls a) ∧ d = (total, S (fun a => ws.getD a 0) i, (ws.length : Int), (i : Int), ws, ls))
    (fun d => ((ws.length : Int) - d.2.2.2.1).toNat) (fun _ o => ((∀ a, a < ws.length → okAt ws ls a) ∧ o = .inl (total, S (fun a => ws.getD a 0) ws.length, ws, ls)) ∨ ((¬ ∀ a, a < ws.length → okAt ws ls a) ∧ o = .inr (1, ws, ls)))
    ?_ 100 _ ⟨0, by omega, fun a h => by omega, rfl⟩ (by simp only; omega)
  rintro rec _ ⟨i, h, hok, rfl⟩ ih
  simp only [br_ite, Int.toNat_natCast]
  by_cases hi : (i : Int) < (ws.length : Int)
  · rw [if_pos hi, need_t (by omega)]
    by_cases a1 : ws.getD i 0 < 1
    · rw [if_pos a1]
      exact ⟨_, rfl, .inr ⟨fun hc => by have := (hc i (by omega)).1; omega, rfl⟩⟩
    rw [if_neg a1]
    by_cases a2 : 1000 < ws.getD i 0
    · rw [if_pos a2]
      exact ⟨_, rfl, .inr ⟨fun hc => by have := (hc i (by omega)).2.1; omega, rfl⟩⟩
    rw [if_neg a2, need_t (by omega)]
    by_cases a3 : ls.getD i 0 < 0
    · rw [if_pos a3]
      exact ⟨_, rfl, .inr ⟨fun hc => by have := (hc i (by omega)).2.2.1; omega, rfl⟩⟩
    rw [if_neg a3, need_t (by omega)]
    by_cases a4 : 1000 < ls.getD i 0
    · rw [if_pos a4]
      exact ⟨_, rfl, .inr ⟨fun hc => by have := (hc i (by omega)).2.2.2; omega, rfl⟩⟩
    rw [if_neg a4]
    have hs := S_bd (f := fun a => ws.getD a 0) (k := 1000) i (fun a ha => by have := hok a ha; unfold okAt at this; omega)
    have w2 : IntKind.i64.wrap ((i : Int) + 1) = ((i + 1 : Nat) : Int) := by rw [wid (by omega) (by omega)]; omega
    have w3 : IntKind.i64.wrap (S (fun a => ws.getD a 0) i + ws.getD i 0) = S (fun a => ws.getD a 0) (i + 1) := by rw [wid (by omega) (by omega)]; rfl
    rw [w2, w3]
    exact ih _ ⟨i + 1, by omega, fun a ha => by
      by_cases e : a = i
      · subst e; exact ⟨by omega, by omega, by omega, by omega⟩
      · exact hok a (by omega), rfl⟩ (by simp only; omega)
  · rw [if_neg hi]
    have e : i = ws.length := by omega
    subst e
    exact ⟨_, rfl, .inl ⟨hok, rfl⟩⟩

theorem may_ok {ws ls : List Int} (hm : ws.length ≤ 40) (hl : ls.length = ws.length) {total : Int} (h0 : 0 ≤ total) (h1 : total ≤ 1048576) :
    ((∀ a, a < ws.length → okAt ws ls a) ∧ madrigallaw18_may 100 total ws ls = some (true, ws, ls)) ∨ ((¬ ∀ a, a < ws.length → okAt ws ls a) ∧ madrigallaw18_may 100 total ws ls = some (false, ws, ls)) := by
  have hl0 : ∃ o, madrigallaw18_may_l0 100 100 (0, ws, ls) = some o ∧
      (((∀ a, a < ws.length → okAt ws ls a) ∧ o = .inl (ws, ls)) ∨ ((¬ ∀ a, a < ws.length → okAt ws ls a) ∧ o = .inr (false, ws, ls))) := by
    refine itN_ok (I := Int × List Int × List Int) (O := (List Int × List Int) ⊕ (Bool × List Int × List Int))
      (fun d => ∃ i : Nat, i ≤ ws.length ∧ (∀ a, a < i → okAt ws ls a) ∧ d = ((i : Int), ws, ls))
      (fun d => ((ws.length : Int) - d.1).toNat) (fun _ o => ((∀ a, a < ws.length → okAt ws ls a) ∧ o = .inl (ws, ls)) ∨ ((¬ ∀ a, a < ws.length → okAt ws ls a) ∧ o = .inr (false, ws, ls)))
      ?_ 100 _ ⟨0, by omega, fun a h => by omega, rfl⟩ (by simp only; omega)
    rintro rec _ ⟨i, h, hok, rfl⟩ ih
    simp only [br_ite, Int.toNat_natCast]
    by_cases hi : (i : Int) < (ws.length : Int)
    · rw [if_pos hi, need_t (by omega)]
      by_cases a1 : ws.getD i 0 < 1
      · rw [if_pos a1]
        exact ⟨_, rfl, .inr ⟨fun hc => by have := (hc i (by omega)).1; omega, rfl⟩⟩
      rw [if_neg a1, need_t (by omega)]
      by_cases a2 : 1000 < ws.getD i 0
      · rw [if_pos a2]
        exact ⟨_, rfl, .inr ⟨fun hc => by have := (hc i (by omega)).2.1; omega, rfl⟩⟩
      rw [if_neg a2, need_t (by omega)]
      by_cases a3 : ls.getD i 0 < 0
      · rw [if_pos a3]
        exact ⟨_, rfl, .inr ⟨fun hc => by have := (hc i (by omega)).2.2.1; omega, rfl⟩⟩
      rw [if_neg a3, need_t (by omega)]
      by_cases a4 : 1000 < ls.getD i 0
      · rw [if_pos a4]
        exact ⟨_, rfl, .inr ⟨fun hc => by have := (hc i (by omega)).2.2.2; omega, rfl⟩⟩
      rw [if_neg a4]
      have w2 : IntKind.i64.wrap ((i : Int) + 1) = ((i + 1 : Nat) : Int) := by rw [wid (by omega) (by omega)]; omega
      rw [w2]
      exact ih _ ⟨i + 1, by omega, fun a ha => by
        by_cases e : a = i
        · subst e; exact ⟨by omega, by omega, by omega, by omega⟩
        · exact hok a (by omega), rfl⟩ (by simp only; omega)
    · rw [if_neg hi]
      have e : i = ws.length := by omega
      subst e
      exact ⟨_, rfl, .inl ⟨hok, rfl⟩⟩
  obtain ⟨o, e, h⟩ := hl0
  unfold madrigallaw18_may
  simp only [br_ite]
  rw [if_neg (by omega), if_neg (by omega), if_neg (by omega), br_f (by simp [hl]), e]
  rcases h with ⟨h, rfl⟩ | ⟨h, rfl⟩
  · exact .inl ⟨h, rfl⟩
  · exact .inr ⟨h, rfl⟩

/-- what each band has at first -/
def B0 (total all : Int) (W : Nat → Int) (a : Nat) : Int := total * W a / all

theorem B0_bd {total all : Int} {W : Nat → Int} {a : Nat} (h0 : 0 ≤ total) (h1 : total ≤ 1048576) (hw : 0 ≤ W a) (hw2 : W a ≤ all) (ha : 1 ≤ all) : 0 ≤ B0 total all W a ∧ B0 total all W a ≤ total := by
  unfold B0
  refine ⟨Int.ediv_nonneg (Int.mul_nonneg h0 hw) (by omega), ?_⟩
  exact Int.ediv_le_of_le_mul (by omega) (Int.mul_le_mul_of_nonneg_left hw2 h0)

theorem left_bd {total all : Int} {W : Nat → Int} (ha : 1 ≤ all) : ∀ i : Nat, all * S (B0 total all W) i ≤ total * S W i ∧ total * S W i ≤ all * (S (B0 total all W) i + i) := by
  intro i
  induction i with
  | zero => simp [S]
  | succ i ih =>
    have a := Int.mul_ediv_self_le (x := total * W i) (k := all) (by omega)
    have b := Int.lt_mul_ediv_self_add (x := total * W i) (k := all) (by omega)
    have e1 : all * S (B0 total all W) (i + 1) = all * S (B0 total all W) i + all * (total * W i / all) := by rw [S_succ, Int.mul_add]; rfl
    have e2 : total * S W (i + 1) = total * S W i + total * W i := by rw [S_succ, Int.mul_add]
    have e3 : all * (S (B0 total all W) (i + 1) + ((i + 1 : Nat) : Int)) = all * (S (B0 total all W) i + i) + all * (total * W i / all) + all := by
      have : S (B0 total all W) (i + 1) = S (B0 total all W) i + total * W i / all := rfl
      have h2 : ((i + 1 : Nat) : Int) = i + 1 := by omega
      rw [this, h2]
      have : S (B0 total all W) i + total * W i / all + ((i : Int) + 1) = (S (B0 total all W) i + i) + total * W i / all + 1 := by omega
      rw [this, Int.mul_add, Int.mul_add, Int.mul_one]
    rw [e3, e2, e1]; omega
end Go.Proofs.Ytdimjdlomgpbgaa.Pure
