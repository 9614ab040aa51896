/- The plain law AllocNothing over the Lean functions. Condition: the values are ones that Go can hold. -/
import Derived.Test.YtdimjdlomgpbgaaH9
set_option linter.unusedVariables false
set_option linter.unusedSimpArgs false
namespace Go.Proofs.Ytdimjdlomgpbgaa.Pure
open Go Go.Ab

theorem may_total {ws ls : List Int} {total : Int} (h0 : 0 ≤ total) (h1 : total ≤ 1048576) :
    ∃ b, madrigallaw18_may 100 total ws ls = some (b, ws, ls) ∧ (b = true → ws.length ≤ 40 ∧ ls.length = ws.length ∧ ∀ a, a < ws.length → okAt ws ls a) := by
  by_cases a1 : 40 < ws.length
  · refine ⟨false, ?_, fun h => by cases h⟩
    unfold madrigallaw18_may
    rw [br_f (by simp; omega), br_f (by simp; omega), br_t (by simp; omega)]
  by_cases a2 : ls.length = ws.length
  · rcases may_ok (by omega) a2 h0 h1 with ⟨h, e⟩ | ⟨h, e⟩
    · exact ⟨true, e, fun _ => ⟨by omega, a2, h⟩⟩
    · exact ⟨false, e, fun h => by cases h⟩
  · refine ⟨false, ?_, fun h => by cases h⟩
    unfold madrigallaw18_may
    rw [br_f (by simp; omega), br_f (by simp; omega), br_f (by simp; omega), br_t (by simp; omega)]

theorem S_zero : ∀ n, S (fun _ => 0) n = 0 := by
  intro n
  induction n with
  | zero => rfl
  | succ n ih => rw [S_succ, ih]; rfl
theorem fin_zero (ws ls : List Int) : fin 0 ws ls = fun _ => 0 := by
  have e : B0 0 (S (gf ws) ws.length) (gf ws) = fun _ => 0 := by
    funext a; unfold B0; simp
  unfold fin
  rw [e, S_zero]; rfl

theorem noth_l0 {bits : Int} {b0 b1 : List Int} {m : Nat} (hm : m ≤ 40) :
    ∃ o, madrigallaw18_AllocNothing_l0 100 100 (bits, 0, b0, b1, (List.range m).map (fun _ => (0 : Int))) = some o ∧ o = .inl (bits, b0, b1) := by
  have hlen : ((List.range m).map (fun _ => (0 : Int))).length = m := by simp
  have hget : ∀ i, ((List.range m).map (fun _ => (0 : Int))).getD i 0 = 0 := by
    intro i
    simp only [List.getD, List.getElem?_map]
    cases (List.range m)[i]? <;> rfl
  generalize (List.range m).map (fun _ => (0 : Int)) = l at *
  refine itN_ok (I := Int × Int × List Int × List Int × List Int) (O := (Int × List Int × List Int) ⊕ (Bool × List Int × List Int))
    (fun d => ∃ i : Nat, i ≤ m ∧ d = (bits, (i : Int), b0, b1, l)) (fun d => ((m : Int) - d.2.1).toNat) (fun _ o => o = .inl (bits, b0, b1)) ?_ 100 (bits, 0, b0, b1, l) ⟨0, by omega, rfl⟩ (by simp only; omega)
  rintro rec _ ⟨i, h, rfl⟩ ih
  simp only [br_ite, hlen, hget]
  by_cases hi : (i : Int) < m
  · have w2 : IntKind.i64.wrap ((i : Int) + 1) = ((i + 1 : Nat) : Int) := by rw [wid (by omega) (by omega)]; omega
    rw [if_pos hi, need_t (by omega), br_f (by simp), w2]
    exact ih _ ⟨i + 1, by omega, rfl⟩ (by simp only; omega)
  · rw [if_neg hi]; exact ⟨_, rfl, rfl⟩

theorem spl_one (b : Int) : spl b 1 1 = [b] := by
  have : b % 1 = 0 := by omega
  simp [spl, splitAt', this]

theorem AllocNothing : ∀ (bits : Int) (widths : List Int) (loud : List Int), (Lit.int .i64 bits).wf = true → (∀ n ∈ widths, (Lit.int .i64 n).wf = true) → widths.length * 8 ≤ 140737488351232 → (∀ n ∈ loud, (Lit.int .i64 n).wf = true) → loud.length * 8 ≤ 140737488351232 → ∃ k, ∃ r1 r2, madrigallaw18_AllocNothing k bits widths loud = some (true, r1, r2) := by
  intro bits ws ls _ _ _ _ _
  refine ⟨100, ws, ls, ?_⟩
  unfold madrigallaw18_AllocNothing
  rw [awake_ok]
  simp only [Option.bind_some]
  rw [br_f (b := !true) rfl]
  obtain ⟨b, e, hb⟩ := may_total (ws := ws) (ls := ls) (total := 0) (by omega) (by omega)
  rw [e]
  simp only [Option.bind_some]
  cases b with
  | false => rw [br_t (b := !false) rfl]
  | true =>
    obtain ⟨hm, hl, hok⟩ := hb rfl
    rw [br_f (b := !true) rfl]
    simp only [br_ite]
    by_cases a3 : bits < 0
    · rw [if_pos a3]
    rw [if_neg a3]
    by_cases a4 : 1048576 < bits
    · rw [if_pos a4]
    rw [if_neg a4, share_ok hm hl (by omega) (by omega) hok, fin_zero]
    simp only [Option.bind_some]
    rw [br_f (by simp), br_f (by simp)]
    obtain ⟨o, e0, rfl⟩ := noth_l0 (bits := bits) (b0 := ws) (b1 := ls) hm
    rw [e0]
    have e1 : alloc_Pieces 100 1 = some [1] := by kernel_rfl
    have e2 : alloc_Pulses 100 5 0 = some 0 := by kernel_rfl
    have e3 := split_ok 1 bits (by omega) (by omega)
    have ec : cb bits = bits := by unfold cb; omega
    have ep : pc 1 = 1 := by decide
    rw [ec, ep, (by rfl : (1 : Int).toNat = 1), spl_one] at e3
    simp only [Option.bind_some]
    rw [e1]
    simp only [Option.bind_some]
    rw [ints_same (by simp)]
    simp only [Option.bind_some]
    rw [br_t rfl, e3]
    simp only [Option.bind_some]
    rw [ints_same (by simp)]
    simp only [Option.bind_some]
    rw [br_t rfl, e2]
    rfl
end Go.Proofs.Ytdimjdlomgpbgaa.Pure
