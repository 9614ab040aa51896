/- The law MusicSilent: what its guards let through. No condition. -/
import Derived.Test.YtdbdkbaplnjnmaaGreatZE
import Derived.Test.YtdbdkbaplnjnmaaGreatZX
set_option linter.unusedVariables false
set_option linter.unusedSimpArgs false
namespace Go.Proofs.YtdbdkbaplnjnmaaGreat
open Go Go.Ab Go.Proofs
theorem rate_eq (r : Int) : tabs_Rate r = some (decide (r = 8000) || decide (r = 16000) || decide (r = 24000)) := by
  unfold tabs_Rate
  by_cases h1 : r = 8000 <;> by_cases h2 : r = 16000 <;> by_cases h3 : r = 24000 <;> simp [br, h1, h2, h3]
theorem good_eq (k : Nat) (r ms ch fi : Int) : music_Good k r ms ch fi = some ((decide (fi = 0) || (decide (fi = 17) && decide (r = 24000))) && (decide (r = 8000) || decide (r = 16000) || decide (r = 24000)) && (decide (ms = 10) || decide (ms = 20)) && (decide (ch = 1) || decide (ch = 2))) := by
  unfold music_Good music_Good_c2
  simp only [rate_eq, Option.bind_some]
  cases h0 : decide (fi = 0) <;> cases h17 : decide (fi = 17) <;> cases h8 : decide (r = 8000) <;> cases h16 : decide (r = 16000) <;> cases h24 : decide (r = 24000) <;> cases hm : decide (ms = 10) <;> cases hm2 : decide (ms = 20) <;> cases h1 : decide (ch = 1) <;> cases h2 : decide (ch = 2) <;> rfl
theorem guard_some (k : Nat) (r ms ch fi : Int) (su jo : Bool) : madrigallaw21_MusicSilent k r ms ch fi su jo = some true ∨ ((r = 8000 ∧ (ms = 10 ∨ ms = 20) ∨ r = 16000 ∧ ms = 10) ∧ (ch = 1 ∨ ch = 2) ∧ fi = 0) := by
  unfold madrigallaw21_MusicSilent
  simp only [awake_c, good_eq, madrigallaw21_small, Option.bind_some]
  cases hg : ((decide (fi = 0) || (decide (fi = 17) && decide (r = 24000))) && (decide (r = 8000) || decide (r = 16000) || decide (r = 24000)) && (decide (ms = 10) || decide (ms = 20)) && (decide (ch = 1) || decide (ch = 2))) with
  | false => exact .inl rfl
  | true =>
    simp only [Bool.and_eq_true, Bool.or_eq_true, decide_eq_true_eq] at hg
    obtain ⟨⟨⟨hf, hr⟩, hm⟩, hc⟩ := hg
    have big : ∀ x : Int, x = 240000 ∨ x = 480000 ∨ x = 320000 → decide (IntKind.i64.wrap x ≤ 160000) = false := by
      intro x hx
      rcases hx with rfl | rfl | rfl <;> decide
    rcases hr with (rfl | rfl) | rfl
    · right
      refine ⟨.inl ⟨rfl, hm⟩, hc, ?_⟩
      rcases hf with h | ⟨_, h⟩
      · exact h
      · omega
    · rcases hm with rfl | rfl
      · right
        refine ⟨.inr ⟨rfl, rfl⟩, hc, ?_⟩
        rcases hf with h | ⟨_, h⟩
        · exact h
        · omega
      · left; rw [show (16000 : Int) * 20 = 320000 from rfl, big _ (.inr (.inr rfl))]; rfl
    · left
      rcases hm with rfl | rfl
      · rw [show (24000 : Int) * 10 = 240000 from rfl, big _ (.inl rfl)]; rfl
      · rw [show (24000 : Int) * 20 = 480000 from rfl, big _ (.inr (.inl rfl))]; rfl
theorem guard_j (k : Nat) (r ms ch fi : Int) (su jo : Bool) : (madrigallaw21_MusicSilent.fn k).r.J Unit [.agg [.int .i64 r, .int .i64 ms, .int .i64 ch, .int .i64 fi], .bool su, .bool jo] [] 0 yes = (madrigallaw21_MusicSilent k r ms ch fi su jo).bind fun o => yes (.bool o) [] := by kernel_rfl
end Go.Proofs.YtdbdkbaplnjnmaaGreat
