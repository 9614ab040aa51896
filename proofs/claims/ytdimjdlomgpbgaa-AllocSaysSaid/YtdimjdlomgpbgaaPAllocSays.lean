/- The plain law AllocSays over the Lean functions. Condition: the values are ones that Go can hold. -/
import Derived.Test.YtdimjdlomgpbgaaH2
set_option linter.unusedVariables false
set_option linter.unusedSimpArgs false
namespace Go.Proofs.Ytdimjdlomgpbgaa.Pure
open Go Go.Ab
theorem AllocSays : ∀ (n : Int) (bits : Int), (Lit.int .i64 n).wf = true → (Lit.int .i64 bits).wf = true → ∃ k, madrigallaw18_AllocSays k n bits = some true := by
  intro n bits hn hb
  have hn := i64_b hn
  refine ⟨100, ?_⟩
  have hhi := pc_hi n
  unfold madrigallaw18_AllocSays
  obtain ⟨r, e1, e2⟩ := pulses_paid n bits
  rw [awake_ok]
  simp only [Option.bind_some]
  rw [br_f (b := !true) rfl, e1]
  simp only [Option.bind_some]
  rw [e2]
  simp only [Option.bind_some]
  rw [br_t (by simp), pieces_ok n hn.1 hn.2]
  simp only [Option.bind_some]
  rw [rpieces_ok]
  simp only [Option.bind_some]
  rw [ints_same (by rw [pcs_len]; omega)]
  simp only [Option.bind_some]
  rw [br_t rfl, split_ok n bits hn.1 hn.2]
  simp only [Option.bind_some]
  rw [rsplit_ok]
  simp only [Option.bind_some]
  rw [ints_same (by rw [spl_len]; omega)]
  rfl
end Go.Proofs.Ytdimjdlomgpbgaa.Pure
