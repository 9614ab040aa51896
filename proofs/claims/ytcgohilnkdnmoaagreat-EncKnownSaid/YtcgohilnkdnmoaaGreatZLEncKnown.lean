/- The statement EncKnown: the code of the law returns true. Conditions: none ahead of the given statement. -/
import Derived.Test.YtcgohilnkdnmoaaGreatZL1
import Derived.Test.YtcgohilnkdnmoaaGreatZJ
set_option linter.unusedVariables false
set_option linter.unusedSimpArgs false
namespace Go.Proofs.YtcgohilnkdnmoaaGreat.encKnown
open Go Go.Ab Go.ChangeShapes Go.WideShapes Go.ChangeAt Go.RowKit
theorem joined : joinedFacts Tryz.pinned.checked.prog 3 Tryz.f3 Rows.encKnownSpec Rows.encKnownRow = true := by
  unfold joinedFacts
  simp only [j0, j1, j2, j3, j4, Bool.true_and, Bool.and_true]
  kernel_rfl
theorem over : Rows.encKnownRow.holds Tryz.pinned (OpenSpec.ofChange Rows.encKnownSpec) :=
  OpenClaim.holds_of_wide 3 Tryz.f3 rfl rfl rfl rfl rfl rfl rfl ⟨rfl, rfl, rfl, rfl, rfl⟩ rfl rfl rfl rfl rfl (by kernel_rfl) Tryz.func3 joined
    (of_decide_eq_true (by kernel_rfl)) (by unfold Func.isWrapper; first | (rw [if_pos (by decide +kernel)]; kernel_rfl) | (rw [if_neg (by decide +kernel)]; exact ⟨rfl, rfl⟩))
    (fun os started H enc _ => lifted os started H enc)
end Go.Proofs.YtcgohilnkdnmoaaGreat.encKnown
namespace Go.Proofs.YtcgohilnkdnmoaaGreat
theorem encKnown_holds : Rows.EncKnownSaid := encKnown.over
#print axioms encKnown_holds
end Go.Proofs.YtcgohilnkdnmoaaGreat
