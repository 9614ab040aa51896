/- The program's drawn regions may stand as they do, part 1. No condition. -/
import Derived.Test.YtnhbohcjmdfmiaaGreatZS
set_option linter.unusedVariables false
set_option linter.unusedSimpArgs false
namespace Go.Proofs.YtnhbohcjmdfmiaaGreat
open Go Go.Ab Go.Proofs
theorem good0 : goodPart Tryz.prog (50 * 0) 50 = true := by kernel_rfl
theorem good1 : goodPart Tryz.prog (50 * 1) 50 = true := by kernel_rfl
theorem good2 : goodPart Tryz.prog (50 * 2) 50 = true := by kernel_rfl
end Go.Proofs.YtnhbohcjmdfmiaaGreat
