/- The program's drawn regions may stand as they do, part 2. No condition. -/
import Derived.Test.YtnhbohcjmdfmiaaGreatZS
set_option linter.unusedVariables false
set_option linter.unusedSimpArgs false
namespace Go.Proofs.YtnhbohcjmdfmiaaGreat
open Go Go.Ab Go.Proofs
theorem good3 : goodPart Tryz.prog (50 * 3) 50 = true := by kernel_rfl
theorem good4 : goodPart Tryz.prog (50 * 4) 50 = true := by kernel_rfl
end Go.Proofs.YtnhbohcjmdfmiaaGreat
