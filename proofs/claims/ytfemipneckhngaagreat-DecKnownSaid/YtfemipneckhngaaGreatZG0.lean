/- The program's drawn regions may stand as they do: functions 0 to 99. No condition. -/
import Derived.Test.YtfemipneckhngaaGreatZS
set_option linter.unusedVariables false
set_option linter.unusedSimpArgs false
namespace Go.Proofs.YtfemipneckhngaaGreat
open Go Go.Ab Go.Proofs
theorem good0 : goodPart Tryz.prog (50 * 0) 50 = true := by kernel_rfl
theorem good1 : goodPart Tryz.prog (50 * 1) 50 = true := by kernel_rfl
theorem good2 : goodPart Tryz.prog (50 * 2) 50 = true := by kernel_rfl
theorem good3 : goodPart Tryz.prog (50 * 3) 50 = true := by kernel_rfl
theorem good4 : goodPart Tryz.prog (50 * 4) 50 = true := by kernel_rfl
theorem good5 : goodPart Tryz.prog (50 * 5) 50 = true := by kernel_rfl
theorem good6 : goodPart Tryz.prog (50 * 6) 50 = true := by kernel_rfl
end Go.Proofs.YtfemipneckhngaaGreat
