/- The program's drawn regions may stand as they do, part 2. No condition. -/
import Derived.Test.YtcgohilnkdnmoaaGreatZS
set_option linter.unusedVariables false
set_option linter.unusedSimpArgs false
namespace Go.Proofs.YtcgohilnkdnmoaaGreat
open Go Go.Ab Go.Proofs
theorem good4 : goodPart Tryz.prog (50 * 4) 50 = true := by kernel_rfl
theorem good5 : goodPart Tryz.prog (50 * 5) 50 = true := by kernel_rfl
theorem good6 : goodPart Tryz.prog (50 * 6) 50 = true := by kernel_rfl
theorem good7 : goodPart Tryz.prog (50 * 7) 50 = true := by kernel_rfl
end Go.Proofs.YtcgohilnkdnmoaaGreat
