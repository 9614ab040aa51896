/- madrigallaw25.DecKnown is true: run. No condition. -/
import Derived.Test.YtfemipneckhngaaGreatZA3
set_option linter.unusedVariables false
set_option linter.unusedSimpArgs false
namespace Go.Proofs.YtfemipneckhngaaGreat
open Go Go.Ab Go.Proofs
noncomputable section
theorem dec_run : isTrue (callK Tryz.prog 100000 SL hk10 60 5 [] noH 0) = true := by kernel_rfl
end
end Go.Proofs.YtfemipneckhngaaGreat
