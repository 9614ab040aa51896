/- madrigallaw21.MusicKnown is true: run. No condition. -/
import Derived.Test.YtfemipneckhngaaGreatZA2
set_option linter.unusedVariables false
set_option linter.unusedSimpArgs false
namespace Go.Proofs.YtfemipneckhngaaGreat
open Go Go.Ab Go.Proofs
noncomputable section
theorem music_run : isTrue (callK Tryz.prog 100000 SL hk7 60 3 [] noH 0) = true := by kernel_rfl
end
end Go.Proofs.YtfemipneckhngaaGreat
