/- madrigallaw24.FrameKnown is true: run. No condition. -/
import Derived.Test.YtfemipneckhngaaGreatZA
set_option linter.unusedVariables false
set_option linter.unusedSimpArgs false
namespace Go.Proofs.YtfemipneckhngaaGreat
open Go Go.Ab Go.Proofs
noncomputable section
theorem frame_run : isTrue (callJ Tryz.prog 100000 SL (hkU hk3) 60 4 [] noH 0) = true := by kernel_rfl
end
end Go.Proofs.YtfemipneckhngaaGreat
