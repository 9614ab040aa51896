/- madrigallaw26.EncKnown is true: run. No condition. -/
import Derived.Test.YtcgohilnkdnmoaaGreatZA
set_option linter.unusedVariables false
set_option linter.unusedSimpArgs false
namespace Go.Proofs.YtcgohilnkdnmoaaGreat
open Go Go.Ab Go.Proofs
noncomputable section
theorem law_run : isTrue (callK Tryz.prog 100000 SL (kN (kD (kB (kC (kA (hkU hkZ)))))) 60 3 [] noH 0) = true := by kernel_rfl
end
end Go.Proofs.YtcgohilnkdnmoaaGreat
