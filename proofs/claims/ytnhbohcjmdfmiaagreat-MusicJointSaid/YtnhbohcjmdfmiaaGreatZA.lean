/- madrigallaw21.awake is true: run. No condition. -/
import Derived.Test.YtnhbohcjmdfmiaaGreatZQb
set_option linter.unusedVariables false
set_option linter.unusedSimpArgs false
namespace Go.Proofs.YtnhbohcjmdfmiaaGreat
open Go Go.Ab Go.Proofs
noncomputable section
theorem awake_run : runsTo (callK Tryz.prog 100000 SL (kB (kA (hkU hk1))) 60 9 [] noH 0) (.bool true) = true := by kernel_rfl
theorem hAwake_ok : HkAt Tryz.prog 9 hTrue := true_at (kB_ok (kA_ok hk1_ok)) awake_run
end
end Go.Proofs.YtnhbohcjmdfmiaaGreat
