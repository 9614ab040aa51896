/- madrigallaw24.awake is true: run. No condition. -/
import Derived.Test.YtfemipneckhngaaGreatZN
set_option linter.unusedVariables false
set_option linter.unusedSimpArgs false
namespace Go.Proofs.YtfemipneckhngaaGreat
open Go Go.Ab Go.Proofs
noncomputable section
theorem awake24_run : runsTo (callJ Tryz.prog 100000 SL (hkU hk2) 60 16 [] noH 0) (.bool true) = true := by kernel_rfl
def hk3 : FuncId → List CV → Option CV := hkM (2 ^ 117 + 2 ^ 283 + 2 ^ 119 + 2 ^ 39 + 2 ^ 197 + 2 ^ 207 + 2 ^ 16) [(117, hMul), (119, hClamp), (197, hFac), (39, hSat), (283, hDiv), (207, hMost), (16, hTrue)]
theorem hk3_ok : HkOk Tryz.prog (hkU hk3) := hkM_ok fun p hp => by
  simp only [List.mem_cons, List.not_mem_nil, or_false] at hp
  rcases hp with rfl | rfl | rfl | rfl | rfl | rfl | rfl
  · exact hMul_ok
  · exact hClamp_ok
  · exact hFac_ok
  · exact hSat_ok
  · exact hDiv_ok
  · exact tab_at most_run
  · exact true_at hk2_ok awake24_run
end
end Go.Proofs.YtfemipneckhngaaGreat
