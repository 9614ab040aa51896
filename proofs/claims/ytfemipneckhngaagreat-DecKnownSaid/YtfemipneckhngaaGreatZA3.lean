/- madrigallaw25.awake is true: run. No condition. -/
import Derived.Test.YtfemipneckhngaaGreatZR
set_option linter.unusedVariables false
set_option linter.unusedSimpArgs false
namespace Go.Proofs.YtfemipneckhngaaGreat
open Go Go.Ab Go.Proofs
noncomputable section
theorem awake25_run : runsTo (callK Tryz.prog 100000 SL hk8 60 24 [] noH 0) (.bool true) = true := by kernel_rfl
def hk9L : List (Nat × (List CV → Option CV)) := [(117, hMul), (119, hClamp), (197, hFac), (39, hSat), (283, hDiv), (24, hTrue)]
def hk9 : FuncId → List CV → Option CV := hkM (2 ^ 117 + 2 ^ 283 + 2 ^ 119 + 2 ^ 39 + 2 ^ 197 + 2 ^ 24) hk9L
theorem hk9_ok : HkOk Tryz.prog (hkU hk9) := hkM_ok fun p hp => by
  unfold hk9L at hp
  simp only [List.mem_cons, List.not_mem_nil, or_false] at hp
  rcases hp with rfl | rfl | rfl | rfl | rfl | rfl
  · exact hMul_ok
  · exact hClamp_ok
  · exact hFac_ok
  · exact hSat_ok
  · exact hDiv_ok
  · exact true_at hk8_ok awake25_run
def hk10 : CallI := hkY (hkU hk9)
theorem hk10_ok : HkOk Tryz.prog hk10 := hkY_ok hk9_ok
end
end Go.Proofs.YtfemipneckhngaaGreat
