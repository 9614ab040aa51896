/- madrigallaw26.awake is true: run. No condition. -/
import Derived.Test.YtcgohilnkdnmoaaGreatZHN
set_option linter.unusedVariables false
set_option linter.unusedSimpArgs false
namespace Go.Proofs.YtcgohilnkdnmoaaGreat
open Go Go.Ab Go.Proofs
noncomputable section
theorem awake_run : runsTo (callK Tryz.prog 100000 SL (kN (kD (kB (kC (kA (hkU hkQ)))))) 60 4 [] noH 0) (.bool true) = true := by kernel_rfl
def hkZL : List (Nat × (List CV → Option CV)) := [(52, hMul), (89, hClamp), (94, hFac), (45, hSat), (225, hDiv), (4, hTrue), (5, hQ)]
def hkZ : FuncId → List CV → Option CV := hkM (2 ^ 52 + 2 ^ 225 + 2 ^ 89 + 2 ^ 45 + 2 ^ 94 + 2 ^ 4 + 2 ^ 5) hkZL
theorem hkZ_ok : HkOk Tryz.prog (hkU hkZ) := hkM_ok fun p hp => by
  unfold hkZL at hp
  simp only [List.mem_cons, List.not_mem_nil, or_false] at hp
  rcases hp with rfl | rfl | rfl | rfl | rfl | rfl | rfl
  · exact hMul_ok
  · exact hClamp_ok
  · exact hFac_ok
  · exact hSat_ok
  · exact hDiv_ok
  · exact true_at (kN_ok (kD_ok (kB_ok (kC_ok (kA_ok hkQ_ok))))) awake_run
  · exact hQ_ok
end
end Go.Proofs.YtcgohilnkdnmoaaGreat
