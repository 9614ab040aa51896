/- madrigallaw21.awake is true: run. No condition. -/
import Derived.Test.YtfemipneckhngaaGreatZQ
set_option linter.unusedVariables false
set_option linter.unusedSimpArgs false
namespace Go.Proofs.YtfemipneckhngaaGreat
open Go Go.Ab Go.Proofs
noncomputable section
theorem awake21_run : runsTo (callK Tryz.prog 100000 SL hk5 60 6 [] noH 0) (.bool true) = true := by kernel_rfl
def hk6L : List (Nat × (List CV → Option CV)) := hk4L ++ [(6, hTrue)]
def hk6 : FuncId → List CV → Option CV := hkM (2 ^ 117 + 2 ^ 283 + 2 ^ 119 + 2 ^ 39 + 2 ^ 197 + 2 ^ 207 + 2 ^ 210 + 2 ^ 238 + 2 ^ 235 + 2 ^ 135 + 2 ^ 6) hk6L
theorem hk6_ok : HkOk Tryz.prog (hkU hk6) := hkM_ok fun p hp => by
  unfold hk6L at hp
  rcases List.mem_append.1 hp with hp | hp
  · exact hk4L_ok p hp
  · obtain rfl := List.mem_singleton.1 hp
    exact true_at hk5_ok awake21_run
def hk7 : CallI := hkX (2 ^ 198 + 2 ^ 208 + 2 ^ 219) [(198, invE), (208, vecE), (219, idxE)] (hkU hk6)
theorem hk7_ok : HkOk Tryz.prog hk7 := hkX_ok (calls_ok hk4_ok) (fun p hp => by
  simp only [List.mem_cons, List.not_mem_nil, or_false] at hp
  rcases hp with rfl | rfl | rfl
  · exact List.all_eq_true.1 inv_run
  · exact List.all_eq_true.1 vec_run
  · exact List.all_eq_true.1 idx_run) hk6_ok
end
end Go.Proofs.YtfemipneckhngaaGreat
