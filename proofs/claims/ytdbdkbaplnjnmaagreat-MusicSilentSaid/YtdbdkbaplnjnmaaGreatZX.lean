/- Calls that the runs of this law take as told. No condition. -/
import Derived.Test.YtdbdkbaplnjnmaaGreatZW
import Derived.Test.YtdbdkbaplnjnmaaGreatZA
set_option linter.unusedVariables false
set_option linter.unusedSimpArgs false
namespace Go.Proofs.YtdbdkbaplnjnmaaGreat
open Go Go.Ab Go.Proofs
noncomputable section
def hkZL : List (Nat × (List CV → Option CV)) := [(67, hMul), (69, hClamp), (98, hFac), (26, hSat), (167, hDiv), (5, hTrue)]
def hkZ : FuncId → List CV → Option CV := hkM (2 ^ 67 + 2 ^ 69 + 2 ^ 98 + 2 ^ 26 + 2 ^ 167 + 2 ^ 5) hkZL
theorem hkZ_ok : HkOk Tryz.prog (hkU hkZ) := hkM_ok fun p hp => by
  unfold hkZL at hp
  simp only [List.mem_cons, List.not_mem_nil, or_false] at hp
  rcases hp with rfl | rfl | rfl | rfl | rfl | rfl
  · exact hMul_ok
  · exact hClamp_ok
  · exact hFac_ok
  · exact hSat_ok
  · exact hDiv_ok
  · exact hAwake_ok
def shp (r ms ch fi : Int) : CV := .oth (.agg [.int .i64 r, .int .i64 ms, .int .i64 ch, .int .i64 fi])
def lawAt (r ms ch fi : Int) (su jo : Bool) : Bool := isTrue (callK Tryz.prog 100000 SL (kI (hkU hkZ)) 60 3 [shp r ms ch fi, .bool su, .bool jo] noH 0)
end
end Go.Proofs.YtdbdkbaplnjnmaaGreat
