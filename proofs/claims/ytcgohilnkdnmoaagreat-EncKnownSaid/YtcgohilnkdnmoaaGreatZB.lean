/- Calls with slices, run once. No condition. -/
import Derived.Test.YtcgohilnkdnmoaaGreatZQ
import Derived.Test.YtcgohilnkdnmoaaGreatZQb
set_option linter.unusedVariables false
set_option linter.unusedSimpArgs false
namespace Go.Proofs.YtcgohilnkdnmoaaGreat
open Go Go.Ab Go.Proofs
noncomputable section
def bestE : List (List MA × MR) := [([.s .i64 80 0, .i (.int .i64 10)], .sc (.tuple [.int .i64 0, .int .i64 0]))]
def kept_kB (f : FuncId) (l : List (List MA × MR)) : Bool := l.all fun p => memoOk (callK Tryz.prog 100000 SL (kC (kA (hkU hk1))) 60) f p.1 p.2
theorem best_run : kept_kB 146 bestE = true := by kernel_rfl
def kBL : List (Nat × List (List MA × MR)) := [(146, bestE)]
theorem kBL_ok : ∀ p ∈ kBL, ∀ q ∈ p.2, memoOk (callK Tryz.prog 100000 SL (kC (kA (hkU hk1))) 60) p.1 q.1 q.2 = true := fun p hp => by
  unfold kBL at hp
  simp only [List.mem_cons, List.not_mem_nil, or_false] at hp
  rcases hp with rfl
  · exact List.all_eq_true.1 best_run
def kB (hk : CallI) : CallI := hkX (2 ^ 146) kBL hk
theorem kB_ok {hk : CallI} (h : HkOk Tryz.prog hk) : HkOk Tryz.prog (kB hk) := hkX_ok (calls_ok (kC_ok (kA_ok hk1_ok))) kBL_ok h
end
end Go.Proofs.YtcgohilnkdnmoaaGreat
