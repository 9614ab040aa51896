/- pvq.Most, for all numbers that may be: run. No condition. -/
import Derived.Test.YtfemipneckhngaaGreatZS
set_option linter.unusedVariables false
set_option linter.unusedSimpArgs false
namespace Go.Proofs.YtfemipneckhngaaGreat
open Go Go.Ab Go.Proofs
noncomputable section
def mostT : List (Int × Int) := [(1, 64), (2, 64), (3, 64), (4, 64), (5, 64), (6, 64), (7, 53), (8, 36), (9, 27), (10, 22), (11, 18), (12, 16), (13, 15), (14, 13), (15, 12), (16, 12)]
def tabOk (f : FuncId) (l : List (Int × Int)) : Bool := l.all fun p => runsTo (callK Tryz.prog 100000 SL (hkU hk1) 60 f [.i p.1] noH 0) (.i p.2)
theorem most_run : tabOk 207 mostT = true := by kernel_rfl
end
end Go.Proofs.YtfemipneckhngaaGreat
