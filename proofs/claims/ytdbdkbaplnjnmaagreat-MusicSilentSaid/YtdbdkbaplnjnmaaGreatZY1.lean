/- MusicSilent at its shapes of 1 channels: runs. No condition. -/
import Derived.Test.YtdbdkbaplnjnmaaGreatZX
set_option linter.unusedVariables false
set_option linter.unusedSimpArgs false
namespace Go.Proofs.YtdbdkbaplnjnmaaGreat
open Go Go.Ab Go.Proofs
theorem run1_000 : lawAt 8000 10 1 0 false false = true := by kernel_rfl
theorem run1_001 : lawAt 8000 10 1 0 false true = true := by kernel_rfl
theorem run1_010 : lawAt 8000 10 1 0 true false = true := by kernel_rfl
theorem run1_011 : lawAt 8000 10 1 0 true true = true := by kernel_rfl
theorem run1_100 : lawAt 8000 20 1 0 false false = true := by kernel_rfl
theorem run1_101 : lawAt 8000 20 1 0 false true = true := by kernel_rfl
theorem run1_110 : lawAt 8000 20 1 0 true false = true := by kernel_rfl
theorem run1_111 : lawAt 8000 20 1 0 true true = true := by kernel_rfl
theorem run1_200 : lawAt 16000 10 1 0 false false = true := by kernel_rfl
theorem run1_201 : lawAt 16000 10 1 0 false true = true := by kernel_rfl
theorem run1_210 : lawAt 16000 10 1 0 true false = true := by kernel_rfl
theorem run1_211 : lawAt 16000 10 1 0 true true = true := by kernel_rfl
theorem at1_0 (su jo : Bool) : lawAt 8000 10 1 0 su jo = true := by
  cases su <;> cases jo
  · exact run1_000
  · exact run1_001
  · exact run1_010
  · exact run1_011
theorem at1_1 (su jo : Bool) : lawAt 8000 20 1 0 su jo = true := by
  cases su <;> cases jo
  · exact run1_100
  · exact run1_101
  · exact run1_110
  · exact run1_111
theorem at1_2 (su jo : Bool) : lawAt 16000 10 1 0 su jo = true := by
  cases su <;> cases jo
  · exact run1_200
  · exact run1_201
  · exact run1_210
  · exact run1_211
end Go.Proofs.YtdbdkbaplnjnmaaGreat
