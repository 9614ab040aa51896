/- MusicSilent at its shapes of 2 channels: runs. No condition. -/
import Derived.Test.YtdbdkbaplnjnmaaGreatZX
set_option linter.unusedVariables false
set_option linter.unusedSimpArgs false
namespace Go.Proofs.YtdbdkbaplnjnmaaGreat
open Go Go.Ab Go.Proofs
theorem run2_000 : lawAt 8000 10 2 0 false false = true := by kernel_rfl
theorem run2_001 : lawAt 8000 10 2 0 false true = true := by kernel_rfl
theorem run2_010 : lawAt 8000 10 2 0 true false = true := by kernel_rfl
theorem run2_011 : lawAt 8000 10 2 0 true true = true := by kernel_rfl
theorem run2_100 : lawAt 8000 20 2 0 false false = true := by kernel_rfl
theorem run2_101 : lawAt 8000 20 2 0 false true = true := by kernel_rfl
theorem run2_110 : lawAt 8000 20 2 0 true false = true := by kernel_rfl
theorem run2_111 : lawAt 8000 20 2 0 true true = true := by kernel_rfl
theorem run2_200 : lawAt 16000 10 2 0 false false = true := by kernel_rfl
theorem run2_201 : lawAt 16000 10 2 0 false true = true := by kernel_rfl
theorem run2_210 : lawAt 16000 10 2 0 true false = true := by kernel_rfl
theorem run2_211 : lawAt 16000 10 2 0 true true = true := by kernel_rfl
theorem at2_0 (su jo : Bool) : lawAt 8000 10 2 0 su jo = true := by
  cases su <;> cases jo
  · exact run2_000
  · exact run2_001
  · exact run2_010
  · exact run2_011
theorem at2_1 (su jo : Bool) : lawAt 8000 20 2 0 su jo = true := by
  cases su <;> cases jo
  · exact run2_100
  · exact run2_101
  · exact run2_110
  · exact run2_111
theorem at2_2 (su jo : Bool) : lawAt 16000 10 2 0 su jo = true := by
  cases su <;> cases jo
  · exact run2_200
  · exact run2_201
  · exact run2_210
  · exact run2_211
end Go.Proofs.YtdbdkbaplnjnmaaGreat
