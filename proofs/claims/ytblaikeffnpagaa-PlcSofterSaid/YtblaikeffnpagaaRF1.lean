/- The functions that the laws of this seat reach, each as a Lean function, and that the code computes it. Conditions: those of each statement. -/
import Derived.Test.YtblaikeffnpagaaBb5
import Derived.Test.YtblaikeffnpagaaRows
set_option linter.unusedVariables false
set_option linter.unusedSimpArgs false
namespace Go.Proofs.Ytblaikeffnpagaa
open Go Go.Ab Go.Proofs
theorem hm0 : Try.prog.follows .mixedOrders = true := by kernel_rfl
-- madrigal/pitch.better
def pitch_better (a_0 : Int) (a_1 : Int) (b_0 : Int) (b_1 : Int) : Option (Int) :=
  br (!decide (a_1 = b_1)) (
    br (decide (b_1 < a_1)) (
      br (decide (b_1 < a_1)) (
        some (-1))
      (
        br ((decide (a_0 = b_0)) && (decide (a_1 = b_1))) (
          some 0)
        (
          some 1)))
    (
      br (decide (a_1 = b_1)) (
        br (decide (a_0 < b_0)) (
          some (-1))
        (
          br ((decide (a_0 = b_0)) && (decide (a_1 = b_1))) (
            some 0)
          (
            some 1)))
      (
        br ((decide (a_0 = b_0)) && (decide (a_1 = b_1))) (
          some 0)
        (
          some 1))))
  (
    br (decide (a_1 = b_1)) (
      br (decide (a_0 < b_0)) (
        some (-1))
      (
        br ((decide (a_0 = b_0)) && (decide (a_1 = b_1))) (
          some 0)
        (
          some 1)))
    (
      br ((decide (a_0 = b_0)) && (decide (a_1 = b_1))) (
        some 0)
      (
        some 1)))
noncomputable def pitch_better.fn : AbFn Try.prog := mkFn hm0 [] [.agg [.int .i64, .int .i64], .agg [.int .i64, .int .i64]] [] [] [] [] 47 Try.f47 (1, ⟨1, 0, [(0, .int .i64)], []⟩) [] (fun d => match d with | (a_0, a_1, b_0, b_1) => pitch_better a_0 a_1 b_0 b_1) Try.func47 (by kernel_rfl) (by kernel_rfl) (by intro d; kernel_rfl)

end Go.Proofs.Ytblaikeffnpagaa
