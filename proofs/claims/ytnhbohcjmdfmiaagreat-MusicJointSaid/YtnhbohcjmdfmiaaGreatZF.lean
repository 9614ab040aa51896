/- The functions that the laws of this seat reach, each as a Lean function, and that the code computes it. Conditions: those of each statement. -/
import Derived.Test.YtnhbohcjmdfmiaaGreatBb6
import Derived.Test.YtnhbohcjmdfmiaaGreatRows
set_option linter.unusedVariables false
set_option linter.unusedSimpArgs false
namespace Go.Proofs.YtnhbohcjmdfmiaaGreat
open Go Go.Ab Go.Proofs
set_option maxRecDepth 100000
theorem hm0 : Tryz.prog.follows .mixedOrders = true := by kernel_rfl
-- madrigal/fix.Clamp
def fix_Clamp (a : Int) (lo : Int) (hi : Int) : Option (Int) :=
  br (decide (hi < lo)) (
    some lo)
  (
    br (decide (a < lo)) (
      some lo)
    (
      br (decide (hi < a)) (
        some hi)
      (
        some a)))
noncomputable def fix_Clamp.fn : AbFn Tryz.prog := mkFn hm0 [] [.int .i64, .int .i64, .int .i64] [] [] [] [] 122 Tryz.f122 (1, ⟨1, 0, [(0, .int .i64)], []⟩) [] (fun d => match d with | (a, lo, hi) => fix_Clamp a lo hi) Tryz.func122 (by kernel_rfl) (by kernel_rfl) (by intro d; kernel_rfl)

-- madrigal/fix.Sat16
def fix_Sat16 (a : Int) : Option (Int) :=
  (fix_Clamp a (-32768) 32767).bind fun t4 =>
  some t4
noncomputable def fix_Sat16.fn : AbFn Tryz.prog := mkFn hm0 [fix_Clamp.fn] [.int .i64] [] [] [] [] 67 Tryz.f67 (1, ⟨1, 0, [(0, .int .i64)], []⟩) [] (fun d => match d with | a => fix_Sat16 a) Tryz.func67 (by kernel_rfl) (by kernel_rfl) (by intro d; kernel_rfl)

-- madrigal/fix.factor
def fix_factor (a : Int) : Option (Int) :=
  (fix_Clamp a (-2147483648) 2147483648).bind fun t4 =>
  some t4
noncomputable def fix_factor.fn : AbFn Tryz.prog := mkFn hm0 [fix_Clamp.fn] [.int .i64] [] [] [] [] 165 Tryz.f165 (1, ⟨1, 0, [(0, .int .i64)], []⟩) [] (fun d => match d with | a => fix_factor a) Tryz.func165 (by kernel_rfl) (by kernel_rfl) (by intro d; kernel_rfl)

-- madrigal/fix.Mul
def fix_Mul (a : Int) (b : Int) (s : Int) : Option (Int) :=
  (fix_factor a).bind fun t9 =>
  (fix_factor b).bind fun t11 =>
  br (decide (s = 0)) (
    some (IntKind.i64.wrap (t9 * t11)))
  (
    br (decide (s < 0)) (
      some 0)
    (
      br (decide (62 < s)) (
        some 0)
      (
        need (0 ≤ (IntKind.i64.wrap (s - 1))) <|
        need (0 ≤ s) <|
        some ((IntKind.i64.wrap ((IntKind.i64.wrap (t9 * t11)) + (IntKind.i64.wrap (1 * 2 ^ (min ((IntKind.i64.wrap (s - 1)).toNat) 64))))).fdiv (2 ^ (min (s.toNat) 64))))))
noncomputable def fix_Mul.fn : AbFn Tryz.prog := mkFn hm0 [fix_factor.fn] [.int .i64, .int .i64, .int .i64] [] [] [] [] 120 Tryz.f120 (1, ⟨1, 0, [(0, .int .i64)], []⟩) [] (fun d => match d with | (a, b, s) => fix_Mul a b s) Tryz.func120 (by kernel_rfl) (by kernel_rfl) (by intro d; kernel_rfl)

-- madrigal/fix.Div
def fix_Div (a : Int) (b : Int) (s : Int) : Option (Int) :=
  (fix_factor a).bind fun t9 =>
  (fix_factor b).bind fun t11 =>
  br (decide (t11 = 0)) (
    some 0)
  (
    br (decide (s < 0)) (
      some 0)
    (
      br (decide (30 < s)) (
        some 0)
      (
        need (0 ≤ s) <|
        need (t11 ≠ 0) <|
        let t27 := IntKind.i64.wrap ((IntKind.i64.wrap (t9 * 2 ^ (min (s.toNat) 64))).tdiv t11)
        need (t11 ≠ 0) <|
        br (!decide (((IntKind.i64.wrap (t9 * 2 ^ (min (s.toNat) 64))).tmod t11) = 0)) (
          br (!((decide ((IntKind.i64.wrap (t9 * 2 ^ (min (s.toNat) 64))) < 0)) == (decide (t11 < 0)))) (
            some (IntKind.i64.wrap (t27 - 1)))
          (
            some t27))
        (
          some t27))))
noncomputable def fix_Div.fn : AbFn Tryz.prog := mkFn hm0 [fix_factor.fn] [.int .i64, .int .i64, .int .i64] [] [] [] [] 226 Tryz.f226 (1, ⟨1, 0, [(0, .int .i64)], []⟩) [] (fun d => match d with | (a, b, s) => fix_Div a b s) Tryz.func226 (by kernel_rfl) (by kernel_rfl) (by intro d; kernel_rfl)

end Go.Proofs.YtnhbohcjmdfmiaaGreat
