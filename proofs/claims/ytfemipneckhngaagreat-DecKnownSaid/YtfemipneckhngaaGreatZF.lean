/- The functions that the laws of this seat reach, each as a Lean function, and that the code computes it. Conditions: those of each statement. -/
import Derived.Test.YtfemipneckhngaaGreatBb5
import Derived.Test.YtfemipneckhngaaGreatRows
set_option linter.unusedVariables false
set_option linter.unusedSimpArgs false
namespace Go.Proofs.YtfemipneckhngaaGreat
open Go Go.Ab Go.Proofs
theorem hm0 : Tryz.prog.follows .mixedOrders = true := by kernel_rfl
def str0 : ByteArray := ⟨#[0, 1, 2, 2, 3, 3, 3, 3, 4, 4, 4, 4, 4, 4, 4, 4, 5, 5, 5, 5, 5, 5, 5, 5, 5, 5, 5, 5, 5, 5, 5, 5, 6, 6, 6, 6, 6, 6, 6, 6, 6, 6, 6, 6, 6, 6, 6, 6, 6, 6, 6, 6, 6, 6, 6, 6, 6, 6, 6, 6, 6, 6, 6, 6, 7, 7, 7, 7, 7, 7, 7, 7, 7, 7, 7, 7, 7, 7, 7, 7, 7, 7, 7, 7, 7, 7, 7, 7, 7, 7, 7, 7, 7, 7, 7, 7, 7, 7, 7, 7, 7, 7, 7, 7, 7, 7, 7, 7, 7, 7, 7, 7, 7, 7, 7, 7, 7, 7, 7, 7, 7, 7, 7, 7, 7, 7, 7, 7, 8, 8, 8, 8, 8, 8, 8, 8, 8, 8, 8, 8, 8, 8, 8, 8, 8, 8, 8, 8, 8, 8, 8, 8, 8, 8, 8, 8, 8, 8, 8, 8, 8, 8, 8, 8, 8, 8, 8, 8, 8, 8, 8, 8, 8, 8, 8, 8, 8, 8, 8, 8, 8, 8, 8, 8, 8, 8, 8, 8, 8, 8, 8, 8, 8, 8, 8, 8, 8, 8, 8, 8, 8, 8, 8, 8, 8, 8, 8, 8, 8, 8, 8, 8, 8, 8, 8, 8, 8, 8, 8, 8, 8, 8, 8, 8, 8, 8, 8, 8, 8, 8, 8, 8, 8, 8, 8, 8, 8, 8, 8, 8, 8, 8, 8, 8, 8, 8, 8, 8, 8, 8, 8, 8, 8, 8, 8, 8]⟩
-- madrigal/fix.Clamp
def fix_Clamp (a : Int) (lo : Int) (hi : Int) : Option (Int) :=
  br (decide (hi < lo)) (
    some lo)
  (
    br (decide (a < lo)) (
      some lo)
    (
      br (decide (hi < a)) (
        some hi)
      (
        some a)))
noncomputable def fix_Clamp.fn : AbFn Tryz.prog := mkFn hm0 [] [.int .i64, .int .i64, .int .i64] [] [] [] [] 119 Tryz.f119 (1, ⟨1, 0, [(0, .int .i64)], []⟩) [] (fun d => match d with | (a, lo, hi) => fix_Clamp a lo hi) Tryz.func119 (by kernel_rfl) (by kernel_rfl) (by intro d; kernel_rfl)

-- madrigal/fix.Sat16
def fix_Sat16 (a : Int) : Option (Int) :=
  (fix_Clamp a (-32768) 32767).bind fun t4 =>
  some t4
noncomputable def fix_Sat16.fn : AbFn Tryz.prog := mkFn hm0 [fix_Clamp.fn] [.int .i64] [] [] [] [] 39 Tryz.f39 (1, ⟨1, 0, [(0, .int .i64)], []⟩) [] (fun d => match d with | a => fix_Sat16 a) Tryz.func39 (by kernel_rfl) (by kernel_rfl) (by intro d; kernel_rfl)

-- madrigal/fix.factor
def fix_factor (a : Int) : Option (Int) :=
  (fix_Clamp a (-2147483648) 2147483648).bind fun t4 =>
  some t4
noncomputable def fix_factor.fn : AbFn Tryz.prog := mkFn hm0 [fix_Clamp.fn] [.int .i64] [] [] [] [] 197 Tryz.f197 (1, ⟨1, 0, [(0, .int .i64)], []⟩) [] (fun d => match d with | a => fix_factor a) Tryz.func197 (by kernel_rfl) (by kernel_rfl) (by intro d; kernel_rfl)

-- madrigal/fix.Mul
def fix_Mul (a : Int) (b : Int) (s : Int) : Option (Int) :=
  (fix_factor a).bind fun t9 =>
  (fix_factor b).bind fun t11 =>
  br (decide (s = 0)) (
    some (IntKind.i64.wrap (t9 * t11)))
  (
    br (decide (s < 0)) (
      some 0)
    (
      br (decide (62 < s)) (
        some 0)
      (
        need (0 ≤ (IntKind.i64.wrap (s - 1))) <|
        need (0 ≤ s) <|
        some ((IntKind.i64.wrap ((IntKind.i64.wrap (t9 * t11)) + (IntKind.i64.wrap (1 * 2 ^ (min ((IntKind.i64.wrap (s - 1)).toNat) 64))))).fdiv (2 ^ (min (s.toNat) 64))))))
noncomputable def fix_Mul.fn : AbFn Tryz.prog := mkFn hm0 [fix_factor.fn] [.int .i64, .int .i64, .int .i64] [] [] [] [] 117 Tryz.f117 (1, ⟨1, 0, [(0, .int .i64)], []⟩) [] (fun d => match d with | (a, b, s) => fix_Mul a b s) Tryz.func117 (by kernel_rfl) (by kernel_rfl) (by intro d; kernel_rfl)

-- madrigal/fix.Div
def fix_Div (a : Int) (b : Int) (s : Int) : Option (Int) :=
  (fix_factor a).bind fun t9 =>
  (fix_factor b).bind fun t11 =>
  br (decide (t11 = 0)) (
    some 0)
  (
    br (decide (s < 0)) (
      some 0)
    (
      br (decide (30 < s)) (
        some 0)
      (
        need (0 ≤ s) <|
        need (t11 ≠ 0) <|
        let t27 := IntKind.i64.wrap ((IntKind.i64.wrap (t9 * 2 ^ (min (s.toNat) 64))).tdiv t11)
        need (t11 ≠ 0) <|
        br (!decide (((IntKind.i64.wrap (t9 * 2 ^ (min (s.toNat) 64))).tmod t11) = 0)) (
          br (!((decide ((IntKind.i64.wrap (t9 * 2 ^ (min (s.toNat) 64))) < 0)) == (decide (t11 < 0)))) (
            some (IntKind.i64.wrap (t27 - 1)))
          (
            some t27))
        (
          some t27))))
noncomputable def fix_Div.fn : AbFn Tryz.prog := mkFn hm0 [fix_factor.fn] [.int .i64, .int .i64, .int .i64] [] [] [] [] 283 Tryz.f283 (1, ⟨1, 0, [(0, .int .i64)], []⟩) [] (fun d => match d with | (a, b, s) => fix_Div a b s) Tryz.func283 (by kernel_rfl) (by kernel_rfl) (by intro d; kernel_rfl)

-- madrigal/fix.Sqrt
def fix_Sqrt_l0F (k : Nat) (rec : (Int × Int × Int) → Option (Int)) : (Int × Int × Int) → Option (Int) := fun d => match d with
  | (rest, r, bit) =>
    br (decide (0 < bit)) (
      br (decide ((IntKind.u64.wrap (r + bit)) ≤ rest)) (
        rec (IntKind.u64.wrap (rest - (IntKind.u64.wrap (r + bit))), IntKind.u64.wrap ((r.fdiv 2) + bit), bit.fdiv 4))
      (
        rec (rest, r.fdiv 2, bit.fdiv 4)))
    (
      some r)
def fix_Sqrt_l0 (k : Nat) : Nat → (Int × Int × Int) → Option (Int) := itN (fix_Sqrt_l0F k)
def fix_Sqrt (k : Nat) (a : Int) : Option (Int) :=
  br (decide (a < 0)) (
    some 0)
  (
    (fix_Sqrt_l0 k k (IntKind.u64.wrap a, 0, 4611686018427387904)).bind fun r =>
    some (IntKind.i64.wrap r))
noncomputable def fix_Sqrt.T (k : Nat) : List (AbFn Tryz.prog) := []
noncomputable def fix_Sqrt_l0.p (k : Nat) : Pc Tryz.prog 0 := mkLoop hm0 (fix_Sqrt.T k) [] [] [] 0 (loopB 0 (bodyOf Tryz.f135)) ⟨31, 0, [(3, .int .u64), (4, .int .u64), (5, .int .u64)], []⟩ (2, ⟨31, 0, [(4, .int .u64)], []⟩) [] (fix_Sqrt_l0F k) k (by kernel_rfl) (by kernel_rfl) (by intro rec d; kernel_rfl)
noncomputable def fix_Sqrt.fn (k : Nat) : AbFn Tryz.prog := mkFn hm0 (fix_Sqrt.T k) [.int .i64] [] [(0, fix_Sqrt_l0.p k)] [] [fix_Sqrt_l0.p k] 135 Tryz.f135 (1, ⟨1, 0, [(0, .int .i64)], []⟩) [] (fun d => match d with | a => fix_Sqrt k a) Tryz.func135 (by kernel_rfl) (by kernel_rfl) (by intro d; kernel_rfl)

-- math/bits.Len64
def bits_Len64_c7 (k : Nat) : (Int × Int) → Option (Int) := fun d => match d with
  | (x, n) =>
    br (decide (256 ≤ x)) (
      need (0 ≤ (IntKind.u8.wrap (x.fdiv 256)) ∧ (IntKind.u8.wrap (x.fdiv 256)) < ((str0).size : Int)) <|
      some (IntKind.i64.wrap ((IntKind.i64.wrap (n + 8)) + (IntKind.i64.wrap (((str0).data.getD ((IntKind.u8.wrap (x.fdiv 256)).toNat) 0).toNat : Int)))))
    (
      need (0 ≤ (IntKind.u8.wrap x) ∧ (IntKind.u8.wrap x) < ((str0).size : Int)) <|
      some (IntKind.i64.wrap (n + (IntKind.i64.wrap (((str0).data.getD ((IntKind.u8.wrap x).toNat) 0).toNat : Int)))))
def bits_Len64_c4 (k : Nat) : (Int × Int) → Option (Int) := fun d => match d with
  | (x, n) =>
    br (decide (65536 ≤ x)) (
      (bits_Len64_c7 k (x.fdiv 65536, IntKind.i64.wrap (n + 16))).bind fun n1 =>
      some n1)
    (
      (bits_Len64_c7 k (x, n)).bind fun n2 =>
      some n2)
def bits_Len64 (k : Nat) (x : Int) : Option (Int) :=
  br (decide (4294967296 ≤ x)) (
    (bits_Len64_c4 k (x.fdiv 4294967296, 32)).bind fun n =>
    some n)
  (
    (bits_Len64_c4 k (x, 0)).bind fun n1 =>
    some n1)
noncomputable def bits_Len64.T (k : Nat) : List (AbFn Tryz.prog) := []
noncomputable def bits_Len64_c7.p (k : Nat) : Pc Tryz.prog 0 := mkCut hm0 (bits_Len64.T k) [] [] [] (cutB 7 (bodyOf Tryz.f125)) ⟨25, 0, [(0, .int .u64), (2, .int .i64)], []⟩ (1, ⟨25, 0, [(2, .int .i64)], []⟩) [] (bits_Len64_c7 k) (by kernel_rfl) (by kernel_rfl) (by intro d; kernel_rfl)
noncomputable def bits_Len64_c4.p (k : Nat) : Pc Tryz.prog 0 := mkCut hm0 (bits_Len64.T k) [] [(7, bits_Len64_c7.p k)] [bits_Len64_c7.p k] (cutB 4 (bodyOf Tryz.f125)) ⟨25, 0, [(0, .int .u64), (2, .int .i64)], []⟩ (1, ⟨25, 0, [(2, .int .i64)], []⟩) [] (bits_Len64_c4 k) (by kernel_rfl) (by kernel_rfl) (by intro d; kernel_rfl)
noncomputable def bits_Len64.fn (k : Nat) : AbFn Tryz.prog := mkFn hm0 (bits_Len64.T k) [.int .u64] [] [] [(4, bits_Len64_c4.p k), (7, bits_Len64_c7.p k)] [bits_Len64_c4.p k] 125 Tryz.f125 (1, ⟨1, 0, [(0, .int .i64)], []⟩) [] (fun d => match d with | x => bits_Len64 k x) Tryz.func125 (by kernel_rfl) (by kernel_rfl) (by intro d; kernel_rfl)

-- madrigal/fix.Len
def fix_Len (k : Nat) (a : Int) : Option (Int) :=
  br (decide (a ≤ 0)) (
    some 0)
  (
    (bits_Len64 k (IntKind.u64.wrap a)).bind fun t7 =>
    some t7)
noncomputable def fix_Len.fn (k : Nat) : AbFn Tryz.prog := mkFn hm0 [bits_Len64.fn k] [.int .i64] [] [] [] [] 264 Tryz.f264 (1, ⟨1, 0, [(0, .int .i64)], []⟩) [] (fun d => match d with | a => fix_Len k a) Tryz.func264 (by kernel_rfl) (by kernel_rfl) (by intro d; kernel_rfl)

-- madrigal/fix.series
def fix_series_l0F (k : Nat) (rec : (Int × Int × Nat × Nat × Int × Int × List Int) → Option (Int × List Int)) : (Int × Int × Nat × Nat × Int × Int × List Int) → Option (Int × List Int) := fun d => match d with
  | (z, s, t12_o, t12_n, t13, t14, t12) =>
    br (decide (t14 < t13)) (
      need (0 ≤ t14 ∧ t14 < ((t12_n : Nat) : Int)) <|
      (fix_Mul z s 30).bind fun t21 =>
      rec (z, IntKind.i64.wrap ((t12.getD (t12_o + (t14.toNat)) 0) + t21), t12_o, t12_n, t13, IntKind.i64.wrap (t14 + 1), t12))
    (
      some (s, t12))
def fix_series_l0 (k : Nat) : Nat → (Int × Int × Nat × Nat × Int × Int × List Int) → Option (Int × List Int) := itN (fix_series_l0F k)
def fix_series (k : Nat) (z : Int) (l : List Int) : Option (Int × List Int) :=
  need (0 ≤ (0 : Int) ∧ (0 : Int) < (((l.length) : Nat) : Int)) <|
  need (0 ≤ (1 : Int) ∧ (1 : Int) ≤ (((l.length) : Nat) : Int)) <|
  (fix_series_l0 k k (z, l.getD 0 0, 1, ((((l.length) : Nat) : Int) - 1).toNat, (((((((l.length) : Nat) : Int) - 1).toNat) : Nat) : Int), 0, l)).bind fun (s, b0) =>
  some (s, b0)
noncomputable def fix_series.T (k : Nat) : List (AbFn Tryz.prog) := [fix_Mul.fn]
noncomputable def fix_series_l0.p (k : Nat) : Pc Tryz.prog 1 := mkLoop hm0 (fix_series.T k) [] [] [] 0 (loopB 0 (bodyOf Tryz.f274)) ⟨25, 1, [(0, .int .i64), (5, .int .i64), (12, .part 0), (13, .int .i64), (14, .int .i64)], [(.ints .i64, .ro)]⟩ (2, ⟨25, 1, [(5, .int .i64)], [(.ints .i64, .ro)]⟩) [] (fix_series_l0F k) k (by kernel_rfl) (by kernel_rfl) (by intro rec d; kernel_rfl)
noncomputable def fix_series.fn (k : Nat) : AbFn Tryz.prog := mkFn hm0 (fix_series.T k) [.int .i64, .whole 0] [(.ints .i64, .ro)] [(0, fix_series_l0.p k)] [] [fix_series_l0.p k] 274 Tryz.f274 (1, ⟨1, 1, [(0, .int .i64)], [(.ints .i64, .ro)]⟩) [] (fun d => match d with | (z, l) => fix_series k z l) Tryz.func274 (by kernel_rfl) (by kernel_rfl) (by intro d; kernel_rfl)

-- madrigal/fix.Cos
def fix_Cos_c7 (k : Nat) : (Int × Bool) → Option (Int) := fun d => match d with
  | (a, turned) =>
    br (decide (a ≤ 8192)) (
      (fix_Mul a 1686629713 14).bind fun t21 =>
      (fix_Mul t21 t21 30).bind fun t24 =>
      (fix_series k t24 [(-296), 26631, (-1491308), 44739243, (-536870912), 1073741824]).bind fun (t26, b0) =>
      (fix_Mul t26 1 15).bind fun t38 =>
      br turned (
        some (IntKind.i64.wrap (0 - t38)))
      (
        some t38))
    (
      (fix_Mul (IntKind.i64.wrap (16384 - a)) 1686629713 14).bind fun t29 =>
      (fix_Mul t29 t29 30).bind fun t33 =>
      (fix_series k t33 [2959, (-213044), 8947849, (-178956971), 1073741824]).bind fun (t35, b0_1) =>
      (fix_Mul t29 t35 30).bind fun t36 =>
      (fix_Mul t36 1 15).bind fun t38_1 =>
      br turned (
        some (IntKind.i64.wrap (0 - t38_1)))
      (
        some t38_1))
def fix_Cos_c4 (k : Nat) : (Int) → Option (Int) := fun d => match d with
  | a =>
    br (decide (16384 < a)) (
      (fix_Cos_c7 k (IntKind.i64.wrap (32768 - a), decide (16384 < a))).bind fun t2 =>
      some t2)
    (
      (fix_Cos_c7 k (a, decide (16384 < a))).bind fun t2_1 =>
      some t2_1)
def fix_Cos (k : Nat) (a : Int) : Option (Int) :=
  br (decide (32768 < (IntKind.i64.wrap ((BitVec.ofInt 64 a &&& BitVec.ofInt 64 65535).toNat : Int)))) (
    (fix_Cos_c4 k (IntKind.i64.wrap (65536 - (IntKind.i64.wrap ((BitVec.ofInt 64 a &&& BitVec.ofInt 64 65535).toNat : Int))))).bind fun t2 =>
    some t2)
  (
    (fix_Cos_c4 k (IntKind.i64.wrap ((BitVec.ofInt 64 a &&& BitVec.ofInt 64 65535).toNat : Int))).bind fun t2_1 =>
    some t2_1)
noncomputable def fix_Cos.T (k : Nat) : List (AbFn Tryz.prog) := [fix_Mul.fn, fix_series.fn k]
noncomputable def fix_Cos_c7.p (k : Nat) : Pc Tryz.prog 0 := mkCut hm0 (fix_Cos.T k) [] [] [] (cutB 7 (bodyOf Tryz.f235)) ⟨43, 0, [(0, .int .i64), (3, .bool)], []⟩ (1, ⟨43, 0, [(2, .int .i64)], []⟩) [] (fix_Cos_c7 k) (by kernel_rfl) (by kernel_rfl) (by intro d; kernel_rfl)
noncomputable def fix_Cos_c4.p (k : Nat) : Pc Tryz.prog 0 := mkCut hm0 (fix_Cos.T k) [] [(7, fix_Cos_c7.p k)] [fix_Cos_c7.p k] (cutB 4 (bodyOf Tryz.f235)) ⟨43, 0, [(0, .int .i64)], []⟩ (1, ⟨43, 0, [(2, .int .i64)], []⟩) [] (fix_Cos_c4 k) (by kernel_rfl) (by kernel_rfl) (by intro d; kernel_rfl)
noncomputable def fix_Cos.fn (k : Nat) : AbFn Tryz.prog := mkFn hm0 (fix_Cos.T k) [.int .i64] [] [] [(4, fix_Cos_c4.p k), (7, fix_Cos_c7.p k)] [fix_Cos_c4.p k] 235 Tryz.f235 (1, ⟨1, 0, [(0, .int .i64)], []⟩) [] (fun d => match d with | a => fix_Cos k a) Tryz.func235 (by kernel_rfl) (by kernel_rfl) (by intro d; kernel_rfl)

-- madrigal/fix.Sin
def fix_Sin (k : Nat) (a : Int) : Option (Int) :=
  (fix_Cos k (IntKind.i64.wrap ((IntKind.i64.wrap ((BitVec.ofInt 64 a &&& BitVec.ofInt 64 65535).toNat : Int)) - 16384))).bind fun t6 =>
  some t6
noncomputable def fix_Sin.fn (k : Nat) : AbFn Tryz.prog := mkFn hm0 [fix_Cos.fn k] [.int .i64] [] [] [] [] 243 Tryz.f243 (1, ⟨1, 0, [(0, .int .i64)], []⟩) [] (fun d => match d with | a => fix_Sin k a) Tryz.func243 (by kernel_rfl) (by kernel_rfl) (by intro d; kernel_rfl)

end Go.Proofs.YtfemipneckhngaaGreat
