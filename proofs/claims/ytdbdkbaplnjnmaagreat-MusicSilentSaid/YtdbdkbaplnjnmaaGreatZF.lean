/- The functions that the laws of this seat reach, each as a Lean function, and that the code computes it. Conditions: those of each statement. -/
import Derived.Test.YtdbdkbaplnjnmaaGreatBb5
import Derived.Test.YtdbdkbaplnjnmaaGreatRows
set_option linter.unusedVariables false
set_option linter.unusedSimpArgs false
namespace Go.Proofs.YtdbdkbaplnjnmaaGreat
open Go Go.Ab Go.Proofs
theorem hm0 : Tryz.prog.follows .mixedOrders = true := by kernel_rfl
-- madrigal/fix.Clamp
def fix_Clamp (a : Int) (lo : Int) (hi : Int) : Option (Int) :=
  br (decide (hi < lo)) (
    some lo)
  (
    br (decide (a < lo)) (
      some lo)
    (
      br (decide (hi < a)) (
        some hi)
      (
        some a)))
noncomputable def fix_Clamp.fn : AbFn Tryz.prog := mkFn hm0 [] [.int .i64, .int .i64, .int .i64] [] [] [] [] 69 Tryz.f69 (1, ⟨1, 0, [(0, .int .i64)], []⟩) [] (fun d => match d with | (a, lo, hi) => fix_Clamp a lo hi) Tryz.func69 (by kernel_rfl) (by kernel_rfl) (by intro d; kernel_rfl)

-- madrigal/fix.Sat16
def fix_Sat16 (a : Int) : Option (Int) :=
  (fix_Clamp a (-32768) 32767).bind fun t4 =>
  some t4
noncomputable def fix_Sat16.fn : AbFn Tryz.prog := mkFn hm0 [fix_Clamp.fn] [.int .i64] [] [] [] [] 26 Tryz.f26 (1, ⟨1, 0, [(0, .int .i64)], []⟩) [] (fun d => match d with | a => fix_Sat16 a) Tryz.func26 (by kernel_rfl) (by kernel_rfl) (by intro d; kernel_rfl)

-- madrigal/fix.factor
def fix_factor (a : Int) : Option (Int) :=
  (fix_Clamp a (-2147483648) 2147483648).bind fun t4 =>
  some t4
noncomputable def fix_factor.fn : AbFn Tryz.prog := mkFn hm0 [fix_Clamp.fn] [.int .i64] [] [] [] [] 98 Tryz.f98 (1, ⟨1, 0, [(0, .int .i64)], []⟩) [] (fun d => match d with | a => fix_factor a) Tryz.func98 (by kernel_rfl) (by kernel_rfl) (by intro d; kernel_rfl)

-- madrigal/fix.Mul
def fix_Mul (a : Int) (b : Int) (s : Int) : Option (Int) :=
  (fix_factor a).bind fun t9 =>
  (fix_factor b).bind fun t11 =>
  br (decide (s = 0)) (
    some (IntKind.i64.wrap (t9 * t11)))
  (
    br (decide (s < 0)) (
      some 0)
    (
      br (decide (62 < s)) (
        some 0)
      (
        need (0 ≤ (IntKind.i64.wrap (s - 1))) <|
        need (0 ≤ s) <|
        some ((IntKind.i64.wrap ((IntKind.i64.wrap (t9 * t11)) + (IntKind.i64.wrap (1 * 2 ^ (min ((IntKind.i64.wrap (s - 1)).toNat) 64))))).fdiv (2 ^ (min (s.toNat) 64))))))
noncomputable def fix_Mul.fn : AbFn Tryz.prog := mkFn hm0 [fix_factor.fn] [.int .i64, .int .i64, .int .i64] [] [] [] [] 67 Tryz.f67 (1, ⟨1, 0, [(0, .int .i64)], []⟩) [] (fun d => match d with | (a, b, s) => fix_Mul a b s) Tryz.func67 (by kernel_rfl) (by kernel_rfl) (by intro d; kernel_rfl)

-- madrigal/fix.Div
def fix_Div (a : Int) (b : Int) (s : Int) : Option (Int) :=
  (fix_factor a).bind fun t9 =>
  (fix_factor b).bind fun t11 =>
  br (decide (t11 = 0)) (
    some 0)
  (
    br (decide (s < 0)) (
      some 0)
    (
      br (decide (30 < s)) (
        some 0)
      (
        need (0 ≤ s) <|
        need (t11 ≠ 0) <|
        let t27 := IntKind.i64.wrap ((IntKind.i64.wrap (t9 * 2 ^ (min (s.toNat) 64))).tdiv t11)
        need (t11 ≠ 0) <|
        br (!decide (((IntKind.i64.wrap (t9 * 2 ^ (min (s.toNat) 64))).tmod t11) = 0)) (
          br (!((decide ((IntKind.i64.wrap (t9 * 2 ^ (min (s.toNat) 64))) < 0)) == (decide (t11 < 0)))) (
            some (IntKind.i64.wrap (t27 - 1)))
          (
            some t27))
        (
          some t27))))
noncomputable def fix_Div.fn : AbFn Tryz.prog := mkFn hm0 [fix_factor.fn] [.int .i64, .int .i64, .int .i64] [] [] [] [] 167 Tryz.f167 (1, ⟨1, 0, [(0, .int .i64)], []⟩) [] (fun d => match d with | (a, b, s) => fix_Div a b s) Tryz.func167 (by kernel_rfl) (by kernel_rfl) (by intro d; kernel_rfl)

-- madrigal/tabs.Rate
def tabs_Rate (rate : Int) : Option (Bool) :=
  br (decide (rate = 8000)) (
    some true)
  (
    br (decide (rate = 16000)) (
      some true)
    (
      some (decide (rate = 24000))))
noncomputable def tabs_Rate.fn : AbFn Tryz.prog := mkFn hm0 [] [.int .i64] [] [] [] [] 20 Tryz.f20 (1, ⟨1, 0, [(0, .bool)], []⟩) [] (fun d => match d with | rate => tabs_Rate rate) Tryz.func20 (by kernel_rfl) (by kernel_rfl) (by intro d; kernel_rfl)

-- madrigal/music.Good
def music_Good_c2 (k : Nat) : (Bool × Int × Int × Int × Int) → Option (Bool) := fun d => match d with
  | (first, s_0, s_1, s_2, s_3) =>
    (tabs_Rate s_0).bind fun t19 =>
    br t19 (
      br (decide (s_1 = 10)) (
        br (decide (s_2 = 1)) (
          some first)
        (
          br (decide (s_2 = 2)) (
            some first)
          (
            some false)))
      (
        br (decide (s_1 = 20)) (
          br (decide (s_2 = 1)) (
            some first)
          (
            br (decide (s_2 = 2)) (
              some first)
            (
              some false)))
        (
          some false)))
    (
      some false)
def music_Good (k : Nat) (s_0 : Int) (s_1 : Int) (s_2 : Int) (s_3 : Int) : Option (Bool) :=
  br (decide (s_3 = 0)) (
    (music_Good_c2 k (true, s_0, s_1, s_2, s_3)).bind fun t2 =>
    some t2)
  (
    br (decide (s_3 = 17)) (
      (music_Good_c2 k (decide (s_0 = 24000), s_0, s_1, s_2, s_3)).bind fun t2_1 =>
      some t2_1)
    (
      (music_Good_c2 k (false, s_0, s_1, s_2, s_3)).bind fun t2_2 =>
      some t2_2))
noncomputable def music_Good.T (k : Nat) : List (AbFn Tryz.prog) := [tabs_Rate.fn]
noncomputable def music_Good_c2.p (k : Nat) : Pc Tryz.prog 0 := mkCut hm0 (music_Good.T k) [] [] [] (cutB 2 (bodyOf Tryz.f6)) ⟨43, 0, [(1, .ptr0 0 0), (3, .bool)], [(.vals 4 [.int .i64, .int .i64, .int .i64, .int .i64], .own)]⟩ (1, ⟨43, 0, [(2, .bool)], []⟩) [] (music_Good_c2 k) (by kernel_rfl) (by kernel_rfl) (by intro d; kernel_rfl)
noncomputable def music_Good.fn (k : Nat) : AbFn Tryz.prog := mkFn hm0 (music_Good.T k) [.agg [.int .i64, .int .i64, .int .i64, .int .i64]] [] [] [(2, music_Good_c2.p k)] [music_Good_c2.p k] 6 Tryz.f6 (1, ⟨1, 0, [(0, .bool)], []⟩) [] (fun d => match d with | (s_0, s_1, s_2, s_3) => music_Good k s_0 s_1 s_2 s_3) Tryz.func6 (by kernel_rfl) (by kernel_rfl) (by intro d; kernel_rfl)

-- madrigal/madrigallaw21.small
def madrigallaw21_small (s_0 : Int) (s_1 : Int) (s_2 : Int) (s_3 : Int) : Option (Bool) :=
  some (decide ((IntKind.i64.wrap (s_0 * s_1)) ≤ 160000))
noncomputable def madrigallaw21_small.fn : AbFn Tryz.prog := mkFn hm0 [] [.agg [.int .i64, .int .i64, .int .i64, .int .i64]] [] [] [] [] 7 Tryz.f7 (1, ⟨1, 0, [(0, .bool)], []⟩) [] (fun d => match d with | (s_0, s_1, s_2, s_3) => madrigallaw21_small s_0 s_1 s_2 s_3) Tryz.func7 (by kernel_rfl) (by kernel_rfl) (by intro d; kernel_rfl)

-- madrigal/mdct.Good
def mdct_Good (n : Int) (l : Int) : Option (Bool) :=
  br (decide (4 ≤ n)) (
    br (decide (n ≤ 480)) (
      br (decide (2 ≤ l)) (
        br (decide (l ≤ n)) (
          some (decide (((IntKind.i64.wrap (n - l)).tmod 2) = 0)))
        (
          some false))
      (
        some false))
    (
      some false))
  (
    some false)
noncomputable def mdct_Good.fn : AbFn Tryz.prog := mkFn hm0 [] [.int .i64, .int .i64] [] [] [] [] 96 Tryz.f96 (1, ⟨1, 0, [(0, .bool)], []⟩) [] (fun d => match d with | (n, l) => mdct_Good n l) Tryz.func96 (by kernel_rfl) (by kernel_rfl) (by intro d; kernel_rfl)

-- madrigal/fix.series
def fix_series_l0F (k : Nat) (rec : (Int × Int × Nat × Nat × Int × Int × List Int) → Option (Int × List Int)) : (Int × Int × Nat × Nat × Int × Int × List Int) → Option (Int × List Int) := fun d => match d with
  | (z, s, t12_o, t12_n, t13, t14, t12) =>
    br (decide (t14 < t13)) (
      need (0 ≤ t14 ∧ t14 < ((t12_n : Nat) : Int)) <|
      (fix_Mul z s 30).bind fun t21 =>
      rec (z, IntKind.i64.wrap ((t12.getD (t12_o + (t14.toNat)) 0) + t21), t12_o, t12_n, t13, IntKind.i64.wrap (t14 + 1), t12))
    (
      some (s, t12))
def fix_series_l0 (k : Nat) : Nat → (Int × Int × Nat × Nat × Int × Int × List Int) → Option (Int × List Int) := itN (fix_series_l0F k)
def fix_series (k : Nat) (z : Int) (l : List Int) : Option (Int × List Int) :=
  need (0 ≤ (0 : Int) ∧ (0 : Int) < (((l.length) : Nat) : Int)) <|
  need (0 ≤ (1 : Int) ∧ (1 : Int) ≤ (((l.length) : Nat) : Int)) <|
  (fix_series_l0 k k (z, l.getD 0 0, 1, ((((l.length) : Nat) : Int) - 1).toNat, (((((((l.length) : Nat) : Int) - 1).toNat) : Nat) : Int), 0, l)).bind fun (s, b0) =>
  some (s, b0)
noncomputable def fix_series.T (k : Nat) : List (AbFn Tryz.prog) := [fix_Mul.fn]
noncomputable def fix_series_l0.p (k : Nat) : Pc Tryz.prog 1 := mkLoop hm0 (fix_series.T k) [] [] [] 0 (loopB 0 (bodyOf Tryz.f143)) ⟨25, 1, [(0, .int .i64), (5, .int .i64), (12, .part 0), (13, .int .i64), (14, .int .i64)], [(.ints .i64, .ro)]⟩ (2, ⟨25, 1, [(5, .int .i64)], [(.ints .i64, .ro)]⟩) [] (fix_series_l0F k) k (by kernel_rfl) (by kernel_rfl) (by intro rec d; kernel_rfl)
noncomputable def fix_series.fn (k : Nat) : AbFn Tryz.prog := mkFn hm0 (fix_series.T k) [.int .i64, .whole 0] [(.ints .i64, .ro)] [(0, fix_series_l0.p k)] [] [fix_series_l0.p k] 143 Tryz.f143 (1, ⟨1, 1, [(0, .int .i64)], [(.ints .i64, .ro)]⟩) [] (fun d => match d with | (z, l) => fix_series k z l) Tryz.func143 (by kernel_rfl) (by kernel_rfl) (by intro d; kernel_rfl)

-- madrigal/fix.Cos
def fix_Cos_c7 (k : Nat) : (Int × Bool) → Option (Int) := fun d => match d with
  | (a, turned) =>
    br (decide (a ≤ 8192)) (
      (fix_Mul a 1686629713 14).bind fun t21 =>
      (fix_Mul t21 t21 30).bind fun t24 =>
      (fix_series k t24 [(-296), 26631, (-1491308), 44739243, (-536870912), 1073741824]).bind fun (t26, b0) =>
      (fix_Mul t26 1 15).bind fun t38 =>
      br turned (
        some (IntKind.i64.wrap (0 - t38)))
      (
        some t38))
    (
      (fix_Mul (IntKind.i64.wrap (16384 - a)) 1686629713 14).bind fun t29 =>
      (fix_Mul t29 t29 30).bind fun t33 =>
      (fix_series k t33 [2959, (-213044), 8947849, (-178956971), 1073741824]).bind fun (t35, b0_1) =>
      (fix_Mul t29 t35 30).bind fun t36 =>
      (fix_Mul t36 1 15).bind fun t38_1 =>
      br turned (
        some (IntKind.i64.wrap (0 - t38_1)))
      (
        some t38_1))
def fix_Cos_c4 (k : Nat) : (Int) → Option (Int) := fun d => match d with
  | a =>
    br (decide (16384 < a)) (
      (fix_Cos_c7 k (IntKind.i64.wrap (32768 - a), decide (16384 < a))).bind fun t2 =>
      some t2)
    (
      (fix_Cos_c7 k (a, decide (16384 < a))).bind fun t2_1 =>
      some t2_1)
def fix_Cos (k : Nat) (a : Int) : Option (Int) :=
  br (decide (32768 < (IntKind.i64.wrap ((BitVec.ofInt 64 a &&& BitVec.ofInt 64 65535).toNat : Int)))) (
    (fix_Cos_c4 k (IntKind.i64.wrap (65536 - (IntKind.i64.wrap ((BitVec.ofInt 64 a &&& BitVec.ofInt 64 65535).toNat : Int))))).bind fun t2 =>
    some t2)
  (
    (fix_Cos_c4 k (IntKind.i64.wrap ((BitVec.ofInt 64 a &&& BitVec.ofInt 64 65535).toNat : Int))).bind fun t2_1 =>
    some t2_1)
noncomputable def fix_Cos.T (k : Nat) : List (AbFn Tryz.prog) := [fix_Mul.fn, fix_series.fn k]
noncomputable def fix_Cos_c7.p (k : Nat) : Pc Tryz.prog 0 := mkCut hm0 (fix_Cos.T k) [] [] [] (cutB 7 (bodyOf Tryz.f139)) ⟨43, 0, [(0, .int .i64), (3, .bool)], []⟩ (1, ⟨43, 0, [(2, .int .i64)], []⟩) [] (fix_Cos_c7 k) (by kernel_rfl) (by kernel_rfl) (by intro d; kernel_rfl)
noncomputable def fix_Cos_c4.p (k : Nat) : Pc Tryz.prog 0 := mkCut hm0 (fix_Cos.T k) [] [(7, fix_Cos_c7.p k)] [fix_Cos_c7.p k] (cutB 4 (bodyOf Tryz.f139)) ⟨43, 0, [(0, .int .i64)], []⟩ (1, ⟨43, 0, [(2, .int .i64)], []⟩) [] (fix_Cos_c4 k) (by kernel_rfl) (by kernel_rfl) (by intro d; kernel_rfl)
noncomputable def fix_Cos.fn (k : Nat) : AbFn Tryz.prog := mkFn hm0 (fix_Cos.T k) [.int .i64] [] [] [(4, fix_Cos_c4.p k), (7, fix_Cos_c7.p k)] [fix_Cos_c4.p k] 139 Tryz.f139 (1, ⟨1, 0, [(0, .int .i64)], []⟩) [] (fun d => match d with | a => fix_Cos k a) Tryz.func139 (by kernel_rfl) (by kernel_rfl) (by intro d; kernel_rfl)

-- madrigal/fix.Sin
def fix_Sin (k : Nat) (a : Int) : Option (Int) :=
  (fix_Cos k (IntKind.i64.wrap ((IntKind.i64.wrap ((BitVec.ofInt 64 a &&& BitVec.ofInt 64 65535).toNat : Int)) - 16384))).bind fun t6 =>
  some t6
noncomputable def fix_Sin.fn (k : Nat) : AbFn Tryz.prog := mkFn hm0 [fix_Cos.fn k] [.int .i64] [] [] [] [] 142 Tryz.f142 (1, ⟨1, 0, [(0, .int .i64)], []⟩) [] (fun d => match d with | a => fix_Sin k a) Tryz.func142 (by kernel_rfl) (by kernel_rfl) (by intro d; kernel_rfl)

-- madrigal/tabs.Window
def tabs_Window_l0F (k : Nat) (rec : (Int × Int × Int × List Int) → Option (List Int)) : (Int × Int × Int × List Int) → Option (List Int) := fun d => match d with
  | (l, t15, t16, out) =>
    br (decide (t16 < t15)) (
      need (l ≠ 0) <|
      (fix_Sin k (IntKind.i64.wrap ((IntKind.i64.wrap ((IntKind.i64.wrap ((IntKind.i64.wrap ((IntKind.i64.wrap ((IntKind.i64.wrap (2 * t16)) + 1)) * 16384)).tdiv l)) + 1)).tdiv 2))).bind fun t27 =>
      (fix_Mul t27 t27 15).bind fun t32 =>
      (fix_Sin k (IntKind.i64.wrap ((IntKind.i64.wrap (t32 + 1)).tdiv 2))).bind fun t35 =>
      need (0 ≤ t16 ∧ t16 < (((out.length) : Nat) : Int)) <|
      rec (l, t15, IntKind.i64.wrap (t16 + 1), out.set (t16.toNat) t35))
    (
      some out)
def tabs_Window_l0 (k : Nat) : Nat → (Int × Int × Int × List Int) → Option (List Int) := itN (tabs_Window_l0F k)
def tabs_Window (k : Nat) (l : Int) : Option ((Unit) ⊕ (List Int)) :=
  br (decide (l < 1)) (
    some (.inl ()))
  (
    br (decide (480 < l)) (
      some (.inl ()))
    (
      need (0 ≤ l ∧ l = l ∧ (8 : Int) * l ≤ 281474976710656 ∧ l ≤ 9223372036854775807) <|
      (tabs_Window_l0 k k (l, ((((List.replicate (l.toNat) (0 : Int)).length) : Nat) : Int), 0, List.replicate (l.toNat) (0 : Int))).bind fun out =>
      some (.inr out)))
noncomputable def tabs_Window.T (k : Nat) : List (AbFn Tryz.prog) := [fix_Sin.fn k, fix_Mul.fn]
noncomputable def tabs_Window_l0.p (k : Nat) : Pc Tryz.prog 0 := mkLoop hm0 (tabs_Window.T k) [] [] [] 0 (loopB 0 (bodyOf Tryz.f138)) ⟨39, 0, [(0, .int .i64), (3, .whole 0), (15, .int .i64), (16, .int .i64)], [(.ints .i64, .own)]⟩ (2, ⟨39, 0, [(3, .whole 0)], [(.ints .i64, .own)]⟩) [] (tabs_Window_l0F k) k (by kernel_rfl) (by kernel_rfl) (by intro rec d; kernel_rfl)
noncomputable def tabs_Window.fn (k : Nat) : AbFn Tryz.prog := mkFn hm0 (tabs_Window.T k) [.int .i64] [] [(0, tabs_Window_l0.p k)] [] [tabs_Window_l0.p k] 138 Tryz.f138 (1, ⟨1, 0, [(0, .nilSlice)], []⟩) [(1, ⟨1, 0, [(0, .whole 0)], [(.ints .i64, .own)]⟩)] (fun d => match d with | l => tabs_Window k l) Tryz.func138 (by kernel_rfl) (by kernel_rfl) (by intro d; kernel_rfl)

-- madrigal/mdct.waves
def mdct_waves_l0F (k : Nat) (rec : (Int × Int × Int × List Int) → Option (List Int)) : (Int × Int × Int × List Int) → Option (List Int) := fun d => match d with
  | (n, t9, t10, out) =>
    br (decide (t10 < t9)) (
      need (n ≠ 0) <|
      (fix_Cos k (IntKind.i64.wrap ((IntKind.i64.wrap ((IntKind.i64.wrap ((IntKind.i64.wrap ((IntKind.i64.wrap (t10 * 65536)).tdiv 4)).tdiv n)) + 1)).tdiv 2))).bind fun t22 =>
      need (0 ≤ t10 ∧ t10 < (((out.length) : Nat) : Int)) <|
      rec (n, t9, IntKind.i64.wrap (t10 + 1), out.set (t10.toNat) t22))
    (
      some out)
def mdct_waves_l0 (k : Nat) : Nat → (Int × Int × Int × List Int) → Option (List Int) := itN (mdct_waves_l0F k)
def mdct_waves (k : Nat) (n : Int) : Option (List Int) :=
  need (0 ≤ (IntKind.i64.wrap (8 * n)) ∧ (IntKind.i64.wrap (8 * n)) = (IntKind.i64.wrap (8 * n)) ∧ (8 : Int) * (IntKind.i64.wrap (8 * n)) ≤ 281474976710656 ∧ (IntKind.i64.wrap (8 * n)) ≤ 9223372036854775807) <|
  let l0 := List.replicate ((IntKind.i64.wrap (8 * n)).toNat) (0 : Int)
  (mdct_waves_l0 k k (n, (((l0.length) : Nat) : Int), 0, l0)).bind fun out =>
  some out
noncomputable def mdct_waves.T (k : Nat) : List (AbFn Tryz.prog) := [fix_Cos.fn k]
noncomputable def mdct_waves_l0.p (k : Nat) : Pc Tryz.prog 0 := mkLoop hm0 (mdct_waves.T k) [] [] [] 0 (loopB 0 (bodyOf Tryz.f125)) ⟨26, 0, [(0, .int .i64), (3, .whole 0), (9, .int .i64), (10, .int .i64)], [(.ints .i64, .own)]⟩ (2, ⟨26, 0, [(3, .whole 0)], [(.ints .i64, .own)]⟩) [] (mdct_waves_l0F k) k (by kernel_rfl) (by kernel_rfl) (by intro rec d; kernel_rfl)
noncomputable def mdct_waves.fn (k : Nat) : AbFn Tryz.prog := mkFn hm0 (mdct_waves.T k) [.int .i64] [] [(0, mdct_waves_l0.p k)] [] [mdct_waves_l0.p k] 125 Tryz.f125 (1, ⟨1, 0, [(0, .whole 0)], [(.ints .i64, .own)]⟩) [] (fun d => match d with | n => mdct_waves k n) Tryz.func125 (by kernel_rfl) (by kernel_rfl) (by intro d; kernel_rfl)

-- madrigal/mdct.Shape
def mdct_Shape_l0F (k : Nat) (rec : (Int × Int × Int × Int × Int × List Int × List Int) → Option (Int × Int × Int × List Int)) : (Int × Int × Int × Int × Int × List Int × List Int) → Option (Int × Int × Int × List Int) := fun d => match d with
  | (n, l, from_, t26, t27, out, t25) =>
    br (decide (t27 < t26)) (
      need (0 ≤ t27 ∧ t27 < (((t25.length) : Nat) : Int)) <|
      need (0 ≤ (IntKind.i64.wrap (from_ + t27)) ∧ (IntKind.i64.wrap (from_ + t27)) < (((out.length) : Nat) : Int)) <|
      let l0 := out.set ((IntKind.i64.wrap (from_ + t27)).toNat) (t25.getD (t27.toNat) 0)
      let t45 := IntKind.i64.wrap ((IntKind.i64.wrap ((IntKind.i64.wrap ((IntKind.i64.wrap (2 * n)) - 1)) - from_)) - t27)
      need (0 ≤ t45 ∧ t45 < (((l0.length) : Nat) : Int)) <|
      rec (n, l, from_, t26, IntKind.i64.wrap (t27 + 1), l0.set (t45.toNat) (t25.getD (t27.toNat) 0), t25))
    (
      some (n, l, from_, out))
def mdct_Shape_l0 (k : Nat) : Nat → (Int × Int × Int × Int × Int × List Int × List Int) → Option (Int × Int × Int × List Int) := itN (mdct_Shape_l0F k)
def mdct_Shape_l2F (k : Nat) (rec : (Int × Int × Int × Int × List Int) → Option (List Int)) : (Int × Int × Int × Int × List Int) → Option (List Int) := fun d => match d with
  | (n, l, from_, k_, out) =>
    br (decide (k_ < (IntKind.i64.wrap ((IntKind.i64.wrap ((IntKind.i64.wrap (2 * n)) - from_)) - l)))) (
      need (0 ≤ k_ ∧ k_ < (((out.length) : Nat) : Int)) <|
      rec (n, l, from_, IntKind.i64.wrap (k_ + 1), out.set (k_.toNat) 32768))
    (
      some out)
def mdct_Shape_l2 (k : Nat) : Nat → (Int × Int × Int × Int × List Int) → Option (List Int) := itN (mdct_Shape_l2F k)
def mdct_Shape_c5 (k : Nat) : (Int × Int × List Int × List Int) → Option (Int × List Int) := fun d => match d with
  | (n, l, out, w) =>
    (mdct_Shape_l0 k k (n, l, IntKind.i64.wrap ((IntKind.i64.wrap (n - l)).tdiv 2), (((w.length) : Nat) : Int), 0, out, w)).bind fun (n1, l1, from_, out1) =>
    (mdct_Shape_l2 k k (n1, l1, from_, IntKind.i64.wrap (from_ + l1), out1)).bind fun out2 =>
    some (0, out2)
def mdct_Shape (k : Nat) (n : Int) (l : Int) : Option ((Int) ⊕ (Int × List Int)) :=
  (mdct_Good n l).bind fun t14 =>
  br (!t14) (
    some (.inl 1))
  (
    need (0 ≤ (IntKind.i64.wrap (2 * n)) ∧ (IntKind.i64.wrap (2 * n)) = (IntKind.i64.wrap (2 * n)) ∧ (8 : Int) * (IntKind.i64.wrap (2 * n)) ≤ 281474976710656 ∧ (IntKind.i64.wrap (2 * n)) ≤ 9223372036854775807) <|
    (tabs_Window k l).bind fun o => match o with
    | .inl () =>
      none
    | .inr t20 =>
      (mdct_Shape_c5 k (n, l, List.replicate ((IntKind.i64.wrap (2 * n)).toNat) (0 : Int), t20)).bind fun (t5, t4) =>
      some (.inr (t5, t4)))
noncomputable def mdct_Shape.T (k : Nat) : List (AbFn Tryz.prog) := [mdct_Good.fn, tabs_Window.fn k]
def mdct_Shape.s0 : Sk := ⟨66, 0, [(0, .int .i64), (1, .int .i64), (6, .whole 0), (8, .int .i64), (25, .whole 1), (26, .int .i64), (27, .int .i64)], [(.ints .i64, .own), (.ints .i64, .own)]⟩
noncomputable def mdct_Shape_l0.p (k : Nat) : Pc Tryz.prog 0 := mkLoop hm0 (mdct_Shape.T k) [] [] [] 0 (loopB 0 (bodyOf Tryz.f124)) mdct_Shape.s0 (2, ⟨66, 0, [(0, .int .i64), (1, .int .i64), (6, .whole 0), (8, .int .i64)], [(.ints .i64, .own)]⟩) [] (mdct_Shape_l0F k) k (by kernel_rfl) (by kernel_rfl) (by intro rec d; kernel_rfl)
noncomputable def mdct_Shape_l2.p (k : Nat) : Pc Tryz.prog 0 := mkLoop hm0 (mdct_Shape.T k) [(0, mdct_Shape_l0.p k)] [] [] 2 (loopB 2 (bodyOf Tryz.f124)) ⟨66, 0, [(0, .int .i64), (1, .int .i64), (6, .whole 0), (8, .int .i64), (11, .int .i64)], [(.ints .i64, .own)]⟩ (4, ⟨66, 0, [(6, .whole 0)], [(.ints .i64, .own)]⟩) [] (mdct_Shape_l2F k) k (by kernel_rfl) (by kernel_rfl) (by intro rec d; kernel_rfl)
noncomputable def mdct_Shape_c5.p (k : Nat) : Pc Tryz.prog 0 := mkCut hm0 (mdct_Shape.T k) [(2, mdct_Shape_l2.p k), (0, mdct_Shape_l0.p k)] [] [mdct_Shape_l0.p k, mdct_Shape_l2.p k] (cutB 5 (bodyOf Tryz.f124)) ⟨66, 0, [(0, .int .i64), (1, .int .i64), (6, .whole 0), (7, .whole 1)], [(.ints .i64, .own), (.ints .i64, .own)]⟩ (1, ⟨66, 0, [(4, .whole 0), (5, .int .i64)], [(.ints .i64, .own)]⟩) [] (mdct_Shape_c5 k) (by kernel_rfl) (by kernel_rfl) (by intro d; kernel_rfl)
noncomputable def mdct_Shape.fn (k : Nat) : AbFn Tryz.prog := mkFn hm0 (mdct_Shape.T k) [.int .i64, .int .i64] [] [(2, mdct_Shape_l2.p k), (0, mdct_Shape_l0.p k)] [(5, mdct_Shape_c5.p k)] [mdct_Shape_c5.p k] 124 Tryz.f124 (1, ⟨1, 0, [(0, .tuple [.nilSlice, .int .i64])], []⟩) [(1, ⟨1, 0, [(0, .tuple [.whole 0, .int .i64])], [(.ints .i64, .own)]⟩)] (fun d => match d with | (n, l) => mdct_Shape k n l) Tryz.func124 (by kernel_rfl) (by kernel_rfl) (by intro d; kernel_rfl)

-- madrigal/mdct.down
def mdct_down (a : Int) (b : Int) : Option (Int) :=
  need (b ≠ 0) <|
  need (b ≠ 0) <|
  br (decide ((a.tmod b) < 0)) (
    some (IntKind.i64.wrap ((IntKind.i64.wrap (a.tdiv b)) - 1)))
  (
    some (IntKind.i64.wrap (a.tdiv b)))
noncomputable def mdct_down.fn : AbFn Tryz.prog := mkFn hm0 [] [.int .i64, .int .i64] [] [] [] [] 126 Tryz.f126 (1, ⟨1, 0, [(0, .int .i64)], []⟩) [] (fun d => match d with | (a, b) => mdct_down a b) Tryz.func126 (by kernel_rfl) (by kernel_rfl) (by intro d; kernel_rfl)

-- madrigal/mdct.Inverse
def mdct_Inverse_l0F (k : Nat) (rec : (Int × Int × Int × List Int × List Int × List Int) → Option (Int × List Int × List Int × List Int)) : (Int × Int × Int × List Int × List Int × List Int) → Option (Int × List Int × List Int × List Int) := fun d => match d with
  | (n, t33, t34, t32, shape, g) =>
    br (decide (t34 < t33)) (
      need (0 ≤ t34 ∧ t34 < (((t32.length) : Nat) : Int)) <|
      (fix_Clamp (t32.getD (t34.toNat) 0) (-17179869184) 17179869184).bind fun t42 =>
      need (0 ≤ t34 ∧ t34 < (((g.length) : Nat) : Int)) <|
      rec (n, t33, IntKind.i64.wrap (t34 + 1), t32, shape, g.set (t34.toNat) t42))
    (
      some (n, t32, shape, g))
def mdct_Inverse_l0 (k : Nat) : Nat → (Int × Int × Int × List Int × List Int × List Int) → Option (Int × List Int × List Int × List Int) := itN (mdct_Inverse_l0F k)
def mdct_Inverse_l4F (k : Nat) (rec : (Int × Int × Int × Int × Int × Int × Int × Int × Int × List Int × List Int × List Int × List Int × List Int) → Option (Int × Int × Int × Int × Int × List Int × List Int × List Int × List Int × List Int)) : (Int × Int × Int × Int × Int × Int × Int × Int × Int × List Int × List Int × List Int × List Int × List Int) → Option (Int × Int × Int × Int × Int × List Int × List Int × List Int × List Int × List Int) := fun d => match d with
  | (n, j, s, p, step, t51, t52, t73, t74, b0, shape, g, c, out) =>
    br (decide (t74 < t73)) (
      need (0 ≤ t74 ∧ t74 < (((g.length) : Nat) : Int)) <|
      need (0 ≤ p ∧ p < (((c.length) : Nat) : Int)) <|
      let t84 := IntKind.i64.wrap ((g.getD (t74.toNat) 0) * (c.getD (p.toNat) 0))
      br (decide ((((c.length) : Nat) : Int) ≤ (IntKind.i64.wrap (p + step)))) (
        rec (n, j, IntKind.i64.wrap (s + t84), IntKind.i64.wrap ((IntKind.i64.wrap (p + step)) - (((c.length) : Nat) : Int)), step, t51, t52, t73, IntKind.i64.wrap (t74 + 1), b0, shape, g, c, out))
      (
        rec (n, j, IntKind.i64.wrap (s + t84), IntKind.i64.wrap (p + step), step, t51, t52, t73, IntKind.i64.wrap (t74 + 1), b0, shape, g, c, out)))
    (
      some (n, j, s, t51, t52, b0, shape, g, c, out))
def mdct_Inverse_l4 (k : Nat) : Nat → (Int × Int × Int × Int × Int × Int × Int × Int × Int × List Int × List Int × List Int × List Int × List Int) → Option (Int × Int × Int × Int × Int × List Int × List Int × List Int × List Int × List Int) := itN (mdct_Inverse_l4F k)
def mdct_Inverse_l2F (k : Nat) (rec : (Int × Int × Int × List Int × List Int × List Int × List Int × List Int) → Option (List Int × List Int)) : (Int × Int × Int × List Int × List Int × List Int × List Int × List Int) → Option (List Int × List Int) := fun d => match d with
  | (n, t51, t52, b0, shape, g, c, out) =>
    br (decide (t52 < t51)) (
      need ((IntKind.i64.wrap (8 * n)) ≠ 0) <|
      need ((IntKind.i64.wrap (8 * n)) ≠ 0) <|
      (mdct_Inverse_l4 k k (n, t52, 0, (IntKind.i64.wrap ((IntKind.i64.wrap ((IntKind.i64.wrap (2 * t52)) + 1)) + n)).tmod (IntKind.i64.wrap (8 * n)), (IntKind.i64.wrap (2 * (IntKind.i64.wrap ((IntKind.i64.wrap ((IntKind.i64.wrap (2 * t52)) + 1)) + n)))).tmod (IntKind.i64.wrap (8 * n)), t51, t52, (((g.length) : Nat) : Int), 0, b0, shape, g, c, out)).bind fun (n1, j, s, t51_1, t52_1, b0_1, shape1, g1, c1, out1) =>
      need (0 ≤ j ∧ j < (((shape1.length) : Nat) : Int)) <|
      (mdct_down (IntKind.i64.wrap ((IntKind.i64.wrap (2 * s)) + (IntKind.i64.wrap (16384 * n1)))) (IntKind.i64.wrap (32768 * n1))).bind fun t111 =>
      (fix_Clamp t111 (-16777216) 16777216).bind fun t112 =>
      (fix_Mul (shape1.getD (j.toNat) 0) t112 15).bind fun t113 =>
      need (0 ≤ j ∧ j < (((out1.length) : Nat) : Int)) <|
      rec (n1, t51_1, IntKind.i64.wrap (t52_1 + 1), b0_1, shape1, g1, c1, out1.set (j.toNat) t113))
    (
      some (b0, out))
def mdct_Inverse_l2 (k : Nat) : Nat → (Int × Int × Int × List Int × List Int × List Int × List Int × List Int) → Option (List Int × List Int) := itN (mdct_Inverse_l2F k)
def mdct_Inverse_c3 (k : Nat) : (Int × Int × List Int × List Int) → Option (Int × List Int × List Int) := fun d => match d with
  | (n, e, f, shape) =>
    br (!decide (e = 0)) (
      none)
    (
      need (0 ≤ n ∧ n = n ∧ (8 : Int) * n ≤ 281474976710656 ∧ n ≤ 9223372036854775807) <|
      (mdct_Inverse_l0 k k (n, (((f.length) : Nat) : Int), 0, f, shape, List.replicate (n.toNat) (0 : Int))).bind fun (n1, b0, shape1, g) =>
      (mdct_waves k n1).bind fun t46 =>
      need (0 ≤ (IntKind.i64.wrap (2 * n1)) ∧ (IntKind.i64.wrap (2 * n1)) = (IntKind.i64.wrap (2 * n1)) ∧ (8 : Int) * (IntKind.i64.wrap (2 * n1)) ≤ 281474976710656 ∧ (IntKind.i64.wrap (2 * n1)) ≤ 9223372036854775807) <|
      let l4 := List.replicate ((IntKind.i64.wrap (2 * n1)).toNat) (0 : Int)
      (mdct_Inverse_l2 k k (n1, (((l4.length) : Nat) : Int), 0, b0, shape1, g, t46, l4)).bind fun (b0_1, out) =>
      some (0, b0_1, out))
def mdct_Inverse (k : Nat) (l : Int) (f : List Int) : Option (Int × List Int × List Int) :=
  (mdct_Shape k (((f.length) : Nat) : Int) l).bind fun o => match o with
  | .inl t25_1 =>
    none
  | .inr (t25_1_1, t25_0) =>
    (mdct_Inverse_c3 k ((((f.length) : Nat) : Int), t25_1_1, f, t25_0)).bind fun (t5, b0, t4) =>
    some (t5, b0, t4)
noncomputable def mdct_Inverse.T (k : Nat) : List (AbFn Tryz.prog) := [mdct_Shape.fn k, fix_Clamp.fn, mdct_waves.fn k, mdct_down.fn, fix_Mul.fn]
def mdct_Inverse.s0 : Sk := ⟨117, 1, [(6, .int .i64), (7, .whole 1), (9, .whole 2), (32, .whole 0), (33, .int .i64), (34, .int .i64)], [(.ints .i64, .ro), (.ints .i64, .own), (.ints .i64, .own)]⟩
noncomputable def mdct_Inverse_l0.p (k : Nat) : Pc Tryz.prog 1 := mkLoop hm0 (mdct_Inverse.T k) [] [] [] 0 (loopB 0 (bodyOf Tryz.f99)) mdct_Inverse.s0 (2, ⟨117, 1, [(6, .int .i64), (7, .whole 1), (9, .whole 2)], [(.ints .i64, .ro), (.ints .i64, .own), (.ints .i64, .own)]⟩) [] (mdct_Inverse_l0F k) k (by kernel_rfl) (by kernel_rfl) (by intro rec d; kernel_rfl)
def mdct_Inverse.s1 : Sk := ⟨117, 1, [(6, .int .i64), (7, .whole 1), (9, .whole 2), (12, .whole 3), (13, .whole 4), (14, .int .i64), (15, .int .i64), (51, .int .i64), (52, .int .i64)], [(.ints .i64, .ro), (.ints .i64, .own), (.ints .i64, .own), (.ints .i64, .own), (.ints .i64, .own)]⟩
def mdct_Inverse.s2 : Sk := ⟨117, 1, [(6, .int .i64), (7, .whole 1), (9, .whole 2), (12, .whole 3), (13, .whole 4), (14, .int .i64), (15, .int .i64), (16, .int .i64), (17, .int .i64), (51, .int .i64), (52, .int .i64), (72, .whole 2), (73, .int .i64), (74, .int .i64)], [(.ints .i64, .ro), (.ints .i64, .own), (.ints .i64, .own), (.ints .i64, .own), (.ints .i64, .own)]⟩
noncomputable def mdct_Inverse_l4.p (k : Nat) : Pc Tryz.prog 1 := mkLoop hm0 (mdct_Inverse.T k) [(0, mdct_Inverse_l0.p k)] [] [] 4 (loopB 4 (bodyOf Tryz.f99)) mdct_Inverse.s2 (6, mdct_Inverse.s1) [] (mdct_Inverse_l4F k) k (by kernel_rfl) (by kernel_rfl) (by intro rec d; kernel_rfl)
def mdct_Inverse.s3 : Sk := ⟨117, 1, [(6, .int .i64), (7, .whole 1), (9, .whole 2), (12, .whole 3), (13, .whole 4), (51, .int .i64), (52, .int .i64)], [(.ints .i64, .ro), (.ints .i64, .own), (.ints .i64, .own), (.ints .i64, .own), (.ints .i64, .own)]⟩
noncomputable def mdct_Inverse_l2.p (k : Nat) : Pc Tryz.prog 1 := mkLoop hm0 (mdct_Inverse.T k) [(4, mdct_Inverse_l4.p k), (0, mdct_Inverse_l0.p k)] [] [mdct_Inverse_l4.p k] 2 (loopB 2 (bodyOf Tryz.f99)) mdct_Inverse.s3 (4, ⟨117, 1, [(13, .whole 1)], [(.ints .i64, .ro), (.ints .i64, .own)]⟩) [] (mdct_Inverse_l2F k) k (by kernel_rfl) (by kernel_rfl) (by intro rec d; kernel_rfl)
noncomputable def mdct_Inverse_c3.p (k : Nat) : Pc Tryz.prog 1 := mkCut hm0 (mdct_Inverse.T k) [(2, mdct_Inverse_l2.p k), (4, mdct_Inverse_l4.p k), (0, mdct_Inverse_l0.p k)] [] [mdct_Inverse_l0.p k, mdct_Inverse_l2.p k] (cutB 3 (bodyOf Tryz.f99)) ⟨117, 1, [(0, .whole 0), (6, .int .i64), (7, .whole 1), (8, .int .i64)], [(.ints .i64, .ro), (.ints .i64, .own)]⟩ (1, ⟨117, 1, [(4, .whole 1), (5, .int .i64)], [(.ints .i64, .ro), (.ints .i64, .own)]⟩) [] (mdct_Inverse_c3 k) (by kernel_rfl) (by kernel_rfl) (by intro d; kernel_rfl)
noncomputable def mdct_Inverse.fn (k : Nat) : AbFn Tryz.prog := mkFn hm0 (mdct_Inverse.T k) [.whole 0, .int .i64] [(.ints .i64, .ro)] [(2, mdct_Inverse_l2.p k), (4, mdct_Inverse_l4.p k), (0, mdct_Inverse_l0.p k)] [(3, mdct_Inverse_c3.p k)] [mdct_Inverse_c3.p k] 99 Tryz.f99 (1, ⟨1, 1, [(0, .tuple [.whole 1, .int .i64])], [(.ints .i64, .ro), (.ints .i64, .own)]⟩) [] (fun d => match d with | (l, f) => mdct_Inverse k l f) Tryz.func99 (by kernel_rfl) (by kernel_rfl) (by intro d; kernel_rfl)

end Go.Proofs.YtdbdkbaplnjnmaaGreat
