/- The functions that the laws of this seat reach, each as a Lean function, and that the code computes it. Conditions: those of each statement. -/
import Derived.Test.YtdimjdlomgpbgaaBb5
import Derived.Test.YtdimjdlomgpbgaaQF1
import Derived.Test.YtdimjdlomgpbgaaQS2
import Derived.Test.YtdimjdlomgpbgaaRows
set_option linter.unusedVariables false
set_option linter.unusedSimpArgs false
namespace Go.Proofs.Ytdimjdlomgpbgaa
open Go Go.Ab Go.Proofs
def str0 : ByteArray := ⟨#[0, 1, 2, 2, 3, 3, 3, 3, 4, 4, 4, 4, 4, 4, 4, 4, 5, 5, 5, 5, 5, 5, 5, 5, 5, 5, 5, 5, 5, 5, 5, 5, 6, 6, 6, 6, 6, 6, 6, 6, 6, 6, 6, 6, 6, 6, 6, 6, 6, 6, 6, 6, 6, 6, 6, 6, 6, 6, 6, 6, 6, 6, 6, 6, 7, 7, 7, 7, 7, 7, 7, 7, 7, 7, 7, 7, 7, 7, 7, 7, 7, 7, 7, 7, 7, 7, 7, 7, 7, 7, 7, 7, 7, 7, 7, 7, 7, 7, 7, 7, 7, 7, 7, 7, 7, 7, 7, 7, 7, 7, 7, 7, 7, 7, 7, 7, 7, 7, 7, 7, 7, 7, 7, 7, 7, 7, 7, 7, 8, 8, 8, 8, 8, 8, 8, 8, 8, 8, 8, 8, 8, 8, 8, 8, 8, 8, 8, 8, 8, 8, 8, 8, 8, 8, 8, 8, 8, 8, 8, 8, 8, 8, 8, 8, 8, 8, 8, 8, 8, 8, 8, 8, 8, 8, 8, 8, 8, 8, 8, 8, 8, 8, 8, 8, 8, 8, 8, 8, 8, 8, 8, 8, 8, 8, 8, 8, 8, 8, 8, 8, 8, 8, 8, 8, 8, 8, 8, 8, 8, 8, 8, 8, 8, 8, 8, 8, 8, 8, 8, 8, 8, 8, 8, 8, 8, 8, 8, 8, 8, 8, 8, 8, 8, 8, 8, 8, 8, 8, 8, 8, 8, 8, 8, 8, 8, 8, 8, 8, 8, 8, 8, 8, 8, 8, 8, 8]⟩
-- madrigal/madrigallaw11.wave
def madrigallaw11_wave : Option (List Int) :=
  some [1000, (-1000), 1000, (-1000)]
noncomputable def madrigallaw11_wave.fn : AbFn Try.prog := mkFn hm0 [] [] [] [] [] [] 29 Try.f29 (1, ⟨1, 0, [(0, .whole 0)], [(.ints .i64, .own)]⟩) [] (fun _ => madrigallaw11_wave) Try.func29 (by kernel_rfl) (by kernel_rfl) (by intro d; kernel_rfl)

-- madrigal/pitch.may
def pitch_may (x : List Int) : Option (Bool × List Int) :=
  br (decide (2 ≤ (((x.length) : Nat) : Int))) (
    some (decide ((((x.length) : Nat) : Int) ≤ 960), x))
  (
    some (false, x))
noncomputable def pitch_may.fn : AbFn Try.prog := mkFn hm0 [] [.whole 0] [(.ints .i64, .ro)] [] [] [] 41 Try.f41 (1, ⟨1, 1, [(0, .bool)], [(.ints .i64, .ro)]⟩) [] (fun d => match d with | x => pitch_may x) Try.func41 (by kernel_rfl) (by kernel_rfl) (by intro d; kernel_rfl)

-- madrigal/fix.Clamp
def fix_Clamp (a : Int) (lo : Int) (hi : Int) : Option (Int) :=
  br (decide (hi < lo)) (
    some lo)
  (
    br (decide (a < lo)) (
      some lo)
    (
      br (decide (hi < a)) (
        some hi)
      (
        some a)))
noncomputable def fix_Clamp.fn : AbFn Try.prog := mkFn hm0 [] [.int .i64, .int .i64, .int .i64] [] [] [] [] 54 Try.f54 (1, ⟨1, 0, [(0, .int .i64)], []⟩) [] (fun d => match d with | (a, lo, hi) => fix_Clamp a lo hi) Try.func54 (by kernel_rfl) (by kernel_rfl) (by intro d; kernel_rfl)

-- madrigal/fix.Sat16
def fix_Sat16 (a : Int) : Option (Int) :=
  (fix_Clamp a (-32768) 32767).bind fun t4 =>
  some t4
noncomputable def fix_Sat16.fn : AbFn Try.prog := mkFn hm0 [fix_Clamp.fn] [.int .i64] [] [] [] [] 45 Try.f45 (1, ⟨1, 0, [(0, .int .i64)], []⟩) [] (fun d => match d with | a => fix_Sat16 a) Try.func45 (by kernel_rfl) (by kernel_rfl) (by intro d; kernel_rfl)

-- madrigal/pitch.Score
def pitch_Score_l0F (k : Nat) (rec : (Int × Int × Int × Int × List Int) → Option (Int × Int × List Int)) : (Int × Int × Int × Int × List Int) → Option (Int × Int × List Int) := fun d => match d with
  | (lag, c, e, n, x) =>
    br (decide (n < (((x.length) : Nat) : Int))) (
      need (0 ≤ n ∧ n < (((x.length) : Nat) : Int)) <|
      (fix_Sat16 (x.getD (n.toNat) 0)).bind fun t37 =>
      need (0 ≤ (IntKind.i64.wrap (n - lag)) ∧ (IntKind.i64.wrap (n - lag)) < (((x.length) : Nat) : Int)) <|
      (fix_Sat16 (x.getD ((IntKind.i64.wrap (n - lag)).toNat) 0)).bind fun t44 =>
      rec (lag, IntKind.i64.wrap (c + (IntKind.i64.wrap (t37 * t44))), IntKind.i64.wrap (e + (IntKind.i64.wrap (t44 * t44))), IntKind.i64.wrap (n + 1), x))
    (
      some (c, e, x))
def pitch_Score_l0 (k : Nat) : Nat → (Int × Int × Int × Int × List Int) → Option (Int × Int × List Int) := itN (pitch_Score_l0F k)
def pitch_Score (k : Nat) (lag : Int) (x : List Int) : Option (Int × List Int) :=
  (pitch_may x).bind fun (t11, b0) =>
  br (!t11) (
    some (0, x))
  (
    br (decide (lag < 1)) (
      some (0, x))
    (
      br (decide ((IntKind.i64.wrap ((((x.length) : Nat) : Int).tdiv 2)) < lag)) (
        some (0, x))
      (
        (pitch_Score_l0 k k (lag, 0, 0, IntKind.i64.wrap ((((x.length) : Nat) : Int).tdiv 2), x)).bind fun (c, e, b0_1) =>
        br (decide (c ≤ 0)) (
          some (0, b0_1))
        (
          need ((IntKind.i64.wrap ((e.fdiv 65536) + 1)) ≠ 0) <|
          some (IntKind.i64.wrap ((IntKind.i64.wrap ((c.fdiv 256) * (c.fdiv 256))).tdiv (IntKind.i64.wrap ((e.fdiv 65536) + 1))), b0_1)))))
noncomputable def pitch_Score.T (k : Nat) : List (AbFn Try.prog) := [pitch_may.fn, fix_Sat16.fn]
noncomputable def pitch_Score_l0.p (k : Nat) : Pc Try.prog 1 := mkLoop hm0 (pitch_Score.T k) [] [] [] 0 (loopB 0 (bodyOf Try.f30)) ⟨66, 1, [(0, .whole 0), (1, .int .i64), (5, .int .i64), (6, .int .i64), (7, .int .i64)], [(.ints .i64, .ro)]⟩ (2, ⟨66, 1, [(5, .int .i64), (6, .int .i64)], [(.ints .i64, .ro)]⟩) [] (pitch_Score_l0F k) k (by kernel_rfl) (by kernel_rfl) (by intro rec d; kernel_rfl)
noncomputable def pitch_Score.fn (k : Nat) : AbFn Try.prog := mkFn hm0 (pitch_Score.T k) [.whole 0, .int .i64] [(.ints .i64, .ro)] [(0, pitch_Score_l0.p k)] [] [pitch_Score_l0.p k] 30 Try.f30 (1, ⟨1, 1, [(0, .int .i64)], [(.ints .i64, .ro)]⟩) [] (fun d => match d with | (lag, x) => pitch_Score k lag x) Try.func30 (by kernel_rfl) (by kernel_rfl) (by intro d; kernel_rfl)

-- (*madrigal/pitch.worse).Push
def pitch_worse_Push (x_0 : Int) (x_1 : Int) (w_0 : List (List Int)) : Option (List (List Int)) :=
  need (((w_0 ++ [[x_0, x_1]]).length) * 16 ≤ 140737488355328) <|
  some (w_0 ++ [[x_0, x_1]])
noncomputable def pitch_worse_Push.fn : AbFn Try.prog := mkFn hm0 [] [.el 0 1, .iface 46 (.agg [.int .i64, .int .i64])] [(.vals 1 [.whole 1], .rw), (.recs [.i64, .i64], .own)] [] [] [] 99 Try.f99 (1, ⟨1, 2, [(0, .tuple [])], [(.vals 1 [.whole 2], .rw), (.dead, .own), (.recs [.i64, .i64], .own)]⟩) [] (fun d => match d with | (x_0, x_1, w_0) => pitch_worse_Push x_0 x_1 w_0) Try.func99 (by kernel_rfl) (by kernel_rfl) (by intro d; kernel_rfl)

-- (madrigal/pitch.worse).Len
def pitch_worse_Len (w : List (List Int)) : Option (Int × List (List Int)) :=
  some ((((w.length) : Nat) : Int), w)
noncomputable def pitch_worse_Len.fn : AbFn Try.prog := mkFn hm0 [] [.whole 0] [(.recs [.i64, .i64], .ro)] [] [] [] 95 Try.f95 (1, ⟨1, 1, [(0, .int .i64)], [(.recs [.i64, .i64], .ro)]⟩) [] (fun d => match d with | w => pitch_worse_Len w) Try.func95 (by kernel_rfl) (by kernel_rfl) (by intro d; kernel_rfl)

-- (madrigal/pitch.worse).Less
def pitch_worse_Less (i : Int) (j : Int) (w : List (List Int)) : Option (Bool × List (List Int)) :=
  need (0 ≤ i ∧ i < (((w.length) : Nat) : Int)) <|
  need (0 ≤ j ∧ j < (((w.length) : Nat) : Int)) <|
  (pitch_better ((w.getD (i.toNat) []).getD 0 0) ((w.getD (i.toNat) []).getD 1 0) ((w.getD (j.toNat) []).getD 0 0) ((w.getD (j.toNat) []).getD 1 0)).bind fun t15 =>
  some (decide (0 < t15), w)
noncomputable def pitch_worse_Less.fn : AbFn Try.prog := mkFn hm0 [pitch_better.fn] [.whole 0, .int .i64, .int .i64] [(.recs [.i64, .i64], .ro)] [] [] [] 96 Try.f96 (1, ⟨1, 1, [(0, .bool)], [(.recs [.i64, .i64], .ro)]⟩) [] (fun d => match d with | (i, j, w) => pitch_worse_Less i j w) Try.func96 (by kernel_rfl) (by kernel_rfl) (by intro d; kernel_rfl)

-- (madrigal/pitch.worse).Swap
def pitch_worse_Swap (i : Int) (j : Int) (w : List (List Int)) : Option (List (List Int)) :=
  need (0 ≤ j ∧ j < (((w.length) : Nat) : Int)) <|
  need (0 ≤ i ∧ i < (((w.length) : Nat) : Int)) <|
  need (0 ≤ i ∧ i < (((w.length) : Nat) : Int)) <|
  let l0 := w.set (i.toNat) [(w.getD (j.toNat) []).getD 0 0, (w.getD (j.toNat) []).getD 1 0]
  need (0 ≤ j ∧ j < (((l0.length) : Nat) : Int)) <|
  some (l0.set (j.toNat) [(w.getD (i.toNat) []).getD 0 0, (w.getD (i.toNat) []).getD 1 0])
noncomputable def pitch_worse_Swap.fn : AbFn Try.prog := mkFn hm0 [] [.whole 0, .int .i64, .int .i64] [(.recs [.i64, .i64], .rw)] [] [] [] 97 Try.f97 (1, ⟨1, 1, [(0, .tuple [])], [(.recs [.i64, .i64], .rw)]⟩) [] (fun d => match d with | (i, j, w) => pitch_worse_Swap i j w) Try.func97 (by kernel_rfl) (by kernel_rfl) (by intro d; kernel_rfl)

-- container/heap.up
def heap_up_l0F (k : Nat) (rec : (Int × List (List Int)) → Option (List (List Int))) : (Int × List (List Int)) → Option (List (List Int)) := fun d => match d with
  | (j, h_0) =>
    let t7 := IntKind.i64.wrap ((IntKind.i64.wrap (j - 1)).tdiv 2)
    br (decide (t7 = j)) (
      some h_0)
    (
      (pitch_worse_Less j t7 h_0).bind fun (t15, b0) =>
      br (!t15) (
        some h_0)
      (
        (pitch_worse_Swap t7 j h_0).bind fun b0_1 =>
        rec (t7, b0_1)))
def heap_up_l0 (k : Nat) : Nat → (Int × List (List Int)) → Option (List (List Int)) := itN (heap_up_l0F k)
def heap_up (k : Nat) (j : Int) (h_0 : List (List Int)) : Option (List (List Int)) :=
  (heap_up_l0 k k (j, h_0)).bind fun b0_0 =>
  some b0_0
noncomputable def heap_up.T (k : Nat) : List (AbFn Try.prog) := [pitch_worse_Less.fn, pitch_worse_Swap.fn]
noncomputable def heap_up_l0.p (k : Nat) : Pc Try.prog 2 := mkLoop hm0 (heap_up.T k) [] [] [] 0 (loopB 0 (bodyOf Try.f47)) ⟨23, 2, [(0, .iface 62 (.ptr0 0 0)), (1, .int .i64)], [(.vals 1 [.whole 1], .ro), (.recs [.i64, .i64], .rw)]⟩ (2, ⟨23, 2, [], [(.vals 1 [.whole 1], .ro), (.recs [.i64, .i64], .rw)]⟩) [] (heap_up_l0F k) k (by kernel_rfl) (by kernel_rfl) (by intro rec d; kernel_rfl)
noncomputable def heap_up.fn (k : Nat) : AbFn Try.prog := mkFn hm0 (heap_up.T k) [.iface 62 (.el 0 1), .int .i64] [(.vals 1 [.whole 1], .ro), (.recs [.i64, .i64], .rw)] [(0, heap_up_l0.p k)] [] [heap_up_l0.p k] 47 Try.f47 (1, ⟨1, 2, [(0, .tuple [])], [(.vals 1 [.whole 1], .ro), (.recs [.i64, .i64], .rw)]⟩) [] (fun d => match d with | (j, h_0) => heap_up k j h_0) Try.func47 (by kernel_rfl) (by kernel_rfl) (by intro d; kernel_rfl)

-- container/heap.Push
def heap_Push (k : Nat) (x_0 : Int) (x_1 : Int) (h_0 : List (List Int)) : Option (List (List Int)) :=
  (pitch_worse_Push x_0 x_1 h_0).bind fun b0_0 =>
  (pitch_worse_Len b0_0).bind fun (t9, b0) =>
  (heap_up k (IntKind.i64.wrap (t9 - 1)) b0_0).bind fun b0_0_1 =>
  some b0_0_1
noncomputable def heap_Push.fn (k : Nat) : AbFn Try.prog := mkFn hm0 [pitch_worse_Push.fn, pitch_worse_Len.fn, heap_up.fn k] [.iface 62 (.el 0 1), .iface 46 (.agg [.int .i64, .int .i64])] [(.vals 1 [.whole 1], .rw), (.recs [.i64, .i64], .own)] [] [] [] 33 Try.f33 (1, ⟨1, 2, [(0, .tuple [])], [(.vals 1 [.whole 2], .rw), (.dead, .own), (.recs [.i64, .i64], .own)]⟩) [] (fun d => match d with | (x_0, x_1, h_0) => heap_Push k x_0 x_1 h_0) Try.func33 (by kernel_rfl) (by kernel_rfl) (by intro d; kernel_rfl)

-- container/heap.down
def heap_down_l0F (k : Nat) (rec : (Int × Int × Int × List (List Int)) → Option (Int × Int × List (List Int))) : (Int × Int × Int × List (List Int)) → Option (Int × Int × List (List Int)) := fun d => match d with
  | (i0, n, i, h_0) =>
    let t14 := IntKind.i64.wrap ((IntKind.i64.wrap (2 * i)) + 1)
    br (decide (n ≤ t14)) (
      some (i0, i, h_0))
    (
      br (decide (t14 < 0)) (
        some (i0, i, h_0))
      (
        br (decide ((IntKind.i64.wrap (t14 + 1)) < n)) (
          (pitch_worse_Less (IntKind.i64.wrap (t14 + 1)) t14 h_0).bind fun (t32, b0) =>
          br t32 (
            (pitch_worse_Less (IntKind.i64.wrap (t14 + 1)) i h_0).bind fun (t38, b0_1) =>
            br (!t38) (
              some (i0, i, h_0))
            (
              (pitch_worse_Swap i (IntKind.i64.wrap (t14 + 1)) h_0).bind fun b0_2 =>
              rec (i0, n, IntKind.i64.wrap (t14 + 1), b0_2)))
          (
            (pitch_worse_Less t14 i h_0).bind fun (t38_1, b0_3) =>
            br (!t38_1) (
              some (i0, i, h_0))
            (
              (pitch_worse_Swap i t14 h_0).bind fun b0_4 =>
              rec (i0, n, t14, b0_4))))
        (
          (pitch_worse_Less t14 i h_0).bind fun (t38_2, b0_5) =>
          br (!t38_2) (
            some (i0, i, h_0))
          (
            (pitch_worse_Swap i t14 h_0).bind fun b0_6 =>
            rec (i0, n, t14, b0_6)))))
def heap_down_l0 (k : Nat) : Nat → (Int × Int × Int × List (List Int)) → Option (Int × Int × List (List Int)) := itN (heap_down_l0F k)
def heap_down (k : Nat) (i0 : Int) (n : Int) (h_0 : List (List Int)) : Option (Bool × List (List Int)) :=
  (heap_down_l0 k k (i0, n, i0, h_0)).bind fun (i0_1, i, b0_0) =>
  some (decide (i0_1 < i), b0_0)
noncomputable def heap_down.T (k : Nat) : List (AbFn Try.prog) := [pitch_worse_Less.fn, pitch_worse_Swap.fn]
noncomputable def heap_down_l0.p (k : Nat) : Pc Try.prog 2 := mkLoop hm0 (heap_down.T k) [] [] [] 0 (loopB 0 (bodyOf Try.f48)) ⟨48, 2, [(0, .iface 62 (.ptr0 0 0)), (1, .int .i64), (2, .int .i64), (7, .int .i64)], [(.vals 1 [.whole 1], .ro), (.recs [.i64, .i64], .rw)]⟩ (2, ⟨48, 2, [(1, .int .i64), (7, .int .i64)], [(.vals 1 [.whole 1], .ro), (.recs [.i64, .i64], .rw)]⟩) [] (heap_down_l0F k) k (by kernel_rfl) (by kernel_rfl) (by intro rec d; kernel_rfl)
noncomputable def heap_down.fn (k : Nat) : AbFn Try.prog := mkFn hm0 (heap_down.T k) [.iface 62 (.el 0 1), .int .i64, .int .i64] [(.vals 1 [.whole 1], .ro), (.recs [.i64, .i64], .rw)] [(0, heap_down_l0.p k)] [] [heap_down_l0.p k] 48 Try.f48 (1, ⟨1, 2, [(0, .bool)], [(.vals 1 [.whole 1], .ro), (.recs [.i64, .i64], .rw)]⟩) [] (fun d => match d with | (i0, n, h_0) => heap_down k i0 n h_0) Try.func48 (by kernel_rfl) (by kernel_rfl) (by intro d; kernel_rfl)

-- (*madrigal/pitch.worse).Pop
def pitch_worse_Pop_2 (w_0 : List (List Int)) : Option (Int × Int × List (List Int)) :=
  need (0 ≤ (IntKind.i64.wrap ((((w_0.length) : Nat) : Int) - 1)) ∧ (IntKind.i64.wrap ((((w_0.length) : Nat) : Int) - 1)) < (((w_0.length) : Nat) : Int)) <|
  need (0 ≤ (IntKind.i64.wrap ((((w_0.length) : Nat) : Int) - 1)) ∧ (IntKind.i64.wrap ((((w_0.length) : Nat) : Int) - 1)) ≤ (((w_0.length) : Nat) : Int)) <|
  some ((w_0.getD ((IntKind.i64.wrap ((((w_0.length) : Nat) : Int) - 1)).toNat) []).getD 0 0, (w_0.getD ((IntKind.i64.wrap ((((w_0.length) : Nat) : Int) - 1)).toNat) []).getD 1 0, w_0.take (((IntKind.i64.wrap ((((w_0.length) : Nat) : Int) - 1)) - 0).toNat))
noncomputable def pitch_worse_Pop_2.fn : AbFn Try.prog := mkFn hm0 [] [.el 0 1] [(.vals 1 [.whole 1], .rw), (.recs [.i64, .i64], .own)] [] [] [] 98 Try.f98 (1, ⟨1, 2, [(0, .iface 46 (.agg [.int .i64, .int .i64]))], [(.vals 1 [.whole 2], .rw), (.dead, .own), (.recs [.i64, .i64], .own)]⟩) [] (fun d => match d with | w_0 => pitch_worse_Pop_2 w_0) Try.func98 (by kernel_rfl) (by kernel_rfl) (by intro d; kernel_rfl)

-- container/heap.Pop
def heap_Pop_2 (k : Nat) (h_0 : List (List Int)) : Option (Int × Int × List (List Int)) :=
  (pitch_worse_Len h_0).bind fun (t5, b0) =>
  (pitch_worse_Swap 0 (IntKind.i64.wrap (t5 - 1)) h_0).bind fun b0_1 =>
  (heap_down k 0 (IntKind.i64.wrap (t5 - 1)) b0_1).bind fun (t12, b0_0) =>
  (pitch_worse_Pop_2 b0_0).bind fun (t14_0_1, t14_1_1, b0_0_2) =>
  some (t14_0_1, t14_1_1, b0_0_2)
noncomputable def heap_Pop_2.T (k : Nat) : List (AbFn Try.prog) := [pitch_worse_Len.fn, pitch_worse_Swap.fn, heap_down.fn k, pitch_worse_Pop_2.fn]
noncomputable def heap_Pop_2.fn (k : Nat) : AbFn Try.prog := mkFn hm0 (heap_Pop_2.T k) [.iface 62 (.el 0 1)] [(.vals 1 [.whole 1], .rw), (.recs [.i64, .i64], .own)] [] [] [] 42 Try.f42 (1, ⟨1, 2, [(0, .iface 46 (.agg [.int .i64, .int .i64]))], [(.vals 1 [.whole 2], .rw), (.dead, .own), (.recs [.i64, .i64], .own)]⟩) [] (fun d => match d with | h_0 => heap_Pop_2 k h_0) Try.func42 (by kernel_rfl) (by kernel_rfl) (by intro d; kernel_rfl)

-- math/bits.Len64
def bits_Len64_c7 (k : Nat) : (Int × Int) → Option (Int) := fun d => match d with
  | (x, n) =>
    br (decide (256 ≤ x)) (
      need (0 ≤ (IntKind.u8.wrap (x.fdiv 256)) ∧ (IntKind.u8.wrap (x.fdiv 256)) < ((str0).size : Int)) <|
      some (IntKind.i64.wrap ((IntKind.i64.wrap (n + 8)) + (IntKind.i64.wrap (((str0).data.getD ((IntKind.u8.wrap (x.fdiv 256)).toNat) 0).toNat : Int)))))
    (
      need (0 ≤ (IntKind.u8.wrap x) ∧ (IntKind.u8.wrap x) < ((str0).size : Int)) <|
      some (IntKind.i64.wrap (n + (IntKind.i64.wrap (((str0).data.getD ((IntKind.u8.wrap x).toNat) 0).toNat : Int)))))
def bits_Len64_c4 (k : Nat) : (Int × Int) → Option (Int) := fun d => match d with
  | (x, n) =>
    br (decide (65536 ≤ x)) (
      (bits_Len64_c7 k (x.fdiv 65536, IntKind.i64.wrap (n + 16))).bind fun n1 =>
      some n1)
    (
      (bits_Len64_c7 k (x, n)).bind fun n2 =>
      some n2)
def bits_Len64 (k : Nat) (x : Int) : Option (Int) :=
  br (decide (4294967296 ≤ x)) (
    (bits_Len64_c4 k (x.fdiv 4294967296, 32)).bind fun n =>
    some n)
  (
    (bits_Len64_c4 k (x, 0)).bind fun n1 =>
    some n1)
noncomputable def bits_Len64.T (k : Nat) : List (AbFn Try.prog) := []
noncomputable def bits_Len64_c7.p (k : Nat) : Pc Try.prog 0 := mkCut hm0 (bits_Len64.T k) [] [] [] (cutB 7 (bodyOf Try.f51)) ⟨25, 0, [(0, .int .u64), (2, .int .i64)], []⟩ (1, ⟨25, 0, [(2, .int .i64)], []⟩) [] (bits_Len64_c7 k) (by kernel_rfl) (by kernel_rfl) (by intro d; kernel_rfl)
noncomputable def bits_Len64_c4.p (k : Nat) : Pc Try.prog 0 := mkCut hm0 (bits_Len64.T k) [] [(7, bits_Len64_c7.p k)] [bits_Len64_c7.p k] (cutB 4 (bodyOf Try.f51)) ⟨25, 0, [(0, .int .u64), (2, .int .i64)], []⟩ (1, ⟨25, 0, [(2, .int .i64)], []⟩) [] (bits_Len64_c4 k) (by kernel_rfl) (by kernel_rfl) (by intro d; kernel_rfl)
noncomputable def bits_Len64.fn (k : Nat) : AbFn Try.prog := mkFn hm0 (bits_Len64.T k) [.int .u64] [] [] [(4, bits_Len64_c4.p k), (7, bits_Len64_c7.p k)] [bits_Len64_c4.p k] 51 Try.f51 (1, ⟨1, 0, [(0, .int .i64)], []⟩) [] (fun d => match d with | x => bits_Len64 k x) Try.func51 (by kernel_rfl) (by kernel_rfl) (by intro d; kernel_rfl)

-- math/bits.Len
def bits_Len (k : Nat) (x : Int) : Option (Int) :=
  (bits_Len64 k x).bind fun t7 =>
  some t7
noncomputable def bits_Len.fn (k : Nat) : AbFn Try.prog := mkFn hm0 [bits_Len64.fn k] [.int .u64] [] [] [] [] 53 Try.f53 (1, ⟨1, 0, [(0, .int .i64)], []⟩) [] (fun d => match d with | x => bits_Len k x) Try.func53 (by kernel_rfl) (by kernel_rfl) (by intro d; kernel_rfl)

-- slices.SortFunc[madrigal/pitch.worse,madrigal/pitch.Lag]
def pitch_Lag (k : Nat) (x : List (List Int)) : Option (List (List Int)) :=
  (bits_Len k (IntKind.u64.wrap (((x.length) : Nat) : Int))).bind fun t11 =>
  (slices_pdq 0 (((x.length) : Nat) : Int) t11 x).bind fun b0 =>
  some b0
noncomputable def pitch_Lag.fn (k : Nat) : AbFn Try.prog := mkFn hm0 [bits_Len.fn k, slices_pdq.fn] [.whole 0, .func 44 [] []] [(.recs [.i64, .i64], .rw)] [] [] [] 43 Try.f43 (1, ⟨1, 1, [(0, .tuple [])], [(.recs [.i64, .i64], .rw)]⟩) [] (fun d => match d with | x => pitch_Lag k x) Try.func43 (by kernel_rfl) (by kernel_rfl) (by intro d; kernel_rfl)

-- madrigal/pitch.Search
def pitch_Search_l0F (k : Nat) (rec : (Int × Int × Int × List Int × List (List Int)) → Option (List Int × List (List Int))) : (Int × Int × Int × List Int × List (List Int)) → Option (List Int × List (List Int)) := fun d => match d with
  | (to, best, lag, x, w_0) =>
    br (decide (lag ≤ to)) (
      (pitch_Score k lag x).bind fun (t49, b0) =>
      (heap_Push k lag t49 w_0).bind fun b0_0 =>
      br (decide (best < (((b0_0.length) : Nat) : Int))) (
        (heap_Pop_2 k b0_0).bind fun (t58_0_1, t58_1_1, b0_0_2) =>
        rec (to, best, IntKind.i64.wrap (lag + 1), x, b0_0_2))
      (
        rec (to, best, IntKind.i64.wrap (lag + 1), x, b0_0)))
    (
      some (x, w_0))
def pitch_Search_l0 (k : Nat) : Nat → (Int × Int × Int × List Int × List (List Int)) → Option (List Int × List (List Int)) := itN (pitch_Search_l0F k)
def pitch_Search (k : Nat) (from_ : Int) (to : Int) (best : Int) (x : List Int) : Option (Int × List Int × List (List Int)) :=
  (pitch_may x).bind fun (t13, b0) =>
  br (!t13) (
    some (1, x, []))
  (
    br (decide (from_ < 1)) (
      some (1, x, []))
    (
      br (decide (to < from_)) (
        some (1, x, []))
      (
        br (decide ((IntKind.i64.wrap ((((x.length) : Nat) : Int).tdiv 2)) < to)) (
          some (1, x, []))
        (
          br (decide (best < 1)) (
            some (1, x, []))
          (
            br (decide (32 < best)) (
              some (1, x, []))
            (
              (pitch_Search_l0 k k (to, best, from_, x, [])).bind fun (b0_1, w_0) =>
              (pitch_Lag k w_0).bind fun b0_2 =>
              some (0, b0_1, b0_2)))))))
noncomputable def pitch_Search.T (k : Nat) : List (AbFn Try.prog) := [pitch_may.fn, pitch_Score.fn k, heap_Push.fn k, heap_Pop_2.fn k, pitch_Lag.fn k]
def pitch_Search.s0 : Sk := ⟨62, 1, [(0, .whole 0), (2, .int .i64), (3, .int .i64), (10, .ptr0 1 0), (11, .int .i64)], [(.ints .i64, .ro), (.vals 1 [.whole 2], .own), (.recs [.i64, .i64], .own)]⟩
noncomputable def pitch_Search_l0.p (k : Nat) : Pc Try.prog 1 := mkLoop hm0 (pitch_Search.T k) [] [] [] 0 (loopB 0 (bodyOf Try.f28)) pitch_Search.s0 (2, ⟨62, 1, [(10, .ptr0 1 0)], [(.ints .i64, .ro), (.vals 1 [.whole 2], .own), (.recs [.i64, .i64], .own)]⟩) [] (pitch_Search_l0F k) k (by kernel_rfl) (by kernel_rfl) (by intro rec d; kernel_rfl)
noncomputable def pitch_Search.fn (k : Nat) : AbFn Try.prog := mkFn hm0 (pitch_Search.T k) [.whole 0, .int .i64, .int .i64, .int .i64] [(.ints .i64, .ro)] [(0, pitch_Search_l0.p k)] [] [pitch_Search_l0.p k] 28 Try.f28 (1, ⟨1, 1, [(0, .tuple [.whole 1, .int .i64])], [(.ints .i64, .ro), (.recs [.i64, .i64], .own)]⟩) [] (fun d => match d with | (from_, to, best, x) => pitch_Search k from_ to best x) Try.func28 (by kernel_rfl) (by kernel_rfl) (by intro d; kernel_rfl)

-- madrigal/madrigallaw11.awake
def madrigallaw11_awake (k : Nat) : Option (Bool) :=
  (madrigallaw11_wave).bind fun t4 =>
  (pitch_Search k 1 2 2 t4).bind fun (t5_1, b0, t5_0) =>
  (madrigallaw11_wave).bind fun t8 =>
  (pitch_Score k 2 t8).bind fun (t9, b0_1) =>
  br (decide (t9 = 1968624)) (
    br (decide (t5_1 = 0)) (
      br (decide ((((t5_0.length) : Nat) : Int) = 2)) (
        need (0 ≤ (0 : Int) ∧ (0 : Int) < (((t5_0.length) : Nat) : Int)) <|
        br ((decide (((t5_0.getD 0 []).getD 0 0) = 2)) && (decide (((t5_0.getD 0 []).getD 1 0) = 1968624))) (
          need (0 ≤ (1 : Int) ∧ (1 : Int) < (((t5_0.length) : Nat) : Int)) <|
          some ((decide (((t5_0.getD 1 []).getD 0 0) = 1)) && (decide (((t5_0.getD 1 []).getD 1 0) = 0))))
        (
          some false))
      (
        some false))
    (
      some false))
  (
    some false)
noncomputable def madrigallaw11_awake.fn (k : Nat) : AbFn Try.prog := mkFn hm0 [madrigallaw11_wave.fn, pitch_Search.fn k, pitch_Score.fn k] [] [] [] [] [] 27 Try.f27 (1, ⟨1, 0, [(0, .bool)], []⟩) [] (fun _ => madrigallaw11_awake k) Try.func27 (by kernel_rfl) (by kernel_rfl) (by intro d; kernel_rfl)

-- madrigal/madrigallaw11.PitchKnown
def madrigallaw11_PitchKnown (k : Nat) : Option (Bool) :=
  (madrigallaw11_awake k).bind fun t7 =>
  br (!t7) (
    some false)
  (
    (madrigallaw11_wave).bind fun t10 =>
    (pitch_Search k 1 3 1 t10).bind fun (t11_1, b0, t11_0) =>
    (madrigallaw11_wave).bind fun t15 =>
    (pitch_Search k 0 1 1 t15).bind fun (t16_1, b0_1, t16_0) =>
    (madrigallaw11_wave).bind fun t20 =>
    (pitch_Search k 1 1 33 t20).bind fun (t21_1, b0_2, t21_0) =>
    br (decide (t11_1 = 1)) (
      br (decide (t16_1 = 1)) (
        br (decide (t21_1 = 1)) (
          (pitch_Score k 1 []).bind fun (t35, b0_3) =>
          br (decide (t35 = 0)) (
            (madrigallaw11_wave).bind fun t39 =>
            (pitch_Score k 3 t39).bind fun (t40, b0_4) =>
            some (decide (t40 = 0)))
          (
            some false))
        (
          some false))
      (
        some false))
    (
      some false))
noncomputable def madrigallaw11_PitchKnown.T (k : Nat) : List (AbFn Try.prog) := [madrigallaw11_awake.fn k, madrigallaw11_wave.fn, pitch_Search.fn k, pitch_Score.fn k]
noncomputable def madrigallaw11_PitchKnown.fn (k : Nat) : AbFn Try.prog := mkFn hm0 (madrigallaw11_PitchKnown.T k) [] [] [] [] [] 9 Try.f9 (1, ⟨1, 0, [(0, .bool)], []⟩) [] (fun _ => madrigallaw11_PitchKnown k) Try.func9 (by kernel_rfl) (by kernel_rfl) (by intro d; kernel_rfl)

-- madrigal/madrigalref1.Clamp
def madrigalref1_Clamp (a : Int) (lo : Int) (hi : Int) : Option (Int) :=
  br (decide (a < lo)) (
    some lo)
  (
    br (decide (hi < lo)) (
      some lo)
    (
      br (decide (hi < a)) (
        some hi)
      (
        some a)))
noncomputable def madrigalref1_Clamp.fn : AbFn Try.prog := mkFn hm0 [] [.int .i64, .int .i64, .int .i64] [] [] [] [] 40 Try.f40 (1, ⟨1, 0, [(0, .int .i64)], []⟩) [] (fun d => match d with | (a, lo, hi) => madrigalref1_Clamp a lo hi) Try.func40 (by kernel_rfl) (by kernel_rfl) (by intro d; kernel_rfl)

-- madrigal/madrigalref6.clamped
def madrigalref6_clamped_l0F (k : Nat) (rec : (Int × Int × Int × List Int × List Int) → Option (List Int × List Int)) : (Int × Int × Int × List Int × List Int) → Option (List Int × List Int) := fun d => match d with
  | (lo, hi, i, l, m) =>
    br (decide (i < (((l.length) : Nat) : Int))) (
      need (0 ≤ i ∧ i < (((l.length) : Nat) : Int)) <|
      (madrigalref1_Clamp (l.getD (i.toNat) 0) lo hi).bind fun t22 =>
      need (((m ++ [t22]).length) * 8 ≤ 140737488355328) <|
      rec (lo, hi, IntKind.i64.wrap (i + 1), l, m ++ [t22]))
    (
      some (l, m))
def madrigalref6_clamped_l0 (k : Nat) : Nat → (Int × Int × Int × List Int × List Int) → Option (List Int × List Int) := itN (madrigalref6_clamped_l0F k)
def madrigalref6_clamped (k : Nat) (lo : Int) (hi : Int) (l : List Int) : Option (List Int × List Int) :=
  (madrigalref6_clamped_l0 k k (lo, hi, 0, l, [])).bind fun (b0, m) =>
  some (b0, m)
noncomputable def madrigalref6_clamped.T (k : Nat) : List (AbFn Try.prog) := [madrigalref1_Clamp.fn]
noncomputable def madrigalref6_clamped_l0.p (k : Nat) : Pc Try.prog 1 := mkLoop hm0 (madrigalref6_clamped.T k) [] [] [] 0 (loopB 0 (bodyOf Try.f46)) ⟨26, 1, [(0, .whole 0), (1, .int .i64), (2, .int .i64), (7, .whole 1), (8, .int .i64)], [(.ints .i64, .ro), (.ints .i64, .own)]⟩ (2, ⟨26, 1, [(7, .whole 1)], [(.ints .i64, .ro), (.ints .i64, .own)]⟩) [] (madrigalref6_clamped_l0F k) k (by kernel_rfl) (by kernel_rfl) (by intro rec d; kernel_rfl)
noncomputable def madrigalref6_clamped.fn (k : Nat) : AbFn Try.prog := mkFn hm0 (madrigalref6_clamped.T k) [.whole 0, .int .i64, .int .i64] [(.ints .i64, .ro)] [(0, madrigalref6_clamped_l0.p k)] [] [madrigalref6_clamped_l0.p k] 46 Try.f46 (1, ⟨1, 1, [(0, .whole 1)], [(.ints .i64, .ro), (.ints .i64, .own)]⟩) [] (fun d => match d with | (lo, hi, l) => madrigalref6_clamped k lo hi l) Try.func46 (by kernel_rfl) (by kernel_rfl) (by intro d; kernel_rfl)

-- madrigal/madrigalref6.Score
def madrigalref6_Score_l0F (k : Nat) (rec : (Int × Int × Int × Int × Int × List Int × List Int) → Option (Int × Int × List Int)) : (Int × Int × Int × Int × Int × List Int × List Int) → Option (Int × Int × List Int) := fun d => match d with
  | (lag, n, c, e, i, b0, x) =>
    br (decide (i < n)) (
      need (0 ≤ i ∧ i < (((x.length) : Nat) : Int)) <|
      need (0 ≤ (IntKind.i64.wrap (i - lag)) ∧ (IntKind.i64.wrap (i - lag)) < (((x.length) : Nat) : Int)) <|
      need (0 ≤ (IntKind.i64.wrap (i - lag)) ∧ (IntKind.i64.wrap (i - lag)) < (((x.length) : Nat) : Int)) <|
      need (0 ≤ (IntKind.i64.wrap (i - lag)) ∧ (IntKind.i64.wrap (i - lag)) < (((x.length) : Nat) : Int)) <|
      rec (lag, n, IntKind.i64.wrap (c + (IntKind.i64.wrap ((x.getD (i.toNat) 0) * (x.getD ((IntKind.i64.wrap (i - lag)).toNat) 0)))), IntKind.i64.wrap (e + (IntKind.i64.wrap ((x.getD ((IntKind.i64.wrap (i - lag)).toNat) 0) * (x.getD ((IntKind.i64.wrap (i - lag)).toNat) 0)))), IntKind.i64.wrap (i + 1), b0, x))
    (
      some (c, e, b0))
def madrigalref6_Score_l0 (k : Nat) : Nat → (Int × Int × Int × Int × Int × List Int × List Int) → Option (Int × Int × List Int) := itN (madrigalref6_Score_l0F k)
def madrigalref6_Score (k : Nat) (lag : Int) (x : List Int) : Option (Int × List Int) :=
  br (decide ((((x.length) : Nat) : Int) < 2)) (
    some (0, x))
  (
    br (decide (960 < (((x.length) : Nat) : Int))) (
      some (0, x))
    (
      br (decide (lag < 1)) (
        some (0, x))
      (
        br (decide ((IntKind.i64.wrap ((((x.length) : Nat) : Int).tdiv 2)) < lag)) (
          some (0, x))
        (
          (madrigalref6_clamped k (-32768) 32767 x).bind fun (b0, t28) =>
          (madrigalref6_Score_l0 k k (lag, (((x.length) : Nat) : Int), 0, 0, IntKind.i64.wrap ((((x.length) : Nat) : Int).tdiv 2), x, t28)).bind fun (c, e, b0_1) =>
          br (decide (c ≤ 0)) (
            some (0, b0_1))
          (
            let t73 := IntKind.i64.wrap ((IntKind.i64.wrap (e.tdiv 65536)) + 1)
            need (t73 ≠ 0) <|
            some (IntKind.i64.wrap ((IntKind.i64.wrap ((IntKind.i64.wrap (c.tdiv 256)) * (IntKind.i64.wrap (c.tdiv 256)))).tdiv t73), b0_1))))))
noncomputable def madrigalref6_Score.T (k : Nat) : List (AbFn Try.prog) := [madrigalref6_clamped.fn k]
noncomputable def madrigalref6_Score_l0.p (k : Nat) : Pc Try.prog 1 := mkLoop hm0 (madrigalref6_Score.T k) [] [] [] 0 (loopB 0 (bodyOf Try.f31)) ⟨75, 1, [(0, .whole 1), (1, .int .i64), (5, .int .i64), (6, .int .i64), (7, .int .i64), (8, .int .i64)], [(.ints .i64, .ro), (.ints .i64, .own)]⟩ (2, ⟨75, 1, [(6, .int .i64), (7, .int .i64)], [(.ints .i64, .ro)]⟩) [] (madrigalref6_Score_l0F k) k (by kernel_rfl) (by kernel_rfl) (by intro rec d; kernel_rfl)
noncomputable def madrigalref6_Score.fn (k : Nat) : AbFn Try.prog := mkFn hm0 (madrigalref6_Score.T k) [.whole 0, .int .i64] [(.ints .i64, .ro)] [(0, madrigalref6_Score_l0.p k)] [] [madrigalref6_Score_l0.p k] 31 Try.f31 (1, ⟨1, 1, [(0, .int .i64)], [(.ints .i64, .ro)]⟩) [] (fun d => match d with | (lag, x) => madrigalref6_Score k lag x) Try.func31 (by kernel_rfl) (by kernel_rfl) (by intro d; kernel_rfl)

-- madrigal/madrigalref6.Best
def madrigalref6_Best_l2F (k : Nat) (rec : (Int × Int × Int × Int × List Int × List (List Int) × Int × Int) → Option (Int × Int × Int × Int × List Int × List (List Int) × Int × Int)) : (Int × Int × Int × Int × List Int × List (List Int) × Int × Int) → Option (Int × Int × Int × Int × List Int × List (List Int) × Int × Int) := fun d => match d with
  | (most, best, lag, k_, x, l, s_0, s_1) =>
    br (decide (k_ < (((l.length) : Nat) : Int))) (
      need (0 ≤ k_ ∧ k_ < (((l.length) : Nat) : Int)) <|
      br (decide (s_1 ≤ ((l.getD (k_.toNat) []).getD 1 0))) (
        rec (most, best, lag, IntKind.i64.wrap (k_ + 1), x, l, s_0, s_1))
      (
        some (most, best, lag, k_, x, l, s_0, s_1)))
    (
      some (most, best, lag, k_, x, l, s_0, s_1))
def madrigalref6_Best_l2 (k : Nat) : Nat → (Int × Int × Int × Int × List Int × List (List Int) × Int × Int) → Option (Int × Int × Int × Int × List Int × List (List Int) × Int × Int) := itN (madrigalref6_Best_l2F k)
def madrigalref6_Best_l0F (k : Nat) (rec : (Int × Int × Int × List Int × List (List Int)) → Option (List Int × List (List Int))) : (Int × Int × Int × List Int × List (List Int)) → Option (List Int × List (List Int)) := fun d => match d with
  | (most, best, lag, x, l) =>
    br (decide (lag ≤ most)) (
      (madrigalref6_Score k lag x).bind fun (t22, b0) =>
      (madrigalref6_Best_l2 k k (most, best, lag, 0, x, l, lag, t22)).bind fun (most1, best1, lag1, k_, x1, l1, s_0, s_1) =>
      need (0 ≤ k_ ∧ k_ ≤ (((l1.length) : Nat) : Int)) <|
      need (((l1.take ((k_ - 0).toNat)).length) * 16 ≤ 140737488355328) <|
      need ((((l1.take ((k_ - 0).toNat)) ++ [[s_0, s_1]]).length) * 16 ≤ 140737488355328) <|
      let l6 := (l1.take ((k_ - 0).toNat)) ++ [[s_0, s_1]]
      need (0 ≤ k_ ∧ k_ ≤ (((l1.length) : Nat) : Int)) <|
      need (((l6 ++ ((l1.drop (k_.toNat)).take (((((l1.length) : Nat) : Int) - k_).toNat))).length) * 16 ≤ 140737488355328) <|
      let l7 := l6 ++ ((l1.drop (k_.toNat)).take (((((l1.length) : Nat) : Int) - k_).toNat))
      br (decide (best1 < (((l7.length) : Nat) : Int))) (
        need (0 ≤ best1 ∧ best1 ≤ (((l7.length) : Nat) : Int)) <|
        rec (most1, best1, IntKind.i64.wrap (lag1 + 1), x1, l7.take ((best1 - 0).toNat)))
      (
        rec (most1, best1, IntKind.i64.wrap (lag1 + 1), x1, l7)))
    (
      some (x, l))
def madrigalref6_Best_l0 (k : Nat) : Nat → (Int × Int × Int × List Int × List (List Int)) → Option (List Int × List (List Int)) := itN (madrigalref6_Best_l0F k)
def madrigalref6_Best (k : Nat) (least : Int) (most : Int) (best : Int) (x : List Int) : Option (List Int × List (List Int)) :=
  (madrigalref6_Best_l0 k k (most, best, least, x, [])).bind fun (b0, l) =>
  some (b0, l)
noncomputable def madrigalref6_Best.T (k : Nat) : List (AbFn Try.prog) := [madrigalref6_Score.fn k]
def madrigalref6_Best.s0 : Sk := ⟨60, 1, [(0, .whole 0), (2, .int .i64), (3, .int .i64), (9, .whole 1), (10, .int .i64), (11, .ptr0 2 0), (12, .int .i64)], [(.ints .i64, .ro), (.recs [.i64, .i64], .own), (.vals 2 [.int .i64, .int .i64], .own)]⟩
noncomputable def madrigalref6_Best_l2.p (k : Nat) : Pc Try.prog 1 := mkLoop hm0 (madrigalref6_Best.T k) [] [] [] 2 (loopB 2 (bodyOf Try.f32)) madrigalref6_Best.s0 (4, madrigalref6_Best.s0) [] (madrigalref6_Best_l2F k) k (by kernel_rfl) (by kernel_rfl) (by intro rec d; kernel_rfl)
noncomputable def madrigalref6_Best_l0.p (k : Nat) : Pc Try.prog 1 := mkLoop hm0 (madrigalref6_Best.T k) [(2, madrigalref6_Best_l2.p k)] [] [madrigalref6_Best_l2.p k] 0 (loopB 0 (bodyOf Try.f32)) ⟨60, 1, [(0, .whole 0), (2, .int .i64), (3, .int .i64), (9, .whole 1), (10, .int .i64)], [(.ints .i64, .ro), (.recs [.i64, .i64], .own)]⟩ (2, ⟨60, 1, [(9, .whole 1)], [(.ints .i64, .ro), (.recs [.i64, .i64], .own)]⟩) [] (madrigalref6_Best_l0F k) k (by kernel_rfl) (by kernel_rfl) (by intro rec d; kernel_rfl)
noncomputable def madrigalref6_Best.fn (k : Nat) : AbFn Try.prog := mkFn hm0 (madrigalref6_Best.T k) [.whole 0, .int .i64, .int .i64, .int .i64] [(.ints .i64, .ro)] [(0, madrigalref6_Best_l0.p k), (2, madrigalref6_Best_l2.p k)] [] [madrigalref6_Best_l0.p k] 32 Try.f32 (1, ⟨1, 1, [(0, .whole 1)], [(.ints .i64, .ro), (.recs [.i64, .i64], .own)]⟩) [] (fun d => match d with | (least, most, best, x) => madrigalref6_Best k least most best x) Try.func32 (by kernel_rfl) (by kernel_rfl) (by intro d; kernel_rfl)

-- madrigal/madrigallaw11.PitchSays
def madrigallaw11_PitchSays_l0F (k : Nat) (rec : (Int × List Int × List (List Int) × List (List Int)) → Option ((List Int) ⊕ (Bool × List Int))) : (Int × List Int × List (List Int) × List (List Int)) → Option ((List Int) ⊕ (Bool × List Int)) := fun d => match d with
  | (i, b0, l, w) =>
    br (decide (i < (((l.length) : Nat) : Int))) (
      need (0 ≤ i ∧ i < (((l.length) : Nat) : Int)) <|
      need (0 ≤ i ∧ i < (((w.length) : Nat) : Int)) <|
      need (0 ≤ i ∧ i < (((w.length) : Nat) : Int)) <|
      br (!((decide (((l.getD (i.toNat) []).getD 0 0) = ((w.getD (i.toNat) []).getD 0 0))) && (decide (((l.getD (i.toNat) []).getD 1 0) = ((w.getD (i.toNat) []).getD 1 0))))) (
        some (.inr (false, b0)))
      (
        rec (IntKind.i64.wrap (i + 1), b0, l, w)))
    (
      some (.inl b0))
def madrigallaw11_PitchSays_l0 (k : Nat) : Nat → (Int × List Int × List (List Int) × List (List Int)) → Option ((List Int) ⊕ (Bool × List Int)) := itN (madrigallaw11_PitchSays_l0F k)
def madrigallaw11_PitchSays (k : Nat) (lag : Int) (least : Int) (most : Int) (best : Int) (x : List Int) : Option (Bool × List Int) :=
  (madrigallaw11_awake k).bind fun t15 =>
  br (!t15) (
    some (false, x))
  (
    br (decide (1000 < (((x.length) : Nat) : Int))) (
      some (true, x))
    (
      need ((x.length) * 8 ≤ 140737488355328) <|
      (pitch_Score k lag x).bind fun (t24, b0) =>
      (madrigalref6_Score k lag x).bind fun (t27, b0_1) =>
      br (!decide (t24 = t27)) (
        some (false, x))
      (
        need ((x.length) * 8 ≤ 140737488355328) <|
        (pitch_Search k least most best x).bind fun (t36_1, b0_2, t36_0) =>
        br (decide ((((x.length) : Nat) : Int) < 2)) (
          br (decide (t36_1 = 1)) (
            some (decide ((((t36_0.length) : Nat) : Int) = 0), x))
          (
            some (false, x)))
        (
          br (decide (960 < (((x.length) : Nat) : Int))) (
            br (decide (t36_1 = 1)) (
              some (decide ((((t36_0.length) : Nat) : Int) = 0), x))
            (
              some (false, x)))
          (
            br (decide (least < 1)) (
              br (decide (t36_1 = 1)) (
                some (decide ((((t36_0.length) : Nat) : Int) = 0), x))
              (
                some (false, x)))
            (
              br (decide (most < least)) (
                br (decide (t36_1 = 1)) (
                  some (decide ((((t36_0.length) : Nat) : Int) = 0), x))
                (
                  some (false, x)))
              (
                br (decide ((IntKind.i64.wrap ((((x.length) : Nat) : Int).tdiv 2)) < most)) (
                  br (decide (t36_1 = 1)) (
                    some (decide ((((t36_0.length) : Nat) : Int) = 0), x))
                  (
                    some (false, x)))
                (
                  br (decide (best < 1)) (
                    br (decide (t36_1 = 1)) (
                      some (decide ((((t36_0.length) : Nat) : Int) = 0), x))
                    (
                      some (false, x)))
                  (
                    br (decide (32 < best)) (
                      br (decide (t36_1 = 1)) (
                        some (decide ((((t36_0.length) : Nat) : Int) = 0), x))
                      (
                        some (false, x)))
                    (
                      (madrigalref6_Best k least most best x).bind fun (b0_3, t82) =>
                      br (!decide (t36_1 = 0)) (
                        some (false, x))
                      (
                        br (!decide ((((t36_0.length) : Nat) : Int) = (((t82.length) : Nat) : Int))) (
                          some (false, x))
                        (
                          (madrigallaw11_PitchSays_l0 k k (0, x, t36_0, t82)).bind fun o => match o with
                          | .inl b0_4 =>
                            some (true, b0_4)
                          | .inr (t10, b0_5) =>
                            some (t10, b0_5)))))))))))))
noncomputable def madrigallaw11_PitchSays.T (k : Nat) : List (AbFn Try.prog) := [madrigallaw11_awake.fn k, pitch_Score.fn k, madrigalref6_Score.fn k, pitch_Search.fn k, madrigalref6_Best.fn k]
noncomputable def madrigallaw11_PitchSays_l0.p (k : Nat) : Pc Try.prog 1 := mkLoop hm0 (madrigallaw11_PitchSays.T k) [] [] [] 0 (loopB 0 (bodyOf Try.f10)) ⟨114, 1, [(11, .whole 1), (13, .whole 2), (14, .int .i64)], [(.ints .i64, .ro), (.recs [.i64, .i64], .own), (.recs [.i64, .i64], .own)]⟩ (2, ⟨114, 1, [], [(.ints .i64, .ro)]⟩) [(1, ⟨114, 1, [(10, .bool)], [(.ints .i64, .ro)]⟩)] (madrigallaw11_PitchSays_l0F k) k (by kernel_rfl) (by kernel_rfl) (by intro rec d; kernel_rfl)
noncomputable def madrigallaw11_PitchSays.fn (k : Nat) : AbFn Try.prog := mkFn hm0 (madrigallaw11_PitchSays.T k) [.whole 0, .int .i64, .int .i64, .int .i64, .int .i64] [(.ints .i64, .ro)] [(0, madrigallaw11_PitchSays_l0.p k)] [] [madrigallaw11_PitchSays_l0.p k] 10 Try.f10 (1, ⟨1, 1, [(0, .bool)], [(.ints .i64, .ro)]⟩) [] (fun d => match d with | (lag, least, most, best, x) => madrigallaw11_PitchSays k lag least most best x) Try.func10 (by kernel_rfl) (by kernel_rfl) (by intro d; kernel_rfl)

-- madrigal/madrigallaw11.PitchFinds
def madrigallaw11_PitchFinds_l0F (k : Nat) (rec : (Int × Int × Int × Int × List Int × List Int) → Option (Int × Int × Int × List Int × List Int)) : (Int × Int × Int × Int × List Int × List Int) → Option (Int × Int × Int × List Int × List Int) := fun d => match d with
  | (n, best, p, i, cycle, x) =>
    br (decide (i < n)) (
      need (p ≠ 0) <|
      need (0 ≤ (i.tmod p) ∧ (i.tmod p) < (((cycle.length) : Nat) : Int)) <|
      let t56 := cycle.getD ((i.tmod p).toNat) 0
      need (((x ++ [t56]).length) * 8 ≤ 140737488355328) <|
      rec (n, best, p, IntKind.i64.wrap (i + 1), cycle, x ++ [t56]))
    (
      some (n, best, p, cycle, x))
def madrigallaw11_PitchFinds_l0 (k : Nat) : Nat → (Int × Int × Int × Int × List Int × List Int) → Option (Int × Int × Int × List Int × List Int) := itN (madrigallaw11_PitchFinds_l0F k)
def madrigallaw11_PitchFinds_l2F (k : Nat) (rec : (Int × Int × List Int × List Int × List (List Int) × List (List Int) × List (List Int)) → Option ((Int × List Int × List Int × List (List Int) × List (List Int)) ⊕ (Bool × List Int))) : (Int × Int × List Int × List Int × List (List Int) × List (List Int) × List (List Int)) → Option ((Int × List Int × List Int × List (List Int) × List (List Int)) ⊕ (Bool × List Int)) := fun d => match d with
  | (p, i, b0, x, l, a, b) =>
    br (decide (i < (((a.length) : Nat) : Int))) (
      need (0 ≤ i ∧ i < (((a.length) : Nat) : Int)) <|
      need (0 ≤ i ∧ i < (((b.length) : Nat) : Int)) <|
      br (!((decide (((a.getD (i.toNat) []).getD 0 0) = ((b.getD (i.toNat) []).getD 0 0))) && (decide (((a.getD (i.toNat) []).getD 1 0) = ((b.getD (i.toNat) []).getD 1 0))))) (
        some (.inr (false, b0)))
      (
        br (decide (0 < i)) (
          need (0 ≤ i ∧ i < (((a.length) : Nat) : Int)) <|
          need (0 ≤ (IntKind.i64.wrap (i - 1)) ∧ (IntKind.i64.wrap (i - 1)) < (((a.length) : Nat) : Int)) <|
          br (decide (((a.getD ((IntKind.i64.wrap (i - 1)).toNat) []).getD 1 0) < ((a.getD (i.toNat) []).getD 1 0))) (
            some (.inr (false, b0)))
          (
            need (0 ≤ i ∧ i < (((a.length) : Nat) : Int)) <|
            need (0 ≤ (IntKind.i64.wrap (i - 1)) ∧ (IntKind.i64.wrap (i - 1)) < (((a.length) : Nat) : Int)) <|
            br (decide (((a.getD (i.toNat) []).getD 1 0) = ((a.getD ((IntKind.i64.wrap (i - 1)).toNat) []).getD 1 0))) (
              need (0 ≤ i ∧ i < (((a.length) : Nat) : Int)) <|
              need (0 ≤ (IntKind.i64.wrap (i - 1)) ∧ (IntKind.i64.wrap (i - 1)) < (((a.length) : Nat) : Int)) <|
              br (decide (((a.getD (i.toNat) []).getD 0 0) < ((a.getD ((IntKind.i64.wrap (i - 1)).toNat) []).getD 0 0))) (
                some (.inr (false, b0)))
              (
                rec (p, IntKind.i64.wrap (i + 1), b0, x, l, a, b)))
            (
              rec (p, IntKind.i64.wrap (i + 1), b0, x, l, a, b))))
        (
          rec (p, IntKind.i64.wrap (i + 1), b0, x, l, a, b))))
    (
      some (.inl (p, b0, x, l, a)))
def madrigallaw11_PitchFinds_l2 (k : Nat) : Nat → (Int × Int × List Int × List Int × List (List Int) × List (List Int) × List (List Int)) → Option ((Int × List Int × List Int × List (List Int) × List (List Int)) ⊕ (Bool × List Int)) := itN (madrigallaw11_PitchFinds_l2F k)
def madrigallaw11_PitchFinds (k : Nat) (n : Int) (best : Int) (cycle : List Int) : Option (Bool × List Int) :=
  (madrigallaw11_awake k).bind fun t17 =>
  br (!t17) (
    some (false, cycle))
  (
    br (decide ((((cycle.length) : Nat) : Int) < 2)) (
      some (true, cycle))
    (
      br (decide (60 < (((cycle.length) : Nat) : Int))) (
        some (true, cycle))
      (
        br (decide (n < (IntKind.i64.wrap (4 * (((cycle.length) : Nat) : Int))))) (
          some (true, cycle))
        (
          br (decide (600 < n)) (
            some (true, cycle))
          (
            br (decide (best < 1)) (
              some (true, cycle))
            (
              br (decide (31 < best)) (
                some (true, cycle))
              (
                (madrigallaw11_PitchFinds_l0 k k (n, best, (((cycle.length) : Nat) : Int), 0, cycle, [])).bind fun (n1, best1, p, b0, x) =>
                (pitch_Search k 1 (IntKind.i64.wrap (n1.tdiv 2)) 1 x).bind fun (t63_1, b0_1, t63_0) =>
                (pitch_Search k 1 (IntKind.i64.wrap (n1.tdiv 2)) best1 x).bind fun (t71_1, b0_2, t71_0) =>
                (pitch_Search k 1 (IntKind.i64.wrap (n1.tdiv 2)) (IntKind.i64.wrap (best1 + 1)) x).bind fun (t80_1, b0_3, t80_0) =>
                br (!decide (t63_1 = 0)) (
                  some (false, b0))
                (
                  br (!decide (t71_1 = 0)) (
                    some (false, b0))
                  (
                    br (!decide (t80_1 = 0)) (
                      some (false, b0))
                    (
                      br (!decide ((((t63_0.length) : Nat) : Int) = 1)) (
                        some (false, b0))
                      (
                        br (decide ((((t80_0.length) : Nat) : Int) < (((t71_0.length) : Nat) : Int))) (
                          some (false, b0))
                        (
                          (madrigallaw11_PitchFinds_l2 k k (p, 0, b0, x, t63_0, t71_0, t80_0)).bind fun o => match o with
                          | .inl (p1, b0_4, x1, l, a) =>
                            need (0 ≤ (0 : Int) ∧ (0 : Int) < (((l.length) : Nat) : Int)) <|
                            (pitch_Score k p1 x1).bind fun (t172, b0_5) =>
                            br (decide (t172 ≤ ((l.getD 0 []).getD 1 0))) (
                              need (0 ≤ (0 : Int) ∧ (0 : Int) < (((l.length) : Nat) : Int)) <|
                              need (0 ≤ (0 : Int) ∧ (0 : Int) < (((a.length) : Nat) : Int)) <|
                              some ((decide (((l.getD 0 []).getD 0 0) = ((a.getD 0 []).getD 0 0))) && (decide (((l.getD 0 []).getD 1 0) = ((a.getD 0 []).getD 1 0))), b0_4))
                            (
                              some (false, b0_4))
                          | .inr (t6, b0_6) =>
                            some (t6, b0_6)))))))))))))
noncomputable def madrigallaw11_PitchFinds.T (k : Nat) : List (AbFn Try.prog) := [madrigallaw11_awake.fn k, pitch_Search.fn k, pitch_Score.fn k]
noncomputable def madrigallaw11_PitchFinds_l0.p (k : Nat) : Pc Try.prog 1 := mkLoop hm0 (madrigallaw11_PitchFinds.T k) [] [] [] 0 (loopB 0 (bodyOf Try.f11)) ⟨183, 1, [(0, .whole 0), (1, .int .i64), (2, .int .i64), (7, .int .i64), (8, .whole 1), (9, .int .i64)], [(.ints .i64, .ro), (.ints .i64, .own)]⟩ (2, ⟨183, 1, [(1, .int .i64), (2, .int .i64), (7, .int .i64), (8, .whole 1)], [(.ints .i64, .ro), (.ints .i64, .own)]⟩) [] (madrigallaw11_PitchFinds_l0F k) k (by kernel_rfl) (by kernel_rfl) (by intro rec d; kernel_rfl)
def madrigallaw11_PitchFinds.s0 : Sk := ⟨183, 1, [(7, .int .i64), (8, .whole 1), (10, .whole 2), (12, .whole 3)], [(.ints .i64, .ro), (.ints .i64, .own), (.recs [.i64, .i64], .own), (.recs [.i64, .i64], .own)]⟩
def madrigallaw11_PitchFinds.s1 : Sk := ⟨183, 1, [(7, .int .i64), (8, .whole 1), (10, .whole 2), (12, .whole 3), (14, .whole 4), (16, .int .i64)], [(.ints .i64, .ro), (.ints .i64, .own), (.recs [.i64, .i64], .own), (.recs [.i64, .i64], .own), (.recs [.i64, .i64], .own)]⟩
noncomputable def madrigallaw11_PitchFinds_l2.p (k : Nat) : Pc Try.prog 1 := mkLoop hm0 (madrigallaw11_PitchFinds.T k) [(0, madrigallaw11_PitchFinds_l0.p k)] [] [] 2 (loopB 2 (bodyOf Try.f11)) madrigallaw11_PitchFinds.s1 (4, madrigallaw11_PitchFinds.s0) [(1, ⟨183, 1, [(6, .bool)], [(.ints .i64, .ro)]⟩)] (madrigallaw11_PitchFinds_l2F k) k (by kernel_rfl) (by kernel_rfl) (by intro rec d; kernel_rfl)
noncomputable def madrigallaw11_PitchFinds.fn (k : Nat) : AbFn Try.prog := mkFn hm0 (madrigallaw11_PitchFinds.T k) [.whole 0, .int .i64, .int .i64] [(.ints .i64, .ro)] [(2, madrigallaw11_PitchFinds_l2.p k), (0, madrigallaw11_PitchFinds_l0.p k)] [] [madrigallaw11_PitchFinds_l0.p k, madrigallaw11_PitchFinds_l2.p k] 11 Try.f11 (1, ⟨1, 1, [(0, .bool)], [(.ints .i64, .ro)]⟩) [] (fun d => match d with | (n, best, cycle) => madrigallaw11_PitchFinds k n best cycle) Try.func11 (by kernel_rfl) (by kernel_rfl) (by intro d; kernel_rfl)

-- madrigal/madrigallaw11.PitchSigns
def madrigallaw11_PitchSigns_l0F (k : Nat) (rec : (Int × Int × List Int × List Int) → Option ((Int × List Int × List Int) ⊕ (Bool × List Int))) : (Int × Int × List Int × List Int) → Option ((Int × List Int × List Int) ⊕ (Bool × List Int)) := fun d => match d with
  | (lag, i, x, n) =>
    br (decide (i < (((x.length) : Nat) : Int))) (
      need (0 ≤ i ∧ i < (((x.length) : Nat) : Int)) <|
      br (decide (16383 < (x.getD (i.toNat) 0))) (
        some (.inr (true, x)))
      (
        need (0 ≤ i ∧ i < (((x.length) : Nat) : Int)) <|
        br (decide ((x.getD (i.toNat) 0) < (-16383))) (
          some (.inr (true, x)))
        (
          need (0 ≤ i ∧ i < (((x.length) : Nat) : Int)) <|
          let t35 := IntKind.i64.wrap (0 - (x.getD (i.toNat) 0))
          need (((n ++ [t35]).length) * 8 ≤ 140737488355328) <|
          rec (lag, IntKind.i64.wrap (i + 1), x, n ++ [t35]))))
    (
      some (.inl (lag, x, n)))
def madrigallaw11_PitchSigns_l0 (k : Nat) : Nat → (Int × Int × List Int × List Int) → Option ((Int × List Int × List Int) ⊕ (Bool × List Int)) := itN (madrigallaw11_PitchSigns_l0F k)
def madrigallaw11_PitchSigns (k : Nat) (lag : Int) (x : List Int) : Option (Bool × List Int) :=
  (madrigallaw11_awake k).bind fun t7 =>
  br (!t7) (
    some (false, x))
  (
    br (decide (960 < (((x.length) : Nat) : Int))) (
      some (true, x))
    (
      (madrigallaw11_PitchSigns_l0 k k (lag, 0, x, [])).bind fun o => match o with
      | .inl (lag1, x1, n) =>
        (pitch_Score k lag1 x1).bind fun (t40, b0) =>
        (pitch_Score k lag1 n).bind fun (t43, b0_1) =>
        br (decide (t40 = t43)) (
          (pitch_Score k lag1 x1).bind fun (t48, b0_2) =>
          some (decide (0 ≤ t48), x1))
        (
          some (false, x1))
      | .inr (t4, b0_3) =>
        some (t4, b0_3)))
noncomputable def madrigallaw11_PitchSigns.T (k : Nat) : List (AbFn Try.prog) := [madrigallaw11_awake.fn k, pitch_Score.fn k]
noncomputable def madrigallaw11_PitchSigns_l0.p (k : Nat) : Pc Try.prog 1 := mkLoop hm0 (madrigallaw11_PitchSigns.T k) [] [] [] 0 (loopB 0 (bodyOf Try.f12)) ⟨51, 1, [(0, .whole 0), (1, .int .i64), (5, .whole 1), (6, .int .i64)], [(.ints .i64, .ro), (.ints .i64, .own)]⟩ (2, ⟨51, 1, [(0, .whole 0), (1, .int .i64), (5, .whole 1)], [(.ints .i64, .ro), (.ints .i64, .own)]⟩) [(1, ⟨51, 1, [(4, .bool)], [(.ints .i64, .ro)]⟩)] (madrigallaw11_PitchSigns_l0F k) k (by kernel_rfl) (by kernel_rfl) (by intro rec d; kernel_rfl)
noncomputable def madrigallaw11_PitchSigns.fn (k : Nat) : AbFn Try.prog := mkFn hm0 (madrigallaw11_PitchSigns.T k) [.whole 0, .int .i64] [(.ints .i64, .ro)] [(0, madrigallaw11_PitchSigns_l0.p k)] [] [madrigallaw11_PitchSigns_l0.p k] 12 Try.f12 (1, ⟨1, 1, [(0, .bool)], [(.ints .i64, .ro)]⟩) [] (fun d => match d with | (lag, x) => madrigallaw11_PitchSigns k lag x) Try.func12 (by kernel_rfl) (by kernel_rfl) (by intro d; kernel_rfl)

-- madrigal/madrigallaw11.PitchAll
def madrigallaw11_PitchAll_c17 (k : Nat) : (Int × Int × Int × Int × List Int × List (List Int)) → Option ((Int × Int × Int × Int × List Int × List (List Int)) ⊕ (Bool × List Int)) := fun d => match d with
  | (most, lag, n, i, x, l) =>
    need (0 ≤ i ∧ i < (((l.length) : Nat) : Int)) <|
    br (decide (((l.getD (i.toNat) []).getD 0 0) = lag)) (
      need (0 ≤ i ∧ i < (((l.length) : Nat) : Int)) <|
      (pitch_Score k lag x).bind fun (t72, b0) =>
      br (!decide (((l.getD (i.toNat) []).getD 1 0) = t72)) (
        some (.inr (false, x)))
      (
        need (0 ≤ i ∧ i < (((l.length) : Nat) : Int)) <|
        need (0 ≤ (0 : Int) ∧ (0 : Int) < (((l.length) : Nat) : Int)) <|
        br (decide (((l.getD 0 []).getD 1 0) < ((l.getD (i.toNat) []).getD 1 0))) (
          some (.inr (false, x)))
        (
          some (.inl (most, lag, n, i, x, l)))))
    (
      need (0 ≤ i ∧ i < (((l.length) : Nat) : Int)) <|
      need (0 ≤ (0 : Int) ∧ (0 : Int) < (((l.length) : Nat) : Int)) <|
      br (decide (((l.getD 0 []).getD 1 0) < ((l.getD (i.toNat) []).getD 1 0))) (
        some (.inr (false, x)))
      (
        some (.inl (most, lag, n, i, x, l))))
def madrigallaw11_PitchAll_l2F (k : Nat) (rec : (Int × Int × Int × Int × List Int × List (List Int)) → Option ((Int × Int × Int × List Int × List (List Int)) ⊕ (Bool × List Int))) : (Int × Int × Int × Int × List Int × List (List Int)) → Option ((Int × Int × Int × List Int × List (List Int)) ⊕ (Bool × List Int)) := fun d => match d with
  | (most, lag, n, i, x, l) =>
    br (decide (i < (((l.length) : Nat) : Int))) (
      need (0 ≤ i ∧ i < (((l.length) : Nat) : Int)) <|
      br (decide (((l.getD (i.toNat) []).getD 0 0) = lag)) (
        (madrigallaw11_PitchAll_c17 k (most, lag, IntKind.i64.wrap (n + 1), i, x, l)).bind fun o => match o with
        | .inl (most1, lag1, n1, i1, x1, l1) =>
          rec (most1, lag1, n1, IntKind.i64.wrap (i1 + 1), x1, l1)
        | .inr (t6, b0) =>
          some (.inr (t6, b0)))
      (
        (madrigallaw11_PitchAll_c17 k (most, lag, n, i, x, l)).bind fun o => match o with
        | .inl (most2, lag2, n2, i2, x2, l2) =>
          rec (most2, lag2, n2, IntKind.i64.wrap (i2 + 1), x2, l2)
        | .inr (t6_1, b0_1) =>
          some (.inr (t6_1, b0_1))))
    (
      some (.inl (most, lag, n, x, l)))
def madrigallaw11_PitchAll_l2 (k : Nat) : Nat → (Int × Int × Int × Int × List Int × List (List Int)) → Option ((Int × Int × Int × List Int × List (List Int)) ⊕ (Bool × List Int)) := itN (madrigallaw11_PitchAll_l2F k)
def madrigallaw11_PitchAll_l0F (k : Nat) (rec : (Int × Int × List Int × List (List Int)) → Option ((List Int) ⊕ (Bool × List Int))) : (Int × Int × List Int × List (List Int)) → Option ((List Int) ⊕ (Bool × List Int)) := fun d => match d with
  | (most, lag, x, l) =>
    br (decide (lag ≤ most)) (
      (madrigallaw11_PitchAll_l2 k k (most, lag, 0, 0, x, l)).bind fun o => match o with
      | .inl (most1, lag1, n, x1, l1) =>
        br (!decide (n = 1)) (
          some (.inr (false, x1)))
        (
          rec (most1, IntKind.i64.wrap (lag1 + 1), x1, l1))
      | .inr (t6, b0) =>
        some (.inr (t6, b0)))
    (
      some (.inl x))
def madrigallaw11_PitchAll_l0 (k : Nat) : Nat → (Int × Int × List Int × List (List Int)) → Option ((List Int) ⊕ (Bool × List Int)) := itN (madrigallaw11_PitchAll_l0F k)
def madrigallaw11_PitchAll (k : Nat) (least : Int) (most : Int) (x : List Int) : Option (Bool × List Int) :=
  (madrigallaw11_awake k).bind fun t12 =>
  br (!t12) (
    some (false, x))
  (
    (pitch_Search k least most 32 x).bind fun (t18_1, b0, t18_0) =>
    br (!decide (t18_1 = 0)) (
      some (true, x))
    (
      br (decide (31 < (IntKind.i64.wrap (most - least)))) (
        some (true, x))
      (
        br (!decide ((((t18_0.length) : Nat) : Int) = (IntKind.i64.wrap ((IntKind.i64.wrap (most - least)) + 1)))) (
          some (false, x))
        (
          (madrigallaw11_PitchAll_l0 k k (most, least, x, t18_0)).bind fun o => match o with
          | .inl b0_1 =>
            some (true, b0_1)
          | .inr (t6, b0_2) =>
            some (t6, b0_2)))))
noncomputable def madrigallaw11_PitchAll.T (k : Nat) : List (AbFn Try.prog) := [madrigallaw11_awake.fn k, pitch_Search.fn k, pitch_Score.fn k]
noncomputable def madrigallaw11_PitchAll_c17.p (k : Nat) : Pc Try.prog 1 := mkCut hm0 (madrigallaw11_PitchAll.T k) [] [] [] (cutB 17 (bodyOf Try.f13)) ⟨89, 1, [(0, .whole 0), (2, .int .i64), (7, .whole 1), (9, .int .i64), (10, .int .i64), (11, .int .i64)], [(.ints .i64, .ro), (.recs [.i64, .i64], .own)]⟩ (0, ⟨89, 1, [(0, .whole 0), (2, .int .i64), (7, .whole 1), (9, .int .i64), (10, .int .i64), (11, .int .i64)], [(.ints .i64, .ro), (.recs [.i64, .i64], .own)]⟩) [(1, ⟨89, 1, [(6, .bool)], [(.ints .i64, .ro)]⟩)] (madrigallaw11_PitchAll_c17 k) (by kernel_rfl) (by kernel_rfl) (by intro d; kernel_rfl)
noncomputable def madrigallaw11_PitchAll_l2.p (k : Nat) : Pc Try.prog 1 := mkLoop hm0 (madrigallaw11_PitchAll.T k) [] [(17, madrigallaw11_PitchAll_c17.p k)] [madrigallaw11_PitchAll_c17.p k] 2 (loopB 2 (bodyOf Try.f13)) ⟨89, 1, [(0, .whole 0), (2, .int .i64), (7, .whole 1), (9, .int .i64), (10, .int .i64), (11, .int .i64)], [(.ints .i64, .ro), (.recs [.i64, .i64], .own)]⟩ (4, ⟨89, 1, [(0, .whole 0), (2, .int .i64), (7, .whole 1), (9, .int .i64), (10, .int .i64)], [(.ints .i64, .ro), (.recs [.i64, .i64], .own)]⟩) [(1, ⟨89, 1, [(6, .bool)], [(.ints .i64, .ro)]⟩)] (madrigallaw11_PitchAll_l2F k) k (by kernel_rfl) (by kernel_rfl) (by intro rec d; kernel_rfl)
noncomputable def madrigallaw11_PitchAll_l0.p (k : Nat) : Pc Try.prog 1 := mkLoop hm0 (madrigallaw11_PitchAll.T k) [(2, madrigallaw11_PitchAll_l2.p k)] [(17, madrigallaw11_PitchAll_c17.p k)] [madrigallaw11_PitchAll_l2.p k] 0 (loopB 0 (bodyOf Try.f13)) ⟨89, 1, [(0, .whole 0), (2, .int .i64), (7, .whole 1), (9, .int .i64)], [(.ints .i64, .ro), (.recs [.i64, .i64], .own)]⟩ (2, ⟨89, 1, [], [(.ints .i64, .ro)]⟩) [(1, ⟨89, 1, [(6, .bool)], [(.ints .i64, .ro)]⟩)] (madrigallaw11_PitchAll_l0F k) k (by kernel_rfl) (by kernel_rfl) (by intro rec d; kernel_rfl)
noncomputable def madrigallaw11_PitchAll.fn (k : Nat) : AbFn Try.prog := mkFn hm0 (madrigallaw11_PitchAll.T k) [.whole 0, .int .i64, .int .i64] [(.ints .i64, .ro)] [(0, madrigallaw11_PitchAll_l0.p k), (2, madrigallaw11_PitchAll_l2.p k)] [(17, madrigallaw11_PitchAll_c17.p k)] [madrigallaw11_PitchAll_l0.p k] 13 Try.f13 (1, ⟨1, 1, [(0, .bool)], [(.ints .i64, .ro)]⟩) [] (fun d => match d with | (least, most, x) => madrigallaw11_PitchAll k least most x) Try.func13 (by kernel_rfl) (by kernel_rfl) (by intro d; kernel_rfl)

end Go.Proofs.Ytdimjdlomgpbgaa
