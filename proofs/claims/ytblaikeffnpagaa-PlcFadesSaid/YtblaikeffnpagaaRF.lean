/- The functions that the laws of this seat reach, each as a Lean function, and that the code computes it. Conditions: those of each statement. -/
import Derived.Test.YtblaikeffnpagaaBb5
import Derived.Test.YtblaikeffnpagaaRF1
import Derived.Test.YtblaikeffnpagaaRS2
import Derived.Test.YtblaikeffnpagaaRows
set_option linter.unusedVariables false
set_option linter.unusedSimpArgs false
namespace Go.Proofs.Ytblaikeffnpagaa
open Go Go.Ab Go.Proofs
def str0 : ByteArray := ⟨#[0, 1, 2, 2, 3, 3, 3, 3, 4, 4, 4, 4, 4, 4, 4, 4, 5, 5, 5, 5, 5, 5, 5, 5, 5, 5, 5, 5, 5, 5, 5, 5, 6, 6, 6, 6, 6, 6, 6, 6, 6, 6, 6, 6, 6, 6, 6, 6, 6, 6, 6, 6, 6, 6, 6, 6, 6, 6, 6, 6, 6, 6, 6, 6, 7, 7, 7, 7, 7, 7, 7, 7, 7, 7, 7, 7, 7, 7, 7, 7, 7, 7, 7, 7, 7, 7, 7, 7, 7, 7, 7, 7, 7, 7, 7, 7, 7, 7, 7, 7, 7, 7, 7, 7, 7, 7, 7, 7, 7, 7, 7, 7, 7, 7, 7, 7, 7, 7, 7, 7, 7, 7, 7, 7, 7, 7, 7, 7, 8, 8, 8, 8, 8, 8, 8, 8, 8, 8, 8, 8, 8, 8, 8, 8, 8, 8, 8, 8, 8, 8, 8, 8, 8, 8, 8, 8, 8, 8, 8, 8, 8, 8, 8, 8, 8, 8, 8, 8, 8, 8, 8, 8, 8, 8, 8, 8, 8, 8, 8, 8, 8, 8, 8, 8, 8, 8, 8, 8, 8, 8, 8, 8, 8, 8, 8, 8, 8, 8, 8, 8, 8, 8, 8, 8, 8, 8, 8, 8, 8, 8, 8, 8, 8, 8, 8, 8, 8, 8, 8, 8, 8, 8, 8, 8, 8, 8, 8, 8, 8, 8, 8, 8, 8, 8, 8, 8, 8, 8, 8, 8, 8, 8, 8, 8, 8, 8, 8, 8, 8, 8, 8, 8, 8, 8, 8, 8]⟩
-- madrigal/plc.New
def plc_New (rate : Int) : Option ((Int × Int × Int × Int × List Int) ⊕ (Int)) :=
  br (decide (rate = 8000)) (
    br (decide (rate = 8000)) (
      need (0 ≤ (IntKind.i64.wrap (rate.tdiv 50)) ∧ (IntKind.i64.wrap (rate.tdiv 50)) = (IntKind.i64.wrap (rate.tdiv 50)) ∧ (8 : Int) * (IntKind.i64.wrap (rate.tdiv 50)) ≤ 281474976710656 ∧ (IntKind.i64.wrap (rate.tdiv 50)) ≤ 9223372036854775807) <|
      some (.inl (0, rate, 0, 0, List.replicate ((IntKind.i64.wrap (rate.tdiv 50)).toNat) (0 : Int))))
    (
      some (.inr 1)))
  (
    br (decide (rate = 12000)) (
      br (decide (rate = 12000)) (
        need (0 ≤ (IntKind.i64.wrap (rate.tdiv 50)) ∧ (IntKind.i64.wrap (rate.tdiv 50)) = (IntKind.i64.wrap (rate.tdiv 50)) ∧ (8 : Int) * (IntKind.i64.wrap (rate.tdiv 50)) ≤ 281474976710656 ∧ (IntKind.i64.wrap (rate.tdiv 50)) ≤ 9223372036854775807) <|
        some (.inl (0, rate, 0, 0, List.replicate ((IntKind.i64.wrap (rate.tdiv 50)).toNat) (0 : Int))))
      (
        some (.inr 1)))
    (
      br (decide (rate = 16000)) (
        br (decide (rate = 16000)) (
          need (0 ≤ (IntKind.i64.wrap (rate.tdiv 50)) ∧ (IntKind.i64.wrap (rate.tdiv 50)) = (IntKind.i64.wrap (rate.tdiv 50)) ∧ (8 : Int) * (IntKind.i64.wrap (rate.tdiv 50)) ≤ 281474976710656 ∧ (IntKind.i64.wrap (rate.tdiv 50)) ≤ 9223372036854775807) <|
          some (.inl (0, rate, 0, 0, List.replicate ((IntKind.i64.wrap (rate.tdiv 50)).toNat) (0 : Int))))
        (
          some (.inr 1)))
      (
        br (decide (rate = 24000)) (
          br (decide (rate = 24000)) (
            need (0 ≤ (IntKind.i64.wrap (rate.tdiv 50)) ∧ (IntKind.i64.wrap (rate.tdiv 50)) = (IntKind.i64.wrap (rate.tdiv 50)) ∧ (8 : Int) * (IntKind.i64.wrap (rate.tdiv 50)) ≤ 281474976710656 ∧ (IntKind.i64.wrap (rate.tdiv 50)) ≤ 9223372036854775807) <|
            some (.inl (0, rate, 0, 0, List.replicate ((IntKind.i64.wrap (rate.tdiv 50)).toNat) (0 : Int))))
          (
            some (.inr 1)))
        (
          br (decide (rate = 48000)) (
            need (0 ≤ (IntKind.i64.wrap (rate.tdiv 50)) ∧ (IntKind.i64.wrap (rate.tdiv 50)) = (IntKind.i64.wrap (rate.tdiv 50)) ∧ (8 : Int) * (IntKind.i64.wrap (rate.tdiv 50)) ≤ 281474976710656 ∧ (IntKind.i64.wrap (rate.tdiv 50)) ≤ 9223372036854775807) <|
            some (.inl (0, rate, 0, 0, List.replicate ((IntKind.i64.wrap (rate.tdiv 50)).toNat) (0 : Int))))
          (
            some (.inr 1))))))
noncomputable def plc_New.fn : AbFn Try.prog := mkFn hm0 [] [.int .i64] [] [] [] [] 9 Try.f9 (1, ⟨1, 0, [(0, .tuple [.ptr0 0 0, .int .i64])], [(.vals 4 [.int .i64, .whole 1, .int .i64, .int .i64], .own), (.ints .i64, .own)]⟩) [(1, ⟨1, 0, [(0, .tuple [.nilPtr, .int .i64])], []⟩)] (fun d => match d with | rate => plc_New rate) Try.func9 (by kernel_rfl) (by kernel_rfl) (by intro d; kernel_rfl)

-- slices.Clone[[]int64,int64]
def slices_Clone_int64_int64 (s : List Int) : Option (List Int × List Int) :=
  need (0 < (s.length)) <|
  need ((s.length) * 8 ≤ 140737488355328) <|
  some (s, s)
noncomputable def slices_Clone_int64_int64.fn : AbFn Try.prog := mkFn hm0 [] [.whole 0] [(.ints .i64, .ro)] [] [] [] 31 Try.f31 (1, ⟨1, 1, [(0, .whole 1)], [(.ints .i64, .ro), (.ints .i64, .own)]⟩) [] (fun d => match d with | s => slices_Clone_int64_int64 s) Try.func31 (by kernel_rfl) (by kernel_rfl) (by intro d; kernel_rfl)

-- madrigal/fix.Clamp
def fix_Clamp (a : Int) (lo : Int) (hi : Int) : Option (Int) :=
  br (decide (hi < lo)) (
    some lo)
  (
    br (decide (a < lo)) (
      some lo)
    (
      br (decide (hi < a)) (
        some hi)
      (
        some a)))
noncomputable def fix_Clamp.fn : AbFn Try.prog := mkFn hm0 [] [.int .i64, .int .i64, .int .i64] [] [] [] [] 39 Try.f39 (1, ⟨1, 0, [(0, .int .i64)], []⟩) [] (fun d => match d with | (a, lo, hi) => fix_Clamp a lo hi) Try.func39 (by kernel_rfl) (by kernel_rfl) (by intro d; kernel_rfl)

-- madrigal/fix.Sat16
def fix_Sat16 (a : Int) : Option (Int) :=
  (fix_Clamp a (-32768) 32767).bind fun t4 =>
  some t4
noncomputable def fix_Sat16.fn : AbFn Try.prog := mkFn hm0 [fix_Clamp.fn] [.int .i64] [] [] [] [] 28 Try.f28 (1, ⟨1, 0, [(0, .int .i64)], []⟩) [] (fun d => match d with | a => fix_Sat16 a) Try.func28 (by kernel_rfl) (by kernel_rfl) (by intro d; kernel_rfl)

-- (*madrigal/plc.Maker).Keep
def plc_Maker_Keep_l0F (k : Nat) (rec : (Int × Nat × Nat × Int × Int × Int × Int × Int × List Int × List Int × List Int) → Option (Int × Int × Int × Int × List Int × List Int × List Int)) : (Int × Nat × Nat × Int × Int × Int × Int × Int × List Int × List Int × List Int) → Option (Int × Int × Int × Int × List Int × List Int × List Int) := fun d => match d with
  | (h, t24_o, t24_n, t25, t26, m_0, m_2, m_3, t24, m_1, l) =>
    br (decide (t26 < t25)) (
      need (0 ≤ t26 ∧ t26 < ((t24_n : Nat) : Int)) <|
      (fix_Sat16 (t24.getD (t24_o + (t26.toNat)) 0)).bind fun t32 =>
      need (((l ++ [t32]).length) * 8 ≤ 140737488355328) <|
      rec (h, t24_o, t24_n, t25, IntKind.i64.wrap (t26 + 1), m_0, m_2, m_3, t24, m_1, l ++ [t32]))
    (
      some (h, m_0, m_2, m_3, t24, m_1, l))
def plc_Maker_Keep_l0 (k : Nat) : Nat → (Int × Nat × Nat × Int × Int × Int × Int × Int × List Int × List Int × List Int) → Option (Int × Int × Int × Int × List Int × List Int × List Int) := itN (plc_Maker_Keep_l0F k)
def plc_Maker_Keep (k : Nat) (m_0 : Int) (m_2 : Int) (m_3 : Int) (x : List Int) (m_1 : List Int) : Option (Int × Int × Int × List Int × List Int × List Int) :=
  (slices_Clone_int64_int64 m_1).bind fun (b0, t17) =>
  let t22 := IntKind.i64.wrap ((((x.length) : Nat) : Int) - (((m_1.length) : Nat) : Int))
  need (0 ≤ (if 0 > t22 then 0 else t22) ∧ (if 0 > t22 then 0 else t22) ≤ (((x.length) : Nat) : Int)) <|
  (plc_Maker_Keep_l0 k k ((((m_1.length) : Nat) : Int), (if 0 > t22 then 0 else t22).toNat, ((((x.length) : Nat) : Int) - (if 0 > t22 then 0 else t22)).toNat, (((((((x.length) : Nat) : Int) - (if 0 > t22 then 0 else t22)).toNat) : Nat) : Int), 0, m_0, m_2, m_3, x, m_1, t17)).bind fun (h, m_0_1, m_2_1, m_3_1, b1, m_1_1, l) =>
  need (0 ≤ (IntKind.i64.wrap ((((l.length) : Nat) : Int) - h)) ∧ (IntKind.i64.wrap ((((l.length) : Nat) : Int) - h)) ≤ (((l.length) : Nat) : Int)) <|
  some (m_0_1, 0, 0, b1, m_1_1, (l.drop ((IntKind.i64.wrap ((((l.length) : Nat) : Int) - h)).toNat)).take (((((l.length) : Nat) : Int) - (IntKind.i64.wrap ((((l.length) : Nat) : Int) - h))).toNat))
noncomputable def plc_Maker_Keep.T (k : Nat) : List (AbFn Try.prog) := [slices_Clone_int64_int64.fn, fix_Sat16.fn]
def plc_Maker_Keep.s0 : Sk := ⟨51, 3, [(0, .ptr0 0 0), (4, .int .i64), (5, .whole 3)], [(.vals 4 [.int .i64, .whole 2, .int .i64, .int .i64], .rw), (.ints .i64, .ro), (.ints .i64, .ro), (.ints .i64, .own)]⟩
def plc_Maker_Keep.s1 : Sk := ⟨51, 3, [(0, .ptr0 0 0), (4, .int .i64), (5, .whole 3), (24, .part 1), (25, .int .i64), (26, .int .i64)], [(.vals 4 [.int .i64, .whole 2, .int .i64, .int .i64], .rw), (.ints .i64, .ro), (.ints .i64, .ro), (.ints .i64, .own)]⟩
noncomputable def plc_Maker_Keep_l0.p (k : Nat) : Pc Try.prog 3 := mkLoop hm0 (plc_Maker_Keep.T k) [] [] [] 0 (loopB 0 (bodyOf Try.f17)) plc_Maker_Keep.s1 (2, plc_Maker_Keep.s0) [] (plc_Maker_Keep_l0F k) k (by kernel_rfl) (by kernel_rfl) (by intro rec d; kernel_rfl)
noncomputable def plc_Maker_Keep.fn (k : Nat) : AbFn Try.prog := mkFn hm0 (plc_Maker_Keep.T k) [.el 0 4, .whole 1] [(.vals 4 [.int .i64, .whole 2, .int .i64, .int .i64], .rw), (.ints .i64, .ro), (.ints .i64, .ro)] [(0, plc_Maker_Keep_l0.p k)] [] [plc_Maker_Keep_l0.p k] 17 Try.f17 (1, ⟨1, 3, [(0, .tuple [])], [(.vals 4 [.int .i64, .whole 3, .int .i64, .int .i64], .rw), (.ints .i64, .ro), (.ints .i64, .ro), (.ints .i64, .own)]⟩) [] (fun d => match d with | (m_0, m_2, m_3, x, m_1) => plc_Maker_Keep k m_0 m_2 m_3 x m_1) Try.func17 (by kernel_rfl) (by kernel_rfl) (by intro d; kernel_rfl)

-- madrigal/pitch.may
def pitch_may (x : List Int) : Option (Bool × List Int) :=
  br (decide (2 ≤ (((x.length) : Nat) : Int))) (
    some (decide ((((x.length) : Nat) : Int) ≤ 960), x))
  (
    some (false, x))
noncomputable def pitch_may.fn : AbFn Try.prog := mkFn hm0 [] [.whole 0] [(.ints .i64, .ro)] [] [] [] 42 Try.f42 (1, ⟨1, 1, [(0, .bool)], [(.ints .i64, .ro)]⟩) [] (fun d => match d with | x => pitch_may x) Try.func42 (by kernel_rfl) (by kernel_rfl) (by intro d; kernel_rfl)

-- madrigal/pitch.Score
def pitch_Score_l0F (k : Nat) (rec : (Int × Int × Int × Int × List Int) → Option (Int × Int × List Int)) : (Int × Int × Int × Int × List Int) → Option (Int × Int × List Int) := fun d => match d with
  | (lag, c, e, n, x) =>
    br (decide (n < (((x.length) : Nat) : Int))) (
      need (0 ≤ n ∧ n < (((x.length) : Nat) : Int)) <|
      (fix_Sat16 (x.getD (n.toNat) 0)).bind fun t37 =>
      need (0 ≤ (IntKind.i64.wrap (n - lag)) ∧ (IntKind.i64.wrap (n - lag)) < (((x.length) : Nat) : Int)) <|
      (fix_Sat16 (x.getD ((IntKind.i64.wrap (n - lag)).toNat) 0)).bind fun t44 =>
      rec (lag, IntKind.i64.wrap (c + (IntKind.i64.wrap (t37 * t44))), IntKind.i64.wrap (e + (IntKind.i64.wrap (t44 * t44))), IntKind.i64.wrap (n + 1), x))
    (
      some (c, e, x))
def pitch_Score_l0 (k : Nat) : Nat → (Int × Int × Int × Int × List Int) → Option (Int × Int × List Int) := itN (pitch_Score_l0F k)
def pitch_Score (k : Nat) (lag : Int) (x : List Int) : Option (Int × List Int) :=
  (pitch_may x).bind fun (t11, b0) =>
  br (!t11) (
    some (0, x))
  (
    br (decide (lag < 1)) (
      some (0, x))
    (
      br (decide ((IntKind.i64.wrap ((((x.length) : Nat) : Int).tdiv 2)) < lag)) (
        some (0, x))
      (
        (pitch_Score_l0 k k (lag, 0, 0, IntKind.i64.wrap ((((x.length) : Nat) : Int).tdiv 2), x)).bind fun (c, e, b0_1) =>
        br (decide (c ≤ 0)) (
          some (0, b0_1))
        (
          need ((IntKind.i64.wrap ((e.fdiv 65536) + 1)) ≠ 0) <|
          some (IntKind.i64.wrap ((IntKind.i64.wrap ((c.fdiv 256) * (c.fdiv 256))).tdiv (IntKind.i64.wrap ((e.fdiv 65536) + 1))), b0_1)))))
noncomputable def pitch_Score.T (k : Nat) : List (AbFn Try.prog) := [pitch_may.fn, fix_Sat16.fn]
noncomputable def pitch_Score_l0.p (k : Nat) : Pc Try.prog 1 := mkLoop hm0 (pitch_Score.T k) [] [] [] 0 (loopB 0 (bodyOf Try.f44)) ⟨66, 1, [(0, .whole 0), (1, .int .i64), (5, .int .i64), (6, .int .i64), (7, .int .i64)], [(.ints .i64, .ro)]⟩ (2, ⟨66, 1, [(5, .int .i64), (6, .int .i64)], [(.ints .i64, .ro)]⟩) [] (pitch_Score_l0F k) k (by kernel_rfl) (by kernel_rfl) (by intro rec d; kernel_rfl)
noncomputable def pitch_Score.fn (k : Nat) : AbFn Try.prog := mkFn hm0 (pitch_Score.T k) [.whole 0, .int .i64] [(.ints .i64, .ro)] [(0, pitch_Score_l0.p k)] [] [pitch_Score_l0.p k] 44 Try.f44 (1, ⟨1, 1, [(0, .int .i64)], [(.ints .i64, .ro)]⟩) [] (fun d => match d with | (lag, x) => pitch_Score k lag x) Try.func44 (by kernel_rfl) (by kernel_rfl) (by intro d; kernel_rfl)

-- (*madrigal/pitch.worse).Push
def pitch_worse_Push (x_0 : Int) (x_1 : Int) (w_0 : List (List Int)) : Option (List (List Int)) :=
  need (((w_0 ++ [[x_0, x_1]]).length) * 16 ≤ 140737488355328) <|
  some (w_0 ++ [[x_0, x_1]])
noncomputable def pitch_worse_Push.fn : AbFn Try.prog := mkFn hm0 [] [.el 0 1, .iface 67 (.agg [.int .i64, .int .i64])] [(.vals 1 [.whole 1], .rw), (.recs [.i64, .i64], .own)] [] [] [] 90 Try.f90 (1, ⟨1, 2, [(0, .tuple [])], [(.vals 1 [.whole 2], .rw), (.dead, .own), (.recs [.i64, .i64], .own)]⟩) [] (fun d => match d with | (x_0, x_1, w_0) => pitch_worse_Push x_0 x_1 w_0) Try.func90 (by kernel_rfl) (by kernel_rfl) (by intro d; kernel_rfl)

-- (madrigal/pitch.worse).Len
def pitch_worse_Len (w : List (List Int)) : Option (Int × List (List Int)) :=
  some ((((w.length) : Nat) : Int), w)
noncomputable def pitch_worse_Len.fn : AbFn Try.prog := mkFn hm0 [] [.whole 0] [(.recs [.i64, .i64], .ro)] [] [] [] 86 Try.f86 (1, ⟨1, 1, [(0, .int .i64)], [(.recs [.i64, .i64], .ro)]⟩) [] (fun d => match d with | w => pitch_worse_Len w) Try.func86 (by kernel_rfl) (by kernel_rfl) (by intro d; kernel_rfl)

-- (madrigal/pitch.worse).Less
def pitch_worse_Less (i : Int) (j : Int) (w : List (List Int)) : Option (Bool × List (List Int)) :=
  need (0 ≤ i ∧ i < (((w.length) : Nat) : Int)) <|
  need (0 ≤ j ∧ j < (((w.length) : Nat) : Int)) <|
  (pitch_better ((w.getD (i.toNat) []).getD 0 0) ((w.getD (i.toNat) []).getD 1 0) ((w.getD (j.toNat) []).getD 0 0) ((w.getD (j.toNat) []).getD 1 0)).bind fun t15 =>
  some (decide (0 < t15), w)
noncomputable def pitch_worse_Less.fn : AbFn Try.prog := mkFn hm0 [pitch_better.fn] [.whole 0, .int .i64, .int .i64] [(.recs [.i64, .i64], .ro)] [] [] [] 87 Try.f87 (1, ⟨1, 1, [(0, .bool)], [(.recs [.i64, .i64], .ro)]⟩) [] (fun d => match d with | (i, j, w) => pitch_worse_Less i j w) Try.func87 (by kernel_rfl) (by kernel_rfl) (by intro d; kernel_rfl)

-- (madrigal/pitch.worse).Swap
def pitch_worse_Swap (i : Int) (j : Int) (w : List (List Int)) : Option (List (List Int)) :=
  need (0 ≤ j ∧ j < (((w.length) : Nat) : Int)) <|
  need (0 ≤ i ∧ i < (((w.length) : Nat) : Int)) <|
  need (0 ≤ i ∧ i < (((w.length) : Nat) : Int)) <|
  let l0 := w.set (i.toNat) [(w.getD (j.toNat) []).getD 0 0, (w.getD (j.toNat) []).getD 1 0]
  need (0 ≤ j ∧ j < (((l0.length) : Nat) : Int)) <|
  some (l0.set (j.toNat) [(w.getD (i.toNat) []).getD 0 0, (w.getD (i.toNat) []).getD 1 0])
noncomputable def pitch_worse_Swap.fn : AbFn Try.prog := mkFn hm0 [] [.whole 0, .int .i64, .int .i64] [(.recs [.i64, .i64], .rw)] [] [] [] 88 Try.f88 (1, ⟨1, 1, [(0, .tuple [])], [(.recs [.i64, .i64], .rw)]⟩) [] (fun d => match d with | (i, j, w) => pitch_worse_Swap i j w) Try.func88 (by kernel_rfl) (by kernel_rfl) (by intro d; kernel_rfl)

-- container/heap.up
def heap_up_l0F (k : Nat) (rec : (Int × List (List Int)) → Option (List (List Int))) : (Int × List (List Int)) → Option (List (List Int)) := fun d => match d with
  | (j, h_0) =>
    let t7 := IntKind.i64.wrap ((IntKind.i64.wrap (j - 1)).tdiv 2)
    br (decide (t7 = j)) (
      some h_0)
    (
      (pitch_worse_Less j t7 h_0).bind fun (t15, b0) =>
      br (!t15) (
        some h_0)
      (
        (pitch_worse_Swap t7 j h_0).bind fun b0_1 =>
        rec (t7, b0_1)))
def heap_up_l0 (k : Nat) : Nat → (Int × List (List Int)) → Option (List (List Int)) := itN (heap_up_l0F k)
def heap_up (k : Nat) (j : Int) (h_0 : List (List Int)) : Option (List (List Int)) :=
  (heap_up_l0 k k (j, h_0)).bind fun b0_0 =>
  some b0_0
noncomputable def heap_up.T (k : Nat) : List (AbFn Try.prog) := [pitch_worse_Less.fn, pitch_worse_Swap.fn]
noncomputable def heap_up_l0.p (k : Nat) : Pc Try.prog 2 := mkLoop hm0 (heap_up.T k) [] [] [] 0 (loopB 0 (bodyOf Try.f49)) ⟨23, 2, [(0, .iface 71 (.ptr0 0 0)), (1, .int .i64)], [(.vals 1 [.whole 1], .ro), (.recs [.i64, .i64], .rw)]⟩ (2, ⟨23, 2, [], [(.vals 1 [.whole 1], .ro), (.recs [.i64, .i64], .rw)]⟩) [] (heap_up_l0F k) k (by kernel_rfl) (by kernel_rfl) (by intro rec d; kernel_rfl)
noncomputable def heap_up.fn (k : Nat) : AbFn Try.prog := mkFn hm0 (heap_up.T k) [.iface 71 (.el 0 1), .int .i64] [(.vals 1 [.whole 1], .ro), (.recs [.i64, .i64], .rw)] [(0, heap_up_l0.p k)] [] [heap_up_l0.p k] 49 Try.f49 (1, ⟨1, 2, [(0, .tuple [])], [(.vals 1 [.whole 1], .ro), (.recs [.i64, .i64], .rw)]⟩) [] (fun d => match d with | (j, h_0) => heap_up k j h_0) Try.func49 (by kernel_rfl) (by kernel_rfl) (by intro d; kernel_rfl)

-- container/heap.Push
def heap_Push (k : Nat) (x_0 : Int) (x_1 : Int) (h_0 : List (List Int)) : Option (List (List Int)) :=
  (pitch_worse_Push x_0 x_1 h_0).bind fun b0_0 =>
  (pitch_worse_Len b0_0).bind fun (t9, b0) =>
  (heap_up k (IntKind.i64.wrap (t9 - 1)) b0_0).bind fun b0_0_1 =>
  some b0_0_1
noncomputable def heap_Push.fn (k : Nat) : AbFn Try.prog := mkFn hm0 [pitch_worse_Push.fn, pitch_worse_Len.fn, heap_up.fn k] [.iface 71 (.el 0 1), .iface 67 (.agg [.int .i64, .int .i64])] [(.vals 1 [.whole 1], .rw), (.recs [.i64, .i64], .own)] [] [] [] 43 Try.f43 (1, ⟨1, 2, [(0, .tuple [])], [(.vals 1 [.whole 2], .rw), (.dead, .own), (.recs [.i64, .i64], .own)]⟩) [] (fun d => match d with | (x_0, x_1, h_0) => heap_Push k x_0 x_1 h_0) Try.func43 (by kernel_rfl) (by kernel_rfl) (by intro d; kernel_rfl)

-- container/heap.down
def heap_down_l0F (k : Nat) (rec : (Int × Int × Int × List (List Int)) → Option (Int × Int × List (List Int))) : (Int × Int × Int × List (List Int)) → Option (Int × Int × List (List Int)) := fun d => match d with
  | (i0, n, i, h_0) =>
    let t14 := IntKind.i64.wrap ((IntKind.i64.wrap (2 * i)) + 1)
    br (decide (n ≤ t14)) (
      some (i0, i, h_0))
    (
      br (decide (t14 < 0)) (
        some (i0, i, h_0))
      (
        br (decide ((IntKind.i64.wrap (t14 + 1)) < n)) (
          (pitch_worse_Less (IntKind.i64.wrap (t14 + 1)) t14 h_0).bind fun (t32, b0) =>
          br t32 (
            (pitch_worse_Less (IntKind.i64.wrap (t14 + 1)) i h_0).bind fun (t38, b0_1) =>
            br (!t38) (
              some (i0, i, h_0))
            (
              (pitch_worse_Swap i (IntKind.i64.wrap (t14 + 1)) h_0).bind fun b0_2 =>
              rec (i0, n, IntKind.i64.wrap (t14 + 1), b0_2)))
          (
            (pitch_worse_Less t14 i h_0).bind fun (t38_1, b0_3) =>
            br (!t38_1) (
              some (i0, i, h_0))
            (
              (pitch_worse_Swap i t14 h_0).bind fun b0_4 =>
              rec (i0, n, t14, b0_4))))
        (
          (pitch_worse_Less t14 i h_0).bind fun (t38_2, b0_5) =>
          br (!t38_2) (
            some (i0, i, h_0))
          (
            (pitch_worse_Swap i t14 h_0).bind fun b0_6 =>
            rec (i0, n, t14, b0_6)))))
def heap_down_l0 (k : Nat) : Nat → (Int × Int × Int × List (List Int)) → Option (Int × Int × List (List Int)) := itN (heap_down_l0F k)
def heap_down (k : Nat) (i0 : Int) (n : Int) (h_0 : List (List Int)) : Option (Bool × List (List Int)) :=
  (heap_down_l0 k k (i0, n, i0, h_0)).bind fun (i0_1, i, b0_0) =>
  some (decide (i0_1 < i), b0_0)
noncomputable def heap_down.T (k : Nat) : List (AbFn Try.prog) := [pitch_worse_Less.fn, pitch_worse_Swap.fn]
noncomputable def heap_down_l0.p (k : Nat) : Pc Try.prog 2 := mkLoop hm0 (heap_down.T k) [] [] [] 0 (loopB 0 (bodyOf Try.f50)) ⟨48, 2, [(0, .iface 71 (.ptr0 0 0)), (1, .int .i64), (2, .int .i64), (7, .int .i64)], [(.vals 1 [.whole 1], .ro), (.recs [.i64, .i64], .rw)]⟩ (2, ⟨48, 2, [(1, .int .i64), (7, .int .i64)], [(.vals 1 [.whole 1], .ro), (.recs [.i64, .i64], .rw)]⟩) [] (heap_down_l0F k) k (by kernel_rfl) (by kernel_rfl) (by intro rec d; kernel_rfl)
noncomputable def heap_down.fn (k : Nat) : AbFn Try.prog := mkFn hm0 (heap_down.T k) [.iface 71 (.el 0 1), .int .i64, .int .i64] [(.vals 1 [.whole 1], .ro), (.recs [.i64, .i64], .rw)] [(0, heap_down_l0.p k)] [] [heap_down_l0.p k] 50 Try.f50 (1, ⟨1, 2, [(0, .bool)], [(.vals 1 [.whole 1], .ro), (.recs [.i64, .i64], .rw)]⟩) [] (fun d => match d with | (i0, n, h_0) => heap_down k i0 n h_0) Try.func50 (by kernel_rfl) (by kernel_rfl) (by intro d; kernel_rfl)

-- (*madrigal/pitch.worse).Pop
def pitch_worse_Pop_2 (w_0 : List (List Int)) : Option (Int × Int × List (List Int)) :=
  need (0 ≤ (IntKind.i64.wrap ((((w_0.length) : Nat) : Int) - 1)) ∧ (IntKind.i64.wrap ((((w_0.length) : Nat) : Int) - 1)) < (((w_0.length) : Nat) : Int)) <|
  need (0 ≤ (IntKind.i64.wrap ((((w_0.length) : Nat) : Int) - 1)) ∧ (IntKind.i64.wrap ((((w_0.length) : Nat) : Int) - 1)) ≤ (((w_0.length) : Nat) : Int)) <|
  some ((w_0.getD ((IntKind.i64.wrap ((((w_0.length) : Nat) : Int) - 1)).toNat) []).getD 0 0, (w_0.getD ((IntKind.i64.wrap ((((w_0.length) : Nat) : Int) - 1)).toNat) []).getD 1 0, w_0.take (((IntKind.i64.wrap ((((w_0.length) : Nat) : Int) - 1)) - 0).toNat))
noncomputable def pitch_worse_Pop_2.fn : AbFn Try.prog := mkFn hm0 [] [.el 0 1] [(.vals 1 [.whole 1], .rw), (.recs [.i64, .i64], .own)] [] [] [] 89 Try.f89 (1, ⟨1, 2, [(0, .iface 67 (.agg [.int .i64, .int .i64]))], [(.vals 1 [.whole 2], .rw), (.dead, .own), (.recs [.i64, .i64], .own)]⟩) [] (fun d => match d with | w_0 => pitch_worse_Pop_2 w_0) Try.func89 (by kernel_rfl) (by kernel_rfl) (by intro d; kernel_rfl)

-- container/heap.Pop
def heap_Pop_2 (k : Nat) (h_0 : List (List Int)) : Option (Int × Int × List (List Int)) :=
  (pitch_worse_Len h_0).bind fun (t5, b0) =>
  (pitch_worse_Swap 0 (IntKind.i64.wrap (t5 - 1)) h_0).bind fun b0_1 =>
  (heap_down k 0 (IntKind.i64.wrap (t5 - 1)) b0_1).bind fun (t12, b0_0) =>
  (pitch_worse_Pop_2 b0_0).bind fun (t14_0_1, t14_1_1, b0_0_2) =>
  some (t14_0_1, t14_1_1, b0_0_2)
noncomputable def heap_Pop_2.T (k : Nat) : List (AbFn Try.prog) := [pitch_worse_Len.fn, pitch_worse_Swap.fn, heap_down.fn k, pitch_worse_Pop_2.fn]
noncomputable def heap_Pop_2.fn (k : Nat) : AbFn Try.prog := mkFn hm0 (heap_Pop_2.T k) [.iface 71 (.el 0 1)] [(.vals 1 [.whole 1], .rw), (.recs [.i64, .i64], .own)] [] [] [] 45 Try.f45 (1, ⟨1, 2, [(0, .iface 67 (.agg [.int .i64, .int .i64]))], [(.vals 1 [.whole 2], .rw), (.dead, .own), (.recs [.i64, .i64], .own)]⟩) [] (fun d => match d with | h_0 => heap_Pop_2 k h_0) Try.func45 (by kernel_rfl) (by kernel_rfl) (by intro d; kernel_rfl)

-- math/bits.Len64
def bits_Len64_c7 (k : Nat) : (Int × Int) → Option (Int) := fun d => match d with
  | (x, n) =>
    br (decide (256 ≤ x)) (
      need (0 ≤ (IntKind.u8.wrap (x.fdiv 256)) ∧ (IntKind.u8.wrap (x.fdiv 256)) < ((str0).size : Int)) <|
      some (IntKind.i64.wrap ((IntKind.i64.wrap (n + 8)) + (IntKind.i64.wrap (((str0).data.getD ((IntKind.u8.wrap (x.fdiv 256)).toNat) 0).toNat : Int)))))
    (
      need (0 ≤ (IntKind.u8.wrap x) ∧ (IntKind.u8.wrap x) < ((str0).size : Int)) <|
      some (IntKind.i64.wrap (n + (IntKind.i64.wrap (((str0).data.getD ((IntKind.u8.wrap x).toNat) 0).toNat : Int)))))
def bits_Len64_c4 (k : Nat) : (Int × Int) → Option (Int) := fun d => match d with
  | (x, n) =>
    br (decide (65536 ≤ x)) (
      (bits_Len64_c7 k (x.fdiv 65536, IntKind.i64.wrap (n + 16))).bind fun n1 =>
      some n1)
    (
      (bits_Len64_c7 k (x, n)).bind fun n2 =>
      some n2)
def bits_Len64 (k : Nat) (x : Int) : Option (Int) :=
  br (decide (4294967296 ≤ x)) (
    (bits_Len64_c4 k (x.fdiv 4294967296, 32)).bind fun n =>
    some n)
  (
    (bits_Len64_c4 k (x, 0)).bind fun n1 =>
    some n1)
noncomputable def bits_Len64.T (k : Nat) : List (AbFn Try.prog) := []
noncomputable def bits_Len64_c7.p (k : Nat) : Pc Try.prog 0 := mkCut hm0 (bits_Len64.T k) [] [] [] (cutB 7 (bodyOf Try.f62)) ⟨25, 0, [(0, .int .u64), (2, .int .i64)], []⟩ (1, ⟨25, 0, [(2, .int .i64)], []⟩) [] (bits_Len64_c7 k) (by kernel_rfl) (by kernel_rfl) (by intro d; kernel_rfl)
noncomputable def bits_Len64_c4.p (k : Nat) : Pc Try.prog 0 := mkCut hm0 (bits_Len64.T k) [] [(7, bits_Len64_c7.p k)] [bits_Len64_c7.p k] (cutB 4 (bodyOf Try.f62)) ⟨25, 0, [(0, .int .u64), (2, .int .i64)], []⟩ (1, ⟨25, 0, [(2, .int .i64)], []⟩) [] (bits_Len64_c4 k) (by kernel_rfl) (by kernel_rfl) (by intro d; kernel_rfl)
noncomputable def bits_Len64.fn (k : Nat) : AbFn Try.prog := mkFn hm0 (bits_Len64.T k) [.int .u64] [] [] [(4, bits_Len64_c4.p k), (7, bits_Len64_c7.p k)] [bits_Len64_c4.p k] 62 Try.f62 (1, ⟨1, 0, [(0, .int .i64)], []⟩) [] (fun d => match d with | x => bits_Len64 k x) Try.func62 (by kernel_rfl) (by kernel_rfl) (by intro d; kernel_rfl)

-- math/bits.Len
def bits_Len (k : Nat) (x : Int) : Option (Int) :=
  (bits_Len64 k x).bind fun t7 =>
  some t7
noncomputable def bits_Len.fn (k : Nat) : AbFn Try.prog := mkFn hm0 [bits_Len64.fn k] [.int .u64] [] [] [] [] 52 Try.f52 (1, ⟨1, 0, [(0, .int .i64)], []⟩) [] (fun d => match d with | x => bits_Len k x) Try.func52 (by kernel_rfl) (by kernel_rfl) (by intro d; kernel_rfl)

-- slices.SortFunc[madrigal/pitch.worse,madrigal/pitch.Lag]
def pitch_Lag (k : Nat) (x : List (List Int)) : Option (List (List Int)) :=
  (bits_Len k (IntKind.u64.wrap (((x.length) : Nat) : Int))).bind fun t11 =>
  (slices_pdq 0 (((x.length) : Nat) : Int) t11 x).bind fun b0 =>
  some b0
noncomputable def pitch_Lag.fn (k : Nat) : AbFn Try.prog := mkFn hm0 [bits_Len.fn k, slices_pdq.fn] [.whole 0, .func 47 [] []] [(.recs [.i64, .i64], .rw)] [] [] [] 46 Try.f46 (1, ⟨1, 1, [(0, .tuple [])], [(.recs [.i64, .i64], .rw)]⟩) [] (fun d => match d with | x => pitch_Lag k x) Try.func46 (by kernel_rfl) (by kernel_rfl) (by intro d; kernel_rfl)

-- madrigal/pitch.Search
def pitch_Search_l0F (k : Nat) (rec : (Int × Int × Int × List Int × List (List Int)) → Option (List Int × List (List Int))) : (Int × Int × Int × List Int × List (List Int)) → Option (List Int × List (List Int)) := fun d => match d with
  | (to, best, lag, x, w_0) =>
    br (decide (lag ≤ to)) (
      (pitch_Score k lag x).bind fun (t49, b0) =>
      (heap_Push k lag t49 w_0).bind fun b0_0 =>
      br (decide (best < (((b0_0.length) : Nat) : Int))) (
        (heap_Pop_2 k b0_0).bind fun (t58_0_1, t58_1_1, b0_0_2) =>
        rec (to, best, IntKind.i64.wrap (lag + 1), x, b0_0_2))
      (
        rec (to, best, IntKind.i64.wrap (lag + 1), x, b0_0)))
    (
      some (x, w_0))
def pitch_Search_l0 (k : Nat) : Nat → (Int × Int × Int × List Int × List (List Int)) → Option (List Int × List (List Int)) := itN (pitch_Search_l0F k)
def pitch_Search (k : Nat) (from_ : Int) (to : Int) (best : Int) (x : List Int) : Option (Int × List Int × List (List Int)) :=
  (pitch_may x).bind fun (t13, b0) =>
  br (!t13) (
    some (1, x, []))
  (
    br (decide (from_ < 1)) (
      some (1, x, []))
    (
      br (decide (to < from_)) (
        some (1, x, []))
      (
        br (decide ((IntKind.i64.wrap ((((x.length) : Nat) : Int).tdiv 2)) < to)) (
          some (1, x, []))
        (
          br (decide (best < 1)) (
            some (1, x, []))
          (
            br (decide (32 < best)) (
              some (1, x, []))
            (
              (pitch_Search_l0 k k (to, best, from_, x, [])).bind fun (b0_1, w_0) =>
              (pitch_Lag k w_0).bind fun b0_2 =>
              some (0, b0_1, b0_2)))))))
noncomputable def pitch_Search.T (k : Nat) : List (AbFn Try.prog) := [pitch_may.fn, pitch_Score.fn k, heap_Push.fn k, heap_Pop_2.fn k, pitch_Lag.fn k]
def pitch_Search.s0 : Sk := ⟨62, 1, [(0, .whole 0), (2, .int .i64), (3, .int .i64), (10, .ptr0 1 0), (11, .int .i64)], [(.ints .i64, .ro), (.vals 1 [.whole 2], .own), (.recs [.i64, .i64], .own)]⟩
noncomputable def pitch_Search_l0.p (k : Nat) : Pc Try.prog 1 := mkLoop hm0 (pitch_Search.T k) [] [] [] 0 (loopB 0 (bodyOf Try.f38)) pitch_Search.s0 (2, ⟨62, 1, [(10, .ptr0 1 0)], [(.ints .i64, .ro), (.vals 1 [.whole 2], .own), (.recs [.i64, .i64], .own)]⟩) [] (pitch_Search_l0F k) k (by kernel_rfl) (by kernel_rfl) (by intro rec d; kernel_rfl)
noncomputable def pitch_Search.fn (k : Nat) : AbFn Try.prog := mkFn hm0 (pitch_Search.T k) [.whole 0, .int .i64, .int .i64, .int .i64] [(.ints .i64, .ro)] [(0, pitch_Search_l0.p k)] [] [pitch_Search_l0.p k] 38 Try.f38 (1, ⟨1, 1, [(0, .tuple [.whole 1, .int .i64])], [(.ints .i64, .ro), (.recs [.i64, .i64], .own)]⟩) [] (fun d => match d with | (from_, to, best, x) => pitch_Search k from_ to best x) Try.func38 (by kernel_rfl) (by kernel_rfl) (by intro d; kernel_rfl)

-- madrigal/fix.factor
def fix_factor (a : Int) : Option (Int) :=
  (fix_Clamp a (-2147483648) 2147483648).bind fun t4 =>
  some t4
noncomputable def fix_factor.fn : AbFn Try.prog := mkFn hm0 [fix_Clamp.fn] [.int .i64] [] [] [] [] 40 Try.f40 (1, ⟨1, 0, [(0, .int .i64)], []⟩) [] (fun d => match d with | a => fix_factor a) Try.func40 (by kernel_rfl) (by kernel_rfl) (by intro d; kernel_rfl)

-- madrigal/fix.Mul
def fix_Mul (a : Int) (b : Int) (s : Int) : Option (Int) :=
  (fix_factor a).bind fun t9 =>
  (fix_factor b).bind fun t11 =>
  br (decide (s = 0)) (
    some (IntKind.i64.wrap (t9 * t11)))
  (
    br (decide (s < 0)) (
      some 0)
    (
      br (decide (62 < s)) (
        some 0)
      (
        need (0 ≤ (IntKind.i64.wrap (s - 1))) <|
        need (0 ≤ s) <|
        some ((IntKind.i64.wrap ((IntKind.i64.wrap (t9 * t11)) + (IntKind.i64.wrap (1 * 2 ^ (min ((IntKind.i64.wrap (s - 1)).toNat) 64))))).fdiv (2 ^ (min (s.toNat) 64))))))
noncomputable def fix_Mul.fn : AbFn Try.prog := mkFn hm0 [fix_factor.fn] [.int .i64, .int .i64, .int .i64] [] [] [] [] 29 Try.f29 (1, ⟨1, 0, [(0, .int .i64)], []⟩) [] (fun d => match d with | (a, b, s) => fix_Mul a b s) Try.func29 (by kernel_rfl) (by kernel_rfl) (by intro d; kernel_rfl)

-- madrigal/plc.Soft
def plc_Soft_l0F (k : Nat) (rec : (Int × Int × Int) → Option (Int)) : (Int × Int × Int) → Option (Int) := fun d => match d with
  | (g, t7, t8) =>
    br (decide (t8 < t7)) (
      (fix_Mul g 29491 15).bind fun t11 =>
      rec (t11, t7, IntKind.i64.wrap (t8 + 1)))
    (
      some g)
def plc_Soft_l0 (k : Nat) : Nat → (Int × Int × Int) → Option (Int) := itN (plc_Soft_l0F k)
def plc_Soft (k : Nat) (n : Int) : Option (Int) :=
  br (decide (40 < n)) (
    some 0)
  (
    (plc_Soft_l0 k k (32768, if 0 > n then 0 else n, 0)).bind fun g =>
    some g)
noncomputable def plc_Soft.T (k : Nat) : List (AbFn Try.prog) := [fix_Mul.fn]
noncomputable def plc_Soft_l0.p (k : Nat) : Pc Try.prog 0 := mkLoop hm0 (plc_Soft.T k) [] [] [] 0 (loopB 0 (bodyOf Try.f14)) ⟨14, 0, [(3, .int .i64), (7, .int .i64), (8, .int .i64)], []⟩ (2, ⟨14, 0, [(3, .int .i64)], []⟩) [] (plc_Soft_l0F k) k (by kernel_rfl) (by kernel_rfl) (by intro rec d; kernel_rfl)
noncomputable def plc_Soft.fn (k : Nat) : AbFn Try.prog := mkFn hm0 (plc_Soft.T k) [.int .i64] [] [(0, plc_Soft_l0.p k)] [] [plc_Soft_l0.p k] 14 Try.f14 (1, ⟨1, 0, [(0, .int .i64)], []⟩) [] (fun d => match d with | n => plc_Soft k n) Try.func14 (by kernel_rfl) (by kernel_rfl) (by intro d; kernel_rfl)

-- (*madrigal/plc.Maker).look
def plc_Maker_look_2 (k : Nat) (m_0 : Int) (m_2 : Int) (m_3 : Int) (m_1 : List Int) : Option (Int × Int × Int × List Int) :=
  let t15 := if 0 > (IntKind.i64.wrap ((((m_1.length) : Nat) : Int) - 960)) then 0 else (IntKind.i64.wrap ((((m_1.length) : Nat) : Int) - 960))
  need (0 ≤ t15 ∧ t15 ≤ (((m_1.length) : Nat) : Int)) <|
  (pitch_Search k (IntKind.i64.wrap (m_0.tdiv 400)) (if 480 < (IntKind.i64.wrap ((((m_1.length) : Nat) : Int).tdiv 2)) then 480 else (IntKind.i64.wrap ((((m_1.length) : Nat) : Int).tdiv 2))) 1 ((m_1.drop (t15.toNat)).take (((((m_1.length) : Nat) : Int) - t15).toNat))).bind fun (t31_1, b0, t31_0) =>
  need (0 ≤ (0 : Int) ∧ (0 : Int) < (((t31_0.length) : Nat) : Int)) <|
  some (m_0, m_2, (t31_0.getD 0 []).getD 0 0, m_1)
noncomputable def plc_Maker_look_2.fn (k : Nat) : AbFn Try.prog := mkFn hm0 [pitch_Search.fn k] [.el 0 4] [(.vals 4 [.int .i64, .whole 1, .int .i64, .int .i64], .rw), (.ints .i64, .own)] [] [] [] 27 Try.f27 (1, ⟨1, 2, [(0, .tuple [])], [(.vals 4 [.int .i64, .whole 1, .int .i64, .int .i64], .rw), (.ints .i64, .own)]⟩) [] (fun d => match d with | (m_0, m_2, m_3, m_1) => plc_Maker_look_2 k m_0 m_2 m_3 m_1) Try.func27 (by kernel_rfl) (by kernel_rfl) (by intro d; kernel_rfl)

-- (*madrigal/plc.Maker).Make
def plc_Maker_Make_2_l0F (k : Nat) (rec : (Int × Int × Int × Int × Int × Int × List Int × List Int) → Option (Int × Int × Int × List Int × List Int)) : (Int × Int × Int × Int × Int × Int × List Int × List Int) → Option (Int × Int × Int × List Int × List Int) := fun d => match d with
  | (g, t39, t40, m_0, m_2, m_3, m_1, out) =>
    br (decide (t40 < t39)) (
      need (m_3 ≠ 0) <|
      let t65 := IntKind.i64.wrap ((IntKind.i64.wrap ((((m_1.length) : Nat) : Int) - m_3)) + (t40.tmod m_3))
      need (0 ≤ t65 ∧ t65 < (((m_1.length) : Nat) : Int)) <|
      (fix_Mul (m_1.getD (t65.toNat) 0) g 15).bind fun t69 =>
      (fix_Sat16 t69).bind fun t70 =>
      need (0 ≤ t40 ∧ t40 < (((out.length) : Nat) : Int)) <|
      rec (g, t39, IntKind.i64.wrap (t40 + 1), m_0, m_2, m_3, m_1, out.set (t40.toNat) t70))
    (
      some (m_0, m_2, m_3, m_1, out))
def plc_Maker_Make_2_l0 (k : Nat) : Nat → (Int × Int × Int × Int × Int × Int × List Int × List Int) → Option (Int × Int × Int × List Int × List Int) := itN (plc_Maker_Make_2_l0F k)
def plc_Maker_Make_2_c6 (k : Nat) : (Int × Int × Int × Int × List Int) → Option (Int × Int × Int × Int × List Int × List Int) := fun d => match d with
  | (n, m_0, m_2, m_3, m_1) =>
    (plc_Soft k m_2).bind fun t35 =>
    need (0 ≤ n ∧ n = n ∧ (8 : Int) * n ≤ 281474976710656 ∧ n ≤ 9223372036854775807) <|
    (plc_Maker_Make_2_l0 k k (t35, ((((List.replicate (n.toNat) (0 : Int)).length) : Nat) : Int), 0, m_0, m_2, m_3, m_1, List.replicate (n.toNat) (0 : Int))).bind fun (b0_0, b0_2, b0_3, b0_1, out) =>
    some (0, b0_0, b0_2, b0_3, b0_1, out)
def plc_Maker_Make_2 (k : Nat) (n : Int) (m_0 : Int) (m_2 : Int) (m_3 : Int) (m_1 : List Int) : Option (Int × Int × Int × Int × List Int × List Int) :=
  br (decide (n < 0)) (
    some (1, m_0, m_2, m_3, m_1, []))
  (
    br (decide (4800 < n)) (
      some (1, m_0, m_2, m_3, m_1, []))
    (
      br (decide (m_3 = 0)) (
        (plc_Maker_look_2 k m_0 (if 1000 < (IntKind.i64.wrap (m_2 + 1)) then 1000 else (IntKind.i64.wrap (m_2 + 1))) m_3 m_1).bind fun (b0_0_1, b0_2_1, b0_3_1, b0_1_1) =>
        (plc_Maker_Make_2_c6 k (n, b0_0_1, b0_2_1, b0_3_1, b0_1_1)).bind fun (t5, b0_0_2, b0_2_2, b0_3_2, b0_1_2, t4) =>
        some (t5, b0_0_2, b0_2_2, b0_3_2, b0_1_2, t4))
      (
        (plc_Maker_Make_2_c6 k (n, m_0, if 1000 < (IntKind.i64.wrap (m_2 + 1)) then 1000 else (IntKind.i64.wrap (m_2 + 1)), m_3, m_1)).bind fun (t5_1, b0_0_3, b0_2_3, b0_3_3, b0_1_3, t4_1) =>
        some (t5_1, b0_0_3, b0_2_3, b0_3_3, b0_1_3, t4_1))))
noncomputable def plc_Maker_Make_2.T (k : Nat) : List (AbFn Try.prog) := [plc_Maker_look_2.fn k, plc_Soft.fn k, fix_Mul.fn, fix_Sat16.fn]
def plc_Maker_Make_2.s0 : Sk := ⟨74, 2, [(0, .ptr0 0 0), (6, .int .i64), (7, .whole 2), (39, .int .i64), (40, .int .i64)], [(.vals 4 [.int .i64, .whole 1, .int .i64, .int .i64], .rw), (.ints .i64, .own), (.ints .i64, .own)]⟩
noncomputable def plc_Maker_Make_2_l0.p (k : Nat) : Pc Try.prog 2 := mkLoop hm0 (plc_Maker_Make_2.T k) [] [] [] 0 (loopB 0 (bodyOf Try.f10)) plc_Maker_Make_2.s0 (2, ⟨74, 2, [(7, .whole 2)], [(.vals 4 [.int .i64, .whole 1, .int .i64, .int .i64], .rw), (.ints .i64, .own), (.ints .i64, .own)]⟩) [] (plc_Maker_Make_2_l0F k) k (by kernel_rfl) (by kernel_rfl) (by intro rec d; kernel_rfl)
noncomputable def plc_Maker_Make_2_c6.p (k : Nat) : Pc Try.prog 2 := mkCut hm0 (plc_Maker_Make_2.T k) [(0, plc_Maker_Make_2_l0.p k)] [] [plc_Maker_Make_2_l0.p k] (cutB 6 (bodyOf Try.f10)) ⟨74, 2, [(0, .ptr0 0 0), (1, .int .i64)], [(.vals 4 [.int .i64, .whole 1, .int .i64, .int .i64], .rw), (.ints .i64, .own)]⟩ (1, ⟨74, 2, [(4, .whole 2), (5, .int .i64)], [(.vals 4 [.int .i64, .whole 1, .int .i64, .int .i64], .rw), (.ints .i64, .own), (.ints .i64, .own)]⟩) [] (plc_Maker_Make_2_c6 k) (by kernel_rfl) (by kernel_rfl) (by intro d; kernel_rfl)
noncomputable def plc_Maker_Make_2.fn (k : Nat) : AbFn Try.prog := mkFn hm0 (plc_Maker_Make_2.T k) [.el 0 4, .int .i64] [(.vals 4 [.int .i64, .whole 1, .int .i64, .int .i64], .rw), (.ints .i64, .own)] [(0, plc_Maker_Make_2_l0.p k)] [(6, plc_Maker_Make_2_c6.p k)] [plc_Maker_Make_2_c6.p k] 10 Try.f10 (1, ⟨1, 2, [(0, .tuple [.whole 2, .int .i64])], [(.vals 4 [.int .i64, .whole 1, .int .i64, .int .i64], .rw), (.ints .i64, .own), (.ints .i64, .own)]⟩) [] (fun d => match d with | (n, m_0, m_2, m_3, m_1) => plc_Maker_Make_2 k n m_0 m_2 m_3 m_1) Try.func10 (by kernel_rfl) (by kernel_rfl) (by intro d; kernel_rfl)

-- (*madrigal/plc.Maker).Copy
def plc_Maker_Copy (m_0 : Int) (m_2 : Int) (m_3 : Int) (m_1 : List Int) : Option (Int × Int × Int × List Int × Int × Int × Int × List Int) :=
  (slices_Clone_int64_int64 m_1).bind fun (b0, t11) =>
  some (m_0, m_2, m_3, m_1, m_0, m_2, m_3, t11)
def plc_Maker_Copy.s0 : Sk := ⟨1, 2, [(0, .ptr0 2 0)], [(.vals 4 [.int .i64, .whole 1, .int .i64, .int .i64], .ro), (.ints .i64, .ro), (.vals 4 [.int .i64, .whole 3, .int .i64, .int .i64], .own), (.ints .i64, .own)]⟩
noncomputable def plc_Maker_Copy.fn : AbFn Try.prog := mkFn hm0 [slices_Clone_int64_int64.fn] [.el 0 4] [(.vals 4 [.int .i64, .whole 1, .int .i64, .int .i64], .ro), (.ints .i64, .ro)] [] [] [] 25 Try.f25 (1, plc_Maker_Copy.s0) [] (fun d => match d with | (m_0, m_2, m_3, m_1) => plc_Maker_Copy m_0 m_2 m_3 m_1) Try.func25 (by kernel_rfl) (by kernel_rfl) (by intro d; kernel_rfl)

-- (*madrigal/plc.Maker).Lost
def plc_Maker_Lost (m_0 : Int) (m_2 : Int) (m_3 : Int) (m_1 : List Int) : Option (Int × Int × Int × Int × List Int) :=
  some (m_2, m_0, m_2, m_3, m_1)
noncomputable def plc_Maker_Lost.fn : AbFn Try.prog := mkFn hm0 [] [.el 0 4] [(.vals 4 [.int .i64, .whole 1, .int .i64, .int .i64], .ro), (.ints .i64, .ro)] [] [] [] 11 Try.f11 (1, ⟨1, 2, [(0, .int .i64)], [(.vals 4 [.int .i64, .whole 1, .int .i64, .int .i64], .ro), (.ints .i64, .ro)]⟩) [] (fun d => match d with | (m_0, m_2, m_3, m_1) => plc_Maker_Lost m_0 m_2 m_3 m_1) Try.func11 (by kernel_rfl) (by kernel_rfl) (by intro d; kernel_rfl)

-- (*madrigal/plc.Maker).Reset
def plc_Maker_Reset (m_0 : Int) (m_2 : Int) (m_3 : Int) (m_1 : List Int) : Option (Int × Int × Int × List Int × List Int) :=
  need (0 ≤ (((m_1.length) : Nat) : Int) ∧ (((m_1.length) : Nat) : Int) = (((m_1.length) : Nat) : Int) ∧ (8 : Int) * (((m_1.length) : Nat) : Int) ≤ 281474976710656 ∧ (((m_1.length) : Nat) : Int) ≤ 9223372036854775807) <|
  some (m_0, 0, 0, m_1, List.replicate ((((m_1.length) : Nat) : Int).toNat) (0 : Int))
noncomputable def plc_Maker_Reset.fn : AbFn Try.prog := mkFn hm0 [] [.el 0 4] [(.vals 4 [.int .i64, .whole 1, .int .i64, .int .i64], .rw), (.ints .i64, .ro)] [] [] [] 20 Try.f20 (1, ⟨1, 2, [(0, .tuple [])], [(.vals 4 [.int .i64, .whole 2, .int .i64, .int .i64], .rw), (.ints .i64, .ro), (.ints .i64, .own)]⟩) [] (fun d => match d with | (m_0, m_2, m_3, m_1) => plc_Maker_Reset m_0 m_2 m_3 m_1) Try.func20 (by kernel_rfl) (by kernel_rfl) (by intro d; kernel_rfl)

-- slices.Equal[[]int64,int64]
def slices_Equal_int64_int64_l0F (k : Nat) (rec : (Int × Int × List Int × List Int) → Option ((List Int × List Int) ⊕ (Bool × List Int × List Int))) : (Int × Int × List Int × List Int) → Option ((List Int × List Int) ⊕ (Bool × List Int × List Int)) := fun d => match d with
  | (t12, t13, s1, s2) =>
    br (decide (t13 < t12)) (
      need (0 ≤ t13 ∧ t13 < (((s1.length) : Nat) : Int)) <|
      need (0 ≤ t13 ∧ t13 < (((s2.length) : Nat) : Int)) <|
      br (!decide ((s1.getD (t13.toNat) 0) = (s2.getD (t13.toNat) 0))) (
        some (.inr (false, s1, s2)))
      (
        rec (t12, IntKind.i64.wrap (t13 + 1), s1, s2)))
    (
      some (.inl (s1, s2)))
def slices_Equal_int64_int64_l0 (k : Nat) : Nat → (Int × Int × List Int × List Int) → Option ((List Int × List Int) ⊕ (Bool × List Int × List Int)) := itN (slices_Equal_int64_int64_l0F k)
def slices_Equal_int64_int64 (k : Nat) (s1 : List Int) (s2 : List Int) : Option (Bool × List Int × List Int) :=
  br (!decide ((((s1.length) : Nat) : Int) = (((s2.length) : Nat) : Int))) (
    some (false, s1, s2))
  (
    (slices_Equal_int64_int64_l0 k k ((((s1.length) : Nat) : Int), 0, s1, s2)).bind fun o => match o with
    | .inl (b0, b1) =>
      some (true, b0, b1)
    | .inr (t4, b0_1, b1_1) =>
      some (t4, b0_1, b1_1))
noncomputable def slices_Equal_int64_int64.T (k : Nat) : List (AbFn Try.prog) := []
noncomputable def slices_Equal_int64_int64_l0.p (k : Nat) : Pc Try.prog 2 := mkLoop hm0 (slices_Equal_int64_int64.T k) [] [] [] 0 (loopB 0 (bodyOf Try.f37)) ⟨26, 2, [(0, .whole 0), (1, .whole 1), (12, .int .i64), (13, .int .i64)], [(.ints .i64, .ro), (.ints .i64, .ro)]⟩ (2, ⟨26, 2, [], [(.ints .i64, .ro), (.ints .i64, .ro)]⟩) [(1, ⟨26, 2, [(4, .bool)], [(.ints .i64, .ro), (.ints .i64, .ro)]⟩)] (slices_Equal_int64_int64_l0F k) k (by kernel_rfl) (by kernel_rfl) (by intro rec d; kernel_rfl)
noncomputable def slices_Equal_int64_int64.fn (k : Nat) : AbFn Try.prog := mkFn hm0 (slices_Equal_int64_int64.T k) [.whole 0, .whole 1] [(.ints .i64, .ro), (.ints .i64, .ro)] [(0, slices_Equal_int64_int64_l0.p k)] [] [slices_Equal_int64_int64_l0.p k] 37 Try.f37 (1, ⟨1, 2, [(0, .bool)], [(.ints .i64, .ro), (.ints .i64, .ro)]⟩) [] (fun d => match d with | (s1, s2) => slices_Equal_int64_int64 k s1 s2) Try.func37 (by kernel_rfl) (by kernel_rfl) (by intro d; kernel_rfl)

-- (*madrigal/plc.Maker).Same
def plc_Maker_Same (k : Nat) (m_0 : Int) (m_2 : Int) (m_3 : Int) (o_0 : Int) (o_2 : Int) (o_3 : Int) (m_1 : List Int) (o_1 : List Int) : Option (Bool × Int × Int × Int × Int × Int × Int × List Int × List Int) :=
  br (decide (m_0 = o_0)) (
    br (decide (m_2 = o_2)) (
      br (decide (m_3 = o_3)) (
        (slices_Equal_int64_int64 k m_1 o_1).bind fun (t45, b0, b1) =>
        some (t45, m_0, m_2, m_3, o_0, o_2, o_3, m_1, o_1))
      (
        some (false, m_0, m_2, m_3, o_0, o_2, o_3, m_1, o_1)))
    (
      some (false, m_0, m_2, m_3, o_0, o_2, o_3, m_1, o_1)))
  (
    some (false, m_0, m_2, m_3, o_0, o_2, o_3, m_1, o_1))
def plc_Maker_Same.s0 : Sk := ⟨1, 4, [(0, .bool)], [(.vals 4 [.int .i64, .whole 2, .int .i64, .int .i64], .ro), (.vals 4 [.int .i64, .whole 3, .int .i64, .int .i64], .ro), (.ints .i64, .ro), (.ints .i64, .ro)]⟩
noncomputable def plc_Maker_Same.fn (k : Nat) : AbFn Try.prog := mkFn hm0 [slices_Equal_int64_int64.fn k] [.el 0 4, .el 1 4] [(.vals 4 [.int .i64, .whole 2, .int .i64, .int .i64], .ro), (.vals 4 [.int .i64, .whole 3, .int .i64, .int .i64], .ro), (.ints .i64, .ro), (.ints .i64, .ro)] [] [] [] 26 Try.f26 (1, plc_Maker_Same.s0) [] (fun d => match d with | (m_0, m_2, m_3, o_0, o_2, o_3, m_1, o_1) => plc_Maker_Same k m_0 m_2 m_3 o_0 o_2 o_3 m_1 o_1) Try.func26 (by kernel_rfl) (by kernel_rfl) (by intro d; kernel_rfl)

-- madrigal/fix.Div
def fix_Div (a : Int) (b : Int) (s : Int) : Option (Int) :=
  (fix_factor a).bind fun t9 =>
  (fix_factor b).bind fun t11 =>
  br (decide (t11 = 0)) (
    some 0)
  (
    br (decide (s < 0)) (
      some 0)
    (
      br (decide (30 < s)) (
        some 0)
      (
        need (0 ≤ s) <|
        need (t11 ≠ 0) <|
        let t27 := IntKind.i64.wrap ((IntKind.i64.wrap (t9 * 2 ^ (min (s.toNat) 64))).tdiv t11)
        need (t11 ≠ 0) <|
        br (!decide (((IntKind.i64.wrap (t9 * 2 ^ (min (s.toNat) 64))).tmod t11) = 0)) (
          br (!((decide ((IntKind.i64.wrap (t9 * 2 ^ (min (s.toNat) 64))) < 0)) == (decide (t11 < 0)))) (
            some (IntKind.i64.wrap (t27 - 1)))
          (
            some t27))
        (
          some t27))))
noncomputable def fix_Div.fn : AbFn Try.prog := mkFn hm0 [fix_factor.fn] [.int .i64, .int .i64, .int .i64] [] [] [] [] 30 Try.f30 (1, ⟨1, 0, [(0, .int .i64)], []⟩) [] (fun d => match d with | (a, b, s) => fix_Div a b s) Try.func30 (by kernel_rfl) (by kernel_rfl) (by intro d; kernel_rfl)

-- madrigal/plc.Cross
def plc_Cross_l0F (k : Nat) (rec : (Int × Int × Int × List Int × List Int × List Int) → Option (List Int × List Int × List Int)) : (Int × Int × Int × List Int × List Int × List Int) → Option (List Int × List Int × List Int) := fun d => match d with
  | (n, t17, t18, a, b, out) =>
    br (decide (t18 < t17)) (
      need (0 ≤ t18 ∧ t18 < (((a.length) : Nat) : Int)) <|
      (fix_Sat16 (a.getD (t18.toNat) 0)).bind fun t25 =>
      need (0 ≤ t18 ∧ t18 < (((b.length) : Nat) : Int)) <|
      (fix_Sat16 (b.getD (t18.toNat) 0)).bind fun t34 =>
      (fix_Div (IntKind.i64.wrap ((IntKind.i64.wrap (t25 * (IntKind.i64.wrap (n - t18)))) + (IntKind.i64.wrap (t34 * t18)))) n 0).bind fun t42 =>
      need (0 ≤ t18 ∧ t18 < (((out.length) : Nat) : Int)) <|
      rec (n, t17, IntKind.i64.wrap (t18 + 1), a, b, out.set (t18.toNat) t42))
    (
      some (a, b, out))
def plc_Cross_l0 (k : Nat) : Nat → (Int × Int × Int × List Int × List Int × List Int) → Option (List Int × List Int × List Int) := itN (plc_Cross_l0F k)
def plc_Cross (k : Nat) (a : List Int) (b : List Int) : Option (List Int × List Int × List Int) :=
  let t13 := if (((b.length) : Nat) : Int) < (((a.length) : Nat) : Int) then (((b.length) : Nat) : Int) else (((a.length) : Nat) : Int)
  need (0 ≤ t13 ∧ t13 = t13 ∧ (8 : Int) * t13 ≤ 281474976710656 ∧ t13 ≤ 9223372036854775807) <|
  (plc_Cross_l0 k k (t13, ((((List.replicate (t13.toNat) (0 : Int)).length) : Nat) : Int), 0, a, b, List.replicate (t13.toNat) (0 : Int))).bind fun (b0, b1, out) =>
  some (b0, b1, out)
noncomputable def plc_Cross.T (k : Nat) : List (AbFn Try.prog) := [fix_Sat16.fn, fix_Div.fn]
def plc_Cross.s0 : Sk := ⟨46, 2, [(0, .whole 0), (1, .whole 1), (5, .int .i64), (6, .whole 2), (17, .int .i64), (18, .int .i64)], [(.ints .i64, .ro), (.ints .i64, .ro), (.ints .i64, .own)]⟩
noncomputable def plc_Cross_l0.p (k : Nat) : Pc Try.prog 2 := mkLoop hm0 (plc_Cross.T k) [] [] [] 0 (loopB 0 (bodyOf Try.f13)) plc_Cross.s0 (2, ⟨46, 2, [(6, .whole 2)], [(.ints .i64, .ro), (.ints .i64, .ro), (.ints .i64, .own)]⟩) [] (plc_Cross_l0F k) k (by kernel_rfl) (by kernel_rfl) (by intro rec d; kernel_rfl)
noncomputable def plc_Cross.fn (k : Nat) : AbFn Try.prog := mkFn hm0 (plc_Cross.T k) [.whole 0, .whole 1] [(.ints .i64, .ro), (.ints .i64, .ro)] [(0, plc_Cross_l0.p k)] [] [plc_Cross_l0.p k] 13 Try.f13 (1, ⟨1, 2, [(0, .whole 2)], [(.ints .i64, .ro), (.ints .i64, .ro), (.ints .i64, .own)]⟩) [] (fun d => match d with | (a, b) => plc_Cross k a b) Try.func13 (by kernel_rfl) (by kernel_rfl) (by intro d; kernel_rfl)

-- madrigal/madrigallaw23.same
def madrigallaw23_same_l0F (k : Nat) (rec : (Int × List Int × List Int) → Option ((List Int × List Int) ⊕ (Bool × List Int × List Int))) : (Int × List Int × List Int) → Option ((List Int × List Int) ⊕ (Bool × List Int × List Int)) := fun d => match d with
  | (i, a, b) =>
    br (decide (i < (((a.length) : Nat) : Int))) (
      need (0 ≤ i ∧ i < (((a.length) : Nat) : Int)) <|
      need (0 ≤ i ∧ i < (((b.length) : Nat) : Int)) <|
      br (!decide ((a.getD (i.toNat) 0) = (b.getD (i.toNat) 0))) (
        some (.inr (false, a, b)))
      (
        rec (IntKind.i64.wrap (i + 1), a, b)))
    (
      some (.inl (a, b)))
def madrigallaw23_same_l0 (k : Nat) : Nat → (Int × List Int × List Int) → Option ((List Int × List Int) ⊕ (Bool × List Int × List Int)) := itN (madrigallaw23_same_l0F k)
def madrigallaw23_same (k : Nat) (a : List Int) (b : List Int) : Option (Bool × List Int × List Int) :=
  br (!decide ((((a.length) : Nat) : Int) = (((b.length) : Nat) : Int))) (
    some (false, a, b))
  (
    (madrigallaw23_same_l0 k k (0, a, b)).bind fun o => match o with
    | .inl (b0, b1) =>
      some (true, b0, b1)
    | .inr (t4, b0_1, b1_1) =>
      some (t4, b0_1, b1_1))
noncomputable def madrigallaw23_same.T (k : Nat) : List (AbFn Try.prog) := []
noncomputable def madrigallaw23_same_l0.p (k : Nat) : Pc Try.prog 2 := mkLoop hm0 (madrigallaw23_same.T k) [] [] [] 0 (loopB 0 (bodyOf Try.f12)) ⟨26, 2, [(0, .whole 0), (1, .whole 1), (5, .int .i64)], [(.ints .i64, .ro), (.ints .i64, .ro)]⟩ (2, ⟨26, 2, [], [(.ints .i64, .ro), (.ints .i64, .ro)]⟩) [(1, ⟨26, 2, [(4, .bool)], [(.ints .i64, .ro), (.ints .i64, .ro)]⟩)] (madrigallaw23_same_l0F k) k (by kernel_rfl) (by kernel_rfl) (by intro rec d; kernel_rfl)
noncomputable def madrigallaw23_same.fn (k : Nat) : AbFn Try.prog := mkFn hm0 (madrigallaw23_same.T k) [.whole 0, .whole 1] [(.ints .i64, .ro), (.ints .i64, .ro)] [(0, madrigallaw23_same_l0.p k)] [] [madrigallaw23_same_l0.p k] 12 Try.f12 (1, ⟨1, 2, [(0, .bool)], [(.ints .i64, .ro), (.ints .i64, .ro)]⟩) [] (fun d => match d with | (a, b) => madrigallaw23_same k a b) Try.func12 (by kernel_rfl) (by kernel_rfl) (by intro d; kernel_rfl)

-- madrigal/madrigallaw23.awake
def madrigallaw23_awake_l0F (k : Nat) (rec : (Int × Int × Int × Int × List Int × List Int) → Option (Int × Int × Int × List Int × List Int)) : (Int × Int × Int × Int × List Int × List Int) → Option (Int × Int × Int × List Int × List Int) := fun d => match d with
  | (i, m_0, m_2, m_3, x, m_1) =>
    br (decide (i < 160)) (
      let l3 := [IntKind.i64.wrap ((i.tmod 40) * 100)]
      need (((x ++ l3).length) * 8 ≤ 140737488355328) <|
      rec (IntKind.i64.wrap (i + 1), m_0, m_2, m_3, x ++ l3, m_1))
    (
      some (m_0, m_2, m_3, x, m_1))
def madrigallaw23_awake_l0 (k : Nat) : Nat → (Int × Int × Int × Int × List Int × List Int) → Option (Int × Int × Int × List Int × List Int) := itN (madrigallaw23_awake_l0F k)
def madrigallaw23_awake (k : Nat) : Option (Bool) :=
  (plc_New 8000).bind fun o => match o with
  | .inl (t10_1, t10_0_0, t10_0_2, t10_0_3, t10_0_1) =>
    br (!decide (t10_1 = 0)) (
      some false)
    (
      (madrigallaw23_awake_l0 k k (0, t10_0_0, t10_0_2, t10_0_3, [], t10_0_1)).bind fun (m_0, m_2, m_3, x, m_1) =>
      (plc_Maker_Keep k m_0 m_2 m_3 x m_1).bind fun (b0_0, b0_2, b0_3, b1, b2, b0_1) =>
      (plc_Maker_Make_2 k 40 b0_0 b0_2 b0_3 b0_1).bind fun (t34_1_1, b0_0_2, b0_2_2, b0_3_2, b0_1_2, t34_0_1) =>
      (plc_Maker_Copy b0_0_2 b0_2_2 b0_3_2 b0_1_2).bind fun (b0_0_3, b0_2_3, b0_3_3, b0_1_3, t38_0, t38_2, t38_3, t38_1) =>
      (plc_Maker_Lost b0_0_2 b0_2_2 b0_3_2 b0_1_2).bind fun (t40, b0_0_4, b0_2_4, b0_3_4, b0_1_4) =>
      (plc_Maker_Reset b0_0_2 b0_2_2 b0_3_2 b0_1_2).bind fun (b0_0_5, b0_2_5, b0_3_5, b1_1, b0_1_5) =>
      br (decide (t34_1_1 = 0)) (
        br (decide ((((t34_0_1.length) : Nat) : Int) = 40)) (
          need (0 ≤ (39 : Int) ∧ (39 : Int) < (((t34_0_1.length) : Nat) : Int)) <|
          br (decide (0 < (t34_0_1.getD 39 0))) (
            br (decide (t40 = 1)) (
              (plc_Maker_Lost b0_0_5 b0_2_5 b0_3_5 b0_1_5).bind fun (t62, b0_0_6, b0_2_6, b0_3_6, b0_1_6) =>
              br (decide (t62 = 0)) (
                (plc_Maker_Same k t38_0 t38_2 t38_3 b0_0_5 b0_2_5 b0_3_5 t38_1 b0_1_5).bind fun (t68, b0_0_7, b0_2_7, b0_3_7, b1_0, b1_2, b1_3, b0_1_7, b1_1) =>
                br (!t68) (
                  (plc_Soft k 0).bind fun t72 =>
                  br (decide (t72 = 32768)) (
                    (plc_Soft k 1).bind fun t76 =>
                    br (decide (t76 = 29491)) (
                      (plc_Soft k 41).bind fun t80 =>
                      br (decide (t80 = 0)) (
                        (plc_Cross k [0, 0] [10, 10]).bind fun (b0, b1_2, t86) =>
                        (madrigallaw23_same k t86 [0, 5]).bind fun (t88, b0_1, b1_3) =>
                        some t88)
                      (
                        some false))
                    (
                      some false))
                  (
                    some false))
                (
                  some false))
              (
                some false))
            (
              some false))
          (
            some false))
        (
          some false))
      (
        some false))
  | .inr t10_1_1 =>
    br (!decide (t10_1_1 = 0)) (
      some false)
    (
      some false)
noncomputable def madrigallaw23_awake.T (k : Nat) : List (AbFn Try.prog) := [plc_New.fn, plc_Maker_Keep.fn k, plc_Maker_Make_2.fn k, plc_Maker_Copy.fn, plc_Maker_Lost.fn, plc_Maker_Reset.fn, plc_Maker_Same.fn k, plc_Soft.fn k, plc_Cross.fn k, madrigallaw23_same.fn k]
noncomputable def madrigallaw23_awake_l0.p (k : Nat) : Pc Try.prog 0 := mkLoop hm0 (madrigallaw23_awake.T k) [] [] [] 0 (loopB 0 (bodyOf Try.f8)) ⟨90, 0, [(1, .ptr0 0 0), (3, .whole 1), (4, .int .i64)], [(.vals 4 [.int .i64, .whole 2, .int .i64, .int .i64], .own), (.ints .i64, .own), (.ints .i64, .own)]⟩ (2, ⟨90, 0, [(1, .ptr0 0 0), (3, .whole 1)], [(.vals 4 [.int .i64, .whole 2, .int .i64, .int .i64], .own), (.ints .i64, .own), (.ints .i64, .own)]⟩) [] (madrigallaw23_awake_l0F k) k (by kernel_rfl) (by kernel_rfl) (by intro rec d; kernel_rfl)
noncomputable def madrigallaw23_awake.fn (k : Nat) : AbFn Try.prog := mkFn hm0 (madrigallaw23_awake.T k) [] [] [(0, madrigallaw23_awake_l0.p k)] [] [madrigallaw23_awake_l0.p k] 8 Try.f8 (1, ⟨1, 0, [(0, .bool)], []⟩) [] (fun _ => madrigallaw23_awake k) Try.func8 (by kernel_rfl) (by kernel_rfl) (by intro d; kernel_rfl)

-- (*madrigal/plc.Maker).Make
def plc_Maker_Make_3 (n : Int) : Option (Int) :=
  br (decide (n < 0)) (
    some 1)
  (
    br (decide (4800 < n)) (
      some 1)
    (
      none))
noncomputable def plc_Maker_Make_3.fn : AbFn Try.prog := mkFn hm0 [] [.nilPtr, .int .i64] [] [] [] [] 10 Try.f10 (1, ⟨1, 0, [(0, .tuple [.nilSlice, .int .i64])], []⟩) [] (fun d => match d with | n => plc_Maker_Make_3 n) Try.func10 (by kernel_rfl) (by kernel_rfl) (by intro d; kernel_rfl)

-- madrigal/madrigallaw23.PlcKnown
def madrigallaw23_PlcKnown_c4 (k : Nat) : (Int) → Option (Bool) := fun d => match d with
  | e =>
    (plc_New 48000).bind fun o => match o with
    | .inl (t19_1, t19_0_0, t19_0_2, t19_0_3, t19_0_1) =>
      (plc_Maker_Make_2 k 4801 t19_0_0 t19_0_2 t19_0_3 t19_0_1).bind fun (t24_1_1, b0_0_1, b0_2_1, b0_3_1, b0_1_1, t24_0_1) =>
      (plc_Maker_Make_2 k (-1) b0_0_1 b0_2_1 b0_3_1 b0_1_1).bind fun (t29_1_1, b0_0_3, b0_2_3, b0_3_3, b0_1_3, t29_0_1) =>
      (plc_Maker_Lost b0_0_3 b0_2_3 b0_3_3 b0_1_3).bind fun (t33, b0_0_4, b0_2_4, b0_3_4, b0_1_4) =>
      (plc_Maker_Make_2 k 100 b0_0_3 b0_2_3 b0_3_3 b0_1_3).bind fun (t36_1_1, b0_0_6, b0_2_6, b0_3_6, b0_1_6, t36_0_1) =>
      br (decide (e = 1)) (
        br (decide (t24_1_1 = 1)) (
          br (decide (t29_1_1 = 1)) (
            br (decide (t33 = 0)) (
              br (decide (t36_1_1 = 0)) (
                (madrigallaw23_same k t36_0_1 (List.replicate 100 (0 : Int))).bind fun (t60, b0, b1) =>
                br t60 (
                  (plc_Cross k [] [1]).bind fun (b0_1, b1_1, t64) =>
                  br (decide ((((t64.length) : Nat) : Int) = 0)) (
                    (plc_Soft k (-5)).bind fun t69 =>
                    some (decide (t69 = 32768)))
                  (
                    some false))
                (
                  some false))
              (
                some false))
            (
              some false))
          (
            some false))
        (
          some false))
      (
        some false)
    | .inr t19_1_1 =>
      (plc_Maker_Make_3 4801).bind fun t24_1_2 =>
      (plc_Maker_Make_3 (-1)).bind fun t29_1_2 =>
      none
def madrigallaw23_PlcKnown (k : Nat) : Option (Bool) :=
  (madrigallaw23_awake k).bind fun t12 =>
  br (!t12) (
    some false)
  (
    (plc_New 44100).bind fun o => match o with
    | .inl (t15_1, t15_0_0, t15_0_2, t15_0_3, t15_0_1) =>
      (madrigallaw23_PlcKnown_c4 k t15_1).bind fun t0 =>
      some t0
    | .inr t15_1_1 =>
      (madrigallaw23_PlcKnown_c4 k t15_1_1).bind fun t0_1 =>
      some t0_1)
noncomputable def madrigallaw23_PlcKnown.T (k : Nat) : List (AbFn Try.prog) := [madrigallaw23_awake.fn k, plc_New.fn, plc_Maker_Make_2.fn k, plc_Maker_Lost.fn, madrigallaw23_same.fn k, plc_Cross.fn k, plc_Soft.fn k, plc_Maker_Make_3.fn]
noncomputable def madrigallaw23_PlcKnown_c4.p (k : Nat) : Pc Try.prog 0 := mkCut hm0 (madrigallaw23_PlcKnown.T k) [] [] [] (cutB 4 (bodyOf Try.f3)) ⟨72, 0, [(2, .int .i64)], []⟩ (1, ⟨72, 0, [(0, .bool)], []⟩) [] (madrigallaw23_PlcKnown_c4 k) (by kernel_rfl) (by kernel_rfl) (by intro d; kernel_rfl)
noncomputable def madrigallaw23_PlcKnown.fn (k : Nat) : AbFn Try.prog := mkFn hm0 (madrigallaw23_PlcKnown.T k) [] [] [] [(4, madrigallaw23_PlcKnown_c4.p k)] [madrigallaw23_PlcKnown_c4.p k] 3 Try.f3 (1, ⟨1, 0, [(0, .bool)], []⟩) [] (fun _ => madrigallaw23_PlcKnown k) Try.func3 (by kernel_rfl) (by kernel_rfl) (by intro d; kernel_rfl)

-- madrigal/madrigalref10.Known
def madrigalref10_Known (rate : Int) : Option (Bool) :=
  br (decide (rate = 8000)) (
    some true)
  (
    br (decide (rate = 12000)) (
      some true)
    (
      br (decide (rate = 16000)) (
        some true)
      (
        br (decide (rate = 24000)) (
          some true)
        (
          some (decide (rate = 48000))))))
noncomputable def madrigalref10_Known.fn : AbFn Try.prog := mkFn hm0 [] [.int .i64] [] [] [] [] 15 Try.f15 (1, ⟨1, 0, [(0, .bool)], []⟩) [] (fun d => match d with | rate => madrigalref10_Known rate) Try.func15 (by kernel_rfl) (by kernel_rfl) (by intro d; kernel_rfl)

-- madrigal/madrigalref1.Clamp
def madrigalref1_Clamp (a : Int) (lo : Int) (hi : Int) : Option (Int) :=
  br (decide (a < lo)) (
    some lo)
  (
    br (decide (hi < lo)) (
      some lo)
    (
      br (decide (hi < a)) (
        some hi)
      (
        some a)))
noncomputable def madrigalref1_Clamp.fn : AbFn Try.prog := mkFn hm0 [] [.int .i64, .int .i64, .int .i64] [] [] [] [] 35 Try.f35 (1, ⟨1, 0, [(0, .int .i64)], []⟩) [] (fun d => match d with | (a, lo, hi) => madrigalref1_Clamp a lo hi) Try.func35 (by kernel_rfl) (by kernel_rfl) (by intro d; kernel_rfl)

-- madrigal/madrigalref1.Sat16
def madrigalref1_Sat16 (a : Int) : Option (Int) :=
  (madrigalref1_Clamp a (-32768) 32767).bind fun t4 =>
  some t4
noncomputable def madrigalref1_Sat16.fn : AbFn Try.prog := mkFn hm0 [madrigalref1_Clamp.fn] [.int .i64] [] [] [] [] 21 Try.f21 (1, ⟨1, 0, [(0, .int .i64)], []⟩) [] (fun d => match d with | a => madrigalref1_Sat16 a) Try.func21 (by kernel_rfl) (by kernel_rfl) (by intro d; kernel_rfl)

-- madrigal/madrigalref1.Mul
def madrigalref1_Mul (a : Int) (b : Int) (s : Int) : Option (Int) :=
  (madrigalref1_Clamp a (-2147483648) 2147483648).bind fun t12 =>
  (madrigalref1_Clamp b (-2147483648) 2147483648).bind fun t14 =>
  br (decide (s < 0)) (
    some 0)
  (
    br (decide (62 < s)) (
      some 0)
    (
      br (decide (s = 0)) (
        some (IntKind.i64.wrap (t12 * t14)))
      (
        need (0 ≤ (IntKind.u64.wrap (IntKind.i64.wrap (s - 1)))) <|
        need (0 ≤ (IntKind.u64.wrap s)) <|
        let t32 := (IntKind.i64.wrap (t12 * t14)).fdiv (2 ^ (min ((IntKind.u64.wrap s).toNat) 64))
        need (0 ≤ (IntKind.u64.wrap s)) <|
        br (decide ((IntKind.i64.wrap (1 * 2 ^ (min ((IntKind.u64.wrap (IntKind.i64.wrap (s - 1))).toNat) 64))) ≤ (IntKind.i64.wrap ((IntKind.i64.wrap (t12 * t14)) - (IntKind.i64.wrap (t32 * 2 ^ (min ((IntKind.u64.wrap s).toNat) 64))))))) (
          some (IntKind.i64.wrap (t32 + 1)))
        (
          some t32))))
noncomputable def madrigalref1_Mul.fn : AbFn Try.prog := mkFn hm0 [madrigalref1_Clamp.fn] [.int .i64, .int .i64, .int .i64] [] [] [] [] 22 Try.f22 (1, ⟨1, 0, [(0, .int .i64)], []⟩) [] (fun d => match d with | (a, b, s) => madrigalref1_Mul a b s) Try.func22 (by kernel_rfl) (by kernel_rfl) (by intro d; kernel_rfl)

-- madrigal/madrigallaw23.PlcFades
def madrigallaw23_PlcFades_l0F (k : Nat) (rec : (Int × Int × Int × Int × List Int × Int × Int × Int × List Int) → Option (Int × Int × Int × List Int × Int × Int × Int × List Int)) : (Int × Int × Int × Int × List Int × Int × Int × Int × List Int) → Option (Int × Int × Int × List Int × Int × Int × Int × List Int) := fun d => match d with
  | (n, many, top, i, x, m_0, m_2, m_3, m_1) =>
    br (decide (i < (((x.length) : Nat) : Int))) (
      need (0 ≤ i ∧ i < (((x.length) : Nat) : Int)) <|
      (madrigalref1_Sat16 (x.getD (i.toNat) 0)).bind fun t65 =>
      br (decide (t65 < 0)) (
        br (decide (top < (IntKind.i64.wrap (0 - t65)))) (
          rec (n, many, IntKind.i64.wrap (0 - t65), IntKind.i64.wrap (i + 1), x, m_0, m_2, m_3, m_1))
        (
          rec (n, many, top, IntKind.i64.wrap (i + 1), x, m_0, m_2, m_3, m_1)))
      (
        br (decide (top < t65)) (
          rec (n, many, t65, IntKind.i64.wrap (i + 1), x, m_0, m_2, m_3, m_1))
        (
          rec (n, many, top, IntKind.i64.wrap (i + 1), x, m_0, m_2, m_3, m_1))))
    (
      some (n, many, top, x, m_0, m_2, m_3, m_1))
def madrigallaw23_PlcFades_l0 (k : Nat) : Nat → (Int × Int × Int × Int × List Int × Int × Int × Int × List Int) → Option (Int × Int × Int × List Int × Int × Int × Int × List Int) := itN (madrigallaw23_PlcFades_l0F k)
def madrigallaw23_PlcFades_l4F (k : Nat) (rec : (Int × Int × Int × Int × Int × Int × List Int × Int × Int × Int × List Int × List Int) → Option ((Int × Int × Int × Int × List Int × Int × Int × Int × List Int) ⊕ (Bool × List Int))) : (Int × Int × Int × Int × Int × Int × List Int × Int × Int × Int × List Int × List Int) → Option ((Int × Int × Int × Int × List Int × Int × Int × Int × List Int) ⊕ (Bool × List Int)) := fun d => match d with
  | (n, many, top, k_, most, i, b0, m_0, m_2, m_3, y, m_1) =>
    br (decide (i < n)) (
      need (0 ≤ i ∧ i < (((y.length) : Nat) : Int)) <|
      br (decide (most < (y.getD (i.toNat) 0))) (
        some (.inr (false, b0)))
      (
        need (0 ≤ i ∧ i < (((y.length) : Nat) : Int)) <|
        br (decide ((y.getD (i.toNat) 0) < (IntKind.i64.wrap (0 - most)))) (
          some (.inr (false, b0)))
        (
          br (decide (40 < k_)) (
            need (0 ≤ i ∧ i < (((y.length) : Nat) : Int)) <|
            br (!decide ((y.getD (i.toNat) 0) = 0)) (
              some (.inr (false, b0)))
            (
              rec (n, many, top, k_, most, IntKind.i64.wrap (i + 1), b0, m_0, m_2, m_3, y, m_1)))
          (
            rec (n, many, top, k_, most, IntKind.i64.wrap (i + 1), b0, m_0, m_2, m_3, y, m_1)))))
    (
      some (.inl (n, many, top, k_, b0, m_0, m_2, m_3, m_1)))
def madrigallaw23_PlcFades_l4 (k : Nat) : Nat → (Int × Int × Int × Int × Int × Int × List Int × Int × Int × Int × List Int × List Int) → Option ((Int × Int × Int × Int × List Int × Int × Int × Int × List Int) ⊕ (Bool × List Int)) := itN (madrigallaw23_PlcFades_l4F k)
def madrigallaw23_PlcFades_l2F (k : Nat) (rec : (Int × Int × Int × Int × List Int × Int × Int × Int × List Int) → Option ((List Int × Int × Int × Int × List Int) ⊕ (Bool × List Int))) : (Int × Int × Int × Int × List Int × Int × Int × Int × List Int) → Option ((List Int × Int × Int × Int × List Int) ⊕ (Bool × List Int)) := fun d => match d with
  | (n, many, top, k_, b0, m_0, m_2, m_3, m_1) =>
    br (decide (k_ ≤ many)) (
      (plc_Maker_Make_2 k n m_0 m_2 m_3 m_1).bind fun (t82_1_1, b0_0_1, b0_2_1, b0_3_1, b0_1_1, t82_0_1) =>
      br (!decide (t82_1_1 = 0)) (
        some (.inr (false, b0)))
      (
        br (!decide ((((t82_0_1.length) : Nat) : Int) = n)) (
          some (.inr (false, b0)))
        (
          (plc_Maker_Lost b0_0_1 b0_2_1 b0_3_1 b0_1_1).bind fun (t95, b0_0_2, b0_2_2, b0_3_2, b0_1_2) =>
          br (!decide (t95 = k_)) (
            some (.inr (false, b0)))
          (
            (plc_Soft k k_).bind fun t101 =>
            (madrigalref1_Mul top t101 15).bind fun t102 =>
            (madrigallaw23_PlcFades_l4 k k (n, many, top, k_, IntKind.i64.wrap (t102 + 1), 0, b0, b0_0_1, b0_2_1, b0_3_1, t82_0_1, b0_1_1)).bind fun o => match o with
            | .inl (n1, many1, top1, k_1, b0_1, m_0_1, m_2_1, m_3_1, m_1_1) =>
              rec (n1, many1, top1, IntKind.i64.wrap (k_1 + 1), b0_1, m_0_1, m_2_1, m_3_1, m_1_1)
            | .inr (t8, b0_2) =>
              some (.inr (t8, b0_2))))))
    (
      some (.inl (b0, m_0, m_2, m_3, m_1)))
def madrigallaw23_PlcFades_l2 (k : Nat) : Nat → (Int × Int × Int × Int × List Int × Int × Int × Int × List Int) → Option ((List Int × Int × Int × Int × List Int) ⊕ (Bool × List Int)) := itN (madrigallaw23_PlcFades_l2F k)
def madrigallaw23_PlcFades (k : Nat) (rate : Int) (n : Int) (many : Int) (x : List Int) : Option (Bool × List Int) :=
  (madrigallaw23_awake k).bind fun t19 =>
  br (!t19) (
    some (false, x))
  (
    (madrigalref10_Known rate).bind fun t22 =>
    br (!t22) (
      some (true, x))
    (
      br (decide (1000 < (((x.length) : Nat) : Int))) (
        some (true, x))
      (
        br (decide (n < 0)) (
          some (true, x))
        (
          br (decide (100 < n)) (
            some (true, x))
          (
            br (decide (many < 0)) (
              some (true, x))
            (
              br (decide (60 < many)) (
                some (true, x))
              (
                (plc_New rate).bind fun o => match o with
                | .inl (t47_1, t47_0_0, t47_0_2, t47_0_3, t47_0_1) =>
                  br (!decide (t47_1 = 0)) (
                    some (false, x))
                  (
                    (plc_Maker_Keep k t47_0_0 t47_0_2 t47_0_3 x t47_0_1).bind fun (b0_0, b0_2, b0_3, b1, b2, b0_1) =>
                    (madrigallaw23_PlcFades_l0 k k (n, many, 0, 0, x, b0_0, b0_2, b0_3, b0_1)).bind fun (n1, many1, top, b0, m_0, m_2, m_3, m_1) =>
                    (madrigallaw23_PlcFades_l2 k k (n1, many1, top, 1, b0, m_0, m_2, m_3, m_1)).bind fun o => match o with
                    | .inl (b0_1, m_0_1, m_2_1, m_3_1, m_1_1) =>
                      (plc_Maker_Keep k m_0_1 m_2_1 m_3_1 [] m_1_1).bind fun (b0_0_1, b0_2_1, b0_3_1, b1_1, b2_1, b0_1_1) =>
                      (plc_Maker_Lost b0_0_1 b0_2_1 b0_3_1 b0_1_1).bind fun (t138, b0_0_2, b0_2_2, b0_3_2, b0_1_2) =>
                      some (decide (t138 = 0), b0_1)
                    | .inr (t8, b0_2) =>
                      some (t8, b0_2))
                | .inr t47_1_1 =>
                  br (!decide (t47_1_1 = 0)) (
                    some (false, x))
                  (
                    none))))))))
noncomputable def madrigallaw23_PlcFades.T (k : Nat) : List (AbFn Try.prog) := [madrigallaw23_awake.fn k, madrigalref10_Known.fn, plc_New.fn, plc_Maker_Keep.fn k, madrigalref1_Sat16.fn, plc_Maker_Make_2.fn k, plc_Maker_Lost.fn, plc_Soft.fn k, madrigalref1_Mul.fn]
def madrigallaw23_PlcFades.s0 : Sk := ⟨140, 1, [(2, .int .i64), (3, .int .i64), (9, .ptr0 1 0), (11, .int .i64)], [(.ints .i64, .ro), (.vals 4 [.int .i64, .whole 2, .int .i64, .int .i64], .own), (.ints .i64, .own)]⟩
def madrigallaw23_PlcFades.s1 : Sk := ⟨140, 1, [(1, .whole 0), (2, .int .i64), (3, .int .i64), (9, .ptr0 1 0), (11, .int .i64), (12, .int .i64)], [(.ints .i64, .ro), (.vals 4 [.int .i64, .whole 2, .int .i64, .int .i64], .own), (.ints .i64, .own)]⟩
noncomputable def madrigallaw23_PlcFades_l0.p (k : Nat) : Pc Try.prog 1 := mkLoop hm0 (madrigallaw23_PlcFades.T k) [] [] [] 0 (loopB 0 (bodyOf Try.f5)) madrigallaw23_PlcFades.s1 (2, madrigallaw23_PlcFades.s0) [] (madrigallaw23_PlcFades_l0F k) k (by kernel_rfl) (by kernel_rfl) (by intro rec d; kernel_rfl)
def madrigallaw23_PlcFades.s2 : Sk := ⟨140, 1, [(2, .int .i64), (3, .int .i64), (9, .ptr0 1 0), (11, .int .i64), (14, .int .i64)], [(.ints .i64, .ro), (.vals 4 [.int .i64, .whole 2, .int .i64, .int .i64], .own), (.ints .i64, .own)]⟩
def madrigallaw23_PlcFades.s3 : Sk := ⟨140, 1, [(2, .int .i64), (3, .int .i64), (9, .ptr0 1 0), (11, .int .i64), (14, .int .i64), (15, .whole 2), (17, .int .i64), (18, .int .i64)], [(.ints .i64, .ro), (.vals 4 [.int .i64, .whole 3, .int .i64, .int .i64], .own), (.ints .i64, .own), (.ints .i64, .own)]⟩
noncomputable def madrigallaw23_PlcFades_l4.p (k : Nat) : Pc Try.prog 1 := mkLoop hm0 (madrigallaw23_PlcFades.T k) [(0, madrigallaw23_PlcFades_l0.p k)] [] [] 4 (loopB 4 (bodyOf Try.f5)) madrigallaw23_PlcFades.s3 (6, madrigallaw23_PlcFades.s2) [(1, ⟨140, 1, [(8, .bool)], [(.ints .i64, .ro)]⟩)] (madrigallaw23_PlcFades_l4F k) k (by kernel_rfl) (by kernel_rfl) (by intro rec d; kernel_rfl)
noncomputable def madrigallaw23_PlcFades_l2.p (k : Nat) : Pc Try.prog 1 := mkLoop hm0 (madrigallaw23_PlcFades.T k) [(4, madrigallaw23_PlcFades_l4.p k), (0, madrigallaw23_PlcFades_l0.p k)] [] [madrigallaw23_PlcFades_l4.p k] 2 (loopB 2 (bodyOf Try.f5)) madrigallaw23_PlcFades.s2 (4, ⟨140, 1, [(9, .ptr0 1 0)], [(.ints .i64, .ro), (.vals 4 [.int .i64, .whole 2, .int .i64, .int .i64], .own), (.ints .i64, .own)]⟩) [(1, ⟨140, 1, [(8, .bool)], [(.ints .i64, .ro)]⟩)] (madrigallaw23_PlcFades_l2F k) k (by kernel_rfl) (by kernel_rfl) (by intro rec d; kernel_rfl)
noncomputable def madrigallaw23_PlcFades.fn (k : Nat) : AbFn Try.prog := mkFn hm0 (madrigallaw23_PlcFades.T k) [.int .i64, .whole 0, .int .i64, .int .i64] [(.ints .i64, .ro)] [(2, madrigallaw23_PlcFades_l2.p k), (4, madrigallaw23_PlcFades_l4.p k), (0, madrigallaw23_PlcFades_l0.p k)] [] [madrigallaw23_PlcFades_l0.p k, madrigallaw23_PlcFades_l2.p k] 5 Try.f5 (1, ⟨1, 1, [(0, .bool)], [(.ints .i64, .ro)]⟩) [] (fun d => match d with | (rate, n, many, x) => madrigallaw23_PlcFades k rate n many x) Try.func5 (by kernel_rfl) (by kernel_rfl) (by intro d; kernel_rfl)

-- madrigal/madrigalref10.Soft
def madrigalref10_Soft_l0F (k : Nat) (rec : (Int × Int × Int) → Option (Int)) : (Int × Int × Int) → Option (Int) := fun d => match d with
  | (n, g, i) =>
    br (decide (i < n)) (
      (madrigalref1_Mul g 29491 15).bind fun t13 =>
      rec (n, t13, IntKind.i64.wrap (i + 1)))
    (
      some g)
def madrigalref10_Soft_l0 (k : Nat) : Nat → (Int × Int × Int) → Option (Int) := itN (madrigalref10_Soft_l0F k)
def madrigalref10_Soft (k : Nat) (n : Int) : Option (Int) :=
  br (decide (40 < n)) (
    some 0)
  (
    (madrigalref10_Soft_l0 k k (n, 32768, 0)).bind fun g =>
    some g)
noncomputable def madrigalref10_Soft.T (k : Nat) : List (AbFn Try.prog) := [madrigalref1_Mul.fn]
noncomputable def madrigalref10_Soft_l0.p (k : Nat) : Pc Try.prog 0 := mkLoop hm0 (madrigalref10_Soft.T k) [] [] [] 0 (loopB 0 (bodyOf Try.f23)) ⟨15, 0, [(0, .int .i64), (3, .int .i64), (4, .int .i64)], []⟩ (2, ⟨15, 0, [(3, .int .i64)], []⟩) [] (madrigalref10_Soft_l0F k) k (by kernel_rfl) (by kernel_rfl) (by intro rec d; kernel_rfl)
noncomputable def madrigalref10_Soft.fn (k : Nat) : AbFn Try.prog := mkFn hm0 (madrigalref10_Soft.T k) [.int .i64] [] [(0, madrigalref10_Soft_l0.p k)] [] [madrigalref10_Soft_l0.p k] 23 Try.f23 (1, ⟨1, 0, [(0, .int .i64)], []⟩) [] (fun d => match d with | n => madrigalref10_Soft k n) Try.func23 (by kernel_rfl) (by kernel_rfl) (by intro d; kernel_rfl)

-- madrigal/madrigalref1.Down
def madrigalref1_Down (a : Int) (d : Int) : Option (Int) :=
  need (d ≠ 0) <|
  need (d ≠ 0) <|
  br (decide ((a.tmod d) < 0)) (
    some (IntKind.i64.wrap ((IntKind.i64.wrap (a.tdiv d)) - 1)))
  (
    some (IntKind.i64.wrap (a.tdiv d)))
noncomputable def madrigalref1_Down.fn : AbFn Try.prog := mkFn hm0 [] [.int .i64, .int .i64] [] [] [] [] 36 Try.f36 (1, ⟨1, 0, [(0, .int .i64)], []⟩) [] (fun d => match d with | (a, d) => madrigalref1_Down a d) Try.func36 (by kernel_rfl) (by kernel_rfl) (by intro d; kernel_rfl)

-- madrigal/madrigalref10.Cross
def madrigalref10_Cross_l0F (k : Nat) (rec : (Int × Int × List Int × List Int × List Int) → Option (List Int × List Int × List Int)) : (Int × Int × List Int × List Int × List Int) → Option (List Int × List Int × List Int) := fun d => match d with
  | (n, i, a, b, out) =>
    br (decide (i < n)) (
      need (0 ≤ i ∧ i < (((a.length) : Nat) : Int)) <|
      (madrigalref1_Sat16 (a.getD (i.toNat) 0)).bind fun t26 =>
      need (0 ≤ i ∧ i < (((b.length) : Nat) : Int)) <|
      (madrigalref1_Sat16 (b.getD (i.toNat) 0)).bind fun t35 =>
      (madrigalref1_Down (IntKind.i64.wrap ((IntKind.i64.wrap (t26 * (IntKind.i64.wrap (n - i)))) + (IntKind.i64.wrap (t35 * i)))) n).bind fun t40 =>
      (madrigalref1_Sat16 t40).bind fun t41 =>
      need (((out ++ [t41]).length) * 8 ≤ 140737488355328) <|
      rec (n, IntKind.i64.wrap (i + 1), a, b, out ++ [t41]))
    (
      some (a, b, out))
def madrigalref10_Cross_l0 (k : Nat) : Nat → (Int × Int × List Int × List Int × List Int) → Option (List Int × List Int × List Int) := itN (madrigalref10_Cross_l0F k)
def madrigalref10_Cross (k : Nat) (a : List Int) (b : List Int) : Option (List Int × List Int × List Int) :=
  br (decide ((((b.length) : Nat) : Int) < (((a.length) : Nat) : Int))) (
    (madrigalref10_Cross_l0 k k ((((b.length) : Nat) : Int), 0, a, b, [])).bind fun (b0, b1, out) =>
    some (b0, b1, out))
  (
    (madrigalref10_Cross_l0 k k ((((a.length) : Nat) : Int), 0, a, b, [])).bind fun (b0_1, b1_1, out1) =>
    some (b0_1, b1_1, out1))
noncomputable def madrigalref10_Cross.T (k : Nat) : List (AbFn Try.prog) := [madrigalref1_Sat16.fn, madrigalref1_Down.fn]
noncomputable def madrigalref10_Cross_l0.p (k : Nat) : Pc Try.prog 2 := mkLoop hm0 (madrigalref10_Cross.T k) [] [] [] 0 (loopB 0 (bodyOf Try.f24)) ⟨45, 2, [(0, .whole 0), (1, .whole 1), (5, .int .i64), (6, .whole 2), (7, .int .i64)], [(.ints .i64, .ro), (.ints .i64, .ro), (.ints .i64, .own)]⟩ (2, ⟨45, 2, [(6, .whole 2)], [(.ints .i64, .ro), (.ints .i64, .ro), (.ints .i64, .own)]⟩) [] (madrigalref10_Cross_l0F k) k (by kernel_rfl) (by kernel_rfl) (by intro rec d; kernel_rfl)
noncomputable def madrigalref10_Cross.fn (k : Nat) : AbFn Try.prog := mkFn hm0 (madrigalref10_Cross.T k) [.whole 0, .whole 1] [(.ints .i64, .ro), (.ints .i64, .ro)] [(0, madrigalref10_Cross_l0.p k)] [] [madrigalref10_Cross_l0.p k] 24 Try.f24 (1, ⟨1, 2, [(0, .whole 2)], [(.ints .i64, .ro), (.ints .i64, .ro), (.ints .i64, .own)]⟩) [] (fun d => match d with | (a, b) => madrigalref10_Cross k a b) Try.func24 (by kernel_rfl) (by kernel_rfl) (by intro d; kernel_rfl)

-- madrigal/madrigallaw23.PlcSofter
def madrigallaw23_PlcSofter_c17 (k : Nat) : (Int × Int × Int × List Int × List Int × List Int) → Option ((Int × List Int × List Int × List Int) ⊕ (Bool × List Int × List Int)) := fun d => match d with
  | (i, lo, hi, a, b, c) =>
    need (0 ≤ i ∧ i < (((c.length) : Nat) : Int)) <|
    br (decide ((c.getD (i.toNat) 0) < lo)) (
      some (.inr (false, a, b)))
    (
      need (0 ≤ i ∧ i < (((c.length) : Nat) : Int)) <|
      br (decide (hi < (c.getD (i.toNat) 0))) (
        some (.inr (false, a, b)))
      (
        br (decide (i = 0)) (
          need (0 ≤ i ∧ i < (((c.length) : Nat) : Int)) <|
          need (0 ≤ i ∧ i < (((a.length) : Nat) : Int)) <|
          (madrigalref1_Sat16 (a.getD (i.toNat) 0)).bind fun t111 =>
          br (!decide ((c.getD (i.toNat) 0) = t111)) (
            some (.inr (false, a, b)))
          (
            some (.inl (i, a, b, c))))
        (
          some (.inl (i, a, b, c)))))
def madrigallaw23_PlcSofter_l0F (k : Nat) (rec : (Int × List Int × List Int × List Int) → Option ((List Int × List Int) ⊕ (Bool × List Int × List Int))) : (Int × List Int × List Int × List Int) → Option ((List Int × List Int) ⊕ (Bool × List Int × List Int)) := fun d => match d with
  | (i, a, b, c) =>
    br (decide (i < (((c.length) : Nat) : Int))) (
      need (0 ≤ i ∧ i < (((a.length) : Nat) : Int)) <|
      (madrigalref1_Sat16 (a.getD (i.toNat) 0)).bind fun t74 =>
      need (0 ≤ i ∧ i < (((b.length) : Nat) : Int)) <|
      (madrigalref1_Sat16 (b.getD (i.toNat) 0)).bind fun t79 =>
      br (decide (t79 < t74)) (
        (madrigallaw23_PlcSofter_c17 k (i, t79, t74, a, b, c)).bind fun o => match o with
        | .inl (i1, a1, b1, c1) =>
          rec (IntKind.i64.wrap (i1 + 1), a1, b1, c1)
        | .inr (t6, b0, b1) =>
          some (.inr (t6, b0, b1)))
      (
        (madrigallaw23_PlcSofter_c17 k (i, t74, t79, a, b, c)).bind fun o => match o with
        | .inl (i2, a2, b2, c2) =>
          rec (IntKind.i64.wrap (i2 + 1), a2, b2, c2)
        | .inr (t6_1, b0_1, b1_1) =>
          some (.inr (t6_1, b0_1, b1_1))))
    (
      some (.inl (a, b)))
def madrigallaw23_PlcSofter_l0 (k : Nat) : Nat → (Int × List Int × List Int × List Int) → Option ((List Int × List Int) ⊕ (Bool × List Int × List Int)) := itN (madrigallaw23_PlcSofter_l0F k)
def madrigallaw23_PlcSofter_c5 (k : Nat) : (List Int × List Int) → Option (Bool × List Int × List Int) := fun d => match d with
  | (a, b) =>
    br (decide (500 < (((a.length) : Nat) : Int))) (
      some (true, a, b))
    (
      br (decide (500 < (((b.length) : Nat) : Int))) (
        some (true, a, b))
      (
        need ((a.length) * 8 ≤ 140737488355328) <|
        need ((b.length) * 8 ≤ 140737488355328) <|
        (plc_Cross k a b).bind fun (b0, b1, t57) =>
        (madrigalref10_Cross k a b).bind fun (b0_1, b1_1, t61) =>
        (madrigallaw23_same k t57 t61).bind fun (t62, b0_2, b1_2) =>
        br (!t62) (
          some (false, a, b))
        (
          (madrigallaw23_PlcSofter_l0 k k (0, a, b, t57)).bind fun o => match o with
          | .inl (b0_3, b1_3) =>
            some (true, b0_3, b1_3)
          | .inr (t6, b0_4, b1_4) =>
            some (t6, b0_4, b1_4))))
def madrigallaw23_PlcSofter (k : Nat) (n : Int) (a : List Int) (b : List Int) : Option (Bool × List Int × List Int) :=
  (madrigallaw23_awake k).bind fun t11 =>
  br (!t11) (
    some (false, a, b))
  (
    (plc_Soft k n).bind fun t14 =>
    (madrigalref10_Soft k (IntKind.i64.wrap ((BitVec.ofInt 64 n &&& BitVec.ofInt 64 1023).toNat : Int))).bind fun t17 =>
    br (!decide (t14 = t17)) (
      br (decide (0 ≤ n)) (
        br (decide (n < 1024)) (
          some (false, a, b))
        (
          br (decide (1 ≤ n)) (
            br (decide (n < 40)) (
              (plc_Soft k (IntKind.i64.wrap (n + 1))).bind fun t37 =>
              (plc_Soft k n).bind fun t39 =>
              br (decide (t39 ≤ t37)) (
                some (false, a, b))
              (
                (madrigallaw23_PlcSofter_c5 k (a, b)).bind fun (t6, b0, b1) =>
                some (t6, b0, b1)))
            (
              (madrigallaw23_PlcSofter_c5 k (a, b)).bind fun (t6_1, b0_1, b1_1) =>
              some (t6_1, b0_1, b1_1)))
          (
            (madrigallaw23_PlcSofter_c5 k (a, b)).bind fun (t6_2, b0_2, b1_2) =>
            some (t6_2, b0_2, b1_2))))
      (
        br (decide (1 ≤ n)) (
          br (decide (n < 40)) (
            (plc_Soft k (IntKind.i64.wrap (n + 1))).bind fun t37_1 =>
            (plc_Soft k n).bind fun t39_1 =>
            br (decide (t39_1 ≤ t37_1)) (
              some (false, a, b))
            (
              (madrigallaw23_PlcSofter_c5 k (a, b)).bind fun (t6_3, b0_3, b1_3) =>
              some (t6_3, b0_3, b1_3)))
          (
            (madrigallaw23_PlcSofter_c5 k (a, b)).bind fun (t6_4, b0_4, b1_4) =>
            some (t6_4, b0_4, b1_4)))
        (
          (madrigallaw23_PlcSofter_c5 k (a, b)).bind fun (t6_5, b0_5, b1_5) =>
          some (t6_5, b0_5, b1_5))))
    (
      br (decide (1 ≤ n)) (
        br (decide (n < 40)) (
          (plc_Soft k (IntKind.i64.wrap (n + 1))).bind fun t37_2 =>
          (plc_Soft k n).bind fun t39_2 =>
          br (decide (t39_2 ≤ t37_2)) (
            some (false, a, b))
          (
            (madrigallaw23_PlcSofter_c5 k (a, b)).bind fun (t6_6, b0_6, b1_6) =>
            some (t6_6, b0_6, b1_6)))
        (
          (madrigallaw23_PlcSofter_c5 k (a, b)).bind fun (t6_7, b0_7, b1_7) =>
          some (t6_7, b0_7, b1_7)))
      (
        (madrigallaw23_PlcSofter_c5 k (a, b)).bind fun (t6_8, b0_8, b1_8) =>
        some (t6_8, b0_8, b1_8))))
noncomputable def madrigallaw23_PlcSofter.T (k : Nat) : List (AbFn Try.prog) := [madrigallaw23_awake.fn k, plc_Soft.fn k, madrigalref10_Soft.fn k, plc_Cross.fn k, madrigalref10_Cross.fn k, madrigallaw23_same.fn k, madrigalref1_Sat16.fn]
def madrigallaw23_PlcSofter.s0 : Sk := ⟨115, 2, [(1, .whole 0), (2, .whole 1), (7, .whole 2), (8, .int .i64), (9, .int .i64), (10, .int .i64)], [(.ints .i64, .ro), (.ints .i64, .ro), (.ints .i64, .own)]⟩
noncomputable def madrigallaw23_PlcSofter_c17.p (k : Nat) : Pc Try.prog 2 := mkCut hm0 (madrigallaw23_PlcSofter.T k) [] [] [] (cutB 17 (bodyOf Try.f6)) madrigallaw23_PlcSofter.s0 (0, ⟨115, 2, [(1, .whole 0), (2, .whole 1), (7, .whole 2), (8, .int .i64)], [(.ints .i64, .ro), (.ints .i64, .ro), (.ints .i64, .own)]⟩) [(1, ⟨115, 2, [(6, .bool)], [(.ints .i64, .ro), (.ints .i64, .ro)]⟩)] (madrigallaw23_PlcSofter_c17 k) (by kernel_rfl) (by kernel_rfl) (by intro d; kernel_rfl)
noncomputable def madrigallaw23_PlcSofter_l0.p (k : Nat) : Pc Try.prog 2 := mkLoop hm0 (madrigallaw23_PlcSofter.T k) [] [(17, madrigallaw23_PlcSofter_c17.p k)] [madrigallaw23_PlcSofter_c17.p k] 0 (loopB 0 (bodyOf Try.f6)) ⟨115, 2, [(1, .whole 0), (2, .whole 1), (7, .whole 2), (8, .int .i64)], [(.ints .i64, .ro), (.ints .i64, .ro), (.ints .i64, .own)]⟩ (2, ⟨115, 2, [], [(.ints .i64, .ro), (.ints .i64, .ro)]⟩) [(1, ⟨115, 2, [(6, .bool)], [(.ints .i64, .ro), (.ints .i64, .ro)]⟩)] (madrigallaw23_PlcSofter_l0F k) k (by kernel_rfl) (by kernel_rfl) (by intro rec d; kernel_rfl)
noncomputable def madrigallaw23_PlcSofter_c5.p (k : Nat) : Pc Try.prog 2 := mkCut hm0 (madrigallaw23_PlcSofter.T k) [(0, madrigallaw23_PlcSofter_l0.p k)] [(17, madrigallaw23_PlcSofter_c17.p k)] [madrigallaw23_PlcSofter_l0.p k] (cutB 5 (bodyOf Try.f6)) ⟨115, 2, [(1, .whole 0), (2, .whole 1)], [(.ints .i64, .ro), (.ints .i64, .ro)]⟩ (1, ⟨115, 2, [(6, .bool)], [(.ints .i64, .ro), (.ints .i64, .ro)]⟩) [] (madrigallaw23_PlcSofter_c5 k) (by kernel_rfl) (by kernel_rfl) (by intro d; kernel_rfl)
noncomputable def madrigallaw23_PlcSofter.fn (k : Nat) : AbFn Try.prog := mkFn hm0 (madrigallaw23_PlcSofter.T k) [.int .i64, .whole 0, .whole 1] [(.ints .i64, .ro), (.ints .i64, .ro)] [(0, madrigallaw23_PlcSofter_l0.p k)] [(5, madrigallaw23_PlcSofter_c5.p k), (17, madrigallaw23_PlcSofter_c17.p k)] [madrigallaw23_PlcSofter_c5.p k] 6 Try.f6 (1, ⟨1, 2, [(0, .bool)], [(.ints .i64, .ro), (.ints .i64, .ro)]⟩) [] (fun d => match d with | (n, a, b) => madrigallaw23_PlcSofter k n a b) Try.func6 (by kernel_rfl) (by kernel_rfl) (by intro d; kernel_rfl)

-- madrigal/madrigallaw23.PlcRepeats
def madrigallaw23_PlcRepeats_l0F (k : Nat) (rec : (Int × Int × List Int × List Int × List Int) → Option ((List Int) ⊕ (Bool × List Int))) : (Int × Int × List Int × List Int × List Int) → Option ((List Int) ⊕ (Bool × List Int)) := fun d => match d with
  | (n, i, b0, a, b) =>
    br (decide (i < n)) (
      need (0 ≤ i ∧ i < (((b.length) : Nat) : Int)) <|
      let t74 := IntKind.i64.wrap (10 * (b.getD (i.toNat) 0))
      need (0 ≤ i ∧ i < (((a.length) : Nat) : Int)) <|
      let t79 := IntKind.i64.wrap (9 * (a.getD (i.toNat) 0))
      br (decide (30 < (IntKind.i64.wrap (t74 - t79)))) (
        some (.inr (false, b0)))
      (
        br (decide ((IntKind.i64.wrap (t74 - t79)) < (-30))) (
          some (.inr (false, b0)))
        (
          rec (n, IntKind.i64.wrap (i + 1), b0, a, b))))
    (
      some (.inl b0))
def madrigallaw23_PlcRepeats_l0 (k : Nat) : Nat → (Int × Int × List Int × List Int × List Int) → Option ((List Int) ⊕ (Bool × List Int)) := itN (madrigallaw23_PlcRepeats_l0F k)
def madrigallaw23_PlcRepeats (k : Nat) (n : Int) (x : List Int) : Option (Bool × List Int) :=
  (madrigallaw23_awake k).bind fun t13 =>
  br (!t13) (
    some (false, x))
  (
    br (decide (400 < (((x.length) : Nat) : Int))) (
      some (true, x))
    (
      br (decide (n < 0)) (
        some (true, x))
      (
        br (decide (200 < n)) (
          some (true, x))
        (
          (plc_New 8000).bind fun o => match o with
          | .inl (t27_1, t27_0_0, t27_0_2, t27_0_3, t27_0_1) =>
            br (!decide (t27_1 = 0)) (
              some (false, x))
            (
              (plc_Maker_Keep k t27_0_0 t27_0_2 t27_0_3 x t27_0_1).bind fun (b0_0, b0_2, b0_3, b1, b2, b0_1) =>
              (plc_Maker_Make_2 k n b0_0 b0_2 b0_3 b0_1).bind fun (t38_1_1, b0_0_2, b0_2_2, b0_3_2, b0_1_2, t38_0_1) =>
              (plc_Maker_Make_2 k n b0_0_2 b0_2_2 b0_3_2 b0_1_2).bind fun (t44_1_1, b0_0_4, b0_2_4, b0_3_4, b0_1_4, t44_0_1) =>
              br (!decide (t38_1_1 = 0)) (
                some (false, x))
              (
                br (!decide (t44_1_1 = 0)) (
                  some (false, x))
                (
                  br (!decide ((((t38_0_1.length) : Nat) : Int) = n)) (
                    some (false, x))
                  (
                    br (!decide ((((t44_0_1.length) : Nat) : Int) = n)) (
                      some (false, x))
                    (
                      (madrigallaw23_PlcRepeats_l0 k k (n, 0, x, t38_0_1, t44_0_1)).bind fun o => match o with
                      | .inl b0 =>
                        some (true, b0)
                      | .inr (t4, b0_1) =>
                        some (t4, b0_1))))))
          | .inr t27_1_1 =>
            br (!decide (t27_1_1 = 0)) (
              some (false, x))
            (
              none)))))
noncomputable def madrigallaw23_PlcRepeats.T (k : Nat) : List (AbFn Try.prog) := [madrigallaw23_awake.fn k, plc_New.fn, plc_Maker_Keep.fn k, plc_Maker_Make_2.fn k]
noncomputable def madrigallaw23_PlcRepeats_l0.p (k : Nat) : Pc Try.prog 1 := mkLoop hm0 (madrigallaw23_PlcRepeats.T k) [] [] [] 0 (loopB 0 (bodyOf Try.f7)) ⟨87, 1, [(1, .int .i64), (7, .whole 1), (9, .whole 2), (11, .int .i64)], [(.ints .i64, .ro), (.ints .i64, .own), (.ints .i64, .own)]⟩ (2, ⟨87, 1, [], [(.ints .i64, .ro)]⟩) [(1, ⟨87, 1, [(4, .bool)], [(.ints .i64, .ro)]⟩)] (madrigallaw23_PlcRepeats_l0F k) k (by kernel_rfl) (by kernel_rfl) (by intro rec d; kernel_rfl)
noncomputable def madrigallaw23_PlcRepeats.fn (k : Nat) : AbFn Try.prog := mkFn hm0 (madrigallaw23_PlcRepeats.T k) [.whole 0, .int .i64] [(.ints .i64, .ro)] [(0, madrigallaw23_PlcRepeats_l0.p k)] [] [madrigallaw23_PlcRepeats_l0.p k] 7 Try.f7 (1, ⟨1, 1, [(0, .bool)], [(.ints .i64, .ro)]⟩) [] (fun d => match d with | (n, x) => madrigallaw23_PlcRepeats k n x) Try.func7 (by kernel_rfl) (by kernel_rfl) (by intro d; kernel_rfl)

end Go.Proofs.Ytblaikeffnpagaa
