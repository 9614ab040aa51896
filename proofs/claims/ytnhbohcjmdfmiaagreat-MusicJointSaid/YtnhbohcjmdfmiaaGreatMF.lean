/- Plain laws of the Lean functions, or the contract of a function of the library. Conditions: those of each statement. -/
import Derived.Test.YtnhbohcjmdfmiaaGreatBb6
import Derived.Test.YtnhbohcjmdfmiaaGreatZA
import Derived.Test.YtnhbohcjmdfmiaaGreatRows
set_option linter.unusedVariables false
set_option linter.unusedSimpArgs false
namespace Go.Proofs.YtnhbohcjmdfmiaaGreat
open Go Go.Ab Go.Proofs
set_option maxRecDepth 100000
def awake_c : Option Bool := some true
noncomputable def awake_c.fn : AbFn Tryz.prog := ⟨⟨9, [], [], fun X args K q k => match args with | [] => awake_c.bind fun r => k (.bool r) [] | _ => none⟩, by
  intro X args K q k r h
  cases args with
  | nil => exact ⟨.bool true, [], h, hAwake_ok [] (.bool true) rfl K q⟩
  | cons => cases h⟩
-- madrigal/tabs.Rate
def tabs_Rate (rate : Int) : Option (Bool) :=
  br (decide (rate = 8000)) (
    some true)
  (
    br (decide (rate = 16000)) (
      some true)
    (
      some (decide (rate = 24000))))
noncomputable def tabs_Rate.fn : AbFn Tryz.prog := mkFn hm0 [] [.int .i64] [] [] [] [] 35 Tryz.f35 (1, ⟨1, 0, [(0, .bool)], []⟩) [] (fun d => match d with | rate => tabs_Rate rate) Tryz.func35 (by kernel_rfl) (by kernel_rfl) (by intro d; kernel_rfl)

-- madrigal/tabs.Edges
def tabs_Edges (rate : Int) : Option ((List Int) ⊕ (Unit)) :=
  let l0 := [0, 1, 2, 3, 4, 5, 6, 7, 8, 10, 12, 14, 16, 20, 24, 28, 34, 40, 48, 60]
  br (decide (rate = 8000)) (
    need (0 ≤ (14 : Int) ∧ (14 : Int) ≤ (((l0.length) : Nat) : Int)) <|
    some (.inl (l0.take 14)))
  (
    br (decide (rate = 16000)) (
      need (0 ≤ (18 : Int) ∧ (18 : Int) ≤ (((l0.length) : Nat) : Int)) <|
      some (.inl (l0.take 18)))
    (
      br (decide (rate = 24000)) (
        some (.inl l0))
      (
        some (.inr ()))))
noncomputable def tabs_Edges.fn : AbFn Tryz.prog := mkFn hm0 [] [.int .i64] [] [] [] [] 85 Tryz.f85 (1, ⟨1, 0, [(0, .whole 0)], [(.ints .i64, .own)]⟩) [(1, ⟨1, 0, [(0, .nilSlice)], []⟩)] (fun d => match d with | rate => tabs_Edges rate) Tryz.func85 (by kernel_rfl) (by kernel_rfl) (by intro d; kernel_rfl)

-- madrigal/emph.New
def emph_New : Option (Int × Int) :=
  some (0, 0)
noncomputable def emph_New.fn : AbFn Tryz.prog := mkFn hm0 [] [] [] [] [] [] 86 Tryz.f86 (1, ⟨1, 0, [(0, .ptr0 0 0)], [(.vals 514 (([.int .i64, .int .i64] : List SV) ++ List.replicate 512 (.intc .i64 0 : SV)), .own)]⟩) [] (fun _ => emph_New) Tryz.func86 (by kernel_rfl) (by kernel_rfl) (by intro d; kernel_rfl)

-- madrigal/mdct.Good
def mdct_Good (n : Int) (l : Int) : Option (Bool) :=
  br (decide (4 ≤ n)) (
    br (decide (n ≤ 480)) (
      br (decide (2 ≤ l)) (
        br (decide (l ≤ n)) (
          some (decide (((IntKind.i64.wrap (n - l)).tmod 2) = 0)))
        (
          some false))
      (
        some false))
    (
      some false))
  (
    some false)
noncomputable def mdct_Good.fn : AbFn Tryz.prog := mkFn hm0 [] [.int .i64, .int .i64] [] [] [] [] 139 Tryz.f139 (1, ⟨1, 0, [(0, .bool)], []⟩) [] (fun d => match d with | (n, l) => mdct_Good n l) Tryz.func139 (by kernel_rfl) (by kernel_rfl) (by intro d; kernel_rfl)

-- madrigal/mdct.New
def mdct_New (n : Int) (l : Int) : Option (Int × Int × List Int) :=
  (mdct_Good n l).bind fun t8 =>
  br (!t8) (
    none)
  (
    need (0 ≤ n ∧ n = n ∧ (8 : Int) * n ≤ 281474976710656 ∧ n ≤ 9223372036854775807) <|
    some (n, l, List.replicate (n.toNat) (0 : Int)))
noncomputable def mdct_New.fn : AbFn Tryz.prog := mkFn hm0 [mdct_Good.fn] [.int .i64, .int .i64] [] [] [] [] 87 Tryz.f87 (1, ⟨1, 0, [(0, .tuple [.ptr0 0 0, .intc .i64 0])], [(.vals 3 [.int .i64, .int .i64, .whole 1], .own), (.ints .i64, .own)]⟩) [] (fun d => match d with | (n, l) => mdct_New n l) Tryz.func87 (by kernel_rfl) (by kernel_rfl) (by intro d; kernel_rfl)

-- (*madrigal/music.Player).Reset
def music_Player_Reset_2_l2v1F (k : Nat) (rec : (Int × Int × List Int × Int × Int) → Option (List Int)) : (Int × Int × List Int × Int × Int) → Option (List Int) := fun d => match d with
  | (t35, t36, c_0, c_5_0, c_5_1) =>
    br (decide (t36 < t35)) (
      need (0 ≤ t36 ∧ t36 < (((c_0.length) : Nat) : Int)) <|
      rec (t35, IntKind.i64.wrap (t36 + 1), c_0.set (t36.toNat) 30, c_5_0, c_5_1))
    (
      some c_0)
def music_Player_Reset_2_l2v1 (k : Nat) : Nat → (Int × Int × List Int × Int × Int) → Option (List Int) := itN (music_Player_Reset_2_l2v1F k)
def music_Player_Reset_2 (k : Nat) (p_0 : Int) (p_2 : Int) : Option (Int × List Int × Int × Int × Int × Int × Int × Int × Int × Int × Int × Int × List Int × Int × Int × Int × Int × Int × Int × Int × Int × Int × Int × List Int × List Int × List Int × List Int × List Int × List Int × List Int × List Int) :=
  (tabs_Edges p_0).bind fun o => match o with
  | .inl t24 =>
    need (0 ≤ (IntKind.i64.wrap ((((t24.length) : Nat) : Int) - 1)) ∧ (IntKind.i64.wrap ((((t24.length) : Nat) : Int) - 1)) = (IntKind.i64.wrap ((((t24.length) : Nat) : Int) - 1)) ∧ (8 : Int) * (IntKind.i64.wrap ((((t24.length) : Nat) : Int) - 1)) ≤ 281474976710656 ∧ (IntKind.i64.wrap ((((t24.length) : Nat) : Int) - 1)) ≤ 9223372036854775807) <|
    let l3 := List.replicate ((IntKind.i64.wrap ((((t24.length) : Nat) : Int) - 1)).toNat) (0 : Int)
    (emph_New).bind fun (t28_0, t28_1) =>
    (music_Player_Reset_2_l2v1 k k ((((l3.length) : Nat) : Int), 0, l3, t28_0, t28_1)).bind fun b1 =>
    let t59 := IntKind.i64.wrap ((IntKind.i64.wrap (p_0 * 10)).tdiv 1000)
    (mdct_New t59 (IntKind.i64.wrap (p_0.tdiv 400))).bind fun (t69_0_0, t69_0_1, t69_0_2) =>
    (mdct_New (IntKind.i64.wrap (t59.tdiv 4)) (IntKind.i64.wrap (p_0.tdiv 400))).bind fun (t86_0_0, t86_0_1, t86_0_2) =>
    let t59_1 := IntKind.i64.wrap ((IntKind.i64.wrap (p_0 * 20)).tdiv 1000)
    (mdct_New t59_1 (IntKind.i64.wrap (p_0.tdiv 400))).bind fun (t69_0_0_1, t69_0_1_1, t69_0_2_1) =>
    (mdct_New (IntKind.i64.wrap (t59_1.tdiv 4)) (IntKind.i64.wrap (p_0.tdiv 400))).bind fun (t86_0_0_1, t86_0_1_1, t86_0_2_1) =>
    (tabs_Edges p_0).bind fun o => match o with
    | .inl t24_1 =>
      need (0 ≤ (IntKind.i64.wrap ((((t24_1.length) : Nat) : Int) - 1)) ∧ (IntKind.i64.wrap ((((t24_1.length) : Nat) : Int) - 1)) = (IntKind.i64.wrap ((((t24_1.length) : Nat) : Int) - 1)) ∧ (8 : Int) * (IntKind.i64.wrap ((((t24_1.length) : Nat) : Int) - 1)) ≤ 281474976710656 ∧ (IntKind.i64.wrap ((((t24_1.length) : Nat) : Int) - 1)) ≤ 9223372036854775807) <|
      let l16 := List.replicate ((IntKind.i64.wrap ((((t24_1.length) : Nat) : Int) - 1)).toNat) (0 : Int)
      (emph_New).bind fun (t28_0_1, t28_1_1) =>
      (music_Player_Reset_2_l2v1 k k ((((l16.length) : Nat) : Int), 0, l16, t28_0_1, t28_1_1)).bind fun b1_1 =>
      let t59_2 := IntKind.i64.wrap ((IntKind.i64.wrap (p_0 * 10)).tdiv 1000)
      (mdct_New t59_2 (IntKind.i64.wrap (p_0.tdiv 400))).bind fun (t69_0_0_2, t69_0_1_2, t69_0_2_2) =>
      (mdct_New (IntKind.i64.wrap (t59_2.tdiv 4)) (IntKind.i64.wrap (p_0.tdiv 400))).bind fun (t86_0_0_2, t86_0_1_2, t86_0_2_2) =>
      let t59_3 := IntKind.i64.wrap ((IntKind.i64.wrap (p_0 * 20)).tdiv 1000)
      (mdct_New t59_3 (IntKind.i64.wrap (p_0.tdiv 400))).bind fun (t69_0_0_3, t69_0_1_3, t69_0_2_3) =>
      (mdct_New (IntKind.i64.wrap (t59_3.tdiv 4)) (IntKind.i64.wrap (p_0.tdiv 400))).bind fun (t86_0_0_3, t86_0_1_3, t86_0_2_3) =>
      some (p_0, b1, t69_0_0, t69_0_1, t86_0_0, t86_0_1, t69_0_0_1, t69_0_1_1, t86_0_0_1, t86_0_1_1, t28_0, t28_1, b1_1, t69_0_0_2, t69_0_1_2, t86_0_0_2, t86_0_1_2, t69_0_0_3, t69_0_1_3, t86_0_0_3, t86_0_1_3, t28_0_1, t28_1_1, t69_0_2, t86_0_2, t69_0_2_1, t86_0_2_1, t69_0_2_2, t86_0_2_2, t69_0_2_3, t86_0_2_3)
    | .inr () =>
      none
  | .inr () =>
    none
def music_Player_Reset_2.s0 : Sk := ⟨1, 2, [(0, .tuple [])], [(.vals 3 [.int .i64, .whole 1, .intc .u32 0], .rw), (.vals 1 [.ptr0 2 0, .ptr0 3 0], .own), (.vals 6 [.whole 4, .ptr0 5 0, .ptr0 6 0, .ptr0 7 0, .ptr0 8 0, .ptr0 9 0], .own), (.vals 6 [.whole 10, .ptr0 11 0, .ptr0 12 0, .ptr0 13 0, .ptr0 14 0, .ptr0 15 0], .own), (.ints .i64, .own), (.vals 3 [.int .i64, .int .i64, .whole 16], .own), (.vals 3 [.int .i64, .int .i64, .whole 17], .own), (.vals 3 [.int .i64, .int .i64, .whole 18], .own), (.vals 3 [.int .i64, .int .i64, .whole 19], .own), (.vals 514 (([.int .i64, .int .i64] : List SV) ++ List.replicate 512 (.intc .i64 0 : SV)), .own), (.ints .i64, .own), (.vals 3 [.int .i64, .int .i64, .whole 20], .own), (.vals 3 [.int .i64, .int .i64, .whole 21], .own), (.vals 3 [.int .i64, .int .i64, .whole 22], .own), (.vals 3 [.int .i64, .int .i64, .whole 23], .own), (.vals 514 (([.int .i64, .int .i64] : List SV) ++ List.replicate 512 (.intc .i64 0 : SV)), .own), (.ints .i64, .own), (.ints .i64, .own), (.ints .i64, .own), (.ints .i64, .own), (.ints .i64, .own), (.ints .i64, .own), (.ints .i64, .own), (.ints .i64, .own)]⟩
noncomputable def music_Player_Reset_2.T (k : Nat) : List (AbFn Tryz.prog) := [tabs_Edges.fn, emph_New.fn, mdct_New.fn]
def music_Player_Reset_2.s1 : Sk := ⟨102, 3, [(3, .ptr0 0 0), (35, .int .i64), (36, .int .i64)], [(.vals 6 [.whole 1, .nilPtr, .nilPtr, .nilPtr, .nilPtr, .ptr0 2 0], .ro), (.ints .i64, .rw), (.vals 514 (([.int .i64, .int .i64] : List SV) ++ List.replicate 512 (.intc .i64 0 : SV)), .ro)]⟩
noncomputable def music_Player_Reset_2_l2v1.q (k : Nat) : Pc Tryz.prog 3 := mkLoop hm0 (music_Player_Reset_2.T k) [] [] [] 2 (loopB 2 (bodyOf Tryz.f33)) music_Player_Reset_2.s1 (4, ⟨102, 3, [], [(.dead, .own), (.ints .i64, .rw), (.dead, .own)]⟩) [] (music_Player_Reset_2_l2v1F k) k (by kernel_rfl) (by kernel_rfl) (by intro rec d; kernel_rfl)
noncomputable def music_Player_Reset_2_l2v1.p (k : Nat) : Pc Tryz.prog 2 := mkFrame [(.vals 6 [.whole 1, .nilPtr, .nilPtr, .nilPtr, .nilPtr, .ptr0 2 0], .ro), (.ints .i64, .rw), (.vals 514 (([.int .i64, .int .i64] : List SV) ++ List.replicate 512 (.intc .i64 0 : SV)), .ro)] (music_Player_Reset_2_l2v1.q k) 70300024700944 102 [(3, .ptr0 0 0), (35, .int .i64), (36, .intc .i64 0)] (by kernel_rfl)
noncomputable def music_Player_Reset_2.fn (k : Nat) : AbFn Tryz.prog := mkFn hm0 (music_Player_Reset_2.T k) [.el 0 3] [(.vals 3 [.int .i64, .whole 1, .int .u32], .rw), (.vals 1 [.nilPtr, .nilPtr], .own)] [(2, music_Player_Reset_2_l2v1.p k)] [] [music_Player_Reset_2_l2v1.p k] 33 Tryz.f33 (1, music_Player_Reset_2.s0) [] (fun d => match d with | (p_0, p_2) => music_Player_Reset_2 k p_0 p_2) Tryz.func33 (by kernel_rfl) (by kernel_rfl) (by intro d; kernel_rfl)

-- madrigal/music.New
def music_New (k : Nat) (rate : Int) : Option (Int × List Int × Int × Int × Int × Int × Int × Int × Int × Int × Int × Int × List Int × Int × Int × Int × Int × Int × Int × Int × Int × Int × Int × List Int × List Int × List Int × List Int × List Int × List Int × List Int × List Int) :=
  (tabs_Rate rate).bind fun t8 =>
  br (!t8) (
    none)
  (
    (music_Player_Reset_2 k rate 0).bind fun (b0_0_1, b0_1_0_0_1, b0_1_0_1_0_1, b0_1_0_1_1_1, b0_1_0_2_0_1, b0_1_0_2_1_1, b0_1_0_3_0_1, b0_1_0_3_1_1, b0_1_0_4_0_1, b0_1_0_4_1_1, b0_1_0_5_0_1, b0_1_0_5_1_1, b0_1_1_0_1, b0_1_1_1_0_1, b0_1_1_1_1_1, b0_1_1_2_0_1, b0_1_1_2_1_1, b0_1_1_3_0_1, b0_1_1_3_1_1, b0_1_1_4_0_1, b0_1_1_4_1_1, b0_1_1_5_0_1, b0_1_1_5_1_1, b0_1_0_1_2_1, b0_1_0_2_2_1, b0_1_0_3_2_1, b0_1_0_4_2_1, b0_1_1_1_2_1, b0_1_1_2_2_1, b0_1_1_3_2_1, b0_1_1_4_2_1) =>
    some (b0_0_1, b0_1_0_0_1, b0_1_0_1_0_1, b0_1_0_1_1_1, b0_1_0_2_0_1, b0_1_0_2_1_1, b0_1_0_3_0_1, b0_1_0_3_1_1, b0_1_0_4_0_1, b0_1_0_4_1_1, b0_1_0_5_0_1, b0_1_0_5_1_1, b0_1_1_0_1, b0_1_1_1_0_1, b0_1_1_1_1_1, b0_1_1_2_0_1, b0_1_1_2_1_1, b0_1_1_3_0_1, b0_1_1_3_1_1, b0_1_1_4_0_1, b0_1_1_4_1_1, b0_1_1_5_0_1, b0_1_1_5_1_1, b0_1_0_1_2_1, b0_1_0_2_2_1, b0_1_0_3_2_1, b0_1_0_4_2_1, b0_1_1_1_2_1, b0_1_1_2_2_1, b0_1_1_3_2_1, b0_1_1_4_2_1))
def music_New.s0 : Sk := ⟨1, 0, [(0, .tuple [.ptr0 0 0, .intc .i64 0])], [(.vals 3 [.int .i64, .whole 1, .intc .u32 0], .own), (.vals 1 [.ptr0 2 0, .ptr0 3 0], .own), (.vals 6 [.whole 4, .ptr0 5 0, .ptr0 6 0, .ptr0 7 0, .ptr0 8 0, .ptr0 9 0], .own), (.vals 6 [.whole 10, .ptr0 11 0, .ptr0 12 0, .ptr0 13 0, .ptr0 14 0, .ptr0 15 0], .own), (.ints .i64, .own), (.vals 3 [.int .i64, .int .i64, .whole 16], .own), (.vals 3 [.int .i64, .int .i64, .whole 17], .own), (.vals 3 [.int .i64, .int .i64, .whole 18], .own), (.vals 3 [.int .i64, .int .i64, .whole 19], .own), (.vals 514 (([.int .i64, .int .i64] : List SV) ++ List.replicate 512 (.intc .i64 0 : SV)), .own), (.ints .i64, .own), (.vals 3 [.int .i64, .int .i64, .whole 20], .own), (.vals 3 [.int .i64, .int .i64, .whole 21], .own), (.vals 3 [.int .i64, .int .i64, .whole 22], .own), (.vals 3 [.int .i64, .int .i64, .whole 23], .own), (.vals 514 (([.int .i64, .int .i64] : List SV) ++ List.replicate 512 (.intc .i64 0 : SV)), .own), (.ints .i64, .own), (.ints .i64, .own), (.ints .i64, .own), (.ints .i64, .own), (.ints .i64, .own), (.ints .i64, .own), (.ints .i64, .own), (.ints .i64, .own)]⟩
noncomputable def music_New.fn (k : Nat) : AbFn Tryz.prog := mkFn hm0 [tabs_Rate.fn, music_Player_Reset_2.fn k] [.int .i64, .intc .i64 2] [] [] [] [] 10 Tryz.f10 (1, music_New.s0) [] (fun d => match d with | rate => music_New k rate) Tryz.func10 (by kernel_rfl) (by kernel_rfl) (by intro d; kernel_rfl)

-- (*madrigal/music.Player).Reset
def music_Player_Reset_4_l2v1F (k : Nat) (rec : (Int × Int × List Int × Int × Int) → Option (List Int)) : (Int × Int × List Int × Int × Int) → Option (List Int) := fun d => match d with
  | (t35, t36, c_0, c_5_0, c_5_1) =>
    br (decide (t36 < t35)) (
      need (0 ≤ t36 ∧ t36 < (((c_0.length) : Nat) : Int)) <|
      rec (t35, IntKind.i64.wrap (t36 + 1), c_0.set (t36.toNat) 30, c_5_0, c_5_1))
    (
      some c_0)
def music_Player_Reset_4_l2v1 (k : Nat) : Nat → (Int × Int × List Int × Int × Int) → Option (List Int) := itN (music_Player_Reset_4_l2v1F k)
def music_Player_Reset_4 (k : Nat) (p_0 : Int) (p_2 : Int) : Option (Int × List Int × Int × Int × Int × Int × Int × Int × Int × Int × Int × Int × List Int × List Int × List Int × List Int) :=
  (tabs_Edges p_0).bind fun o => match o with
  | .inl t24 =>
    need (0 ≤ (IntKind.i64.wrap ((((t24.length) : Nat) : Int) - 1)) ∧ (IntKind.i64.wrap ((((t24.length) : Nat) : Int) - 1)) = (IntKind.i64.wrap ((((t24.length) : Nat) : Int) - 1)) ∧ (8 : Int) * (IntKind.i64.wrap ((((t24.length) : Nat) : Int) - 1)) ≤ 281474976710656 ∧ (IntKind.i64.wrap ((((t24.length) : Nat) : Int) - 1)) ≤ 9223372036854775807) <|
    let l3 := List.replicate ((IntKind.i64.wrap ((((t24.length) : Nat) : Int) - 1)).toNat) (0 : Int)
    (emph_New).bind fun (t28_0, t28_1) =>
    (music_Player_Reset_4_l2v1 k k ((((l3.length) : Nat) : Int), 0, l3, t28_0, t28_1)).bind fun b1 =>
    let t59 := IntKind.i64.wrap ((IntKind.i64.wrap (p_0 * 10)).tdiv 1000)
    (mdct_New t59 (IntKind.i64.wrap (p_0.tdiv 400))).bind fun (t69_0_0, t69_0_1, t69_0_2) =>
    (mdct_New (IntKind.i64.wrap (t59.tdiv 4)) (IntKind.i64.wrap (p_0.tdiv 400))).bind fun (t86_0_0, t86_0_1, t86_0_2) =>
    let t59_1 := IntKind.i64.wrap ((IntKind.i64.wrap (p_0 * 20)).tdiv 1000)
    (mdct_New t59_1 (IntKind.i64.wrap (p_0.tdiv 400))).bind fun (t69_0_0_1, t69_0_1_1, t69_0_2_1) =>
    (mdct_New (IntKind.i64.wrap (t59_1.tdiv 4)) (IntKind.i64.wrap (p_0.tdiv 400))).bind fun (t86_0_0_1, t86_0_1_1, t86_0_2_1) =>
    some (p_0, b1, t69_0_0, t69_0_1, t86_0_0, t86_0_1, t69_0_0_1, t69_0_1_1, t86_0_0_1, t86_0_1_1, t28_0, t28_1, t69_0_2, t86_0_2, t69_0_2_1, t86_0_2_1)
  | .inr () =>
    none
def music_Player_Reset_4.s0 : Sk := ⟨1, 2, [(0, .tuple [])], [(.vals 3 [.int .i64, .whole 1, .intc .u32 0], .rw), (.vals 1 [.ptr0 2 0], .own), (.vals 6 [.whole 3, .ptr0 4 0, .ptr0 5 0, .ptr0 6 0, .ptr0 7 0, .ptr0 8 0], .own), (.ints .i64, .own), (.vals 3 [.int .i64, .int .i64, .whole 9], .own), (.vals 3 [.int .i64, .int .i64, .whole 10], .own), (.vals 3 [.int .i64, .int .i64, .whole 11], .own), (.vals 3 [.int .i64, .int .i64, .whole 12], .own), (.vals 514 (([.int .i64, .int .i64] : List SV) ++ List.replicate 512 (.intc .i64 0 : SV)), .own), (.ints .i64, .own), (.ints .i64, .own), (.ints .i64, .own), (.ints .i64, .own)]⟩
noncomputable def music_Player_Reset_4.T (k : Nat) : List (AbFn Tryz.prog) := [tabs_Edges.fn, emph_New.fn, mdct_New.fn]
noncomputable def music_Player_Reset_4_l2v1.q (k : Nat) : Pc Tryz.prog 3 := mkLoop hm0 (music_Player_Reset_4.T k) [] [] [] 2 (loopB 2 (bodyOf Tryz.f33)) music_Player_Reset_2.s1 (4, ⟨102, 3, [], [(.dead, .own), (.ints .i64, .rw), (.dead, .own)]⟩) [] (music_Player_Reset_4_l2v1F k) k (by kernel_rfl) (by kernel_rfl) (by intro rec d; kernel_rfl)
noncomputable def music_Player_Reset_4_l2v1.p (k : Nat) : Pc Tryz.prog 2 := mkFrame [(.vals 6 [.whole 1, .nilPtr, .nilPtr, .nilPtr, .nilPtr, .ptr0 2 0], .ro), (.ints .i64, .rw), (.vals 514 (([.int .i64, .int .i64] : List SV) ++ List.replicate 512 (.intc .i64 0 : SV)), .ro)] (music_Player_Reset_4_l2v1.q k) 70300024700944 102 [(3, .ptr0 0 0), (35, .int .i64), (36, .intc .i64 0)] (by kernel_rfl)
noncomputable def music_Player_Reset_4.fn (k : Nat) : AbFn Tryz.prog := mkFn hm0 (music_Player_Reset_4.T k) [.el 0 3] [(.vals 3 [.int .i64, .whole 1, .int .u32], .rw), (.vals 1 [.nilPtr], .own)] [(2, music_Player_Reset_4_l2v1.p k)] [] [music_Player_Reset_4_l2v1.p k] 33 Tryz.f33 (1, music_Player_Reset_4.s0) [] (fun d => match d with | (p_0, p_2) => music_Player_Reset_4 k p_0 p_2) Tryz.func33 (by kernel_rfl) (by kernel_rfl) (by intro d; kernel_rfl)

-- madrigal/music.New
def music_New_2 (k : Nat) (rate : Int) : Option (Int × List Int × Int × Int × Int × Int × Int × Int × Int × Int × Int × Int × List Int × List Int × List Int × List Int) :=
  (tabs_Rate rate).bind fun t8 =>
  br (!t8) (
    none)
  (
    (music_Player_Reset_4 k rate 0).bind fun (b0_0_1, b0_1_0_0_1, b0_1_0_1_0_1, b0_1_0_1_1_1, b0_1_0_2_0_1, b0_1_0_2_1_1, b0_1_0_3_0_1, b0_1_0_3_1_1, b0_1_0_4_0_1, b0_1_0_4_1_1, b0_1_0_5_0_1, b0_1_0_5_1_1, b0_1_0_1_2_1, b0_1_0_2_2_1, b0_1_0_3_2_1, b0_1_0_4_2_1) =>
    some (b0_0_1, b0_1_0_0_1, b0_1_0_1_0_1, b0_1_0_1_1_1, b0_1_0_2_0_1, b0_1_0_2_1_1, b0_1_0_3_0_1, b0_1_0_3_1_1, b0_1_0_4_0_1, b0_1_0_4_1_1, b0_1_0_5_0_1, b0_1_0_5_1_1, b0_1_0_1_2_1, b0_1_0_2_2_1, b0_1_0_3_2_1, b0_1_0_4_2_1))
def music_New_2.s0 : Sk := ⟨1, 0, [(0, .tuple [.ptr0 0 0, .intc .i64 0])], [(.vals 3 [.int .i64, .whole 1, .intc .u32 0], .own), (.vals 1 [.ptr0 2 0], .own), (.vals 6 [.whole 3, .ptr0 4 0, .ptr0 5 0, .ptr0 6 0, .ptr0 7 0, .ptr0 8 0], .own), (.ints .i64, .own), (.vals 3 [.int .i64, .int .i64, .whole 9], .own), (.vals 3 [.int .i64, .int .i64, .whole 10], .own), (.vals 3 [.int .i64, .int .i64, .whole 11], .own), (.vals 3 [.int .i64, .int .i64, .whole 12], .own), (.vals 514 (([.int .i64, .int .i64] : List SV) ++ List.replicate 512 (.intc .i64 0 : SV)), .own), (.ints .i64, .own), (.ints .i64, .own), (.ints .i64, .own), (.ints .i64, .own)]⟩
noncomputable def music_New_2.fn (k : Nat) : AbFn Tryz.prog := mkFn hm0 [tabs_Rate.fn, music_Player_Reset_4.fn k] [.int .i64, .intc .i64 1] [] [] [] [] 10 Tryz.f10 (1, music_New_2.s0) [] (fun d => match d with | rate => music_New_2 k rate) Tryz.func10 (by kernel_rfl) (by kernel_rfl) (by intro d; kernel_rfl)

-- madrigal/music.Good
def music_Good_c2 (k : Nat) : (Bool × Int × Int × Int) → Option (Bool) := fun d => match d with
  | (first, s_0, s_1, s_3) =>
    (tabs_Rate s_0).bind fun t19 =>
    br t19 (
      br (decide (s_1 = 10)) (
        some first)
      (
        br (decide (s_1 = 20)) (
          some first)
        (
          some false)))
    (
      some false)
def music_Good (k : Nat) (s_0 : Int) (s_1 : Int) (s_3 : Int) : Option (Bool) :=
  br (decide (s_3 = 0)) (
    (music_Good_c2 k (true, s_0, s_1, s_3)).bind fun t2 =>
    some t2)
  (
    br (decide (s_3 = 17)) (
      (music_Good_c2 k (decide (s_0 = 24000), s_0, s_1, s_3)).bind fun t2_1 =>
      some t2_1)
    (
      (music_Good_c2 k (false, s_0, s_1, s_3)).bind fun t2_2 =>
      some t2_2))
noncomputable def music_Good.T (k : Nat) : List (AbFn Tryz.prog) := [tabs_Rate.fn]
noncomputable def music_Good_c2.q (k : Nat) : Pc Tryz.prog 1 := mkCut hm0 (music_Good.T k) [] [] [] (cutB 2 (bodyOf Tryz.f17)) ⟨43, 1, [(1, .ptr0 0 0), (3, .bool)], [(.vals 4 [.int .i64, .int .i64, .intc .i64 2, .int .i64], .ro)]⟩ (1, ⟨43, 1, [(2, .bool)], [(.dead, .own)]⟩) [] (music_Good_c2 k) (by kernel_rfl) (by kernel_rfl) (by intro d; kernel_rfl)
noncomputable def music_Good_c2.p (k : Nat) : Pc Tryz.prog 0 := mkFrame [(.vals 4 [.int .i64, .int .i64, .intc .i64 2, .int .i64], .ro)] (music_Good_c2.q k) 8796092891140 43 [(1, .ptr0 0 0), (3, .bool)] (by kernel_rfl)
noncomputable def music_Good.fn (k : Nat) : AbFn Tryz.prog := mkFn hm0 (music_Good.T k) [.agg [.int .i64, .int .i64, .intc .i64 2, .int .i64]] [] [] [(2, music_Good_c2.p k)] [music_Good_c2.p k] 17 Tryz.f17 (1, ⟨1, 0, [(0, .bool)], []⟩) [] (fun d => match d with | (s_0, s_1, s_3) => music_Good k s_0 s_1 s_3) Tryz.func17 (by kernel_rfl) (by kernel_rfl) (by intro d; kernel_rfl)

-- (*madrigal/music.Player).may
def music_Player_may (k : Nat) (s_0 : Int) (s_1 : Int) (s_3 : Int) (p_0 : Int) : Option (Bool) :=
  (music_Good k s_0 s_1 s_3).bind fun t6 =>
  br t6 (
    br (decide (s_0 = p_0)) (
      some true)
    (
      some false))
  (
    some false)
noncomputable def music_Player_may.fn (k : Nat) : AbFn Tryz.prog := mkFn hm0 [music_Good.fn k] [.el 0 3, .agg [.int .i64, .int .i64, .intc .i64 2, .int .i64]] [(.vals 3 [.int .i64, .whole 1, .undef], .ro), (.vals 1 [.el 2 6, .el 3 6], .ro), (.vals 6 [.undef, .undef, .undef, .undef, .undef, .el 4 514], .ro), (.vals 6 [.undef, .undef, .undef, .undef, .undef, .el 5 514], .ro), (.vals 514 (([.undef, .undef] : List SV) ++ List.replicate 512 (.intc .i64 0 : SV)), .ro), (.vals 514 (([.undef, .undef] : List SV) ++ List.replicate 512 (.intc .i64 0 : SV)), .ro)] [] [] [] 43 Tryz.f43 (1, ⟨1, 6, [(0, .bool)], [(.dead, .own), (.dead, .own), (.dead, .own), (.dead, .own), (.dead, .own), (.dead, .own)]⟩) [] (fun d => match d with | (s_0, s_1, s_3, p_0) => music_Player_may k s_0 s_1 s_3 p_0) Tryz.func43 (by kernel_rfl) (by kernel_rfl) (by intro d; kernel_rfl)

-- (madrigal/music.Shape).samples
def music_Shape_samples (s_0 : Int) (s_1 : Int) (s_2 : Int) (s_3 : Int) : Option (Int) :=
  some (IntKind.i64.wrap ((IntKind.i64.wrap (s_0 * s_1)).tdiv 1000))
noncomputable def music_Shape_samples.fn : AbFn Tryz.prog := mkFn hm0 [] [.agg [.int .i64, .int .i64, .int .i64, .int .i64]] [] [] [] [] 93 Tryz.f93 (1, ⟨1, 0, [(0, .int .i64)], []⟩) [] (fun d => match d with | (s_0, s_1, s_2, s_3) => music_Shape_samples s_0 s_1 s_2 s_3) Tryz.func93 (by kernel_rfl) (by kernel_rfl) (by intro d; kernel_rfl)

-- (madrigal/music.Shape).whole$1
def music_Shape_whole_1 (l : List Int) (t1_0 : Int) (t1_1 : Int) (t1_2 : Int) (t1_3 : Int) : Option (Bool) :=
  (music_Shape_samples t1_0 t1_1 t1_2 t1_3).bind fun t7 =>
  some (!decide ((((l.length) : Nat) : Int) = t7))
noncomputable def music_Shape_whole_1.fn : AbFn Tryz.prog := mkFn hm0 [music_Shape_samples.fn] [.whole 0, .el 1 4] [(.ints .i64, .ro), (.vals 4 [.int .i64, .int .i64, .int .i64, .int .i64], .ro)] [] [] [] 114 Tryz.f114 (1, ⟨1, 2, [(0, .bool)], [(.dead, .own), (.dead, .own)]⟩) [] (fun d => match d with | (l, t1_0, t1_1, t1_2, t1_3) => music_Shape_whole_1 l t1_0 t1_1 t1_2 t1_3) Tryz.func114 (by kernel_rfl) (by kernel_rfl) (by intro d; kernel_rfl)

-- slices.IndexFunc[[][]int64,[]int64]
def slices_IndexFunc_int64_int64 (f_0 : Int) (f_1 : Int) (f_2 : Int) (f_3 : Int) (s_0 : List Int) (s_1 : List Int) : Option (Int) :=
  (music_Shape_whole_1 s_0 f_0 f_1 f_2 f_3).bind fun t16 =>
  br t16 (
    some 0)
  (
    (music_Shape_whole_1 s_1 f_0 f_1 f_2 f_3).bind fun t16_1 =>
    br t16_1 (
      some 1)
    (
      some (-1)))
noncomputable def slices_IndexFunc_int64_int64.fn : AbFn Tryz.prog := mkFn hm0 [music_Shape_whole_1.fn] [.whole 0, .func 114 [] [.el 1 4]] [(.vals 1 [.whole 2, .whole 3], .ro), (.vals 4 [.int .i64, .int .i64, .int .i64, .int .i64], .ro), (.ints .i64, .ro), (.ints .i64, .ro)] [] [] [] 164 Tryz.f164 (1, ⟨1, 4, [(0, .int .i64)], [(.dead, .own), (.dead, .own), (.dead, .own), (.dead, .own)]⟩) [] (fun d => match d with | (f_0, f_1, f_2, f_3, s_0, s_1) => slices_IndexFunc_int64_int64 f_0 f_1 f_2 f_3 s_0 s_1) Tryz.func164 (by kernel_rfl) (by kernel_rfl) (by intro d; kernel_rfl)

-- slices.ContainsFunc[[][]int64,[]int64]
def slices_ContainsFunc_int64_int64 (f_0 : Int) (f_1 : Int) (f_2 : Int) (f_3 : Int) (s_0 : List Int) (s_1 : List Int) : Option (Bool) :=
  (slices_IndexFunc_int64_int64 f_0 f_1 f_2 f_3 s_0 s_1).bind fun t7 =>
  some (decide (0 ≤ t7))
noncomputable def slices_ContainsFunc_int64_int64.fn : AbFn Tryz.prog := mkFn hm0 [slices_IndexFunc_int64_int64.fn] [.whole 0, .func 114 [] [.el 1 4]] [(.vals 1 [.whole 2, .whole 3], .ro), (.vals 4 [.int .i64, .int .i64, .int .i64, .int .i64], .ro), (.ints .i64, .ro), (.ints .i64, .ro)] [] [] [] 115 Tryz.f115 (1, ⟨1, 4, [(0, .bool)], [(.dead, .own), (.dead, .own), (.dead, .own), (.dead, .own)]⟩) [] (fun d => match d with | (f_0, f_1, f_2, f_3, s_0, s_1) => slices_ContainsFunc_int64_int64 f_0 f_1 f_2 f_3 s_0 s_1) Tryz.func115 (by kernel_rfl) (by kernel_rfl) (by intro d; kernel_rfl)

-- (madrigal/music.Shape).whole
def music_Shape_whole (s_0 : Int) (s_1 : Int) (s_3 : Int) (f_0 : Bool) (f_1 : Bool) (f_2 : Bool) (f_4_0 : List Int) (f_4_1 : List Int) : Option (Bool) :=
  (slices_ContainsFunc_int64_int64 s_0 s_1 2 s_3 f_4_0 f_4_1).bind fun t17 =>
  some (!t17)
noncomputable def music_Shape_whole.fn : AbFn Tryz.prog := mkFn hm0 [slices_ContainsFunc_int64_int64.fn] [.agg [.int .i64, .int .i64, .intc .i64 2, .int .i64], .agg [.bool, .bool, .bool, .acc 0, .whole 1]] [(.vals 1 [], .ro), (.vals 1 [.whole 2, .whole 3], .ro), (.ints .i64, .ro), (.ints .i64, .ro)] [] [] [] 63 Tryz.f63 (1, ⟨1, 4, [(0, .bool)], [(.dead, .own), (.dead, .own), (.dead, .own), (.dead, .own)]⟩) [] (fun d => match d with | (s_0, s_1, s_3, f_0, f_1, f_2, f_4_0, f_4_1) => music_Shape_whole s_0 s_1 s_3 f_0 f_1 f_2 f_4_0 f_4_1) Tryz.func63 (by kernel_rfl) (by kernel_rfl) (by intro d; kernel_rfl)

-- madrigal/music.sum
def music_sum (a : Int) (b : Int) (sign : Int) : Option (Int) :=
  let t14 := IntKind.i64.wrap ((a.fdiv 2) + (IntKind.i64.wrap (sign * (b.fdiv 2))))
  br (decide (17179869184 < t14)) (
    (fix_Clamp t14 (-17179869184) 17179869184).bind fun t22 =>
    some t22)
  (
    br (decide (t14 < (-17179869185))) (
      (fix_Clamp t14 (-17179869184) 17179869184).bind fun t22_1 =>
      some t22_1)
    (
      (fix_Clamp (IntKind.i64.wrap ((IntKind.i64.wrap ((IntKind.i64.wrap (2 * t14)) + (IntKind.i64.wrap ((BitVec.ofInt 64 a &&& BitVec.ofInt 64 1).toNat : Int)))) + (IntKind.i64.wrap (sign * (IntKind.i64.wrap ((BitVec.ofInt 64 b &&& BitVec.ofInt 64 1).toNat : Int)))))) (-17179869184) 17179869184).bind fun t33 =>
      some t33))
noncomputable def music_sum.fn : AbFn Tryz.prog := mkFn hm0 [fix_Clamp.fn] [.int .i64, .int .i64, .int .i64] [] [] [] [] 116 Tryz.f116 (1, ⟨1, 0, [(0, .int .i64)], []⟩) [] (fun d => match d with | (a, b, sign) => music_sum a b sign) Tryz.func116 (by kernel_rfl) (by kernel_rfl) (by intro d; kernel_rfl)

-- madrigal/music.apart
def music_apart_l0F (k : Nat) (rec : (Int × Int × List Int × List Int × List Int × List Int) → Option (List Int × List Int)) : (Int × Int × List Int × List Int × List Int × List Int) → Option (List Int × List Int) := fun d => match d with
  | (t15, t16, a, b, x, y) =>
    br (decide (t16 < t15)) (
      need (0 ≤ t16 ∧ t16 < (((a.length) : Nat) : Int)) <|
      need (0 ≤ t16 ∧ t16 < (((b.length) : Nat) : Int)) <|
      (music_sum (a.getD (t16.toNat) 0) (b.getD (t16.toNat) 0) 1).bind fun t31 =>
      need (0 ≤ t16 ∧ t16 < (((a.length) : Nat) : Int)) <|
      need (0 ≤ t16 ∧ t16 < (((b.length) : Nat) : Int)) <|
      (music_sum (a.getD (t16.toNat) 0) (b.getD (t16.toNat) 0) (-1)).bind fun t40 =>
      need (0 ≤ t16 ∧ t16 < (((x.length) : Nat) : Int)) <|
      need (0 ≤ t16 ∧ t16 < (((y.length) : Nat) : Int)) <|
      rec (t15, IntKind.i64.wrap (t16 + 1), a, b, x.set (t16.toNat) t31, y.set (t16.toNat) t40))
    (
      some (x, y))
def music_apart_l0 (k : Nat) : Nat → (Int × Int × List Int × List Int × List Int × List Int) → Option (List Int × List Int) := itN (music_apart_l0F k)
def music_apart (k : Nat) (a : List Int) (b : List Int) : Option (List Int × List Int) :=
  need (0 ≤ (((a.length) : Nat) : Int) ∧ (((a.length) : Nat) : Int) = (((a.length) : Nat) : Int) ∧ (8 : Int) * (((a.length) : Nat) : Int) ≤ 281474976710656 ∧ (((a.length) : Nat) : Int) ≤ 9223372036854775807) <|
  need (0 ≤ (((a.length) : Nat) : Int) ∧ (((a.length) : Nat) : Int) = (((a.length) : Nat) : Int) ∧ (8 : Int) * (((a.length) : Nat) : Int) ≤ 281474976710656 ∧ (((a.length) : Nat) : Int) ≤ 9223372036854775807) <|
  (music_apart_l0 k k ((((a.length) : Nat) : Int), 0, a, b, List.replicate ((((a.length) : Nat) : Int).toNat) (0 : Int), List.replicate ((((a.length) : Nat) : Int).toNat) (0 : Int))).bind fun (b2, b3) =>
  some (b2, b3)
noncomputable def music_apart.T (k : Nat) : List (AbFn Tryz.prog) := [music_sum.fn]
def music_apart.s0 : Sk := ⟨47, 4, [(0, .whole 0), (1, .whole 1), (5, .whole 2), (6, .whole 3), (15, .int .i64), (16, .int .i64)], [(.ints .i64, .ro), (.ints .i64, .ro), (.ints .i64, .rw), (.ints .i64, .rw)]⟩
noncomputable def music_apart_l0.q (k : Nat) : Pc Tryz.prog 4 := mkLoop hm0 (music_apart.T k) [] [] [] 0 (loopB 0 (bodyOf Tryz.f64)) music_apart.s0 (2, ⟨47, 4, [], [(.dead, .own), (.dead, .own), (.ints .i64, .rw), (.ints .i64, .rw)]⟩) [] (music_apart_l0F k) k (by kernel_rfl) (by kernel_rfl) (by intro rec d; kernel_rfl)
noncomputable def music_apart_l0.p (k : Nat) : Pc Tryz.prog 2 := mkFrame [(.ints .i64, .ro), (.ints .i64, .ro), (.ints .i64, .rw), (.ints .i64, .rw)] (music_apart_l0.q k) 17592185979008 47 [(0, .whole 0), (1, .whole 1), (5, .whole 2), (6, .whole 3), (15, .int .i64), (16, .intc .i64 0)] (by kernel_rfl)
noncomputable def music_apart.fn (k : Nat) : AbFn Tryz.prog := mkFn hm0 (music_apart.T k) [.whole 0, .whole 1] [(.ints .i64, .ro), (.ints .i64, .ro)] [(0, music_apart_l0.p k)] [] [music_apart_l0.p k] 64 Tryz.f64 (1, ⟨1, 2, [(0, .whole 2)], [(.dead, .own), (.dead, .own), (.vals 1 [.whole 3, .whole 4], .own), (.ints .i64, .own), (.ints .i64, .own)]⟩) [] (fun d => match d with | (a, b) => music_apart k a b) Tryz.func64 (by kernel_rfl) (by kernel_rfl) (by intro d; kernel_rfl)

-- madrigal/fix.series
def fix_series_l0F (k : Nat) (rec : (Int × Int × Nat × Nat × Int × Int × List Int) → Option (Int)) : (Int × Int × Nat × Nat × Int × Int × List Int) → Option (Int) := fun d => match d with
  | (z, s, t12_o, t12_n, t13, t14, t12) =>
    br (decide (t14 < t13)) (
      need (0 ≤ t14 ∧ t14 < ((t12_n : Nat) : Int)) <|
      (fix_Mul z s 30).bind fun t21 =>
      rec (z, IntKind.i64.wrap ((t12.getD (t12_o + (t14.toNat)) 0) + t21), t12_o, t12_n, t13, IntKind.i64.wrap (t14 + 1), t12))
    (
      some s)
def fix_series_l0 (k : Nat) : Nat → (Int × Int × Nat × Nat × Int × Int × List Int) → Option (Int) := itN (fix_series_l0F k)
def fix_series (k : Nat) (z : Int) (l : List Int) : Option (Int) :=
  need (0 ≤ (0 : Int) ∧ (0 : Int) < (((l.length) : Nat) : Int)) <|
  need (0 ≤ (1 : Int) ∧ (1 : Int) ≤ (((l.length) : Nat) : Int)) <|
  (fix_series_l0 k k (z, l.getD 0 0, 1, ((((l.length) : Nat) : Int) - 1).toNat, (((((((l.length) : Nat) : Int) - 1).toNat) : Nat) : Int), 0, l)).bind fun s =>
  some s
noncomputable def fix_series.T (k : Nat) : List (AbFn Tryz.prog) := [fix_Mul.fn]
noncomputable def fix_series_l0.q (k : Nat) : Pc Tryz.prog 1 := mkLoop hm0 (fix_series.T k) [] [] [] 0 (loopB 0 (bodyOf Tryz.f200)) ⟨25, 1, [(0, .int .i64), (5, .int .i64), (12, .part 0), (13, .int .i64), (14, .int .i64)], [(.ints .i64, .ro)]⟩ (2, ⟨25, 1, [(5, .int .i64)], [(.dead, .own)]⟩) [] (fix_series_l0F k) k (by kernel_rfl) (by kernel_rfl) (by intro rec d; kernel_rfl)
noncomputable def fix_series_l0.p (k : Nat) : Pc Tryz.prog 1 := mkFrame [(.ints .i64, .ro)] (fix_series_l0.q k) 16760992 25 [(0, .int .i64), (5, .int .i64), (12, .part 0), (13, .int .i64), (14, .intc .i64 0)] (by kernel_rfl)
noncomputable def fix_series.fn (k : Nat) : AbFn Tryz.prog := mkFn hm0 (fix_series.T k) [.int .i64, .whole 0] [(.ints .i64, .ro)] [(0, fix_series_l0.p k)] [] [fix_series_l0.p k] 200 Tryz.f200 (1, ⟨1, 1, [(0, .int .i64)], [(.dead, .own)]⟩) [] (fun d => match d with | (z, l) => fix_series k z l) Tryz.func200 (by kernel_rfl) (by kernel_rfl) (by intro d; kernel_rfl)

-- madrigal/fix.Cos
def fix_Cos_c7 (k : Nat) : (Int × Bool) → Option (Int) := fun d => match d with
  | (a, turned) =>
    br (decide (a ≤ 8192)) (
      (fix_Mul a 1686629713 14).bind fun t21 =>
      (fix_Mul t21 t21 30).bind fun t24 =>
      (fix_series k t24 [(-296), 26631, (-1491308), 44739243, (-536870912), 1073741824]).bind fun t26 =>
      (fix_Mul t26 1 15).bind fun t38 =>
      br turned (
        some (IntKind.i64.wrap (0 - t38)))
      (
        some t38))
    (
      (fix_Mul (IntKind.i64.wrap (16384 - a)) 1686629713 14).bind fun t29 =>
      (fix_Mul t29 t29 30).bind fun t33 =>
      (fix_series k t33 [2959, (-213044), 8947849, (-178956971), 1073741824]).bind fun t35 =>
      (fix_Mul t29 t35 30).bind fun t36 =>
      (fix_Mul t36 1 15).bind fun t38_1 =>
      br turned (
        some (IntKind.i64.wrap (0 - t38_1)))
      (
        some t38_1))
def fix_Cos_c4 (k : Nat) : (Int) → Option (Int) := fun d => match d with
  | a =>
    br (decide (16384 < a)) (
      (fix_Cos_c7 k (IntKind.i64.wrap (32768 - a), decide (16384 < a))).bind fun t2 =>
      some t2)
    (
      (fix_Cos_c7 k (a, decide (16384 < a))).bind fun t2_1 =>
      some t2_1)
def fix_Cos (k : Nat) (a : Int) : Option (Int) :=
  br (decide (32768 < (IntKind.i64.wrap ((BitVec.ofInt 64 a &&& BitVec.ofInt 64 65535).toNat : Int)))) (
    (fix_Cos_c4 k (IntKind.i64.wrap (65536 - (IntKind.i64.wrap ((BitVec.ofInt 64 a &&& BitVec.ofInt 64 65535).toNat : Int))))).bind fun t2 =>
    some t2)
  (
    (fix_Cos_c4 k (IntKind.i64.wrap ((BitVec.ofInt 64 a &&& BitVec.ofInt 64 65535).toNat : Int))).bind fun t2_1 =>
    some t2_1)
noncomputable def fix_Cos.T (k : Nat) : List (AbFn Tryz.prog) := [fix_Mul.fn, fix_series.fn k]
noncomputable def fix_Cos_c7.q (k : Nat) : Pc Tryz.prog 0 := mkCut hm0 (fix_Cos.T k) [] [] [] (cutB 7 (bodyOf Tryz.f196)) ⟨43, 0, [(0, .int .i64), (3, .bool)], []⟩ (1, ⟨43, 0, [(2, .int .i64)], []⟩) [] (fix_Cos_c7 k) (by kernel_rfl) (by kernel_rfl) (by intro d; kernel_rfl)
noncomputable def fix_Cos_c7.p (k : Nat) : Pc Tryz.prog 0 := mkFrame [] (fix_Cos_c7.q k) 8796092760180 43 [(0, .int .i64), (3, .bool)] (by kernel_rfl)
noncomputable def fix_Cos_c4.q (k : Nat) : Pc Tryz.prog 0 := mkCut hm0 (fix_Cos.T k) [] [(7, fix_Cos_c7.p k)] [fix_Cos_c7.p k] (cutB 4 (bodyOf Tryz.f196)) ⟨43, 0, [(0, .int .i64)], []⟩ (1, ⟨43, 0, [(2, .int .i64)], []⟩) [] (fix_Cos_c4 k) (by kernel_rfl) (by kernel_rfl) (by intro d; kernel_rfl)
noncomputable def fix_Cos_c4.p (k : Nat) : Pc Tryz.prog 0 := mkFrame [] (fix_Cos_c4.q k) 8796093014141 43 [(0, .int .i64)] (by kernel_rfl)
noncomputable def fix_Cos.fn (k : Nat) : AbFn Tryz.prog := mkFn hm0 (fix_Cos.T k) [.int .i64] [] [] [(4, fix_Cos_c4.p k)] [fix_Cos_c4.p k] 196 Tryz.f196 (1, ⟨1, 0, [(0, .int .i64)], []⟩) [] (fun d => match d with | a => fix_Cos k a) Tryz.func196 (by kernel_rfl) (by kernel_rfl) (by intro d; kernel_rfl)

-- madrigal/fix.Sin
def fix_Sin (k : Nat) (a : Int) : Option (Int) :=
  (fix_Cos k (IntKind.i64.wrap ((IntKind.i64.wrap ((BitVec.ofInt 64 a &&& BitVec.ofInt 64 65535).toNat : Int)) - 16384))).bind fun t6 =>
  some t6
noncomputable def fix_Sin.fn (k : Nat) : AbFn Tryz.prog := mkFn hm0 [fix_Cos.fn k] [.int .i64] [] [] [] [] 199 Tryz.f199 (1, ⟨1, 0, [(0, .int .i64)], []⟩) [] (fun d => match d with | a => fix_Sin k a) Tryz.func199 (by kernel_rfl) (by kernel_rfl) (by intro d; kernel_rfl)

-- madrigal/tabs.Window
def tabs_Window_l0F (k : Nat) (rec : (Int × Int × Int × List Int) → Option (List Int)) : (Int × Int × Int × List Int) → Option (List Int) := fun d => match d with
  | (l, t15, t16, out) =>
    br (decide (t16 < t15)) (
      need (l ≠ 0) <|
      (fix_Sin k (IntKind.i64.wrap ((IntKind.i64.wrap ((IntKind.i64.wrap ((IntKind.i64.wrap ((IntKind.i64.wrap ((IntKind.i64.wrap (2 * t16)) + 1)) * 16384)).tdiv l)) + 1)).tdiv 2))).bind fun t27 =>
      (fix_Mul t27 t27 15).bind fun t32 =>
      (fix_Sin k (IntKind.i64.wrap ((IntKind.i64.wrap (t32 + 1)).tdiv 2))).bind fun t35 =>
      need (0 ≤ t16 ∧ t16 < (((out.length) : Nat) : Int)) <|
      rec (l, t15, IntKind.i64.wrap (t16 + 1), out.set (t16.toNat) t35))
    (
      some out)
def tabs_Window_l0 (k : Nat) : Nat → (Int × Int × Int × List Int) → Option (List Int) := itN (tabs_Window_l0F k)
def tabs_Window (k : Nat) (l : Int) : Option ((Unit) ⊕ (List Int)) :=
  br (decide (l < 1)) (
    some (.inl ()))
  (
    br (decide (480 < l)) (
      some (.inl ()))
    (
      need (0 ≤ l ∧ l = l ∧ (8 : Int) * l ≤ 281474976710656 ∧ l ≤ 9223372036854775807) <|
      (tabs_Window_l0 k k (l, ((((List.replicate (l.toNat) (0 : Int)).length) : Nat) : Int), 0, List.replicate (l.toNat) (0 : Int))).bind fun b0 =>
      some (.inr b0)))
noncomputable def tabs_Window.T (k : Nat) : List (AbFn Tryz.prog) := [fix_Sin.fn k, fix_Mul.fn]
noncomputable def tabs_Window_l0.q (k : Nat) : Pc Tryz.prog 1 := mkLoop hm0 (tabs_Window.T k) [] [] [] 0 (loopB 0 (bodyOf Tryz.f195)) ⟨39, 1, [(0, .int .i64), (3, .whole 0), (15, .int .i64), (16, .int .i64)], [(.ints .i64, .rw)]⟩ (2, ⟨39, 1, [], [(.ints .i64, .rw)]⟩) [] (tabs_Window_l0F k) k (by kernel_rfl) (by kernel_rfl) (by intro rec d; kernel_rfl)
noncomputable def tabs_Window_l0.p (k : Nat) : Pc Tryz.prog 0 := mkFrame [(.ints .i64, .rw)] (tabs_Window_l0.q k) 274877841456 39 [(0, .int .i64), (3, .whole 0), (15, .int .i64), (16, .intc .i64 0)] (by kernel_rfl)
noncomputable def tabs_Window.fn (k : Nat) : AbFn Tryz.prog := mkFn hm0 (tabs_Window.T k) [.int .i64] [] [(0, tabs_Window_l0.p k)] [] [tabs_Window_l0.p k] 195 Tryz.f195 (1, ⟨1, 0, [(0, .nilSlice)], []⟩) [(1, ⟨1, 0, [(0, .whole 0)], [(.ints .i64, .own)]⟩)] (fun d => match d with | l => tabs_Window k l) Tryz.func195 (by kernel_rfl) (by kernel_rfl) (by intro d; kernel_rfl)

-- madrigal/mdct.Shape
def mdct_Shape_l0v1F (k : Nat) (rec : (Int × Int × Int × Int × List Int × List Int) → Option (List Int)) : (Int × Int × Int × Int × List Int × List Int) → Option (List Int) := fun d => match d with
  | (n, from_, t26, t27, out, t25) =>
    br (decide (t27 < t26)) (
      need (0 ≤ t27 ∧ t27 < (((t25.length) : Nat) : Int)) <|
      need (0 ≤ (IntKind.i64.wrap (from_ + t27)) ∧ (IntKind.i64.wrap (from_ + t27)) < (((out.length) : Nat) : Int)) <|
      let l0 := out.set ((IntKind.i64.wrap (from_ + t27)).toNat) (t25.getD (t27.toNat) 0)
      let t45 := IntKind.i64.wrap ((IntKind.i64.wrap ((IntKind.i64.wrap ((IntKind.i64.wrap (2 * n)) - 1)) - from_)) - t27)
      need (0 ≤ t45 ∧ t45 < (((l0.length) : Nat) : Int)) <|
      rec (n, from_, t26, IntKind.i64.wrap (t27 + 1), l0.set (t45.toNat) (t25.getD (t27.toNat) 0), t25))
    (
      some out)
def mdct_Shape_l0v1 (k : Nat) : Nat → (Int × Int × Int × Int × List Int × List Int) → Option (List Int) := itN (mdct_Shape_l0v1F k)
def mdct_Shape_l2F (k : Nat) (rec : (Int × Int × Int × Int × List Int) → Option (List Int)) : (Int × Int × Int × Int × List Int) → Option (List Int) := fun d => match d with
  | (n, l, from_, k_, out) =>
    br (decide (k_ < (IntKind.i64.wrap ((IntKind.i64.wrap ((IntKind.i64.wrap (2 * n)) - from_)) - l)))) (
      need (0 ≤ k_ ∧ k_ < (((out.length) : Nat) : Int)) <|
      rec (n, l, from_, IntKind.i64.wrap (k_ + 1), out.set (k_.toNat) 32768))
    (
      some out)
def mdct_Shape_l2 (k : Nat) : Nat → (Int × Int × Int × Int × List Int) → Option (List Int) := itN (mdct_Shape_l2F k)
def mdct_Shape_c5 (k : Nat) : (Int × Int × List Int × List Int) → Option (List Int) := fun d => match d with
  | (n, l, out, w) =>
    let t24 := IntKind.i64.wrap ((IntKind.i64.wrap (n - l)).tdiv 2)
    (mdct_Shape_l0v1 k k (n, t24, (((w.length) : Nat) : Int), 0, out, w)).bind fun b0 =>
    (mdct_Shape_l2 k k (n, l, t24, IntKind.i64.wrap (t24 + l), b0)).bind fun b0_1 =>
    some b0_1
def mdct_Shape (k : Nat) (n : Int) (l : Int) : Option (List Int) :=
  (mdct_Good n l).bind fun t14 =>
  br (!t14) (
    none)
  (
    need (0 ≤ (IntKind.i64.wrap (2 * n)) ∧ (IntKind.i64.wrap (2 * n)) = (IntKind.i64.wrap (2 * n)) ∧ (8 : Int) * (IntKind.i64.wrap (2 * n)) ≤ 281474976710656 ∧ (IntKind.i64.wrap (2 * n)) ≤ 9223372036854775807) <|
    let l0 := List.replicate ((IntKind.i64.wrap (2 * n)).toNat) (0 : Int)
    (tabs_Window k l).bind fun o => match o with
    | .inl () =>
      (mdct_Shape_c5 k (n, l, l0, [])).bind fun t4 =>
      some t4
    | .inr t20 =>
      (mdct_Shape_c5 k (n, l, l0, t20)).bind fun t4_1 =>
      some t4_1)
noncomputable def mdct_Shape.T (k : Nat) : List (AbFn Tryz.prog) := [mdct_Good.fn, tabs_Window.fn k]
noncomputable def mdct_Shape_l0v1.q (k : Nat) : Pc Tryz.prog 2 := mkLoop hm0 (mdct_Shape.T k) [] [] [] 0 (loopB 0 (bodyOf Tryz.f187)) ⟨66, 2, [(0, .int .i64), (6, .whole 0), (8, .int .i64), (25, .acc 1), (26, .int .i64), (27, .int .i64)], [(.ints .i64, .rw), (.ints .i64, .ro)]⟩ (2, ⟨66, 2, [], [(.ints .i64, .rw), (.dead, .own)]⟩) [] (mdct_Shape_l0v1F k) k (by kernel_rfl) (by kernel_rfl) (by intro rec d; kernel_rfl)
noncomputable def mdct_Shape_l0v1.p (k : Nat) : Pc Tryz.prog 2 := mkFrame [(.ints .i64, .rw), (.ints .i64, .ro)] (mdct_Shape_l0v1.q k) 562949819205120 66 [(0, .int .i64), (6, .whole 0), (8, .int .i64), (25, .acc 1), (26, .int .i64), (27, .intc .i64 0)] (by kernel_rfl)
noncomputable def mdct_Shape_l2.q (k : Nat) : Pc Tryz.prog 1 := mkLoop hm0 (mdct_Shape.T k) [] [] [] 2 (loopB 2 (bodyOf Tryz.f187)) ⟨66, 1, [(0, .int .i64), (1, .int .i64), (6, .whole 0), (8, .int .i64), (11, .int .i64)], [(.ints .i64, .rw)]⟩ (4, ⟨66, 1, [], [(.ints .i64, .rw)]⟩) [] (mdct_Shape_l2F k) k (by kernel_rfl) (by kernel_rfl) (by intro rec d; kernel_rfl)
noncomputable def mdct_Shape_l2.p (k : Nat) : Pc Tryz.prog 2 := mkFrame [(.ints .i64, .rw)] (mdct_Shape_l2.q k) 36888984547791734784 66 [(0, .int .i64), (1, .int .i64), (6, .whole 0), (8, .int .i64), (11, .int .i64)] (by kernel_rfl)
noncomputable def mdct_Shape_c5.q (k : Nat) : Pc Tryz.prog 2 := mkCut hm0 (mdct_Shape.T k) [(2, mdct_Shape_l2.p k), (0, mdct_Shape_l0v1.p k)] [] [mdct_Shape_l0v1.p k, mdct_Shape_l2.p k] (cutB 5 (bodyOf Tryz.f187)) ⟨66, 2, [(0, .int .i64), (1, .int .i64), (6, .whole 0), (7, .acc 1)], [(.ints .i64, .own), (.ints .i64, .ro)]⟩ (1, ⟨66, 2, [(4, .whole 0), (5, .intc .i64 0)], [(.ints .i64, .own), (.dead, .own)]⟩) [] (mdct_Shape_c5 k) (by kernel_rfl) (by kernel_rfl) (by intro d; kernel_rfl)
noncomputable def mdct_Shape_c5.p (k : Nat) : Pc Tryz.prog 0 := mkFrame [(.ints .i64, .own), (.ints .i64, .ro)] (mdct_Shape_c5.q k) 73786976294836113200 66 [(0, .int .i64), (1, .int .i64), (6, .whole 0), (7, .acc 1)] (by kernel_rfl)
noncomputable def mdct_Shape.fn (k : Nat) : AbFn Tryz.prog := mkFn hm0 (mdct_Shape.T k) [.int .i64, .int .i64] [] [] [(5, mdct_Shape_c5.p k)] [mdct_Shape_c5.p k] 187 Tryz.f187 (1, ⟨1, 0, [(0, .tuple [.whole 0, .intc .i64 0])], [(.ints .i64, .own)]⟩) [] (fun d => match d with | (n, l) => mdct_Shape k n l) Tryz.func187 (by kernel_rfl) (by kernel_rfl) (by intro d; kernel_rfl)

-- madrigal/mdct.waves
def mdct_waves_l0F (k : Nat) (rec : (Int × Int × Int × List Int) → Option (List Int)) : (Int × Int × Int × List Int) → Option (List Int) := fun d => match d with
  | (n, t9, t10, out) =>
    br (decide (t10 < t9)) (
      need (n ≠ 0) <|
      (fix_Cos k (IntKind.i64.wrap ((IntKind.i64.wrap ((IntKind.i64.wrap ((IntKind.i64.wrap ((IntKind.i64.wrap (t10 * 65536)).tdiv 4)).tdiv n)) + 1)).tdiv 2))).bind fun t22 =>
      need (0 ≤ t10 ∧ t10 < (((out.length) : Nat) : Int)) <|
      rec (n, t9, IntKind.i64.wrap (t10 + 1), out.set (t10.toNat) t22))
    (
      some out)
def mdct_waves_l0 (k : Nat) : Nat → (Int × Int × Int × List Int) → Option (List Int) := itN (mdct_waves_l0F k)
def mdct_waves (k : Nat) (n : Int) : Option (List Int) :=
  need (0 ≤ (IntKind.i64.wrap (8 * n)) ∧ (IntKind.i64.wrap (8 * n)) = (IntKind.i64.wrap (8 * n)) ∧ (8 : Int) * (IntKind.i64.wrap (8 * n)) ≤ 281474976710656 ∧ (IntKind.i64.wrap (8 * n)) ≤ 9223372036854775807) <|
  let l0 := List.replicate ((IntKind.i64.wrap (8 * n)).toNat) (0 : Int)
  (mdct_waves_l0 k k (n, (((l0.length) : Nat) : Int), 0, l0)).bind fun b0 =>
  some b0
noncomputable def mdct_waves.T (k : Nat) : List (AbFn Tryz.prog) := [fix_Cos.fn k]
noncomputable def mdct_waves_l0.q (k : Nat) : Pc Tryz.prog 1 := mkLoop hm0 (mdct_waves.T k) [] [] [] 0 (loopB 0 (bodyOf Tryz.f188)) ⟨26, 1, [(0, .int .i64), (3, .whole 0), (9, .int .i64), (10, .int .i64)], [(.ints .i64, .rw)]⟩ (2, ⟨26, 1, [], [(.ints .i64, .rw)]⟩) [] (mdct_waves_l0F k) k (by kernel_rfl) (by kernel_rfl) (by intro rec d; kernel_rfl)
noncomputable def mdct_waves_l0.p (k : Nat) : Pc Tryz.prog 0 := mkFrame [(.ints .i64, .rw)] (mdct_waves_l0.q k) 33553424 26 [(0, .int .i64), (3, .whole 0), (9, .int .i64), (10, .intc .i64 0)] (by kernel_rfl)
noncomputable def mdct_waves.fn (k : Nat) : AbFn Tryz.prog := mkFn hm0 (mdct_waves.T k) [.int .i64] [] [(0, mdct_waves_l0.p k)] [] [mdct_waves_l0.p k] 188 Tryz.f188 (1, ⟨1, 0, [(0, .whole 0)], [(.ints .i64, .own)]⟩) [] (fun d => match d with | n => mdct_waves k n) Tryz.func188 (by kernel_rfl) (by kernel_rfl) (by intro d; kernel_rfl)

-- madrigal/mdct.down
def mdct_down (a : Int) (b : Int) : Option (Int) :=
  need (b ≠ 0) <|
  need (b ≠ 0) <|
  br (decide ((a.tmod b) < 0)) (
    some (IntKind.i64.wrap ((IntKind.i64.wrap (a.tdiv b)) - 1)))
  (
    some (IntKind.i64.wrap (a.tdiv b)))
noncomputable def mdct_down.fn : AbFn Tryz.prog := mkFn hm0 [] [.int .i64, .int .i64] [] [] [] [] 189 Tryz.f189 (1, ⟨1, 0, [(0, .int .i64)], []⟩) [] (fun d => match d with | (a, b) => mdct_down a b) Tryz.func189 (by kernel_rfl) (by kernel_rfl) (by intro d; kernel_rfl)

-- madrigal/mdct.Inverse
def mdct_Inverse_l0F (k : Nat) (rec : (Int × Int × List Int × List Int) → Option (List Int)) : (Int × Int × List Int × List Int) → Option (List Int) := fun d => match d with
  | (t33, t34, g, t32) =>
    br (decide (t34 < t33)) (
      need (0 ≤ t34 ∧ t34 < (((t32.length) : Nat) : Int)) <|
      (fix_Clamp (t32.getD (t34.toNat) 0) (-17179869184) 17179869184).bind fun t42 =>
      need (0 ≤ t34 ∧ t34 < (((g.length) : Nat) : Int)) <|
      rec (t33, IntKind.i64.wrap (t34 + 1), g.set (t34.toNat) t42, t32))
    (
      some g)
def mdct_Inverse_l0 (k : Nat) : Nat → (Int × Int × List Int × List Int) → Option (List Int) := itN (mdct_Inverse_l0F k)
def mdct_Inverse_l4F (k : Nat) (rec : (Int × Int × Int × Int × Int × List Int × List Int) → Option (Int)) : (Int × Int × Int × Int × Int × List Int × List Int) → Option (Int) := fun d => match d with
  | (s, p, step, t73, t74, c, t72) =>
    br (decide (t74 < t73)) (
      need (0 ≤ t74 ∧ t74 < (((t72.length) : Nat) : Int)) <|
      need (0 ≤ p ∧ p < (((c.length) : Nat) : Int)) <|
      let t84 := IntKind.i64.wrap ((t72.getD (t74.toNat) 0) * (c.getD (p.toNat) 0))
      br (decide ((((c.length) : Nat) : Int) ≤ (IntKind.i64.wrap (p + step)))) (
        rec (IntKind.i64.wrap (s + t84), IntKind.i64.wrap ((IntKind.i64.wrap (p + step)) - (((c.length) : Nat) : Int)), step, t73, IntKind.i64.wrap (t74 + 1), c, t72))
      (
        rec (IntKind.i64.wrap (s + t84), IntKind.i64.wrap (p + step), step, t73, IntKind.i64.wrap (t74 + 1), c, t72)))
    (
      some s)
def mdct_Inverse_l4 (k : Nat) : Nat → (Int × Int × Int × Int × Int × List Int × List Int) → Option (Int) := itN (mdct_Inverse_l4F k)
def mdct_Inverse_l2F (k : Nat) (rec : (Int × Int × Int × List Int × List Int × List Int × List Int) → Option (List Int)) : (Int × Int × Int × List Int × List Int × List Int × List Int) → Option (List Int) := fun d => match d with
  | (n, t51, t52, shape, g, c, out) =>
    br (decide (t52 < t51)) (
      need ((IntKind.i64.wrap (8 * n)) ≠ 0) <|
      need ((IntKind.i64.wrap (8 * n)) ≠ 0) <|
      (mdct_Inverse_l4 k k (0, (IntKind.i64.wrap ((IntKind.i64.wrap ((IntKind.i64.wrap (2 * t52)) + 1)) + n)).tmod (IntKind.i64.wrap (8 * n)), (IntKind.i64.wrap (2 * (IntKind.i64.wrap ((IntKind.i64.wrap ((IntKind.i64.wrap (2 * t52)) + 1)) + n)))).tmod (IntKind.i64.wrap (8 * n)), (((g.length) : Nat) : Int), 0, c, g)).bind fun s =>
      need (0 ≤ t52 ∧ t52 < (((shape.length) : Nat) : Int)) <|
      (mdct_down (IntKind.i64.wrap ((IntKind.i64.wrap (2 * s)) + (IntKind.i64.wrap (16384 * n)))) (IntKind.i64.wrap (32768 * n))).bind fun t111 =>
      (fix_Clamp t111 (-16777216) 16777216).bind fun t112 =>
      (fix_Mul (shape.getD (t52.toNat) 0) t112 15).bind fun t113 =>
      need (0 ≤ t52 ∧ t52 < (((out.length) : Nat) : Int)) <|
      rec (n, t51, IntKind.i64.wrap (t52 + 1), shape, g, c, out.set (t52.toNat) t113))
    (
      some out)
def mdct_Inverse_l2 (k : Nat) : Nat → (Int × Int × Int × List Int × List Int × List Int × List Int) → Option (List Int) := itN (mdct_Inverse_l2F k)
def mdct_Inverse (k : Nat) (l : Int) (f : List Int) : Option (List Int) :=
  (mdct_Shape k (((f.length) : Nat) : Int) l).bind fun t25_0 =>
  need (0 ≤ (((f.length) : Nat) : Int) ∧ (((f.length) : Nat) : Int) = (((f.length) : Nat) : Int) ∧ (8 : Int) * (((f.length) : Nat) : Int) ≤ 281474976710656 ∧ (((f.length) : Nat) : Int) ≤ 9223372036854775807) <|
  (mdct_Inverse_l0 k k ((((f.length) : Nat) : Int), 0, List.replicate ((((f.length) : Nat) : Int).toNat) (0 : Int), f)).bind fun b0 =>
  (mdct_waves k (((f.length) : Nat) : Int)).bind fun t46 =>
  need (0 ≤ (IntKind.i64.wrap (2 * (((f.length) : Nat) : Int))) ∧ (IntKind.i64.wrap (2 * (((f.length) : Nat) : Int))) = (IntKind.i64.wrap (2 * (((f.length) : Nat) : Int))) ∧ (8 : Int) * (IntKind.i64.wrap (2 * (((f.length) : Nat) : Int))) ≤ 281474976710656 ∧ (IntKind.i64.wrap (2 * (((f.length) : Nat) : Int))) ≤ 9223372036854775807) <|
  let l4 := List.replicate ((IntKind.i64.wrap (2 * (((f.length) : Nat) : Int))).toNat) (0 : Int)
  (mdct_Inverse_l2 k k ((((f.length) : Nat) : Int), (((l4.length) : Nat) : Int), 0, t25_0, b0, t46, l4)).bind fun b3 =>
  some b3
noncomputable def mdct_Inverse.T (k : Nat) : List (AbFn Tryz.prog) := [mdct_Shape.fn k, fix_Clamp.fn, mdct_waves.fn k, mdct_down.fn, fix_Mul.fn]
noncomputable def mdct_Inverse_l0.q (k : Nat) : Pc Tryz.prog 2 := mkLoop hm0 (mdct_Inverse.T k) [] [] [] 0 (loopB 0 (bodyOf Tryz.f166)) ⟨117, 2, [(9, .whole 0), (32, .whole 1), (33, .int .i64), (34, .int .i64)], [(.ints .i64, .rw), (.ints .i64, .ro)]⟩ (2, ⟨117, 2, [], [(.ints .i64, .rw), (.dead, .own)]⟩) [] (mdct_Inverse_l0F k) k (by kernel_rfl) (by kernel_rfl) (by intro rec d; kernel_rfl)
noncomputable def mdct_Inverse_l0.p (k : Nat) : Pc Tryz.prog 1 := mkFrame [(.ints .i64, .rw), (.ints .i64, .ro)] (mdct_Inverse_l0.q k) 35167192222720 117 [(9, .whole 0), (32, .whole 1), (33, .int .i64), (34, .intc .i64 0)] (by kernel_rfl)
def mdct_Inverse.s0 : Sk := ⟨117, 2, [(12, .whole 0), (15, .int .i64), (16, .int .i64), (17, .int .i64), (72, .whole 1), (73, .int .i64), (74, .int .i64)], [(.ints .i64, .ro), (.ints .i64, .ro)]⟩
noncomputable def mdct_Inverse_l4.q (k : Nat) : Pc Tryz.prog 2 := mkLoop hm0 (mdct_Inverse.T k) [] [] [] 4 (loopB 4 (bodyOf Tryz.f166)) mdct_Inverse.s0 (6, ⟨117, 2, [(15, .int .i64)], [(.dead, .own), (.dead, .own)]⟩) [] (mdct_Inverse_l4F k) k (by kernel_rfl) (by kernel_rfl) (by intro rec d; kernel_rfl)
noncomputable def mdct_Inverse_l4.p (k : Nat) : Pc Tryz.prog 4 := mkFrame [(.ints .i64, .ro), (.ints .i64, .ro)] (mdct_Inverse_l4.q k) 316912631167591418895595569152 117 [(12, .whole 0), (15, .intc .i64 0), (16, .int .i64), (17, .int .i64), (72, .whole 1), (73, .int .i64), (74, .intc .i64 0)] (by kernel_rfl)
def mdct_Inverse.s1 : Sk := ⟨117, 4, [(6, .int .i64), (7, .whole 0), (9, .whole 1), (12, .whole 2), (13, .whole 3), (51, .int .i64), (52, .int .i64)], [(.ints .i64, .ro), (.ints .i64, .ro), (.ints .i64, .ro), (.ints .i64, .rw)]⟩
noncomputable def mdct_Inverse_l2.q (k : Nat) : Pc Tryz.prog 4 := mkLoop hm0 (mdct_Inverse.T k) [(4, mdct_Inverse_l4.p k)] [] [mdct_Inverse_l4.p k] 2 (loopB 2 (bodyOf Tryz.f166)) mdct_Inverse.s1 (4, ⟨117, 4, [], [(.dead, .own), (.dead, .own), (.dead, .own), (.ints .i64, .rw)]⟩) [] (mdct_Inverse_l2F k) k (by kernel_rfl) (by kernel_rfl) (by intro rec d; kernel_rfl)
noncomputable def mdct_Inverse_l2.p (k : Nat) : Pc Tryz.prog 1 := mkFrame [(.ints .i64, .ro), (.ints .i64, .ro), (.ints .i64, .ro), (.ints .i64, .rw)] (mdct_Inverse_l2.q k) 83076749736557242051984341640921088 117 [(6, .int .i64), (7, .whole 0), (9, .whole 1), (12, .whole 2), (13, .whole 3), (51, .int .i64), (52, .intc .i64 0)] (by kernel_rfl)
noncomputable def mdct_Inverse.fn (k : Nat) : AbFn Tryz.prog := mkFn hm0 (mdct_Inverse.T k) [.whole 0, .int .i64] [(.ints .i64, .ro)] [(2, mdct_Inverse_l2.p k), (0, mdct_Inverse_l0.p k)] [] [mdct_Inverse_l0.p k, mdct_Inverse_l2.p k] 166 Tryz.f166 (1, ⟨1, 1, [(0, .tuple [.whole 1, .intc .i64 0])], [(.dead, .own), (.ints .i64, .own)]⟩) [] (fun d => match d with | (l, f) => mdct_Inverse k l f) Tryz.func166 (by kernel_rfl) (by kernel_rfl) (by intro d; kernel_rfl)

-- (*madrigal/mdct.Joiner).Next
def mdct_Joiner_Next_l0F (k : Nat) (rec : (Int × Int × Int × Int × List Int × List Int × List Int) → Option (List Int)) : (Int × Int × Int × Int × List Int × List Int × List Int) → Option (List Int) := fun d => match d with
  | (t35, t36, j_0, j_1, y, out, j_2) =>
    br (decide (t36 < t35)) (
      need (0 ≤ t36 ∧ t36 < (((j_2.length) : Nat) : Int)) <|
      need (0 ≤ t36 ∧ t36 < (((y.length) : Nat) : Int)) <|
      (fix_Clamp (IntKind.i64.wrap ((j_2.getD (t36.toNat) 0) + (y.getD (t36.toNat) 0))) (-16777216) 16777216).bind fun t53 =>
      need (0 ≤ t36 ∧ t36 < (((out.length) : Nat) : Int)) <|
      rec (t35, IntKind.i64.wrap (t36 + 1), j_0, j_1, y, out.set (t36.toNat) t53, j_2))
    (
      some out)
def mdct_Joiner_Next_l0 (k : Nat) : Nat → (Int × Int × Int × Int × List Int × List Int × List Int) → Option (List Int) := itN (mdct_Joiner_Next_l0F k)
def mdct_Joiner_Next (k : Nat) (j_0 : Int) (j_1 : Int) (f : List Int) (j_2 : List Int) : Option (Int × Int × List Int × List Int) :=
  br (!decide ((((f.length) : Nat) : Int) = j_0)) (
    none)
  (
    (mdct_Inverse k j_1 f).bind fun t23_0 =>
    need (0 ≤ j_0 ∧ j_0 = j_0 ∧ (8 : Int) * j_0 ≤ 281474976710656 ∧ j_0 ≤ 9223372036854775807) <|
    (mdct_Joiner_Next_l0 k k (((((List.replicate (j_0.toNat) (0 : Int)).length) : Nat) : Int), 0, j_0, j_1, t23_0, List.replicate (j_0.toNat) (0 : Int), j_2)).bind fun b2 =>
    need (0 ≤ j_0 ∧ j_0 ≤ (((t23_0.length) : Nat) : Int)) <|
    some (j_0, j_1, b2, (t23_0.drop (j_0.toNat)).take (((((t23_0.length) : Nat) : Int) - j_0).toNat)))
def mdct_Joiner_Next.s0 : Sk := ⟨1, 3, [(0, .tuple [.whole 3, .intc .i64 0])], [(.vals 3 [.int .i64, .int .i64, .whole 4], .rw), (.dead, .own), (.dead, .own), (.ints .i64, .own), (.ints .i64, .own)]⟩
noncomputable def mdct_Joiner_Next.T (k : Nat) : List (AbFn Tryz.prog) := [mdct_Inverse.fn k, fix_Clamp.fn]
def mdct_Joiner_Next.s1 : Sk := ⟨66, 4, [(0, .ptr0 0 0), (6, .whole 1), (8, .whole 2), (35, .int .i64), (36, .int .i64)], [(.vals 3 [.int .i64, .int .i64, .whole 3], .ro), (.ints .i64, .ro), (.ints .i64, .rw), (.ints .i64, .ro)]⟩
noncomputable def mdct_Joiner_Next_l0.q (k : Nat) : Pc Tryz.prog 4 := mkLoop hm0 (mdct_Joiner_Next.T k) [] [] [] 0 (loopB 0 (bodyOf Tryz.f121)) mdct_Joiner_Next.s1 (2, ⟨66, 4, [], [(.dead, .own), (.dead, .own), (.ints .i64, .rw), (.dead, .own)]⟩) [] (mdct_Joiner_Next_l0F k) k (by kernel_rfl) (by kernel_rfl) (by intro rec d; kernel_rfl)
noncomputable def mdct_Joiner_Next_l0.p (k : Nat) : Pc Tryz.prog 3 := mkFrame [(.vals 3 [.int .i64, .int .i64, .whole 3], .ro), (.ints .i64, .ro), (.ints .i64, .rw), (.ints .i64, .ro)] (mdct_Joiner_Next_l0.q k) 72057525318451712 66 [(0, .ptr0 0 0), (6, .whole 1), (8, .whole 2), (35, .int .i64), (36, .intc .i64 0)] (by kernel_rfl)
noncomputable def mdct_Joiner_Next.fn (k : Nat) : AbFn Tryz.prog := mkFn hm0 (mdct_Joiner_Next.T k) [.el 0 3, .whole 1] [(.vals 3 [.int .i64, .int .i64, .whole 2], .rw), (.ints .i64, .ro), (.ints .i64, .ro)] [(0, mdct_Joiner_Next_l0.p k)] [] [mdct_Joiner_Next_l0.p k] 121 Tryz.f121 (1, mdct_Joiner_Next.s0) [] (fun d => match d with | (j_0, j_1, f, j_2) => mdct_Joiner_Next k j_0 j_1 f j_2) Tryz.func121 (by kernel_rfl) (by kernel_rfl) (by intro d; kernel_rfl)

-- (*madrigal/music.channel).join
def music_channel_join_l2F (k : Nat) (rec : (Int × Int × List Int × List Int) → Option (List Int)) : (Int × Int × List Int × List Int) → Option (List Int) := fun d => match d with
  | (t42, t43, f, block) =>
    br (decide (t43 < t42)) (
      let t52 := IntKind.i64.wrap ((IntKind.i64.wrap (4 * t43)) + 0)
      need (0 ≤ t52 ∧ t52 < (((f.length) : Nat) : Int)) <|
      need (0 ≤ t43 ∧ t43 < (((block.length) : Nat) : Int)) <|
      rec (t42, IntKind.i64.wrap (t43 + 1), f, block.set (t43.toNat) (f.getD (t52.toNat) 0)))
    (
      some block)
def music_channel_join_l2 (k : Nat) : Nat → (Int × Int × List Int × List Int) → Option (List Int) := itN (music_channel_join_l2F k)
def music_channel_join_l2v1F (k : Nat) (rec : (Int × Int × List Int × List Int) → Option (List Int)) : (Int × Int × List Int × List Int) → Option (List Int) := fun d => match d with
  | (t42, t43, f, block) =>
    br (decide (t43 < t42)) (
      let t52 := IntKind.i64.wrap ((IntKind.i64.wrap (4 * t43)) + 1)
      need (0 ≤ t52 ∧ t52 < (((f.length) : Nat) : Int)) <|
      need (0 ≤ t43 ∧ t43 < (((block.length) : Nat) : Int)) <|
      rec (t42, IntKind.i64.wrap (t43 + 1), f, block.set (t43.toNat) (f.getD (t52.toNat) 0)))
    (
      some block)
def music_channel_join_l2v1 (k : Nat) : Nat → (Int × Int × List Int × List Int) → Option (List Int) := itN (music_channel_join_l2v1F k)
def music_channel_join_l2v2F (k : Nat) (rec : (Int × Int × List Int × List Int) → Option (List Int)) : (Int × Int × List Int × List Int) → Option (List Int) := fun d => match d with
  | (t42, t43, f, block) =>
    br (decide (t43 < t42)) (
      let t52 := IntKind.i64.wrap ((IntKind.i64.wrap (4 * t43)) + 2)
      need (0 ≤ t52 ∧ t52 < (((f.length) : Nat) : Int)) <|
      need (0 ≤ t43 ∧ t43 < (((block.length) : Nat) : Int)) <|
      rec (t42, IntKind.i64.wrap (t43 + 1), f, block.set (t43.toNat) (f.getD (t52.toNat) 0)))
    (
      some block)
def music_channel_join_l2v2 (k : Nat) : Nat → (Int × Int × List Int × List Int) → Option (List Int) := itN (music_channel_join_l2v2F k)
def music_channel_join_l2v3F (k : Nat) (rec : (Int × Int × List Int × List Int) → Option (List Int)) : (Int × Int × List Int × List Int) → Option (List Int) := fun d => match d with
  | (t42, t43, f, block) =>
    br (decide (t43 < t42)) (
      let t52 := IntKind.i64.wrap ((IntKind.i64.wrap (4 * t43)) + 3)
      need (0 ≤ t52 ∧ t52 < (((f.length) : Nat) : Int)) <|
      need (0 ≤ t43 ∧ t43 < (((block.length) : Nat) : Int)) <|
      rec (t42, IntKind.i64.wrap (t43 + 1), f, block.set (t43.toNat) (f.getD (t52.toNat) 0)))
    (
      some block)
def music_channel_join_l2v3 (k : Nat) : Nat → (Int × Int × List Int × List Int) → Option (List Int) := itN (music_channel_join_l2v3F k)
def music_channel_join_c2 (k : Nat) : (Bool × List Int × Int × Int × Int × Int × List Int × List Int) → Option (Int × Int × Int × Int × List Int × List Int × List Int) := fun d => match d with
  | (sudden, f, j_0_0, j_0_1, j_1_0, j_1_1, j_0_2, j_1_2) =>
    br (!sudden) (
      (mdct_Joiner_Next k j_0_0 j_0_1 f j_0_2).bind fun (b0_0, b0_1, t30_0, b0_2) =>
      some (b0_0, b0_1, j_1_0, j_1_1, t30_0, b0_2, j_1_2))
    (
      need (0 ≤ (IntKind.i64.wrap ((((f.length) : Nat) : Int).tdiv 4)) ∧ (IntKind.i64.wrap ((((f.length) : Nat) : Int).tdiv 4)) = (IntKind.i64.wrap ((((f.length) : Nat) : Int).tdiv 4)) ∧ (8 : Int) * (IntKind.i64.wrap ((((f.length) : Nat) : Int).tdiv 4)) ≤ 281474976710656 ∧ (IntKind.i64.wrap ((((f.length) : Nat) : Int).tdiv 4)) ≤ 9223372036854775807) <|
      let l6 := List.replicate ((IntKind.i64.wrap ((((f.length) : Nat) : Int).tdiv 4)).toNat) (0 : Int)
      (music_channel_join_l2 k k ((((l6.length) : Nat) : Int), 0, f, l6)).bind fun b1 =>
      (mdct_Joiner_Next k j_1_0 j_1_1 b1 j_1_2).bind fun (b0_0_1, b0_1_1, t61_0, b0_2_1) =>
      need ((t61_0.length) * 8 ≤ 140737488355328 ∧ (true = true → 0 < (t61_0.length))) <|
      need (0 ≤ (IntKind.i64.wrap ((((f.length) : Nat) : Int).tdiv 4)) ∧ (IntKind.i64.wrap ((((f.length) : Nat) : Int).tdiv 4)) = (IntKind.i64.wrap ((((f.length) : Nat) : Int).tdiv 4)) ∧ (8 : Int) * (IntKind.i64.wrap ((((f.length) : Nat) : Int).tdiv 4)) ≤ 281474976710656 ∧ (IntKind.i64.wrap ((((f.length) : Nat) : Int).tdiv 4)) ≤ 9223372036854775807) <|
      let l10 := List.replicate ((IntKind.i64.wrap ((((f.length) : Nat) : Int).tdiv 4)).toNat) (0 : Int)
      (music_channel_join_l2v1 k k ((((l10.length) : Nat) : Int), 0, f, l10)).bind fun b1_1 =>
      (mdct_Joiner_Next k b0_0_1 b0_1_1 b1_1 b0_2_1).bind fun (b0_0_2, b0_1_2, t61_0_1, b0_2_2) =>
      need (((t61_0 ++ t61_0_1).length) * 8 ≤ 140737488355328 ∧ (false = true → 0 < ((t61_0 ++ t61_0_1).length))) <|
      need (0 ≤ (IntKind.i64.wrap ((((f.length) : Nat) : Int).tdiv 4)) ∧ (IntKind.i64.wrap ((((f.length) : Nat) : Int).tdiv 4)) = (IntKind.i64.wrap ((((f.length) : Nat) : Int).tdiv 4)) ∧ (8 : Int) * (IntKind.i64.wrap ((((f.length) : Nat) : Int).tdiv 4)) ≤ 281474976710656 ∧ (IntKind.i64.wrap ((((f.length) : Nat) : Int).tdiv 4)) ≤ 9223372036854775807) <|
      let l14 := List.replicate ((IntKind.i64.wrap ((((f.length) : Nat) : Int).tdiv 4)).toNat) (0 : Int)
      (music_channel_join_l2v2 k k ((((l14.length) : Nat) : Int), 0, f, l14)).bind fun b1_2 =>
      (mdct_Joiner_Next k b0_0_2 b0_1_2 b1_2 b0_2_2).bind fun (b0_0_3, b0_1_3, t61_0_2, b0_2_3) =>
      need ((((t61_0 ++ t61_0_1) ++ t61_0_2).length) * 8 ≤ 140737488355328 ∧ (false = true → 0 < (((t61_0 ++ t61_0_1) ++ t61_0_2).length))) <|
      need (0 ≤ (IntKind.i64.wrap ((((f.length) : Nat) : Int).tdiv 4)) ∧ (IntKind.i64.wrap ((((f.length) : Nat) : Int).tdiv 4)) = (IntKind.i64.wrap ((((f.length) : Nat) : Int).tdiv 4)) ∧ (8 : Int) * (IntKind.i64.wrap ((((f.length) : Nat) : Int).tdiv 4)) ≤ 281474976710656 ∧ (IntKind.i64.wrap ((((f.length) : Nat) : Int).tdiv 4)) ≤ 9223372036854775807) <|
      let l18 := List.replicate ((IntKind.i64.wrap ((((f.length) : Nat) : Int).tdiv 4)).toNat) (0 : Int)
      (music_channel_join_l2v3 k k ((((l18.length) : Nat) : Int), 0, f, l18)).bind fun b1_3 =>
      (mdct_Joiner_Next k b0_0_3 b0_1_3 b1_3 b0_2_3).bind fun (b0_0_4, b0_1_4, t61_0_3, b0_2_4) =>
      need (((((t61_0 ++ t61_0_1) ++ t61_0_2) ++ t61_0_3).length) * 8 ≤ 140737488355328 ∧ (false = true → 0 < ((((t61_0 ++ t61_0_1) ++ t61_0_2) ++ t61_0_3).length))) <|
      some (j_0_0, j_0_1, b0_0_4, b0_1_4, ((t61_0 ++ t61_0_1) ++ t61_0_2) ++ t61_0_3, j_0_2, b0_2_4))
def music_channel_join (k : Nat) (k_ : Int) (sudden : Bool) (f : List Int) (c_1_0 : Int) (c_1_1 : Int) (c_2_0 : Int) (c_2_1 : Int) (c_3_0 : Int) (c_3_1 : Int) (c_4_0 : Int) (c_4_1 : Int) (c_1_2 : List Int) (c_2_2 : List Int) (c_3_2 : List Int) (c_4_2 : List Int) : Option (Int × Int × Int × Int × Int × Int × Int × Int × List Int × List Int × List Int × List Int × List Int) :=
  need (0 ≤ k_ ∧ k_ < 2) <|
  br (decide (k_ = 1)) (
    (music_channel_join_c2 k (sudden, f, c_3_0, c_3_1, c_4_0, c_4_1, c_3_2, c_4_2)).bind fun (b2_0, b2_1, b3_0, b3_1, t8, b2_2, b3_2) =>
    some (c_1_0, c_1_1, c_2_0, c_2_1, b2_0, b2_1, b3_0, b3_1, t8, c_1_2, c_2_2, b2_2, b3_2))
  (
    (music_channel_join_c2 k (sudden, f, c_1_0, c_1_1, c_2_0, c_2_1, c_1_2, c_2_2)).bind fun (b2_0_1, b2_1_1, b3_0_1, b3_1_1, t8_1, b2_2_1, b3_2_1) =>
    some (b2_0_1, b2_1_1, b3_0_1, b3_1_1, c_3_0, c_3_1, c_4_0, c_4_1, t8_1, b2_2_1, b3_2_1, c_3_2, c_4_2))
def music_channel_join.s0 : Sk := ⟨1, 11, [(0, .whole 11)], [(.dead, .own), (.dead, .own), (.vals 3 [.int .i64, .int .i64, .whole 12], .rw), (.vals 3 [.int .i64, .int .i64, .whole 13], .rw), (.vals 3 [.int .i64, .int .i64, .whole 14], .rw), (.vals 3 [.int .i64, .int .i64, .whole 15], .rw), (.dead, .own), (.dead, .own), (.dead, .own), (.dead, .own), (.dead, .own), (.ints .i64, .own), (.ints .i64, .own), (.ints .i64, .own), (.ints .i64, .own), (.ints .i64, .own)]⟩
noncomputable def music_channel_join.T (k : Nat) : List (AbFn Tryz.prog) := [mdct_Joiner_Next.fn k]
noncomputable def music_channel_join_l2.q (k : Nat) : Pc Tryz.prog 2 := mkLoop hm0 (music_channel_join.T k) [] [] [] 2 (loopB 2 (bodyOf Tryz.f66)) ⟨69, 2, [(2, .whole 0), (13, .intc .i64 0), (14, .whole 1), (42, .int .i64), (43, .int .i64)], [(.ints .i64, .ro), (.ints .i64, .rw)]⟩ (4, ⟨69, 2, [], [(.dead, .own), (.ints .i64, .rw)]⟩) [] (music_channel_join_l2F k) k (by kernel_rfl) (by kernel_rfl) (by intro rec d; kernel_rfl)
noncomputable def music_channel_join_l2.p (k : Nat) : Pc Tryz.prog 6 := mkFrame [(.ints .i64, .ro), (.ints .i64, .rw)] (music_channel_join_l2.q k) 144106391982866432 69 [(2, .whole 0), (13, .intc .i64 0), (14, .whole 1), (42, .int .i64), (43, .intc .i64 0)] (by kernel_rfl)
noncomputable def music_channel_join_l2v1.q (k : Nat) : Pc Tryz.prog 2 := mkLoop hm0 (music_channel_join.T k) [] [] [] 2 (loopB 2 (bodyOf Tryz.f66)) ⟨69, 2, [(2, .whole 0), (13, .intc .i64 1), (14, .whole 1), (42, .int .i64), (43, .int .i64)], [(.ints .i64, .ro), (.ints .i64, .rw)]⟩ (4, ⟨69, 2, [], [(.dead, .own), (.ints .i64, .rw)]⟩) [] (music_channel_join_l2v1F k) k (by kernel_rfl) (by kernel_rfl) (by intro rec d; kernel_rfl)
noncomputable def music_channel_join_l2v1.p (k : Nat) : Pc Tryz.prog 6 := mkFrame [(.ints .i64, .ro), (.ints .i64, .rw)] (music_channel_join_l2v1.q k) 144106391982866432 69 [(2, .whole 0), (13, .intc .i64 1), (14, .whole 1), (42, .int .i64), (43, .intc .i64 0)] (by kernel_rfl)
noncomputable def music_channel_join_l2v1_a.p (k : Nat) : Pc Tryz.prog 6 := mkAlt (music_channel_join_l2.p k) (music_channel_join_l2v1.p k) (.block 2 (.loop (loopB 2 (bodyOf Tryz.f66)))) (by kernel_rfl) (by kernel_rfl)
noncomputable def music_channel_join_l2v2.q (k : Nat) : Pc Tryz.prog 2 := mkLoop hm0 (music_channel_join.T k) [] [] [] 2 (loopB 2 (bodyOf Tryz.f66)) ⟨69, 2, [(2, .whole 0), (13, .intc .i64 2), (14, .whole 1), (42, .int .i64), (43, .int .i64)], [(.ints .i64, .ro), (.ints .i64, .rw)]⟩ (4, ⟨69, 2, [], [(.dead, .own), (.ints .i64, .rw)]⟩) [] (music_channel_join_l2v2F k) k (by kernel_rfl) (by kernel_rfl) (by intro rec d; kernel_rfl)
noncomputable def music_channel_join_l2v2.p (k : Nat) : Pc Tryz.prog 6 := mkFrame [(.ints .i64, .ro), (.ints .i64, .rw)] (music_channel_join_l2v2.q k) 144106391982866432 69 [(2, .whole 0), (13, .intc .i64 2), (14, .whole 1), (42, .int .i64), (43, .intc .i64 0)] (by kernel_rfl)
noncomputable def music_channel_join_l2v2_a.p (k : Nat) : Pc Tryz.prog 6 := mkAlt (music_channel_join_l2v1_a.p k) (music_channel_join_l2v2.p k) (.block 2 (.loop (loopB 2 (bodyOf Tryz.f66)))) (by kernel_rfl) (by kernel_rfl)
noncomputable def music_channel_join_l2v3.q (k : Nat) : Pc Tryz.prog 2 := mkLoop hm0 (music_channel_join.T k) [] [] [] 2 (loopB 2 (bodyOf Tryz.f66)) ⟨69, 2, [(2, .whole 0), (13, .intc .i64 3), (14, .whole 1), (42, .int .i64), (43, .int .i64)], [(.ints .i64, .ro), (.ints .i64, .rw)]⟩ (4, ⟨69, 2, [], [(.dead, .own), (.ints .i64, .rw)]⟩) [] (music_channel_join_l2v3F k) k (by kernel_rfl) (by kernel_rfl) (by intro rec d; kernel_rfl)
noncomputable def music_channel_join_l2v3.p (k : Nat) : Pc Tryz.prog 6 := mkFrame [(.ints .i64, .ro), (.ints .i64, .rw)] (music_channel_join_l2v3.q k) 144106391982866432 69 [(2, .whole 0), (13, .intc .i64 3), (14, .whole 1), (42, .int .i64), (43, .intc .i64 0)] (by kernel_rfl)
noncomputable def music_channel_join_l2v3_a.p (k : Nat) : Pc Tryz.prog 6 := mkAlt (music_channel_join_l2v2_a.p k) (music_channel_join_l2v3.p k) (.block 2 (.loop (loopB 2 (bodyOf Tryz.f66)))) (by kernel_rfl) (by kernel_rfl)
def music_channel_join.s1 : Sk := ⟨69, 6, [(8, .whole 6)], [(.dead, .own), (.dead, .own), (.vals 3 [.int .i64, .int .i64, .whole 7], .rw), (.vals 3 [.int .i64, .int .i64, .whole 8], .rw), (.dead, .own), (.dead, .own), (.ints .i64, .own), (.ints .i64, .own), (.ints .i64, .own)]⟩
def music_channel_join.s2 : Sk := ⟨69, 6, [(2, .whole 0), (3, .bool), (9, .ptr0 1 0)], [(.ints .i64, .ro), (.vals 2 [.ptr0 2 0, .ptr0 3 0], .ro), (.vals 3 [.int .i64, .int .i64, .whole 4], .rw), (.vals 3 [.int .i64, .int .i64, .whole 5], .rw), (.ints .i64, .own), (.ints .i64, .own)]⟩
noncomputable def music_channel_join_c2.q (k : Nat) : Pc Tryz.prog 6 := mkCut hm0 (music_channel_join.T k) [(2, music_channel_join_l2v3_a.p k)] [] [music_channel_join_l2v3_a.p k] (cutB 2 (bodyOf Tryz.f66)) music_channel_join.s2 (1, music_channel_join.s1) [] (music_channel_join_c2 k) (by kernel_rfl) (by kernel_rfl) (by intro d; kernel_rfl)
noncomputable def music_channel_join_c2.p (k : Nat) : Pc Tryz.prog 11 := mkFrame [(.ints .i64, .ro), (.vals 2 [.ptr0 2 0, .ptr0 3 0], .ro), (.vals 3 [.int .i64, .int .i64, .whole 4], .rw), (.vals 3 [.int .i64, .int .i64, .whole 5], .rw), (.ints .i64, .own), (.ints .i64, .own)] (music_channel_join_c2.q k) 590295810358689135872 69 [(2, .whole 0), (3, .bool), (9, .ptr0 1 0)] (by kernel_rfl)
noncomputable def music_channel_join.fn (k : Nat) : AbFn Tryz.prog := mkFn hm0 (music_channel_join.T k) [.el 0 6, .int .i64, .whole 1, .bool] [(.vals 6 [.undef, .el 2 3, .el 3 3, .el 4 3, .el 5 3, .el 6 514], .ro), (.ints .i64, .ro), (.vals 3 [.int .i64, .int .i64, .whole 7], .rw), (.vals 3 [.int .i64, .int .i64, .whole 8], .rw), (.vals 3 [.int .i64, .int .i64, .whole 9], .rw), (.vals 3 [.int .i64, .int .i64, .whole 10], .rw), (.vals 514 (([.undef, .undef] : List SV) ++ List.replicate 512 (.intc .i64 0 : SV)), .ro), (.ints .i64, .own), (.ints .i64, .own), (.ints .i64, .own), (.ints .i64, .own)] [] [(2, music_channel_join_c2.p k)] [music_channel_join_c2.p k] 66 Tryz.f66 (1, music_channel_join.s0) [] (fun d => match d with | (k_, sudden, f, c_1_0, c_1_1, c_2_0, c_2_1, c_3_0, c_3_1, c_4_0, c_4_1, c_1_2, c_2_2, c_3_2, c_4_2) => music_channel_join k k_ sudden f c_1_0 c_1_1 c_2_0 c_2_1 c_3_0 c_3_1 c_4_0 c_4_1 c_1_2 c_2_2 c_3_2 c_4_2) Tryz.func66 (by kernel_rfl) (by kernel_rfl) (by intro d; kernel_rfl)

-- madrigal/emph.kept
def emph_kept (v : Int) : Option (Int) :=
  (fix_Clamp v (-16777216) 16777216).bind fun t4 =>
  some t4
noncomputable def emph_kept.fn : AbFn Tryz.prog := mkFn hm0 [fix_Clamp.fn] [.int .i64] [] [] [] [] 119 Tryz.f119 (1, ⟨1, 0, [(0, .int .i64)], []⟩) [] (fun d => match d with | v => emph_kept v) Tryz.func119 (by kernel_rfl) (by kernel_rfl) (by intro d; kernel_rfl)

-- (*madrigal/emph.Filter).Lower$1
def emph_Filter_Lower_1 (v : Int) (t1_0_0 : Int) (t1_0_1 : Int) : Option (Int × Int × Int) :=
  (fix_Mul 27853 t1_0_1 15).bind fun t10 =>
  (emph_kept (IntKind.i64.wrap (v + t10))).bind fun t12 =>
  some (t12, t1_0_0, t12)
noncomputable def emph_Filter_Lower_1.fn : AbFn Tryz.prog := mkFn hm0 [fix_Mul.fn, emph_kept.fn] [.int .i64, .el 0 1] [(.vals 1 [.el 1 514], .ro), (.vals 514 (([.int .i64, .int .i64] : List SV) ++ List.replicate 512 (.intc .i64 0 : SV)), .rw)] [] [] [] 118 Tryz.f118 (1, ⟨1, 2, [(0, .int .i64)], [(.dead, .own), (.vals 514 (([.int .i64, .int .i64] : List SV) ++ List.replicate 512 (.intc .i64 0 : SV)), .rw)]⟩) [] (fun d => match d with | (v, t1_0_0, t1_0_1) => emph_Filter_Lower_1 v t1_0_0 t1_0_1) Tryz.func118 (by kernel_rfl) (by kernel_rfl) (by intro d; kernel_rfl)

-- madrigal/emph.each
def emph_each_l0F (k : Nat) (rec : (Nat × Nat × Int × Int × List Int × List Int × Int × Int) → Option (List Int × Int × Int)) : (Nat × Nat × Int × Int × List Int × List Int × Int × Int) → Option (List Int × Int × Int) := fun d => match d with
  | (t16_o, t16_n, t17, t18, out, t16, f_0_0, f_0_1) =>
    br (decide (t18 < t17)) (
      need (0 ≤ t18 ∧ t18 < ((t16_n : Nat) : Int)) <|
      (emph_kept (t16.getD (t16_o + (t18.toNat)) 0)).bind fun t27 =>
      (emph_Filter_Lower_1 t27 f_0_0 f_0_1).bind fun (t28, b1_0, b1_1) =>
      need (0 ≤ t18 ∧ t18 < (((out.length) : Nat) : Int)) <|
      rec (t16_o, t16_n, t17, IntKind.i64.wrap (t18 + 1), out.set (t18.toNat) t28, t16, b1_0, b1_1))
    (
      some (out, f_0_0, f_0_1))
def emph_each_l0 (k : Nat) : Nat → (Nat × Nat × Int × Int × List Int × List Int × Int × Int) → Option (List Int × Int × Int) := itN (emph_each_l0F k)
def emph_each (k : Nat) (x : List Int) (f_0_0 : Int) (f_0_1 : Int) : Option (Int × Int × List Int) :=
  need (0 ≤ (if 4096 < (((x.length) : Nat) : Int) then 4096 else (((x.length) : Nat) : Int)) ∧ (if 4096 < (((x.length) : Nat) : Int) then 4096 else (((x.length) : Nat) : Int)) ≤ (((x.length) : Nat) : Int)) <|
  let t14 := (((((if 4096 < (((x.length) : Nat) : Int) then 4096 else (((x.length) : Nat) : Int)) - 0).toNat) : Nat) : Int)
  need (0 ≤ t14 ∧ t14 = t14 ∧ (8 : Int) * t14 ≤ 281474976710656 ∧ t14 ≤ 9223372036854775807) <|
  (emph_each_l0 k k (0, ((if 4096 < (((x.length) : Nat) : Int) then 4096 else (((x.length) : Nat) : Int)) - 0).toNat, (((((if 4096 < (((x.length) : Nat) : Int) then 4096 else (((x.length) : Nat) : Int)) - 0).toNat) : Nat) : Int), 0, List.replicate (t14.toNat) (0 : Int), x, f_0_0, f_0_1)).bind fun (b1, b3_0, b3_1) =>
  some (b3_0, b3_1, b1)
def emph_each.s0 : Sk := ⟨1, 3, [(0, .whole 3)], [(.dead, .own), (.dead, .own), (.vals 514 (([.int .i64, .int .i64] : List SV) ++ List.replicate 512 (.intc .i64 0 : SV)), .rw), (.ints .i64, .own)]⟩
noncomputable def emph_each.T (k : Nat) : List (AbFn Tryz.prog) := [emph_kept.fn, emph_Filter_Lower_1.fn]
def emph_each.s1 : Sk := ⟨32, 4, [(1, .func 118 [] [.ptr0 0 0]), (5, .whole 1), (16, .part 2), (17, .int .i64), (18, .int .i64)], [(.vals 1 [.ptr0 3 0], .ro), (.ints .i64, .rw), (.ints .i64, .ro), (.vals 514 (([.int .i64, .int .i64] : List SV) ++ List.replicate 512 (.intc .i64 0 : SV)), .rw)]⟩
noncomputable def emph_each_l0.q (k : Nat) : Pc Tryz.prog 4 := mkLoop hm0 (emph_each.T k) [] [] [] 0 (loopB 0 (bodyOf Tryz.f117)) emph_each.s1 (2, ⟨32, 4, [], [(.dead, .own), (.ints .i64, .rw), (.dead, .own), (.vals 514 (([.int .i64, .int .i64] : List SV) ++ List.replicate 512 (.intc .i64 0 : SV)), .rw)]⟩) [] (emph_each_l0F k) k (by kernel_rfl) (by kernel_rfl) (by intro rec d; kernel_rfl)
noncomputable def emph_each_l0.p (k : Nat) : Pc Tryz.prog 3 := mkFrame [(.vals 1 [.ptr0 3 0], .ro), (.ints .i64, .rw), (.ints .i64, .ro), (.vals 514 (([.int .i64, .int .i64] : List SV) ++ List.replicate 512 (.intc .i64 0 : SV)), .rw)] (emph_each_l0.q k) 2147221696 32 [(1, .func 118 [] [.ptr0 0 0]), (5, .whole 1), (16, .part 2), (17, .int .i64), (18, .intc .i64 0)] (by kernel_rfl)
noncomputable def emph_each.fn (k : Nat) : AbFn Tryz.prog := mkFn hm0 (emph_each.T k) [.whole 0, .func 118 [] [.el 1 1]] [(.ints .i64, .ro), (.vals 1 [.el 2 514], .ro), (.vals 514 (([.int .i64, .int .i64] : List SV) ++ List.replicate 512 (.intc .i64 0 : SV)), .rw)] [(0, emph_each_l0.p k)] [] [emph_each_l0.p k] 117 Tryz.f117 (1, emph_each.s0) [] (fun d => match d with | (x, f_0_0, f_0_1) => emph_each k x f_0_0 f_0_1) Tryz.func117 (by kernel_rfl) (by kernel_rfl) (by intro d; kernel_rfl)

-- (*madrigal/emph.Filter).Lower
def emph_Filter_Lower (k : Nat) (f_0 : Int) (f_1 : Int) (x : List Int) : Option (Int × Int × List Int) :=
  (emph_each k x f_0 f_1).bind fun (b2_0, b2_1, t7) =>
  some (b2_0, b2_1, t7)
noncomputable def emph_Filter_Lower.fn (k : Nat) : AbFn Tryz.prog := mkFn hm0 [emph_each.fn k] [.el 0 514, .whole 1] [(.vals 514 (([.int .i64, .int .i64] : List SV) ++ List.replicate 512 (.intc .i64 0 : SV)), .rw), (.ints .i64, .ro)] [] [] [] 65 Tryz.f65 (1, ⟨1, 2, [(0, .whole 2)], [(.vals 514 (([.int .i64, .int .i64] : List SV) ++ List.replicate 512 (.intc .i64 0 : SV)), .rw), (.dead, .own), (.ints .i64, .own)]⟩) [] (fun d => match d with | (f_0, f_1, x) => emph_Filter_Lower k f_0 f_1 x) Tryz.func65 (by kernel_rfl) (by kernel_rfl) (by intro d; kernel_rfl)

-- (*madrigal/music.Player).Play
def music_Player_Play_l2v1F (k : Nat) (rec : (Int × Int × List Int) → Option (List Int)) : (Int × Int × List Int) → Option (List Int) := fun d => match d with
  | (t70, t71, x) =>
    br (decide (t71 < t70)) (
      need (0 ≤ t71 ∧ t71 < (((x.length) : Nat) : Int)) <|
      (fix_Sat16 (x.getD (t71.toNat) 0)).bind fun t79 =>
      need (0 ≤ t71 ∧ t71 < (((x.length) : Nat) : Int)) <|
      rec (t70, IntKind.i64.wrap (t71 + 1), x.set (t71.toNat) t79))
    (
      some x)
def music_Player_Play_l2v1 (k : Nat) : Nat → (Int × Int × List Int) → Option (List Int) := itN (music_Player_Play_l2v1F k)
def music_Player_Play (k : Nat) (s_0 : Int) (s_1 : Int) (s_3 : Int) (f_0 : Bool) (f_1 : Bool) (f_2 : Bool) (p_0 : Int) (f_4_0 : List Int) (f_4_1 : List Int) (p_1_0_1_0 : Int) (p_1_0_1_1 : Int) (p_1_0_2_0 : Int) (p_1_0_2_1 : Int) (p_1_0_3_0 : Int) (p_1_0_3_1 : Int) (p_1_0_4_0 : Int) (p_1_0_4_1 : Int) (p_1_0_5_0 : Int) (p_1_0_5_1 : Int) (p_1_1_1_0 : Int) (p_1_1_1_1 : Int) (p_1_1_2_0 : Int) (p_1_1_2_1 : Int) (p_1_1_3_0 : Int) (p_1_1_3_1 : Int) (p_1_1_4_0 : Int) (p_1_1_4_1 : Int) (p_1_1_5_0 : Int) (p_1_1_5_1 : Int) (p_1_0_1_2 : List Int) (p_1_0_2_2 : List Int) (p_1_0_3_2 : List Int) (p_1_0_4_2 : List Int) (p_1_1_1_2 : List Int) (p_1_1_2_2 : List Int) (p_1_1_3_2 : List Int) (p_1_1_4_2 : List Int) : Option (Int × Int × Int × Int × Int × Int × Int × Int × Int × Int × Int × Int × Int × Int × Int × Int × Int × Int × Int × Int × List Int × List Int × List Int × List Int × List Int × List Int × List Int × List Int × List Int × List Int) :=
  (music_Player_may k s_0 s_1 s_3 p_0).bind fun t17 =>
  br (!t17) (
    none)
  (
    (music_Shape_whole s_0 s_1 s_3 f_0 f_1 f_2 f_4_0 f_4_1).bind fun t22 =>
    br (!t22) (
      none)
    (
      br f_2 (
        (music_apart k f_4_0 f_4_1).bind fun (t42_0, t42_1) =>
        (music_channel_join k (IntKind.i64.wrap (s_1.tdiv 20)) f_1 t42_0 p_1_0_1_0 p_1_0_1_1 p_1_0_2_0 p_1_0_2_1 p_1_0_3_0 p_1_0_3_1 p_1_0_4_0 p_1_0_4_1 p_1_0_1_2 p_1_0_2_2 p_1_0_3_2 p_1_0_4_2).bind fun (b2_0, b2_1, b3_0, b3_1, b4_0, b4_1, b5_0, b5_1, t67, b2_2, b3_2, b4_2, b5_2) =>
        (emph_Filter_Lower k p_1_0_5_0 p_1_0_5_1 t67).bind fun (b0_0, b0_1, t68) =>
        (music_Player_Play_l2v1 k k ((((t68.length) : Nat) : Int), 0, t68)).bind fun b0 =>
        (music_channel_join k (IntKind.i64.wrap (s_1.tdiv 20)) f_1 t42_1 p_1_1_1_0 p_1_1_1_1 p_1_1_2_0 p_1_1_2_1 p_1_1_3_0 p_1_1_3_1 p_1_1_4_0 p_1_1_4_1 p_1_1_1_2 p_1_1_2_2 p_1_1_3_2 p_1_1_4_2).bind fun (b2_0_1, b2_1_1, b3_0_1, b3_1_1, b4_0_1, b4_1_1, b5_0_1, b5_1_1, t67_1, b2_2_1, b3_2_1, b4_2_1, b5_2_1) =>
        (emph_Filter_Lower k p_1_1_5_0 p_1_1_5_1 t67_1).bind fun (b0_0_1, b0_1_1, t68_1) =>
        (music_Player_Play_l2v1 k k ((((t68_1.length) : Nat) : Int), 0, t68_1)).bind fun b0_2 =>
        some (b2_0, b2_1, b3_0, b3_1, b4_0, b4_1, b5_0, b5_1, b0_0, b0_1, b2_0_1, b2_1_1, b3_0_1, b3_1_1, b4_0_1, b4_1_1, b5_0_1, b5_1_1, b0_0_1, b0_1_1, b2_2, b3_2, b4_2, b5_2, b2_2_1, b3_2_1, b4_2_1, b5_2_1, b0, b0_2))
      (
        (music_channel_join k (IntKind.i64.wrap (s_1.tdiv 20)) f_1 f_4_0 p_1_0_1_0 p_1_0_1_1 p_1_0_2_0 p_1_0_2_1 p_1_0_3_0 p_1_0_3_1 p_1_0_4_0 p_1_0_4_1 p_1_0_1_2 p_1_0_2_2 p_1_0_3_2 p_1_0_4_2).bind fun (b2_0_2, b2_1_2, b3_0_2, b3_1_2, b4_0_2, b4_1_2, b5_0_2, b5_1_2, t67_2, b2_2_2, b3_2_2, b4_2_2, b5_2_2) =>
        (emph_Filter_Lower k p_1_0_5_0 p_1_0_5_1 t67_2).bind fun (b0_0_2, b0_1_2, t68_2) =>
        (music_Player_Play_l2v1 k k ((((t68_2.length) : Nat) : Int), 0, t68_2)).bind fun b0_3 =>
        (music_channel_join k (IntKind.i64.wrap (s_1.tdiv 20)) f_1 f_4_1 p_1_1_1_0 p_1_1_1_1 p_1_1_2_0 p_1_1_2_1 p_1_1_3_0 p_1_1_3_1 p_1_1_4_0 p_1_1_4_1 p_1_1_1_2 p_1_1_2_2 p_1_1_3_2 p_1_1_4_2).bind fun (b2_0_3, b2_1_3, b3_0_3, b3_1_3, b4_0_3, b4_1_3, b5_0_3, b5_1_3, t67_3, b2_2_3, b3_2_3, b4_2_3, b5_2_3) =>
        (emph_Filter_Lower k p_1_1_5_0 p_1_1_5_1 t67_3).bind fun (b0_0_3, b0_1_3, t68_3) =>
        (music_Player_Play_l2v1 k k ((((t68_3.length) : Nat) : Int), 0, t68_3)).bind fun b0_4 =>
        some (b2_0_2, b2_1_2, b3_0_2, b3_1_2, b4_0_2, b4_1_2, b5_0_2, b5_1_2, b0_0_2, b0_1_2, b2_0_3, b2_1_3, b3_0_3, b3_1_3, b4_0_3, b4_1_3, b5_0_3, b5_1_3, b0_0_3, b0_1_3, b2_2_2, b3_2_2, b4_2_2, b5_2_2, b2_2_3, b3_2_3, b4_2_3, b5_2_3, b0_3, b0_4))))
def music_Player_Play.s0 : Sk := ⟨1, 26, [(0, .tuple [.whole 26, .intc .i64 0])], [(.dead, .own), (.dead, .own), (.dead, .own), (.dead, .own), (.dead, .own), (.dead, .own), (.dead, .own), (.dead, .own), (.vals 3 [.int .i64, .int .i64, .whole 27], .rw), (.vals 3 [.int .i64, .int .i64, .whole 28], .rw), (.vals 3 [.int .i64, .int .i64, .whole 29], .rw), (.vals 3 [.int .i64, .int .i64, .whole 30], .rw), (.vals 514 (([.int .i64, .int .i64] : List SV) ++ List.replicate 512 (.intc .i64 0 : SV)), .rw), (.vals 3 [.int .i64, .int .i64, .whole 31], .rw), (.vals 3 [.int .i64, .int .i64, .whole 32], .rw), (.vals 3 [.int .i64, .int .i64, .whole 33], .rw), (.vals 3 [.int .i64, .int .i64, .whole 34], .rw), (.vals 514 (([.int .i64, .int .i64] : List SV) ++ List.replicate 512 (.intc .i64 0 : SV)), .rw), (.dead, .own), (.dead, .own), (.dead, .own), (.dead, .own), (.dead, .own), (.dead, .own), (.dead, .own), (.dead, .own), (.vals 1 [.whole 35, .whole 36], .own), (.ints .i64, .own), (.ints .i64, .own), (.ints .i64, .own), (.ints .i64, .own), (.ints .i64, .own), (.ints .i64, .own), (.ints .i64, .own), (.ints .i64, .own), (.ints .i64, .own), (.ints .i64, .own)]⟩
noncomputable def music_Player_Play.T (k : Nat) : List (AbFn Tryz.prog) := [music_Player_may.fn k, music_Shape_whole.fn, music_apart.fn k, music_channel_join.fn k, emph_Filter_Lower.fn k, fix_Sat16.fn]
noncomputable def music_Player_Play_l2v1.q (k : Nat) : Pc Tryz.prog 1 := mkLoop hm0 (music_Player_Play.T k) [] [] [] 2 (loopB 2 (bodyOf Tryz.f24)) ⟨88, 1, [(12, .whole 0), (69, .whole 0), (70, .int .i64), (71, .int .i64)], [(.ints .i64, .rw)]⟩ (4, ⟨88, 1, [], [(.ints .i64, .rw)]⟩) [] (music_Player_Play_l2v1F k) k (by kernel_rfl) (by kernel_rfl) (by intro rec d; kernel_rfl)
noncomputable def music_Player_Play_l2v1.p (k : Nat) : Pc Tryz.prog 26 := mkFrame [(.ints .i64, .rw)] (music_Player_Play_l2v1.q k) 4833342095217081876242432 88 [(12, .whole 0), (69, .whole 0), (70, .int .i64), (71, .intc .i64 0)] (by kernel_rfl)
noncomputable def music_Player_Play.fn (k : Nat) : AbFn Tryz.prog := mkFn hm0 (music_Player_Play.T k) [.el 0 3, .agg [.int .i64, .int .i64, .intc .i64 2, .int .i64], .agg [.bool, .bool, .bool, .acc 1, .whole 2]] [(.vals 3 [.int .i64, .whole 3, .undef], .ro), (.vals 1 [], .ro), (.vals 1 [.whole 4, .whole 5], .ro), (.vals 1 [.el 6 6, .el 7 6], .ro), (.ints .i64, .ro), (.ints .i64, .ro), (.vals 6 [.undef, .el 8 3, .el 9 3, .el 10 3, .el 11 3, .el 12 514], .ro), (.vals 6 [.undef, .el 13 3, .el 14 3, .el 15 3, .el 16 3, .el 17 514], .ro), (.vals 3 [.int .i64, .int .i64, .whole 18], .rw), (.vals 3 [.int .i64, .int .i64, .whole 19], .rw), (.vals 3 [.int .i64, .int .i64, .whole 20], .rw), (.vals 3 [.int .i64, .int .i64, .whole 21], .rw), (.vals 514 (([.int .i64, .int .i64] : List SV) ++ List.replicate 512 (.intc .i64 0 : SV)), .rw), (.vals 3 [.int .i64, .int .i64, .whole 22], .rw), (.vals 3 [.int .i64, .int .i64, .whole 23], .rw), (.vals 3 [.int .i64, .int .i64, .whole 24], .rw), (.vals 3 [.int .i64, .int .i64, .whole 25], .rw), (.vals 514 (([.int .i64, .int .i64] : List SV) ++ List.replicate 512 (.intc .i64 0 : SV)), .rw), (.ints .i64, .own), (.ints .i64, .own), (.ints .i64, .own), (.ints .i64, .own), (.ints .i64, .own), (.ints .i64, .own), (.ints .i64, .own), (.ints .i64, .own)] [(2, music_Player_Play_l2v1.p k)] [] [music_Player_Play_l2v1.p k] 24 Tryz.f24 (1, music_Player_Play.s0) [] (fun d => match d with | (s_0, s_1, s_3, f_0, f_1, f_2, p_0, f_4_0, f_4_1, p_1_0_1_0, p_1_0_1_1, p_1_0_2_0, p_1_0_2_1, p_1_0_3_0, p_1_0_3_1, p_1_0_4_0, p_1_0_4_1, p_1_0_5_0, p_1_0_5_1, p_1_1_1_0, p_1_1_1_1, p_1_1_2_0, p_1_1_2_1, p_1_1_3_0, p_1_1_3_1, p_1_1_4_0, p_1_1_4_1, p_1_1_5_0, p_1_1_5_1, p_1_0_1_2, p_1_0_2_2, p_1_0_3_2, p_1_0_4_2, p_1_1_1_2, p_1_1_2_2, p_1_1_3_2, p_1_1_4_2) => music_Player_Play k s_0 s_1 s_3 f_0 f_1 f_2 p_0 f_4_0 f_4_1 p_1_0_1_0 p_1_0_1_1 p_1_0_2_0 p_1_0_2_1 p_1_0_3_0 p_1_0_3_1 p_1_0_4_0 p_1_0_4_1 p_1_0_5_0 p_1_0_5_1 p_1_1_1_0 p_1_1_1_1 p_1_1_2_0 p_1_1_2_1 p_1_1_3_0 p_1_1_3_1 p_1_1_4_0 p_1_1_4_1 p_1_1_5_0 p_1_1_5_1 p_1_0_1_2 p_1_0_2_2 p_1_0_3_2 p_1_0_4_2 p_1_1_1_2 p_1_1_2_2 p_1_1_3_2 p_1_1_4_2) Tryz.func24 (by kernel_rfl) (by kernel_rfl) (by intro d; kernel_rfl)

-- madrigal/music.Good
def music_Good_2_c2 (k : Nat) : (Bool × Int × Int × Int) → Option (Bool) := fun d => match d with
  | (first, s_0, s_1, s_3) =>
    (tabs_Rate s_0).bind fun t19 =>
    br t19 (
      br (decide (s_1 = 10)) (
        some first)
      (
        br (decide (s_1 = 20)) (
          some first)
        (
          some false)))
    (
      some false)
def music_Good_2 (k : Nat) (s_0 : Int) (s_1 : Int) (s_3 : Int) : Option (Bool) :=
  br (decide (s_3 = 0)) (
    (music_Good_2_c2 k (true, s_0, s_1, s_3)).bind fun t2 =>
    some t2)
  (
    br (decide (s_3 = 17)) (
      (music_Good_2_c2 k (decide (s_0 = 24000), s_0, s_1, s_3)).bind fun t2_1 =>
      some t2_1)
    (
      (music_Good_2_c2 k (false, s_0, s_1, s_3)).bind fun t2_2 =>
      some t2_2))
noncomputable def music_Good_2.T (k : Nat) : List (AbFn Tryz.prog) := [tabs_Rate.fn]
noncomputable def music_Good_2_c2.q (k : Nat) : Pc Tryz.prog 1 := mkCut hm0 (music_Good_2.T k) [] [] [] (cutB 2 (bodyOf Tryz.f17)) ⟨43, 1, [(1, .ptr0 0 0), (3, .bool)], [(.vals 4 [.int .i64, .int .i64, .intc .i64 1, .int .i64], .ro)]⟩ (1, ⟨43, 1, [(2, .bool)], [(.dead, .own)]⟩) [] (music_Good_2_c2 k) (by kernel_rfl) (by kernel_rfl) (by intro d; kernel_rfl)
noncomputable def music_Good_2_c2.p (k : Nat) : Pc Tryz.prog 0 := mkFrame [(.vals 4 [.int .i64, .int .i64, .intc .i64 1, .int .i64], .ro)] (music_Good_2_c2.q k) 8796092891140 43 [(1, .ptr0 0 0), (3, .bool)] (by kernel_rfl)
noncomputable def music_Good_2.fn (k : Nat) : AbFn Tryz.prog := mkFn hm0 (music_Good_2.T k) [.agg [.int .i64, .int .i64, .intc .i64 1, .int .i64]] [] [] [(2, music_Good_2_c2.p k)] [music_Good_2_c2.p k] 17 Tryz.f17 (1, ⟨1, 0, [(0, .bool)], []⟩) [] (fun d => match d with | (s_0, s_1, s_3) => music_Good_2 k s_0 s_1 s_3) Tryz.func17 (by kernel_rfl) (by kernel_rfl) (by intro d; kernel_rfl)

-- (*madrigal/music.Player).may
def music_Player_may_2 (k : Nat) (s_0 : Int) (s_1 : Int) (s_3 : Int) (p_0 : Int) : Option (Bool) :=
  (music_Good_2 k s_0 s_1 s_3).bind fun t6 =>
  br t6 (
    br (decide (s_0 = p_0)) (
      some true)
    (
      some false))
  (
    some false)
noncomputable def music_Player_may_2.fn (k : Nat) : AbFn Tryz.prog := mkFn hm0 [music_Good_2.fn k] [.el 0 3, .agg [.int .i64, .int .i64, .intc .i64 1, .int .i64]] [(.vals 3 [.int .i64, .whole 1, .undef], .ro), (.vals 1 [.el 2 6], .ro), (.vals 6 [.undef, .undef, .undef, .undef, .undef, .el 3 514], .ro), (.vals 514 (([.undef, .undef] : List SV) ++ List.replicate 512 (.intc .i64 0 : SV)), .ro)] [] [] [] 43 Tryz.f43 (1, ⟨1, 4, [(0, .bool)], [(.dead, .own), (.dead, .own), (.dead, .own), (.dead, .own)]⟩) [] (fun d => match d with | (s_0, s_1, s_3, p_0) => music_Player_may_2 k s_0 s_1 s_3 p_0) Tryz.func43 (by kernel_rfl) (by kernel_rfl) (by intro d; kernel_rfl)

-- slices.IndexFunc[[][]int64,[]int64]
def slices_IndexFunc_int64_int64_2 (f_0 : Int) (f_1 : Int) (f_2 : Int) (f_3 : Int) (s_0 : List Int) : Option (Int) :=
  (music_Shape_whole_1 s_0 f_0 f_1 f_2 f_3).bind fun t16 =>
  br t16 (
    some 0)
  (
    some (-1))
noncomputable def slices_IndexFunc_int64_int64_2.fn : AbFn Tryz.prog := mkFn hm0 [music_Shape_whole_1.fn] [.whole 0, .func 114 [] [.el 1 4]] [(.vals 1 [.whole 2], .ro), (.vals 4 [.int .i64, .int .i64, .int .i64, .int .i64], .ro), (.ints .i64, .ro)] [] [] [] 164 Tryz.f164 (1, ⟨1, 3, [(0, .int .i64)], [(.dead, .own), (.dead, .own), (.dead, .own)]⟩) [] (fun d => match d with | (f_0, f_1, f_2, f_3, s_0) => slices_IndexFunc_int64_int64_2 f_0 f_1 f_2 f_3 s_0) Tryz.func164 (by kernel_rfl) (by kernel_rfl) (by intro d; kernel_rfl)

-- slices.ContainsFunc[[][]int64,[]int64]
def slices_ContainsFunc_int64_int64_2 (f_0 : Int) (f_1 : Int) (f_2 : Int) (f_3 : Int) (s_0 : List Int) : Option (Bool) :=
  (slices_IndexFunc_int64_int64_2 f_0 f_1 f_2 f_3 s_0).bind fun t7 =>
  some (decide (0 ≤ t7))
noncomputable def slices_ContainsFunc_int64_int64_2.fn : AbFn Tryz.prog := mkFn hm0 [slices_IndexFunc_int64_int64_2.fn] [.whole 0, .func 114 [] [.el 1 4]] [(.vals 1 [.whole 2], .ro), (.vals 4 [.int .i64, .int .i64, .int .i64, .int .i64], .ro), (.ints .i64, .ro)] [] [] [] 115 Tryz.f115 (1, ⟨1, 3, [(0, .bool)], [(.dead, .own), (.dead, .own), (.dead, .own)]⟩) [] (fun d => match d with | (f_0, f_1, f_2, f_3, s_0) => slices_ContainsFunc_int64_int64_2 f_0 f_1 f_2 f_3 s_0) Tryz.func115 (by kernel_rfl) (by kernel_rfl) (by intro d; kernel_rfl)

-- (madrigal/music.Shape).whole
def music_Shape_whole_2 (s_0 : Int) (s_1 : Int) (s_3 : Int) (f_0 : Bool) (f_1 : Bool) (f_2 : Bool) (f_4_0 : List Int) : Option (Bool) :=
  (slices_ContainsFunc_int64_int64_2 s_0 s_1 1 s_3 f_4_0).bind fun t17 =>
  some (!t17)
noncomputable def music_Shape_whole_2.fn : AbFn Tryz.prog := mkFn hm0 [slices_ContainsFunc_int64_int64_2.fn] [.agg [.int .i64, .int .i64, .intc .i64 1, .int .i64], .agg [.bool, .bool, .bool, .acc 0, .whole 1]] [(.vals 1 [], .ro), (.vals 1 [.whole 2], .ro), (.ints .i64, .ro)] [] [] [] 63 Tryz.f63 (1, ⟨1, 3, [(0, .bool)], [(.dead, .own), (.dead, .own), (.dead, .own)]⟩) [] (fun d => match d with | (s_0, s_1, s_3, f_0, f_1, f_2, f_4_0) => music_Shape_whole_2 s_0 s_1 s_3 f_0 f_1 f_2 f_4_0) Tryz.func63 (by kernel_rfl) (by kernel_rfl) (by intro d; kernel_rfl)

-- (*madrigal/music.Player).Play
def music_Player_Play_2_l2v1F (k : Nat) (rec : (Int × Int × List Int) → Option (List Int)) : (Int × Int × List Int) → Option (List Int) := fun d => match d with
  | (t70, t71, x) =>
    br (decide (t71 < t70)) (
      need (0 ≤ t71 ∧ t71 < (((x.length) : Nat) : Int)) <|
      (fix_Sat16 (x.getD (t71.toNat) 0)).bind fun t79 =>
      need (0 ≤ t71 ∧ t71 < (((x.length) : Nat) : Int)) <|
      rec (t70, IntKind.i64.wrap (t71 + 1), x.set (t71.toNat) t79))
    (
      some x)
def music_Player_Play_2_l2v1 (k : Nat) : Nat → (Int × Int × List Int) → Option (List Int) := itN (music_Player_Play_2_l2v1F k)
def music_Player_Play_2 (k : Nat) (s_0 : Int) (s_1 : Int) (s_3 : Int) (f_0 : Bool) (f_1 : Bool) (f_2 : Bool) (p_0 : Int) (f_4_0 : List Int) (p_1_0_1_0 : Int) (p_1_0_1_1 : Int) (p_1_0_2_0 : Int) (p_1_0_2_1 : Int) (p_1_0_3_0 : Int) (p_1_0_3_1 : Int) (p_1_0_4_0 : Int) (p_1_0_4_1 : Int) (p_1_0_5_0 : Int) (p_1_0_5_1 : Int) (p_1_0_1_2 : List Int) (p_1_0_2_2 : List Int) (p_1_0_3_2 : List Int) (p_1_0_4_2 : List Int) : Option (Int × Int × Int × Int × Int × Int × Int × Int × Int × Int × List Int × List Int × List Int × List Int × List Int) :=
  (music_Player_may_2 k s_0 s_1 s_3 p_0).bind fun t17 =>
  br (!t17) (
    none)
  (
    (music_Shape_whole_2 s_0 s_1 s_3 f_0 f_1 f_2 f_4_0).bind fun t22 =>
    br (!t22) (
      none)
    (
      br f_2 (
        (music_channel_join k (IntKind.i64.wrap (s_1.tdiv 20)) f_1 f_4_0 p_1_0_1_0 p_1_0_1_1 p_1_0_2_0 p_1_0_2_1 p_1_0_3_0 p_1_0_3_1 p_1_0_4_0 p_1_0_4_1 p_1_0_1_2 p_1_0_2_2 p_1_0_3_2 p_1_0_4_2).bind fun (b2_0, b2_1, b3_0, b3_1, b4_0, b4_1, b5_0, b5_1, t67, b2_2, b3_2, b4_2, b5_2) =>
        (emph_Filter_Lower k p_1_0_5_0 p_1_0_5_1 t67).bind fun (b0_0, b0_1, t68) =>
        (music_Player_Play_2_l2v1 k k ((((t68.length) : Nat) : Int), 0, t68)).bind fun b0 =>
        some (b2_0, b2_1, b3_0, b3_1, b4_0, b4_1, b5_0, b5_1, b0_0, b0_1, b2_2, b3_2, b4_2, b5_2, b0))
      (
        (music_channel_join k (IntKind.i64.wrap (s_1.tdiv 20)) f_1 f_4_0 p_1_0_1_0 p_1_0_1_1 p_1_0_2_0 p_1_0_2_1 p_1_0_3_0 p_1_0_3_1 p_1_0_4_0 p_1_0_4_1 p_1_0_1_2 p_1_0_2_2 p_1_0_3_2 p_1_0_4_2).bind fun (b2_0_1, b2_1_1, b3_0_1, b3_1_1, b4_0_1, b4_1_1, b5_0_1, b5_1_1, t67_1, b2_2_1, b3_2_1, b4_2_1, b5_2_1) =>
        (emph_Filter_Lower k p_1_0_5_0 p_1_0_5_1 t67_1).bind fun (b0_0_1, b0_1_1, t68_1) =>
        (music_Player_Play_2_l2v1 k k ((((t68_1.length) : Nat) : Int), 0, t68_1)).bind fun b0_2 =>
        some (b2_0_1, b2_1_1, b3_0_1, b3_1_1, b4_0_1, b4_1_1, b5_0_1, b5_1_1, b0_0_1, b0_1_1, b2_2_1, b3_2_1, b4_2_1, b5_2_1, b0_2))))
def music_Player_Play_2.s0 : Sk := ⟨1, 15, [(0, .tuple [.whole 15, .intc .i64 0])], [(.dead, .own), (.dead, .own), (.dead, .own), (.dead, .own), (.dead, .own), (.dead, .own), (.vals 3 [.int .i64, .int .i64, .whole 16], .rw), (.vals 3 [.int .i64, .int .i64, .whole 17], .rw), (.vals 3 [.int .i64, .int .i64, .whole 18], .rw), (.vals 3 [.int .i64, .int .i64, .whole 19], .rw), (.vals 514 (([.int .i64, .int .i64] : List SV) ++ List.replicate 512 (.intc .i64 0 : SV)), .rw), (.dead, .own), (.dead, .own), (.dead, .own), (.dead, .own), (.vals 1 [.whole 20], .own), (.ints .i64, .own), (.ints .i64, .own), (.ints .i64, .own), (.ints .i64, .own), (.ints .i64, .own)]⟩
noncomputable def music_Player_Play_2.T (k : Nat) : List (AbFn Tryz.prog) := [music_Player_may_2.fn k, music_Shape_whole_2.fn, music_channel_join.fn k, emph_Filter_Lower.fn k, fix_Sat16.fn]
noncomputable def music_Player_Play_2_l2v1.q (k : Nat) : Pc Tryz.prog 1 := mkLoop hm0 (music_Player_Play_2.T k) [] [] [] 2 (loopB 2 (bodyOf Tryz.f24)) ⟨88, 1, [(12, .whole 0), (69, .whole 0), (70, .int .i64), (71, .int .i64)], [(.ints .i64, .rw)]⟩ (4, ⟨88, 1, [], [(.ints .i64, .rw)]⟩) [] (music_Player_Play_2_l2v1F k) k (by kernel_rfl) (by kernel_rfl) (by intro rec d; kernel_rfl)
noncomputable def music_Player_Play_2_l2v1.p (k : Nat) : Pc Tryz.prog 15 := mkFrame [(.ints .i64, .rw)] (music_Player_Play_2_l2v1.q k) 4833342095217081876242432 88 [(12, .whole 0), (69, .whole 0), (70, .int .i64), (71, .intc .i64 0)] (by kernel_rfl)
noncomputable def music_Player_Play_2.fn (k : Nat) : AbFn Tryz.prog := mkFn hm0 (music_Player_Play_2.T k) [.el 0 3, .agg [.int .i64, .int .i64, .intc .i64 1, .int .i64], .agg [.bool, .bool, .bool, .acc 1, .whole 2]] [(.vals 3 [.int .i64, .whole 3, .undef], .ro), (.vals 1 [], .ro), (.vals 1 [.whole 4], .ro), (.vals 1 [.el 5 6], .ro), (.ints .i64, .ro), (.vals 6 [.undef, .el 6 3, .el 7 3, .el 8 3, .el 9 3, .el 10 514], .ro), (.vals 3 [.int .i64, .int .i64, .whole 11], .rw), (.vals 3 [.int .i64, .int .i64, .whole 12], .rw), (.vals 3 [.int .i64, .int .i64, .whole 13], .rw), (.vals 3 [.int .i64, .int .i64, .whole 14], .rw), (.vals 514 (([.int .i64, .int .i64] : List SV) ++ List.replicate 512 (.intc .i64 0 : SV)), .rw), (.ints .i64, .own), (.ints .i64, .own), (.ints .i64, .own), (.ints .i64, .own)] [(2, music_Player_Play_2_l2v1.p k)] [] [music_Player_Play_2_l2v1.p k] 24 Tryz.f24 (1, music_Player_Play_2.s0) [] (fun d => match d with | (s_0, s_1, s_3, f_0, f_1, f_2, p_0, f_4_0, p_1_0_1_0, p_1_0_1_1, p_1_0_2_0, p_1_0_2_1, p_1_0_3_0, p_1_0_3_1, p_1_0_4_0, p_1_0_4_1, p_1_0_5_0, p_1_0_5_1, p_1_0_1_2, p_1_0_2_2, p_1_0_3_2, p_1_0_4_2) => music_Player_Play_2 k s_0 s_1 s_3 f_0 f_1 f_2 p_0 f_4_0 p_1_0_1_0 p_1_0_1_1 p_1_0_2_0 p_1_0_2_1 p_1_0_3_0 p_1_0_3_1 p_1_0_4_0 p_1_0_4_1 p_1_0_5_0 p_1_0_5_1 p_1_0_1_2 p_1_0_2_2 p_1_0_3_2 p_1_0_4_2) Tryz.func24 (by kernel_rfl) (by kernel_rfl) (by intro d; kernel_rfl)

-- madrigal/madrigallaw21.same
def madrigallaw21_same_l0F (k : Nat) (rec : (Int × List Int × List Int) → Option ((Unit) ⊕ (Bool))) : (Int × List Int × List Int) → Option ((Unit) ⊕ (Bool)) := fun d => match d with
  | (i, a, b) =>
    br (decide (i < (((a.length) : Nat) : Int))) (
      need (0 ≤ i ∧ i < (((a.length) : Nat) : Int)) <|
      need (0 ≤ i ∧ i < (((b.length) : Nat) : Int)) <|
      br (!decide ((a.getD (i.toNat) 0) = (b.getD (i.toNat) 0))) (
        some (.inr false))
      (
        rec (IntKind.i64.wrap (i + 1), a, b)))
    (
      some (.inl ()))
def madrigallaw21_same_l0 (k : Nat) : Nat → (Int × List Int × List Int) → Option ((Unit) ⊕ (Bool)) := itN (madrigallaw21_same_l0F k)
def madrigallaw21_same (k : Nat) (a : List Int) (b : List Int) : Option (Bool) :=
  br (!decide ((((a.length) : Nat) : Int) = (((b.length) : Nat) : Int))) (
    some false)
  (
    (madrigallaw21_same_l0 k k (0, a, b)).bind fun o => match o with
    | .inl () =>
      some true
    | .inr t4 =>
      some t4)
noncomputable def madrigallaw21_same.T (k : Nat) : List (AbFn Tryz.prog) := []
noncomputable def madrigallaw21_same_l0.q (k : Nat) : Pc Tryz.prog 2 := mkLoop hm0 (madrigallaw21_same.T k) [] [] [] 0 (loopB 0 (bodyOf Tryz.f26)) ⟨26, 2, [(0, .whole 0), (1, .whole 1), (5, .int .i64)], [(.ints .i64, .ro), (.ints .i64, .ro)]⟩ (2, ⟨26, 2, [], [(.dead, .own), (.dead, .own)]⟩) [(1, ⟨26, 2, [(4, .bool)], [(.dead, .own), (.dead, .own)]⟩)] (madrigallaw21_same_l0F k) k (by kernel_rfl) (by kernel_rfl) (by intro rec d; kernel_rfl)
noncomputable def madrigallaw21_same_l0.p (k : Nat) : Pc Tryz.prog 2 := mkFrame [(.ints .i64, .ro), (.ints .i64, .ro)] (madrigallaw21_same_l0.q k) 67106864 26 [(0, .whole 0), (1, .whole 1), (5, .intc .i64 0)] (by kernel_rfl)
noncomputable def madrigallaw21_same.fn (k : Nat) : AbFn Tryz.prog := mkFn hm0 (madrigallaw21_same.T k) [.whole 0, .whole 1] [(.ints .i64, .ro), (.ints .i64, .ro)] [(0, madrigallaw21_same_l0.p k)] [] [madrigallaw21_same_l0.p k] 26 Tryz.f26 (1, ⟨1, 2, [(0, .bool)], [(.dead, .own), (.dead, .own)]⟩) [] (fun d => match d with | (a, b) => madrigallaw21_same k a b) Tryz.func26 (by kernel_rfl) (by kernel_rfl) (by intro d; kernel_rfl)

-- madrigal/madrigallaw21.MusicJoint
def madrigallaw21_MusicJoint_l0F (k : Nat) (rec : (Int × List Int) → Option ((Unit) ⊕ (Bool))) : (Int × List Int) → Option ((Unit) ⊕ (Bool)) := fun d => match d with
  | (k_, f) =>
    br (decide (k_ < (((f.length) : Nat) : Int))) (
      need (0 ≤ k_ ∧ k_ < (((f.length) : Nat) : Int)) <|
      br (decide (17179869184 < (f.getD (k_.toNat) 0))) (
        some (.inr true))
      (
        need (0 ≤ k_ ∧ k_ < (((f.length) : Nat) : Int)) <|
        br (decide ((f.getD (k_.toNat) 0) < (-17179869184))) (
          some (.inr true))
        (
          rec (IntKind.i64.wrap (k_ + 1), f))))
    (
      some (.inl ()))
def madrigallaw21_MusicJoint_l0 (k : Nat) : Nat → (Int × List Int) → Option ((Unit) ⊕ (Bool)) := itN (madrigallaw21_MusicJoint_l0F k)
def madrigallaw21_MusicJoint_c5 (k : Nat) : (Int × List Int) → Option (Bool) := fun d => match d with
  | (ms, f) =>
    (music_New k 8000).bind fun (t37_0_0, t37_0_1_0_0, t37_0_1_0_1_0, t37_0_1_0_1_1, t37_0_1_0_2_0, t37_0_1_0_2_1, t37_0_1_0_3_0, t37_0_1_0_3_1, t37_0_1_0_4_0, t37_0_1_0_4_1, t37_0_1_0_5_0, t37_0_1_0_5_1, t37_0_1_1_0, t37_0_1_1_1_0, t37_0_1_1_1_1, t37_0_1_1_2_0, t37_0_1_1_2_1, t37_0_1_1_3_0, t37_0_1_1_3_1, t37_0_1_1_4_0, t37_0_1_1_4_1, t37_0_1_1_5_0, t37_0_1_1_5_1, t37_0_1_0_1_2, t37_0_1_0_2_2, t37_0_1_0_3_2, t37_0_1_0_4_2, t37_0_1_1_1_2, t37_0_1_1_2_2, t37_0_1_1_3_2, t37_0_1_1_4_2) =>
    (music_New_2 k 8000).bind fun (t41_0_0, t41_0_1_0_0, t41_0_1_0_1_0, t41_0_1_0_1_1, t41_0_1_0_2_0, t41_0_1_0_2_1, t41_0_1_0_3_0, t41_0_1_0_3_1, t41_0_1_0_4_0, t41_0_1_0_4_1, t41_0_1_0_5_0, t41_0_1_0_5_1, t41_0_1_0_1_2, t41_0_1_0_2_2, t41_0_1_0_3_2, t41_0_1_0_4_2) =>
    need (0 ≤ (((f.length) : Nat) : Int) ∧ (((f.length) : Nat) : Int) = (((f.length) : Nat) : Int) ∧ (8 : Int) * (((f.length) : Nat) : Int) ≤ 281474976710656 ∧ (((f.length) : Nat) : Int) ≤ 9223372036854775807) <|
    (music_Player_Play k 8000 ms 0 false false true t37_0_0 f (List.replicate ((((f.length) : Nat) : Int).toNat) (0 : Int)) t37_0_1_0_1_0 t37_0_1_0_1_1 t37_0_1_0_2_0 t37_0_1_0_2_1 t37_0_1_0_3_0 t37_0_1_0_3_1 t37_0_1_0_4_0 t37_0_1_0_4_1 t37_0_1_0_5_0 t37_0_1_0_5_1 t37_0_1_1_1_0 t37_0_1_1_1_1 t37_0_1_1_2_0 t37_0_1_1_2_1 t37_0_1_1_3_0 t37_0_1_1_3_1 t37_0_1_1_4_0 t37_0_1_1_4_1 t37_0_1_1_5_0 t37_0_1_1_5_1 t37_0_1_0_1_2 t37_0_1_0_2_2 t37_0_1_0_3_2 t37_0_1_0_4_2 t37_0_1_1_1_2 t37_0_1_1_2_2 t37_0_1_1_3_2 t37_0_1_1_4_2).bind fun (b8_0, b8_1, b9_0, b9_1, b10_0, b10_1, b11_0, b11_1, b12_0, b12_1, b13_0, b13_1, b14_0, b14_1, b15_0, b15_1, b16_0, b16_1, b17_0, b17_1, b8_2, b9_2, b10_2, b11_2, b13_2, b14_2, b15_2, b16_2, t60_0_0, t60_0_1) =>
    (music_Player_Play_2 k 8000 ms 0 false false false t41_0_0 f t41_0_1_0_1_0 t41_0_1_0_1_1 t41_0_1_0_2_0 t41_0_1_0_2_1 t41_0_1_0_3_0 t41_0_1_0_3_1 t41_0_1_0_4_0 t41_0_1_0_4_1 t41_0_1_0_5_0 t41_0_1_0_5_1 t41_0_1_0_1_2 t41_0_1_0_2_2 t41_0_1_0_3_2 t41_0_1_0_4_2).bind fun (b6_0, b6_1, b7_0, b7_1, b8_0_1, b8_1_1, b9_0_1, b9_1_1, b10_0_1, b10_1_1, b6_2, b7_2, b8_2_1, b9_2_1, t69_0_0) =>
    (madrigallaw21_MusicJoint_l0 k k (0, f)).bind fun o => match o with
    | .inl () =>
      (madrigallaw21_same k t60_0_0 t60_0_1).bind fun t112 =>
      br t112 (
        (madrigallaw21_same k t60_0_0 t69_0_0).bind fun t120 =>
        some t120)
      (
        some false)
    | .inr t4 =>
      some t4
def madrigallaw21_MusicJoint (k : Nat) (ms : Int) (f : List Int) : Option (Bool) :=
  (awake_c).bind fun t17 =>
  br (!t17) (
    some false)
  (
    br (!decide (ms = 10)) (
      br (!decide (ms = 20)) (
        some true)
      (
        br (!decide ((((f.length) : Nat) : Int) = (IntKind.i64.wrap (8 * ms)))) (
          some true)
        (
          (madrigallaw21_MusicJoint_c5 k (ms, f)).bind fun t4 =>
          some t4)))
    (
      br (!decide ((((f.length) : Nat) : Int) = (IntKind.i64.wrap (8 * ms)))) (
        some true)
      (
        (madrigallaw21_MusicJoint_c5 k (ms, f)).bind fun t4_1 =>
        some t4_1)))
noncomputable def madrigallaw21_MusicJoint.T (k : Nat) : List (AbFn Tryz.prog) := [awake_c.fn, music_New.fn k, music_New_2.fn k, music_Player_Play.fn k, music_Player_Play_2.fn k, madrigallaw21_same.fn k]
noncomputable def madrigallaw21_MusicJoint_l0.q (k : Nat) : Pc Tryz.prog 1 := mkLoop hm0 (madrigallaw21_MusicJoint.T k) [] [] [] 0 (loopB 0 (bodyOf Tryz.f6)) ⟨122, 1, [(0, .whole 0), (16, .int .i64)], [(.ints .i64, .ro)]⟩ (2, ⟨122, 1, [], [(.dead, .own)]⟩) [(1, ⟨122, 1, [(4, .bool)], [(.dead, .own)]⟩)] (madrigallaw21_MusicJoint_l0F k) k (by kernel_rfl) (by kernel_rfl) (by intro rec d; kernel_rfl)
noncomputable def madrigallaw21_MusicJoint_l0.p (k : Nat) : Pc Tryz.prog 1 := mkFrame [(.ints .i64, .ro)] (madrigallaw21_MusicJoint_l0.q k) 81129328929596860350720280428560 122 [(0, .whole 0), (16, .intc .i64 0)] (by kernel_rfl)
noncomputable def madrigallaw21_MusicJoint_c5.q (k : Nat) : Pc Tryz.prog 1 := mkCut hm0 (madrigallaw21_MusicJoint.T k) [(0, madrigallaw21_MusicJoint_l0.p k)] [] [madrigallaw21_MusicJoint_l0.p k] (cutB 5 (bodyOf Tryz.f6)) ⟨122, 1, [(0, .whole 0), (1, .int .i64)], [(.ints .i64, .ro)]⟩ (1, ⟨122, 1, [(4, .bool)], [(.dead, .own)]⟩) [] (madrigallaw21_MusicJoint_c5 k) (by kernel_rfl) (by kernel_rfl) (by intro d; kernel_rfl)
noncomputable def madrigallaw21_MusicJoint_c5.p (k : Nat) : Pc Tryz.prog 1 := mkFrame [(.ints .i64, .ro)] (madrigallaw21_MusicJoint_c5.q k) 5316911983139663491615228236826542064 122 [(0, .whole 0), (1, .int .i64)] (by kernel_rfl)
noncomputable def madrigallaw21_MusicJoint.fn (k : Nat) : AbFn Tryz.prog := mkFn hm0 (madrigallaw21_MusicJoint.T k) [.whole 0, .int .i64] [(.ints .i64, .ro)] [] [(5, madrigallaw21_MusicJoint_c5.p k)] [madrigallaw21_MusicJoint_c5.p k] 6 Tryz.f6 (1, ⟨1, 1, [(0, .bool)], [(.dead, .own)]⟩) [] (fun d => match d with | (ms, f) => madrigallaw21_MusicJoint k ms f) Tryz.func6 (by kernel_rfl) (by kernel_rfl) (by intro d; kernel_rfl)

end Go.Proofs.YtnhbohcjmdfmiaaGreat
