/- mdct.Inverse of 160 noughts, kept. No condition. -/
import Derived.Test.YtdbdkbaplnjnmaaGreatZV
import Derived.Test.YtdbdkbaplnjnmaaGreatC29
set_option linter.unusedVariables false
set_option linter.unusedSimpArgs false
namespace Go.Proofs.YtdbdkbaplnjnmaaGreat
open Go Go.Ab Go.Proofs
noncomputable section
theorem digs_nought (n : Nat) : ((List.range n).map fun i => dDec (dGet 0 i)) = List.replicate n (0 : Int) := by
  apply List.ext_getElem?
  intro i
  rw [List.getElem?_map, List.getElem?_replicate]
  by_cases h : i < n
  · rw [List.getElem?_range h, if_pos h]
    have : dGet 0 i = 0 := by unfold dGet; show (0 / _) % _ = 0; rw [Nat.zero_div, Nat.zero_mod]
    simp only [Option.map_some, this]
    rfl
  · rw [if_neg h, List.getElem?_eq_none (by simpa using h)]; rfl
theorem inv_j (l : Int) (zs ys : List Int) : (mdct_Inverse.fn 1300).r.J (AV × Delta) [.whole 0, .int .i64 l] (roH [(.i64, zs), (.i64, ys)]) 2 (fun v D => some (v, D)) = (mdct_Inverse 1300 l zs).bind fun o => match o with | (e, _, out) => some (.tuple [.whole 2, .int .i64 e], [(2, .live (.ints .i64 out) .own)]) := by kernel_rfl
theorem inv_at (n l : Nat) (h : mdct_Inverse 1300 l (List.replicate n 0) = some (0, List.replicate n 0, List.replicate (2 * n) 0)) : MemoAt Tryz.prog 99 [.s .i64 n 0, .i (.int .i64 (l : Int))] (.bl .i64 (2 * n) 0 (some [.int .i64 0])) := by
  refine memoAt_fn (mdct_Inverse.fn 1300).ok (v := .tuple [.whole 2, .int .i64 0]) (D := [(2, .live (.ints .i64 (List.replicate (2 * n) 0)) .own)]) (show 2 ≤ 65535 by omega) rfl ?_ ⟨2, Nat.le_refl _, rfl, ?_, fun lr h => by cases h; rfl⟩
  · show (mdct_Inverse.fn 1300).r.J (AV × Delta) [.whole 0, .int .i64 (l : Int)] (roH [(.i64, (List.range n).map fun i => dDec (dGet 0 i)), (.i64, [])]) 2 (fun v D => some (v, D)) = _
    rw [inv_j, digs_nought, h]
    rfl
  · show Ent.live (.ints .i64 (List.replicate (2 * n) 0)) .own = .live (.ints .i64 ((List.range (2 * n)).map fun i => dDec (dGet 0 i))) .own
    rw [digs_nought]
def kIL : List (Nat × List (List MA × MR)) := [(99, [([.s .i64 160 0, .i (.int .i64 20)], .bl .i64 320 0 (some [.int .i64 0])), ([.s .i64 160 0, .i (.int .i64 40)], .bl .i64 320 0 (some [.int .i64 0])), ([.s .i64 80 0, .i (.int .i64 20)], .bl .i64 160 0 (some [.int .i64 0])), ([.s .i64 20 0, .i (.int .i64 20)], .bl .i64 40 0 (some [.int .i64 0])), ([.s .i64 40 0, .i (.int .i64 20)], .bl .i64 80 0 (some [.int .i64 0])), ([.s .i64 40 0, .i (.int .i64 40)], .bl .i64 80 0 (some [.int .i64 0]))])]
theorem kIL_ok : ∀ p ∈ kIL, ∀ q ∈ p.2, MemoAt Tryz.prog p.1 q.1 q.2 := fun p hp q hq => by
  unfold kIL at hp
  simp only [List.mem_cons, List.not_mem_nil, or_false] at hp
  subst hp
  simp only [List.mem_cons, List.not_mem_nil, or_false] at hq
  rcases hq with rfl | rfl | rfl | rfl | rfl | rfl
  · exact inv_at 160 20 inverse160_20
  · exact inv_at 160 40 inverse160_40
  · exact inv_at 80 20 inverse80_20
  · exact inv_at 20 20 inverse20_20
  · exact inv_at 40 20 inverse40_20
  · exact inv_at 40 40 inverse40_40
def kI (hk : CallI) : CallI := hkX (2 ^ 99) kIL hk
theorem kI_ok {hk : CallI} (h : HkOk Tryz.prog hk) : HkOk Tryz.prog (kI hk) := hkX_at kIL_ok h
end
end Go.Proofs.YtdbdkbaplnjnmaaGreat
