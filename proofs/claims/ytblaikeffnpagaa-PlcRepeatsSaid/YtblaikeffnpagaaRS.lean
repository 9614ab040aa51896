/- Plain laws of the Lean functions, or the contract of a function of the library. Conditions: those of each statement. -/
import Derived.Test.YtblaikeffnpagaaRF1
import Derived.Shelf.SlSortCmp.NoneTotal
import Derived.Shelf.SlLaysF0
import Derived.Shelf.SlGeneric
set_option linter.unusedVariables false
set_option linter.unusedSimpArgs false
namespace Go.Proofs.Ytblaikeffnpagaa
open Go Go.Ab Go.Proofs
/-- the first stands ahead of the second: better, or the same score and the smaller lag -/
def btR (a b : List Int) : Bool := decide (b.getD 1 0 < a.getD 1 0) || (decide (a.getD 1 0 = b.getD 1 0) && decide (a.getD 0 0 < b.getD 0 0))
def insR (r : List Int) : List (List Int) → List (List Int)
  | [] => [r]
  | s :: l => match btR s r with | true => s :: insR r l | false => r :: s :: l
def sortR : List (List Int) → List (List Int)
  | [] => []
  | r :: l => insR r (sortR l)
def slices_pdq (a b lim : Int) (c : List (List Int)) : Option (List (List Int)) :=
  need (a = 0 ∧ b = (c.length : Int) ∧ 0 ≤ lim ∧ lim < 4611686018427387904 ∧ b < 4611686018427387904) (some (sortR c))
def slices_pdq.ps : List SV := [.whole 0, .int .i64, .int .i64, .int .i64, .func 47 [] []]
def slices_pdq.bs : List (SB × Md) := [(.recs [.i64, .i64], .rw)]
def slices_pdq.x : Ex := (1, ⟨1, 1, [(0, .tuple [])], [(.recs [.i64, .i64], .rw)]⟩)
def slices_pdq.g : Tup (psK slices_pdq.ps slices_pdq.bs) → Option (SumC slices_pdq.x []) := fun d => match d with | (a, b, lim, c) => slices_pdq a b lim c
def slices_pdq.R : Row := fnRow 51 slices_pdq.ps slices_pdq.bs slices_pdq.x [] slices_pdq.g

/-! the order -/
abbrev LG := Int × Int
def lgB (a b : LG) : Bool := decide (b.2 < a.2) || (decide (a.2 = b.2) && decide (a.1 < b.1))
def lgRow (p : LG) : List Int := [p.1, p.2]
def lgCf (a b : LG) : Int := if lgB a b then -1 else if a = b then 0 else 1
def lgEnc (p : LG) : List Value := [.int .i64 p.1, .int .i64 p.2]
def insP (r : LG) : List LG → List LG
  | [] => [r]
  | s :: l => match lgB s r with | true => s :: insP r l | false => r :: s :: l
def sortP : List LG → List LG
  | [] => []
  | r :: l => insP r (sortP l)
theorem lgB_iff (a b : LG) : lgB a b = true ↔ (b.2 < a.2 ∨ (a.2 = b.2 ∧ a.1 < b.1)) := by simp [lgB]
theorem lgB_no (a b : LG) : lgB a b = false ↔ ¬ (b.2 < a.2 ∨ (a.2 = b.2 ∧ a.1 < b.1)) := by rw [← lgB_iff]; simp
theorem insR_map (p : LG) : ∀ l : List LG, insR (lgRow p) (l.map lgRow) = (insP p l).map lgRow
  | [] => rfl
  | s :: l => by
    have e : btR (lgRow s) (lgRow p) = lgB s p := rfl
    simp only [List.map_cons, insR, insP, e]
    cases lgB s p
    · rfl
    · simp only [List.map_cons, insR_map p l]
theorem sortR_map : ∀ l : List LG, sortR (l.map lgRow) = (sortP l).map lgRow
  | [] => rfl
  | r :: l => by simp only [List.map_cons, sortR, sortP, sortR_map l, insR_map]
theorem insP_perm (r : LG) : ∀ l, (insP r l).Perm (r :: l)
  | [] => .refl _
  | s :: l => by
    simp only [insP]
    cases lgB s r
    · exact .refl _
    · exact ((insP_perm r l).cons s).trans (.swap r s l)
theorem sortP_perm : ∀ l, (sortP l).Perm l
  | [] => .refl _
  | r :: l => (insP_perm r _).trans ((sortP_perm l).cons r)
def lgLe (a b : LG) : Prop := lgB b a = false
theorem lgLe_trans {a b c : LG} (h : lgLe a b) (k : lgLe b c) : lgLe a c := by
  unfold lgLe at *; rw [lgB_no] at *; omega
theorem insP_sorted (r : LG) : ∀ l : List LG, l.Pairwise lgLe → (insP r l).Pairwise lgLe
  | [], _ => by simp [insP]
  | s :: l, h => by
    simp only [insP]
    cases hs : lgB s r
    · refine List.pairwise_cons.2 ⟨fun x hx => ?_, h⟩
      have h1 : lgLe r s := hs
      rcases List.mem_cons.1 hx with rfl | hx
      · exact h1
      · exact lgLe_trans h1 ((List.pairwise_cons.1 h).1 x hx)
    · refine List.pairwise_cons.2 ⟨fun x hx => ?_, insP_sorted r l (List.pairwise_cons.1 h).2⟩
      rcases List.mem_cons.1 ((insP_perm r l).subset hx) with rfl | hx
      · unfold lgLe; rw [lgB_no]; rw [lgB_iff] at hs; omega
      · exact (List.pairwise_cons.1 h).1 x hx
theorem sortP_sorted : ∀ l : List LG, (sortP l).Pairwise lgLe
  | [] => List.Pairwise.nil
  | r :: l => insP_sorted r _ (sortP_sorted l)
theorem lg_anti {a b : LG} (h : lgLe a b) (k : lgLe b a) : a = b := by
  unfold lgLe at *; rw [lgB_no] at *
  exact Prod.ext (by omega) (by omega)
theorem lt_lgCf : Go.Proofs.ltOf lgCf = lgB := by
  funext a b
  unfold Go.Proofs.ltOf lgCf
  cases h : lgB a b
  · simp
    split <;> simp
  · simp
theorem lg_swo : Sort.SWO lgB where
  irrefl x := by rw [lgB_no]; omega
  trans x y z h1 h2 := by rw [lgB_iff] at *; omega
  ntrans x y z h1 h2 := by rw [lgB_no] at *; omega
theorem lg_tot (x y : LG) (h1 : lgB x y = false) (h2 : lgB y x = false) : x = y := lg_anti (by exact h2) (by exact h1)
theorem merge_sortP (l : List LG) : (l.mergeSort fun x y => !lgB y x) = sortP l := by
  refine List.Perm.eq_of_pairwise (le := lgLe) (fun a b _ _ h k => lg_anti h k) ?_ (sortP_sorted l) ((List.mergeSort_perm l _).trans (sortP_perm l).symm)
  have := List.pairwise_mergeSort (le := fun x y : LG => !lgB y x) (fun a b c h1 h2 => by simp at *; exact lgLe_trans (a := a) h1 h2) (fun a b => by
    cases h1 : lgB b a
    · simp
    · have : lgB a b = false := by rw [lgB_no]; rw [lgB_iff] at h1; omega
      simp [this]) l
  exact this.imp fun {a b} h => by simpa [lgLe] using h
end Go.Proofs.Ytblaikeffnpagaa
