/- Concrete runs: checked regions, closed calls. No condition. -/
import Derived.Test.YtnhbohcjmdfmiaaGreatZG0
import Derived.Test.YtnhbohcjmdfmiaaGreatZG1
import Derived.Test.YtnhbohcjmdfmiaaGreatC27
set_option linter.unusedVariables false
set_option linter.unusedSimpArgs false
namespace Go.Proofs.YtnhbohcjmdfmiaaGreat
open Go Go.Ab Go.Proofs
noncomputable section
theorem goods : ∀ (f : FuncId) fn, Tryz.prog.funcs[f]? = some fn → funcGood Tryz.prog fn = true := good_of (step := 50) (m := 5) (by decide) (by decide +kernel) fun i hi => by
  match i, hi with
  | 0, _ => exact good0
  | 1, _ => exact good1
  | 2, _ => exact good2
  | 3, _ => exact good3
  | 4, _ => exact good4
theorem calls_ok {hk : CallI} (h : HkOk Tryz.prog hk) : CallsOk Tryz.prog (callK Tryz.prog 100000 SL hk 60) := callK_ok hm0 (by decide +kernel) goods _ _ h _
theorem eqAV_scal : ∀ {a b : AV}, eqAV a b = true → (∃ z, b = .bool z) ∨ (∃ z, b = .int .i64 z) → a = b := by
  intro a b h hb
  rcases hb with ⟨z, rfl⟩ | ⟨z, rfl⟩
  · cases a <;> first | (simp [eqAV] at h; done) | skip
    rename_i x
    simp only [eqAV, beq_iff_eq] at h
    rw [h]
  · cases a <;> first | (simp [eqAV] at h; done) | skip
    rename_i k x
    simp only [eqAV, Bool.and_eq_true] at h
    have h1 : k = .i64 := by cases k <;> first | rfl | (simp [kix] at h; done)
    have h2 : x = z := by have := h.2; rw [eqI_eq] at this; exact of_decide_eq_true this
    rw [h1, h2]
theorem runs_spec {r : Res} {z : CV} (h : runsTo r z = true) (hz : (∃ b, z.av = .bool b) ∨ (∃ n, z.av = .int .i64 n)) : ∃ v T n, r = .ok v T n ∧ v.av = z.av := by
  cases r with
  | bad => cases h
  | ok v T n => exact ⟨v, T, n, rfl, eqAV_scal h hz⟩
def hTrue : List CV → Option CV := fun l => List.rec (some (.bool true)) (fun _ _ _ => none) l
theorem true_at {hk : CallI} (hok : HkOk Tryz.prog hk) {f : FuncId} (h : runsTo (callK Tryz.prog 100000 SL hk 60 f [] noH 0) (.bool true) = true) : HkAt Tryz.prog f hTrue := by
  intro args v hv K q
  cases args with
  | cons x xs => cases hv
  | nil =>
    cases hv
    obtain ⟨u, T, n, hr, hu⟩ := runs_spec h (.inl ⟨_, rfl⟩)
    have := memo_step (calls_ok hok) hr (by rfl) (by rw [hu]; rfl) K q
    rw [hu] at this
    exact this
end
end Go.Proofs.YtnhbohcjmdfmiaaGreat
