/- Concrete runs: pvq.Most by a table. No condition. -/
import Derived.Test.YtfemipneckhngaaGreatZM
import Derived.Test.YtfemipneckhngaaGreatZG0
set_option linter.unusedVariables false
set_option linter.unusedSimpArgs false
namespace Go.Proofs.YtfemipneckhngaaGreat
open Go Go.Ab Go.Proofs
noncomputable section
theorem goods : ∀ (f : FuncId) fn, Tryz.prog.funcs[f]? = some fn → funcGood Tryz.prog fn = true := good_of (step := 50) (m := 7) (by decide) (by decide +kernel) fun i hi => by
  match i, hi with
  | 0, _ => exact good0
  | 1, _ => exact good1
  | 2, _ => exact good2
  | 3, _ => exact good3
  | 4, _ => exact good4
  | 5, _ => exact good5
  | 6, _ => exact good6
theorem calls_ok {hk : CallI} (h : HkOk Tryz.prog hk) : CallsOk Tryz.prog (callK Tryz.prog 100000 SL hk 60) := callK_ok hm0 (by decide +kernel) goods _ _ h _
theorem eqAV_scal : ∀ {a b : AV}, eqAV a b = true → (∃ z, b = .bool z) ∨ (∃ z, b = .int .i64 z) → a = b := by
  intro a b h hb
  rcases hb with ⟨z, rfl⟩ | ⟨z, rfl⟩
  · cases a <;> first | (simp [eqAV] at h; done) | skip
    rename_i x
    simp only [eqAV, beq_iff_eq] at h
    rw [h]
  · cases a <;> first | (simp [eqAV] at h; done) | skip
    rename_i k x
    simp only [eqAV, Bool.and_eq_true] at h
    have h1 : k = .i64 := by cases k <;> first | rfl | (simp [kix] at h; done)
    have h2 : x = z := by have := h.2; rw [eqI_eq] at this; exact of_decide_eq_true this
    rw [h1, h2]
theorem runs_spec {r : Res} {z : CV} (h : runsTo r z = true) (hz : (∃ b, z.av = .bool b) ∨ (∃ n, z.av = .int .i64 n)) : ∃ v T n, r = .ok v T n ∧ v.av = z.av := by
  cases r with
  | bad => cases h
  | ok v T n => exact ⟨v, T, n, rfl, eqAV_scal h hz⟩
theorem i1_inv' {f : Int → Option CV} {l : List CV} {v : CV} (h : i1 f l = some v) : ∃ a, l = [.i a] ∧ f a = some v := i1_inv h
def tabI (l : List (Int × Int)) (a : Int) : Option CV := List.rec none (fun p _ ih => Prod.rec (fun x y => Bool.rec ih (some (.i y)) (eqI a x)) p) l
theorem tabI_mem {a : Int} {v : CV} : ∀ {l : List (Int × Int)}, tabI l a = some v → ∃ p ∈ l, p.1 = a ∧ v = .i p.2
  | [], h => by cases h
  | (x, y) :: l, h => by
    have e1 : tabI ((x, y) :: l) a = Bool.rec (tabI l a) (some (.i y)) (eqI a x) := rfl
    rw [e1, eqI_eq] at h
    by_cases hx : a = x
    · rw [decide_eq_true hx] at h
      cases h
      exact ⟨(x, y), List.mem_cons_self, hx.symm, rfl⟩
    · rw [decide_eq_false hx] at h
      obtain ⟨p, h1, h2⟩ := tabI_mem h
      exact ⟨p, List.mem_cons_of_mem _ h1, h2⟩
theorem tab_at {f : FuncId} {l : List (Int × Int)} (h : tabOk f l = true) : HkAt Tryz.prog f (i1 (tabI l)) := by
  intro args v hv K q
  obtain ⟨a, e1, h1⟩ := i1_inv hv
  subst e1
  obtain ⟨p, hp, rfl, rfl⟩ := tabI_mem h1
  obtain ⟨u, T, n, hr, hu⟩ := runs_spec (List.all_eq_true.1 h p hp) (.inr ⟨_, rfl⟩)
  have := memo_step (calls_ok hk1_ok) hr (by rfl) (by rw [hu]; rfl) K q
  rw [hu] at this
  exact this
def hMost : List CV → Option CV := i1 (tabI mostT)
def hk2 : FuncId → List CV → Option CV := hkM (2 ^ 117 + 2 ^ 283 + 2 ^ 119 + 2 ^ 39 + 2 ^ 197 + 2 ^ 207) [(117, hMul), (119, hClamp), (197, hFac), (39, hSat), (283, hDiv), (207, hMost)]
theorem hk2_ok : HkOk Tryz.prog (hkU hk2) := hkM_ok fun p hp => by
  simp only [List.mem_cons, List.not_mem_nil, or_false] at hp
  rcases hp with rfl | rfl | rfl | rfl | rfl | rfl
  · exact hMul_ok
  · exact hClamp_ok
  · exact hFac_ok
  · exact hSat_ok
  · exact hDiv_ok
  · exact tab_at most_run
def hTrue : List CV → Option CV := fun l => List.rec (some (.bool true)) (fun _ _ _ => none) l
theorem true_at {hk : CallI} (hok : HkOk Tryz.prog hk) {f : FuncId} (h : runsTo (callK Tryz.prog 100000 SL hk 60 f [] noH 0) (.bool true) = true) : HkAt Tryz.prog f hTrue := by
  intro args v hv K q
  cases args with
  | cons x xs => cases hv
  | nil =>
    cases hv
    obtain ⟨u, T, n, hr, hu⟩ := runs_spec h (.inl ⟨_, rfl⟩)
    have := memo_step (calls_ok hok) hr (by rfl) (by rw [hu]; rfl) K q
    rw [hu] at this
    exact this
end
end Go.Proofs.YtfemipneckhngaaGreat
