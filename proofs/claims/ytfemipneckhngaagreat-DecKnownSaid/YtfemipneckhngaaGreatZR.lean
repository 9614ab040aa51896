/- pitch.Score of silence, at all lags that are asked: run. No condition. -/
import Derived.Test.YtfemipneckhngaaGreatZN
import Derived.Test.YtfemipneckhngaaGreatC27
set_option linter.unusedVariables false
set_option linter.unusedSimpArgs false
namespace Go.Proofs.YtfemipneckhngaaGreat
open Go Go.Ab Go.Proofs
noncomputable section
/-- silence of so many samples scores nothing at this lag -/
def scE (num lag : Nat) : List MA × MR := ([.s .i64 num 0, .i (.int .i64 (.ofNat lag))], .sc (.int .i64 0))
def scOk (num from_ n : Nat) : Bool := (List.range n).all fun i => memoOk (callK Tryz.prog 100000 SL (hkU hk1) 60) 287 (scE num (from_ + i)).1 (scE num (from_ + i)).2
theorem score_a : scOk 160 20 61 = true := by kernel_rfl
theorem score_b : scOk 480 60 46 = true := by kernel_rfl
theorem score_c : scOk 480 106 45 = true := by kernel_rfl
theorem score_d : scOk 480 151 45 = true := by kernel_rfl
theorem score_e : scOk 480 196 45 = true := by kernel_rfl
theorem scOk_at {num from_ n : Nat} (h : scOk num from_ n = true) {lag : Nat} (h1 : from_ ≤ lag) (h2 : lag < from_ + n) : memoOk (callK Tryz.prog 100000 SL (hkU hk1) 60) 287 (scE num lag).1 (scE num lag).2 = true := by
  have := List.all_eq_true.1 h (lag - from_) (List.mem_range.2 (by omega))
  rw [show from_ + (lag - from_) = lag by omega] at this
  exact this
def within (lo hi lag : Nat) : Bool := Bool.rec false (Nat.ble lag hi) (Nat.ble lo lag)
theorem within_spec {lo hi lag : Nat} (h : within lo hi lag = true) : lo ≤ lag ∧ lag ≤ hi := by
  unfold within at h
  cases hb : Nat.ble lo lag with
  | false => rw [hb] at h; cases h
  | true => rw [hb] at h; exact ⟨Nat.le_of_ble_eq_true hb, Nat.le_of_ble_eq_true h⟩
def scEs (lag : Nat) : List (List MA × MR) := Bool.rec (Bool.rec [] [scE 480 lag] (within 60 240 lag)) (Bool.rec [scE 160 lag] [scE 160 lag, scE 480 lag] (within 60 240 lag)) (within 20 80 lag)
theorem scEs_ok (lag : Nat) : ∀ p ∈ scEs lag, memoOk (callK Tryz.prog 100000 SL (hkU hk1) 60) 287 p.1 p.2 = true := by
  have h1 : within 20 80 lag = true → memoOk (callK Tryz.prog 100000 SL (hkU hk1) 60) 287 (scE 160 lag).1 (scE 160 lag).2 = true := fun h => by
    obtain ⟨a, b⟩ := within_spec h
    exact scOk_at score_a a (by omega)
  have h2 : within 60 240 lag = true → memoOk (callK Tryz.prog 100000 SL (hkU hk1) 60) 287 (scE 480 lag).1 (scE 480 lag).2 = true := fun h => by
    obtain ⟨a, b⟩ := within_spec h
    rcases (by omega : lag < 106 ∨ (106 ≤ lag ∧ lag < 151) ∨ (151 ≤ lag ∧ lag < 196) ∨ 196 ≤ lag) with q | q | q | q
    · exact scOk_at score_b a (by omega)
    · exact scOk_at score_c q.1 (by omega)
    · exact scOk_at score_d q.1 (by omega)
    · exact scOk_at score_e q (by omega)
  intro p hp
  unfold scEs at hp
  cases ha : within 20 80 lag <;> cases hb : within 60 240 lag <;> rw [ha, hb] at hp
  · cases hp
  · obtain rfl := List.mem_singleton.1 hp; exact h2 hb
  · obtain rfl := List.mem_singleton.1 hp; exact h1 ha
  · rcases List.mem_cons.1 hp with rfl | hp
    · exact h1 ha
    · obtain rfl := List.mem_singleton.1 hp; exact h2 hb
def hkScore (args : List CV) (T : HT) (n : Nat) : Res := List.rec .bad (fun _ t _ => List.rec .bad (fun y _ _ => CV.rec (fun i => Int.rec (fun lag => memoF (scEs lag) args T n) (fun _ => .bad) i) (fun _ => .bad) (fun _ _ _ => .bad) (fun _ => .bad) (fun _ _ _ => .bad) (fun _ _ _ _ => .bad) (fun _ => .bad) y) t) args
def hkY (hk : CallI) : CallI := fun f args T n => Bool.rec (hk f args T n) (hkScore args T n) (Nat.beq f 287)
theorem hkY_ok {hk : CallI} (h : HkOk Tryz.prog hk) : HkOk Tryz.prog (hkY hk) := by
  intro f args T n v T' n' hr hT
  have e1 : hkY hk f args T n = Bool.rec (hk f args T n) (hkScore args T n) (Nat.beq f 287) := rfl
  rw [e1] at hr
  cases hb : Nat.beq f 287 with
  | false => rw [hb] at hr; exact h _ _ _ _ _ _ _ hr hT
  | true =>
    rw [hb] at hr
    obtain rfl := Nat.eq_of_beq_eq_true hb
    cases args with
    | nil => cases hr
    | cons x t =>
      cases t with
      | nil => cases hr
      | cons y t =>
        cases y with
        | i z =>
          cases z with
          | ofNat lag => exact memoF_ok (calls_ok hk1_ok) (scEs_ok lag) _ _ _ _ _ _ hr hT
          | negSucc _ => cases hr
        | _ => cases hr
def hk8 : CallI := hkY (hkU hk1)
theorem hk8_ok : HkOk Tryz.prog hk8 := hkY_ok hk1_ok
end
end Go.Proofs.YtfemipneckhngaaGreat
