/- Plain laws of the Lean functions. Conditions: those of each statement. -/
import Derived.Test.YtdimjdlomgpbgaaH10
set_option linter.unusedVariables false
set_option linter.unusedSimpArgs false
namespace Go.Proofs.Ytdimjdlomgpbgaa.Pure
open Go Go.Ab

theorem am_le (W L B : Nat → Int) (i : Nat) : am W L B i ≤ i := by
  cases i with
  | zero => simp [am]
  | succ k => have := am_lt W L B k; omega

theorem rshare_l6 {ws ls : List Int} (hl : ls.length = ws.length) {B : Nat → Int} (hb : Bd ws.length (gf ws) (gf ls) B) (h0 : 0 < ws.length) (left : Int) :
    ∃ o, madrigalref17_Share_l6 100 100 (left, 0, 1, ws, ls, li B ws.length) = some o ∧ o = (left, (am (gf ws) (gf ls) B ws.length : Int), ws, ls, li B ws.length) := by
  have hm := hb.n
  refine itN_ok (I := Int × Int × Int × List Int × List Int × List Int) (O := Int × Int × List Int × List Int × List Int)
    (fun d => ∃ i : Nat, 1 ≤ i ∧ i ≤ ws.length ∧ d = (left, (am (gf ws) (gf ls) B i : Int), (i : Int), ws, ls, li B ws.length)) (fun d => ((ws.length : Int) - d.2.2.1).toNat)
    (fun _ o => o = (left, (am (gf ws) (gf ls) B ws.length : Int), ws, ls, li B ws.length)) ?_ 100 (left, 0, 1, ws, ls, li B ws.length) ⟨1, by omega, by omega, by
      have : am (gf ws) (gf ls) B 1 = 0 := by unfold am; split <;> rfl
      rw [this]; rfl⟩ (by simp only; omega)
  rintro rec _ ⟨i, h1, h, rfl⟩ ih
  simp only [br_ite, Int.toNat_natCast, li_len]
  by_cases hi : (i : Int) < (ws.length : Int)
  · have hiw : i < ws.length := by omega
    have haw : am (gf ws) (gf ls) B i < ws.length := by
      obtain ⟨k, rfl⟩ : ∃ k, i = k + 1 := ⟨i - 1, by omega⟩
      have := am_lt (gf ws) (gf ls) B k; omega
    have w2 : IntKind.i64.wrap ((i : Int) + 1) = ((i + 1 : Nat) : Int) := by rw [wid (by omega) (by omega)]; omega
    have hc : ∀ a, a < ws.length → IntKind.i64.wrap ((IntKind.i64.wrap (16 * (ls.getD a 0))) - (IntKind.i64.wrap ((IntKind.i64.wrap (64 * (B a))).tdiv (ws.getD a 0)))) = clm (gf ws) (gf ls) B a := by
      intro a ha
      have b1 := hb.b1 a ha
      have b2 := hb.b2 a ha
      have l1 := hb.l1 a ha
      have l2 := hb.l2 a ha
      have w1 := hb.w1 a ha
      have q0 := Int.ediv_nonneg (a := 64 * B a) (b := gf ws a) (by omega) (by omega)
      have q1 := Int.ediv_le_self (gf ws a) (a := 64 * B a) (by omega)
      have e1 : ws.getD a 0 = gf ws a := rfl
      have e2 : ls.getD a 0 = gf ls a := rfl
      rw [e1, e2, wid (x := 64 * B a) (by omega) (by omega), wid (x := 16 * gf ls a) (by omega) (by omega), IntWalk.i64_quo _ _ ⟨by omega, by omega, by omega⟩, wid (by omega) (by omega)]
      rfl
    have n1 := hb.w1 i hiw
    have n2 := hb.w1 _ haw
    unfold gf at n1 n2
    simp only [li_get B hiw, li_get B haw, hc i hiw, hc _ haw, w2]
    rw [if_pos hi, need_t (by omega), need_t (by omega), need_t (by omega), need_t (by omega), need_t (by omega), need_t (by omega), need_t (by omega), need_t (by unfold gf; omega)]
    have hs : am (gf ws) (gf ls) B (i + 1) = if clm (gf ws) (gf ls) B (am (gf ws) (gf ls) B i) < clm (gf ws) (gf ls) B i then i else am (gf ws) (gf ls) B i := rfl
    by_cases hlt : clm (gf ws) (gf ls) B (am (gf ws) (gf ls) B i) < clm (gf ws) (gf ls) B i
    · rw [if_pos hlt]
      rw [if_pos hlt] at hs
      exact ih _ ⟨i + 1, by omega, by omega, by rw [hs]⟩ (by simp only; omega)
    · rw [if_neg hlt]
      rw [if_neg hlt] at hs
      exact ih _ ⟨i + 1, by omega, by omega, by rw [hs]⟩ (by simp only; omega)
  · rw [if_neg hi]
    have e : i = ws.length := by omega
    rw [← e]
    exact ⟨_, rfl, rfl⟩
end Go.Proofs.Ytdimjdlomgpbgaa.Pure
