/- Plain laws of the Lean functions. Conditions: those of each statement. -/
import Derived.Test.YtdimjdlomgpbgaaH11
set_option linter.unusedVariables false
set_option linter.unusedSimpArgs false
namespace Go.Proofs.Ytdimjdlomgpbgaa.Pure
open Go Go.Ab

theorem upd_bd {t : Nat} {W L B : Nat → Int} (hb : Bd t W L B) (hb2 : ∀ a, a < t → B a ≤ 1048675) (w : Nat) : Bd t W L (upd B w) :=
  ⟨hb.n, hb.w1, hb.w2, hb.l1, hb.l2, fun a ha => by have := hb.b1 a ha; unfold upd; split <;> omega, fun a ha => by have := hb2 a ha; unfold upd; split <;> omega⟩

theorem rshare_l4 {ws ls : List Int} (hl : ls.length = ws.length) (h0 : 0 < ws.length) : ∀ n (left : Nat) B, left < n → Bd ws.length (gf ws) (gf ls) B → (∀ a, a < ws.length → B a + left ≤ 1048676) →
    madrigalref17_Share_l4 100 n ((left : Int), ws, ls, li B ws.length) = some (ws, ls, li (itB ws.length (gf ws) (gf ls) left B) ws.length) := by
  intro n
  induction n with
  | zero => intro left B h; omega
  | succ n ih =>
    intro left B hn hb hb2
    obtain ⟨rec, hrec⟩ : ∃ rec, rec = madrigalref17_Share_l4 100 n := ⟨_, rfl⟩
    have eu : madrigalref17_Share_l4 100 (n + 1) ((left : Int), ws, ls, li B ws.length) = (br (decide (0 < (left : Int))) (
      br (decide (0 < ((((li B ws.length).length) : Nat) : Int))) (
        (madrigalref17_Share_l6 100 100 ((left : Int), 0, 1, ws, ls, li B ws.length)).bind fun (left1, w, widths1, loud1, l1) =>
        need (0 ≤ w ∧ w < (((l1.length) : Nat) : Int)) <|
        need (0 ≤ w ∧ w < (((l1.length) : Nat) : Int)) <|
        rec (IntKind.i64.wrap (left1 - 1), widths1, loud1, l1.set (w.toNat) (IntKind.i64.wrap ((l1.getD (w.toNat) 0) + 1))))
      (
        some (ws, ls, li B ws.length)))
    (
      some (ws, ls, li B ws.length))) := by rw [hrec]; rfl
    rw [eu]
    simp only [br_ite, li_len]
    by_cases hlt : (0 : Int) < left
    · obtain ⟨k, rfl⟩ : ∃ k, left = k + 1 := ⟨left - 1, by omega⟩
      obtain ⟨o, e, rfl⟩ := rshare_l6 hl hb h0 (((k + 1 : Nat)) : Int)
      have hw : am (gf ws) (gf ls) B ws.length < ws.length := by
        obtain ⟨j, hj⟩ : ∃ j, ws.length = j + 1 := ⟨ws.length - 1, by omega⟩
        rw [hj]; exact am_lt _ _ _ _
      have b1 := hb.b1 _ hw
      have b2 := hb2 _ hw
      rw [if_pos hlt, if_pos (by omega), e]
      simp only [Option.bind_some, li_len, Int.toNat_natCast, li_get B hw]
      rw [need_t (by omega), need_t (by omega)]
      have w : IntKind.i64.wrap (((k + 1 : Nat) : Int) - 1) = (k : Int) := by rw [wid (by omega) (by omega)]; omega
      have w2 : IntKind.i64.wrap (B (am (gf ws) (gf ls) B ws.length) + 1) = B (am (gf ws) (gf ls) B ws.length) + 1 := wid (by omega) (by omega)
      rw [w, w2, li_upd, hrec]
      exact ih k _ (by omega) (upd_bd hb (fun a ha => by have := hb2 a ha; omega) _) (fun a ha => by have := hb2 a ha; unfold upd; split <;> omega)
    · rw [if_neg hlt]
      have : left = 0 := by omega
      subst this
      rfl

theorem S_upd {B : Nat → Int} {w : Nat} : ∀ n, S (upd B w) n = S B n + (if w < n then 1 else 0) := by
  intro n
  induction n with
  | zero => simp [S]
  | succ n ih =>
    rw [S_succ, S_succ, ih]
    unfold upd
    by_cases h : n = w
    · rw [if_pos h, if_neg (by omega), if_pos (by omega)]; omega
    · rw [if_neg h]
      by_cases h2 : w < n
      · rw [if_pos h2, if_pos (by omega)]; omega
      · rw [if_neg h2, if_neg (by omega)]; omega
theorem S_itB {t : Nat} {W L : Nat → Int} (h0 : 0 < t) : ∀ n B, S (itB t W L n B) t = S B t + n := by
  intro n
  induction n with
  | zero => intro B; simp [itB]
  | succ n ih =>
    intro B
    have hw : am W L B t < t := by
      obtain ⟨j, hj⟩ : ∃ j, t = j + 1 := ⟨t - 1, by omega⟩
      rw [hj]; exact am_lt _ _ _ _
    unfold itB
    rw [ih, S_upd, if_pos hw]; omega
end Go.Proofs.Ytdimjdlomgpbgaa.Pure
