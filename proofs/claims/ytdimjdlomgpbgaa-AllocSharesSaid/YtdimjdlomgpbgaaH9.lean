/- Plain laws of the Lean functions. Conditions: those of each statement. -/
import Derived.Test.YtdimjdlomgpbgaaH8
set_option linter.unusedVariables false
set_option linter.unusedSimpArgs false
namespace Go.Proofs.Ytdimjdlomgpbgaa.Pure
open Go Go.Ab

theorem share_nil {total : Int} (h0 : 0 ≤ total) (h1 : total ≤ 1048576) : alloc_Share 100 total [] [] = some (0, [], [], []) := by
  have e0 : alloc_Share_l0 100 100 (total, 0, 0, 0, [], []) = some (.inl (total, 0, [], [])) := rfl
  have e2 : alloc_Share_l2 100 100 (total, 0, total, 0, 0, [], [], []) = some (total, [], [], []) := rfl
  have e4 : alloc_Share_l4 100 100 (total, [], [], []) = some ([], [], []) := by
    show br (decide (0 < total)) (br (decide ((0 : Int) < (([] : List (List Int)).length : Int))) _ (some ([], [], []))) (some ([], [], [])) = _
    rw [br_f (b := decide ((0 : Int) < (([] : List (List Int)).length : Int))) (by rfl)]
    by_cases h : 0 < total
    · rw [br_t (by simp [h])]
    · rw [br_f (by simp [h])]
  unfold alloc_Share
  rw [br_f (by simp; omega), br_f (by simp; omega), br_f (by simp), br_f (by simp)]
  simp only [List.length_nil]
  have e0' : alloc_Share_l0 100 100 (total, 0, ((0 : Nat) : Int), 0, [], []) = some (.inl (total, 0, [], [])) := rfl
  rw [e0']
  simp only [Option.bind_some, List.length_nil]
  have e2' : alloc_Share_l2 100 100 (total, 0, total, ((0 : Nat) : Int), 0, [], [], []) = some (total, [], [], []) := rfl
  rw [e2']
  simp only [Option.bind_some]
  rw [e4]
  rfl

theorem share_bad {ws ls : List Int} (hm : ws.length ≤ 40) (hl : ls.length = ws.length) {total : Int} (h0 : 0 ≤ total) (h1 : total ≤ 1048576) (hok : ¬ ∀ a, a < ws.length → okAt ws ls a) :
    alloc_Share 100 total ws ls = some (1, ws, ls, []) := by
  obtain ⟨o, e, h⟩ := share_l0 hm hl total
  unfold alloc_Share
  rw [br_f (by simp; omega), br_f (by simp; omega), br_f (by simp; omega), br_f (by simp [hl]), e]
  rcases h with ⟨h, rfl⟩ | ⟨h, rfl⟩
  · exact absurd h hok
  · rfl

theorem share_ok {ws ls : List Int} (hm : ws.length ≤ 40) (hl : ls.length = ws.length) {total : Int} (h0 : 0 ≤ total) (h1 : total ≤ 1048576) (hok : ∀ a, a < ws.length → okAt ws ls a) :
    alloc_Share 100 total ws ls = some (0, ws, ls, (List.range ws.length).map (fin total ws ls)) := by
  by_cases hz : ws.length = 0
  · have e1 : ws = [] := List.length_eq_zero_iff.mp hz
    have e2 : ls = [] := List.length_eq_zero_iff.mp (by omega)
    subst e1; subst e2
    exact share_nil h0 h1
  · obtain ⟨o, e, h⟩ := share_l0 hm hl total
    have e1 : o = .inl (total, S (gf ws) ws.length, ws, ls) := by
      rcases h with ⟨_, rfl⟩ | ⟨h, _⟩
      · rfl
      · exact absurd hok h
    subst e1
    obtain ⟨out, e2, c, o, rfl, hg, hh⟩ := share_l2 hm hl hok h0 h1
    have hleft := left_ok hok (by omega) total
    have hge := S_ge (f := gf ws) ws.length (fun a ha => by have := hok a ha; unfold okAt at this; unfold gf; omega)
    have hB : ∀ a, a < ws.length → 0 ≤ B0 total (S (gf ws) ws.length) (gf ws) a ∧ B0 total (S (gf ws) ws.length) (gf ws) a ≤ total := fun a ha =>
      B0_bd h0 h1 (by have := hok a ha; unfold okAt at this; unfold gf; omega) (hge a ha) (by have := hge a ha; have h2 := hok a ha; unfold okAt at h2; unfold gf at this ⊢; omega)
    have hbd : Bd ws.length (gf ws) (gf ls) (B0 total (S (gf ws) ws.length) (gf ws)) := ⟨hm, fun a ha => (hok a ha).1, fun a ha => (hok a ha).2.1, fun a ha => (hok a ha).2.2.1, fun a ha => (hok a ha).2.2.2,
      fun a ha => (hB a ha).1, fun a ha => by have := (hB a ha).2; omega⟩
    obtain ⟨c', o', e4, hg'⟩ := share_l4 (ws := ws) (ls := ls) 100 (total - S (B0 total (S (gf ws) ws.length) (gf ws)) ws.length).toNat _ c o (by omega) hbd (fun a ha => by have := (hB a ha).2; omega) hg hh (.inr trivial)
    rw [if_neg hz] at hg'
    have hlc := hg'.len
    obtain ⟨out, e6, rfl⟩ := share_l6 (ws := ws) (ls := ls) hm hg'
    have en : (((total - S (B0 total (S (gf ws) ws.length) (gf ws)) ws.length).toNat : Nat) : Int) = total - S (B0 total (S (gf ws) ws.length) (gf ws)) ws.length := by omega
    rw [en] at e4
    unfold alloc_Share
    rw [br_f (by simp; omega), br_f (by simp; omega), br_f (by simp; omega), br_f (by simp [hl]), e]
    simp only [Option.bind_some]
    rw [e2]
    simp only [Option.bind_some]
    rw [e4]
    simp only [Option.bind_some, Int.toNat_natCast, hlc]
    rw [need_t ⟨by omega, by trivial, by omega, by omega⟩, e6]
    rfl
end Go.Proofs.Ytdimjdlomgpbgaa.Pure
