/- The plain law AllocShares over the Lean functions. Condition: the values are ones that Go can hold. -/
import Derived.Test.YtdimjdlomgpbgaaH12
set_option linter.unusedVariables false
set_option linter.unusedSimpArgs false
namespace Go.Proofs.Ytdimjdlomgpbgaa.Pure
open Go Go.Ab

theorem rshare_ok {ws ls : List Int} (hm : ws.length ≤ 40) (hl : ls.length = ws.length) {total : Int} (h0 : 0 ≤ total) (h1 : total ≤ 1048576) (hok : ∀ a, a < ws.length → okAt ws ls a) :
    madrigalref17_Share 100 total ws ls = some (ws, ls, li (fin total ws ls) ws.length) := by
  obtain ⟨o, e, rfl⟩ := rshare_l0 hm hok total
  obtain ⟨o, e2, rfl⟩ := rshare_l2 hm hok h0 h1
  unfold madrigalref17_Share
  rw [e]
  simp only [Option.bind_some]
  rw [e2]
  simp only [Option.bind_some]
  by_cases hz : ws.length = 0
  · have e1 : ws = [] := List.length_eq_zero_iff.mp hz
    have e3 : ls = [] := List.length_eq_zero_iff.mp (by omega)
    subst e1; subst e3
    have e4 : ∀ x : Int, madrigalref17_Share_l4 100 100 (x, [], [], []) = some ([], [], []) := by
      intro x
      show br (decide (0 < x)) (br (decide ((0 : Int) < (([] : List Int).length : Int))) _ (some ([], [], []))) (some ([], [], [])) = _
      rw [br_f (b := decide ((0 : Int) < (([] : List Int).length : Int))) (by rfl)]
      by_cases h : 0 < x
      · rw [br_t (by simp [h])]
      · rw [br_f (by simp [h])]
    have e5 : ∀ B, li B ([] : List Int).length = [] := fun B => rfl
    rw [e5, e5, e4]; rfl
  · have hleft := left_ok hok (by omega) total
    have hge := S_ge (f := gf ws) ws.length (fun a ha => by have := hok a ha; unfold okAt at this; unfold gf; omega)
    have hB : ∀ a, a < ws.length → 0 ≤ B0 total (S (gf ws) ws.length) (gf ws) a ∧ B0 total (S (gf ws) ws.length) (gf ws) a ≤ total := fun a ha =>
      B0_bd h0 h1 (by have := hok a ha; unfold okAt at this; unfold gf; omega) (hge a ha) (by have := hge a ha; have h2 := hok a ha; unfold okAt at h2; unfold gf at this ⊢; omega)
    have hbd : Bd ws.length (gf ws) (gf ls) (B0 total (S (gf ws) ws.length) (gf ws)) := ⟨hm, fun a ha => (hok a ha).1, fun a ha => (hok a ha).2.1, fun a ha => (hok a ha).2.2.1, fun a ha => (hok a ha).2.2.2,
      fun a ha => (hB a ha).1, fun a ha => by have := (hB a ha).2; omega⟩
    have e4 := rshare_l4 hl (by omega) 100 (total - S (B0 total (S (gf ws) ws.length) (gf ws)) ws.length).toNat _ (by omega) hbd (fun a ha => by have := (hB a ha).2; omega)
    have en : (((total - S (B0 total (S (gf ws) ws.length) (gf ws)) ws.length).toNat : Nat) : Int) = total - S (B0 total (S (gf ws) ws.length) (gf ws)) ws.length := by omega
    rw [en] at e4
    rw [e4]; rfl

theorem itB_lo (m : Nat) (W L : Nat → Int) : ∀ n B a, B a ≤ itB m W L n B a ∧ itB m W L n B a ≤ B a + n := by
  intro n
  induction n with
  | zero => intro B a; simp [itB]
  | succ n ih =>
    intro B a
    have := ih (upd B (am W L B m)) a
    have h : B a ≤ upd B (am W L B m) a ∧ upd B (am W L B m) a ≤ B a + 1 := by unfold upd; split <;> omega
    unfold itB; omega

theorem sum_l0 {total e : Int} {ws ls : List Int} {B : Nat → Int} {m : Nat} (hm : m ≤ 40) (hB : ∀ a, a < m → 0 ≤ B a ∧ B a ≤ 2000000) :
    ∃ o, madrigallaw18_AllocShares_l0 100 100 (total, e, 0, 0, ws, ls, li B m) = some o ∧ o = (total, e, S B m, ws, ls, li B m) := by
  refine itN_ok (I := Int × Int × Int × Int × List Int × List Int × List Int) (O := Int × Int × Int × List Int × List Int × List Int)
    (fun d => ∃ i : Nat, i ≤ m ∧ d = (total, e, S B i, (i : Int), ws, ls, li B m)) (fun d => ((m : Int) - d.2.2.2.1).toNat) (fun _ o => o = (total, e, S B m, ws, ls, li B m)) ?_ 100 (total, e, 0, 0, ws, ls, li B m) ⟨0, by omega, rfl⟩ (by simp only; omega)
  rintro rec _ ⟨i, h, rfl⟩ ih
  simp only [br_ite, Int.toNat_natCast, li_len]
  by_cases hi : (i : Int) < (m : Int)
  · have hs := S_bd (f := B) (k := 2000000) i (fun a ha => hB a (by omega))
    have hb := hB i (by omega)
    have w2 : IntKind.i64.wrap ((i : Int) + 1) = ((i + 1 : Nat) : Int) := by rw [wid (by omega) (by omega)]; omega
    have w3 : IntKind.i64.wrap (S B i + B i) = S B (i + 1) := by rw [wid (by omega) (by omega)]; rfl
    rw [if_pos hi, need_t (by omega), li_get B (by omega : i < m), w2, w3]
    exact ih _ ⟨i + 1, by omega, rfl⟩ (by simp only; omega)
  · rw [if_neg hi]
    have e : i = m := by omega
    subst e
    exact ⟨_, rfl, rfl⟩

theorem AllocShares : ∀ (total : Int) (widths : List Int) (loud : List Int), (Lit.int .i64 total).wf = true → (∀ n ∈ widths, (Lit.int .i64 n).wf = true) → widths.length * 8 ≤ 140737488351232 → (∀ n ∈ loud, (Lit.int .i64 n).wf = true) → loud.length * 8 ≤ 140737488351232 → ∃ k, ∃ r1 r2, madrigallaw18_AllocShares k total widths loud = some (true, r1, r2) := by
  intro total ws ls _ _ _ _ _
  refine ⟨100, ws, ls, ?_⟩
  unfold madrigallaw18_AllocShares
  rw [awake_ok]
  simp only [Option.bind_some, List.nil_append]
  rw [br_f (b := !true) rfl]
  by_cases a1 : 100 < ws.length
  · rw [br_t (by simp; omega)]
  rw [br_f (by simp; omega)]
  by_cases a2 : 100 < ls.length
  · rw [br_t (by simp; omega)]
  rw [br_f (by simp; omega), need_t (by omega), need_t (by omega)]
  by_cases hg : 0 ≤ total ∧ total ≤ 1048576 ∧ ws.length ≤ 40 ∧ ls.length = ws.length ∧ ∀ a, a < ws.length → okAt ws ls a
  · obtain ⟨h0, h1, hm, hl, hok⟩ := hg
    have hmay : madrigallaw18_may 100 total ws ls = some (true, ws, ls) := by
      rcases may_ok hm hl h0 h1 with ⟨_, e⟩ | ⟨h, _⟩
      · exact e
      · exact absurd hok h
    rw [share_ok hm hl h0 h1 hok]
    simp only [Option.bind_some]
    rw [hmay]
    simp only [Option.bind_some]
    rw [br_f (b := !true) rfl]
    have hfB : ∀ a, a < ws.length → 0 ≤ fin total ws ls a ∧ fin total ws ls a ≤ 2000000 := by
      intro a ha
      have hleft := left_ok hok (by omega) total
      have hge := S_ge (f := gf ws) ws.length (fun a ha => by have := hok a ha; unfold okAt at this; unfold gf; omega)
      have hB := B0_bd (total := total) (all := S (gf ws) ws.length) (W := gf ws) (a := a) h0 h1 (by have := hok a ha; unfold okAt at this; unfold gf; omega) (hge a ha) (by have := hge a ha; have h2 := hok a ha; unfold okAt at h2; unfold gf at this ⊢; omega)
      have := itB_lo ws.length (gf ws) (gf ls) (total - S (B0 total (S (gf ws) ws.length) (gf ws)) ws.length).toNat (B0 total (S (gf ws) ws.length) (gf ws)) a
      unfold fin; omega
    obtain ⟨o, e, rfl⟩ := sum_l0 (total := total) (e := 0) (ws := ws) (ls := ls) hm hfB
    have eli : (List.range ws.length).map (fin total ws ls) = li (fin total ws ls) ws.length := rfl
    rw [eli, e]
    simp only [Option.bind_some]
    rw [br_t (by rfl), rshare_ok hm hl h0 h1 hok]
    simp only [Option.bind_some]
    rw [ints_same (by rw [li_len]; omega)]
    simp only [Option.bind_some]
    rw [br_t rfl]
    by_cases hz : ws.length = 0
    · by_cases hs : S (fin total ws ls) ws.length = total
      · rw [br_t (by simp [hs])]
      · rw [br_f (by simp [hs])]; simp [hz]
    · have hleft := left_ok hok (by omega) total
      have hs : S (fin total ws ls) ws.length = total := by
        unfold fin
        rw [S_itB (by omega)]; omega
      rw [br_t (by simp [hs])]
  · have hbad : alloc_Share 100 total ws ls = some (1, ws, ls, []) ∧ madrigallaw18_may 100 total ws ls = some (false, ws, ls) := by
      by_cases b1 : total < 0
      · unfold alloc_Share madrigallaw18_may
        rw [br_t (by simp; omega), br_t (by simp; omega)]; exact ⟨rfl, rfl⟩
      by_cases b2 : 1048576 < total
      · unfold alloc_Share madrigallaw18_may
        rw [br_f (by simp; omega), br_t (by simp; omega), br_f (by simp; omega), br_t (by simp; omega)]; exact ⟨rfl, rfl⟩
      by_cases b3 : 40 < ws.length
      · unfold alloc_Share madrigallaw18_may
        rw [br_f (by simp; omega), br_f (by simp; omega), br_t (by simp; omega), br_f (by simp; omega), br_f (by simp; omega), br_t (by simp; omega)]; exact ⟨rfl, rfl⟩
      by_cases b4 : ls.length = ws.length
      · have hno : ¬ ∀ a, a < ws.length → okAt ws ls a := fun h => hg ⟨by omega, by omega, by omega, b4, h⟩
        refine ⟨share_bad (by omega) b4 (by omega) (by omega) hno, ?_⟩
        rcases may_ok (ws := ws) (ls := ls) (by omega) b4 (total := total) (by omega) (by omega) with ⟨h, _⟩ | ⟨_, e⟩
        · exact absurd h hno
        · exact e
      · unfold alloc_Share madrigallaw18_may
        rw [br_f (by simp; omega), br_f (by simp; omega), br_f (by simp; omega), br_t (by simp; omega), br_f (by simp; omega), br_f (by simp; omega), br_f (by simp; omega), br_t (by simp; omega)]; exact ⟨rfl, rfl⟩
    rw [hbad.1]
    simp only [Option.bind_some]
    rw [hbad.2]
    simp only [Option.bind_some]
    rw [br_t (b := !false) rfl, br_t (by rfl)]
    rfl
end Go.Proofs.Ytdimjdlomgpbgaa.Pure
