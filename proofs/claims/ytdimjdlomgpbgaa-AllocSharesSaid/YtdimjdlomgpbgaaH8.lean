/- Plain laws of the Lean functions. Conditions: those of each statement. -/
import Derived.Test.YtdimjdlomgpbgaaH7
set_option linter.unusedVariables false
set_option linter.unusedSimpArgs false
namespace Go.Proofs.Ytdimjdlomgpbgaa.Pure
open Go Go.Ab

theorem share_l4 {ws ls : List Int} {t : Nat} {W L : Nat → Int} : ∀ n (left : Nat) B c o, left < n → Bd t W L B → (∀ a, a < t → B a + left ≤ 1048676) → Gd t W L B c o → HP t W L B o → (t = 0 ∨ True) →
    ∃ c' o', alloc_Share_l4 100 n ((left : Int), ws, ls, c) = some (ws, ls, c') ∧ Gd t W L (if t = 0 then B else itB t W L left B) c' o' := by
  intro n
  induction n with
  | zero => intro left B c o h; omega
  | succ n ih =>
    intro left B c o hn hb hb2 hg hh _
    have hl := hg.len
    obtain ⟨rec, hrec⟩ : ∃ rec, rec = alloc_Share_l4 100 n := ⟨_, rfl⟩
    have eu : alloc_Share_l4 100 (n + 1) ((left : Int), ws, ls, c) = (br (decide (0 < (left : Int))) (
      br (decide (0 < (((c.length) : Nat) : Int))) (
        need (0 ≤ (0 : Int) ∧ (0 : Int) < (((c.length) : Nat) : Int)) <|
        need (0 ≤ (0 : Int) ∧ (0 : Int) < (((c.length) : Nat) : Int)) <|
        (heap_Fix 100 0 (c.set 0 ((c.getD 0 []).set 3 (IntKind.i64.wrap (((c.getD 0 []).getD 3 0) + 1))))).bind fun b0_0 =>
        rec (IntKind.i64.wrap ((left : Int) - 1), ws, ls, b0_0))
      (
        some (ws, ls, c)))
    (
      some (ws, ls, c))) := by rw [hrec]; rfl
    rw [eu]
    simp only [br_ite, hl]
    by_cases h0 : (0 : Int) < left
    · rw [if_pos h0]
      by_cases ht : (0 : Int) < t
      · rw [if_pos ht, need_t (by omega), need_t (by omega)]
        obtain ⟨k, rfl⟩ : ∃ k, left = k + 1 := ⟨left - 1, by omega⟩
        obtain ⟨c', o', e, hg', hh', hb'⟩ := share_step hb (fun a ha => by have := hb2 a ha; omega) (by omega) hg hh
        rw [e]
        simp only [Option.bind_some]
        have w : IntKind.i64.wrap (((k + 1 : Nat) : Int) - 1) = (k : Int) := by
          have := hb2 0 (by omega)
          have := hb.b1 0 (by omega)
          rw [wid (by omega) (by omega)]; omega
        obtain ⟨c2, o2, e2, hg2⟩ := ih k _ c' o' (by omega) hb' (fun a ha => by have := hb2 a ha; unfold upd; split <;> omega) hg' hh' (.inr trivial)
        rw [w, hrec, e2]
        refine ⟨c2, o2, rfl, ?_⟩
        rw [if_neg (by omega)] at hg2 ⊢
        exact hg2
      · rw [if_neg ht]
        have : t = 0 := by omega
        refine ⟨c, o, rfl, ?_⟩
        rw [if_pos this]; exact hg
    · rw [if_neg h0]
      have : left = 0 := by omega
      subst this
      refine ⟨c, o, rfl, ?_⟩
      have e : (if t = 0 then B else itB t W L 0 B) = B := by split <;> rfl
      rw [e]; exact hg

theorem share_l6 {ws ls : List Int} {t : Nat} {W L B : Nat → Int} (ht : t ≤ 40) {c : List (List Int)} {o : Nat → Nat} (hg : Gd t W L B c o) :
    ∃ out, alloc_Share_l6 100 100 ((t : Int), 0, ws, ls, List.replicate t 0, c) = some out ∧ out = (ws, ls, (List.range t).map B) := by
  refine itN_ok (I := Int × Int × List Int × List Int × List Int × List (List Int)) (O := List Int × List Int × List Int)
    (fun d => ∃ (i : Nat) (l : List Int), i ≤ t ∧ d = ((t : Int), (i : Int), ws, ls, l, c) ∧ l.length = t ∧ ∀ j, j < i → l.getD (o j) 0 = B (o j))
    (fun d => ((t : Int) - d.2.1).toNat) (fun _ out => out = (ws, ls, (List.range t).map B)) ?_ 100 ((t : Int), 0, ws, ls, List.replicate t 0, c) ⟨0, _, by omega, rfl, by simp, fun j h => by omega⟩ (by simp only; omega)
  rintro rec _ ⟨i, l, h, rfl, hll, hB⟩ ih
  have hl := hg.len
  simp only [br_ite, Int.toNat_natCast]
  by_cases hi : (i : Int) < (t : Int)
  · have hoi := hg.lt i (by omega)
    have w2 : IntKind.i64.wrap ((i : Int) + 1) = ((i + 1 : Nat) : Int) := by rw [wid (by omega) (by omega)]; omega
    rw [if_pos hi, need_t (by omega)]
    simp only [hg.get i (by omega : i < t), cm, List.getD_cons_zero, List.getD_cons_succ, Int.toNat_natCast]
    rw [need_t (by omega), w2]
    refine ih _ ⟨i + 1, _, by omega, rfl, by simp [hll], fun j hj => ?_⟩ (by simp only; omega)
    by_cases e : j = i
    · subst e; simp [List.getD, List.getElem?_set, hll, hoi]
    · have hne : o i ≠ o j := fun he => e (hg.inj j i (by omega) (by omega) he.symm)
      have := hB j (by omega)
      rw [← this]
      simp [List.getD, List.getElem?_set, hne]
  · rw [if_neg hi]
    have e : i = t := by omega
    subst e
    refine ⟨_, rfl, ?_⟩
    have : l = (List.range i).map B := by
      apply List.ext_getElem
      · simp [hll]
      · intro a h1 h2
        obtain ⟨j, hj, e⟩ := hg.sur a (by omega)
        have := hB j hj
        rw [e] at this
        simp only [List.getElem_map, List.getElem_range]
        rw [← this]; simp [List.getD, h1]
    rw [this]

/-- what the program shares out -/
def fin (total : Int) (ws ls : List Int) : Nat → Int :=
  itB ws.length (gf ws) (gf ls) (total - S (B0 total (S (gf ws) ws.length) (gf ws)) ws.length).toNat (B0 total (S (gf ws) ws.length) (gf ws))

theorem left_ok {ws ls : List Int} (hok : ∀ a, a < ws.length → okAt ws ls a) (h0 : 0 < ws.length) (total : Int) :
    0 ≤ total - S (B0 total (S (gf ws) ws.length) (gf ws)) ws.length ∧ total - S (B0 total (S (gf ws) ws.length) (gf ws)) ws.length ≤ ws.length := by
  have hge := S_ge (f := gf ws) ws.length (fun a ha => by have := hok a ha; unfold okAt at this; unfold gf; omega) 0 h0
  have h1 : 1 ≤ S (gf ws) ws.length := by have := (hok 0 h0).1; unfold gf at hge ⊢; omega
  have h := left_bd (total := total) (W := gf ws) h1 ws.length
  generalize S (gf ws) ws.length = all at *
  rw [Int.mul_comm total all] at h
  have a := Int.le_of_mul_le_mul_left h.1 (by omega)
  have b := Int.le_of_mul_le_mul_left h.2 (by omega)
  omega
end Go.Proofs.Ytdimjdlomgpbgaa.Pure
