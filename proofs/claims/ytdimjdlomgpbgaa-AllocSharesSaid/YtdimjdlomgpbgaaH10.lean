/- Plain laws of the Lean functions. Conditions: those of each statement. -/
import Derived.Test.YtdimjdlomgpbgaaH9
set_option linter.unusedVariables false
set_option linter.unusedSimpArgs false
namespace Go.Proofs.Ytdimjdlomgpbgaa.Pure
open Go Go.Ab

def li (B : Nat → Int) (m : Nat) : List Int := (List.range m).map B
theorem li_len (B : Nat → Int) (m : Nat) : (li B m).length = m := by simp [li]
theorem li_get (B : Nat → Int) {m i : Nat} (h : i < m) : (li B m).getD i 0 = B i := by simp [li, List.getD, h]
theorem li_succ (B : Nat → Int) (m : Nat) : li B m ++ [B m] = li B (m + 1) := by simp [li, List.range_succ]
theorem li_upd (B : Nat → Int) (m w : Nat) : (li B m).set w (B w + 1) = li (upd B w) m := by
  apply List.ext_getElem
  · simp [li]
  · intro i h1 h2
    simp only [li, List.getElem_set, List.getElem_map, List.getElem_range, upd]
    by_cases h : w = i
    · subst h; simp
    · rw [if_neg h, if_neg (fun e => h e.symm)]

theorem rshare_l0 {ws ls : List Int} (hm : ws.length ≤ 40) (hok : ∀ a, a < ws.length → okAt ws ls a) (total : Int) :
    ∃ o, madrigalref17_Share_l0 100 100 (total, 0, 0, ws, ls) = some o ∧ o = (total, S (gf ws) ws.length, ws, ls) := by
  refine itN_ok (I := Int × Int × Int × List Int × List Int) (O := Int × Int × List Int × List Int)
    (fun d => ∃ i : Nat, i ≤ ws.length ∧ d = (total, S (gf ws) i, (i : Int), ws, ls)) (fun d => ((ws.length : Int) - d.2.2.1).toNat) (fun _ o => o = (total, S (gf ws) ws.length, ws, ls)) ?_ 100 (total, 0, 0, ws, ls) ⟨0, by omega, rfl⟩ (by simp only; omega)
  rintro rec _ ⟨i, h, rfl⟩ ih
  simp only [br_ite, Int.toNat_natCast]
  by_cases hi : (i : Int) < (ws.length : Int)
  · have hs := S_bd (f := gf ws) (k := 1000) i (fun a ha => by have := hok a (by omega); unfold okAt at this; unfold gf; omega)
    have hw := hok i (by omega)
    unfold okAt at hw
    have w2 : IntKind.i64.wrap ((i : Int) + 1) = ((i + 1 : Nat) : Int) := by rw [wid (by omega) (by omega)]; omega
    have w3 : IntKind.i64.wrap (S (gf ws) i + ws.getD i 0) = S (gf ws) (i + 1) := by rw [wid (by omega) (by omega)]; rfl
    rw [if_pos hi, need_t (by omega), w2, w3]
    exact ih _ ⟨i + 1, by omega, rfl⟩ (by simp only; omega)
  · rw [if_neg hi]
    have e : i = ws.length := by omega
    subst e
    exact ⟨_, rfl, rfl⟩

theorem rshare_l2 {ws ls : List Int} (hm : ws.length ≤ 40) (hok : ∀ a, a < ws.length → okAt ws ls a) {total : Int} (h0 : 0 ≤ total) (h1 : total ≤ 1048576) :
    ∃ o, madrigalref17_Share_l2 100 100 (total, S (gf ws) ws.length, total, 0, ws, ls, []) = some o ∧
      o = (total - S (B0 total (S (gf ws) ws.length) (gf ws)) ws.length, ws, ls, li (B0 total (S (gf ws) ws.length) (gf ws)) ws.length) := by
  have hall := S_bd (f := gf ws) (k := 1000) ws.length (fun a ha => by have := hok a ha; unfold okAt at this; unfold gf; omega)
  have hge := S_ge (f := gf ws) ws.length (fun a ha => by have := hok a ha; unfold okAt at this; unfold gf; omega)
  generalize S (gf ws) ws.length = all at *
  refine itN_ok (I := Int × Int × Int × Int × List Int × List Int × List Int) (O := Int × List Int × List Int × List Int)
    (fun d => ∃ i : Nat, i ≤ ws.length ∧ d = (total, all, total - S (B0 total all (gf ws)) i, (i : Int), ws, ls, li (B0 total all (gf ws)) i)) (fun d => ((ws.length : Int) - d.2.2.2.1).toNat)
    (fun _ o => o = (total - S (B0 total all (gf ws)) ws.length, ws, ls, li (B0 total all (gf ws)) ws.length)) ?_ 100 (total, all, total, 0, ws, ls, []) ⟨0, by omega, by simp [S, li]⟩ (by simp only; omega)
  rintro rec _ ⟨i, h, rfl⟩ ih
  simp only [br_ite, Int.toNat_natCast]
  by_cases hi : (i : Int) < (ws.length : Int)
  · have hwi := hok i (by omega)
    have hgi := hge i (by omega)
    unfold okAt at hwi
    unfold gf at hgi
    have hB : ∀ a, a < ws.length → 0 ≤ B0 total all (gf ws) a ∧ B0 total all (gf ws) a ≤ total := fun a ha => B0_bd h0 h1 (by have := hok a ha; unfold okAt at this; unfold gf; omega) (hge a ha) (by omega)
    have hp := Int.mul_nonneg h0 (by omega : 0 ≤ ws.getD i 0)
    have hp2 : total * ws.getD i 0 ≤ 1048576 * 1000 := Int.mul_le_mul h1 hwi.2.1 (by omega) (by omega)
    have hs := S_bd (f := B0 total all (gf ws)) (k := 1048576) i (fun a ha => by have := hB a (by omega); omega)
    have hbi := hB i (by omega)
    have w2 : IntKind.i64.wrap ((i : Int) + 1) = ((i + 1 : Nat) : Int) := by rw [wid (by omega) (by omega)]; omega
    have w3 : IntKind.i64.wrap (total * ws.getD i 0) = total * ws.getD i 0 := wid (by omega) (by omega)
    have w4 : IntKind.i64.wrap ((total * ws.getD i 0).tdiv all) = B0 total all (gf ws) i := IntWalk.i64_quo _ _ ⟨hp, by omega, by omega⟩
    rw [if_pos hi, need_t (by omega), need_t (by omega)]
    simp only [w3, w4, li_succ, li_len, w2, li_get _ (Nat.lt_succ_self i)]
    rw [need_t (by omega), need_t (by omega)]
    have w5 : IntKind.i64.wrap (total - S (B0 total all (gf ws)) i - B0 total all (gf ws) i) = total - S (B0 total all (gf ws)) (i + 1) := by rw [wid (by omega) (by omega), S_succ]; omega
    rw [w5]
    exact ih _ ⟨i + 1, by omega, rfl⟩ (by simp only; omega)
  · rw [if_neg hi]
    have e : i = ws.length := by omega
    subst e
    exact ⟨_, rfl, rfl⟩
end Go.Proofs.Ytdimjdlomgpbgaa.Pure
