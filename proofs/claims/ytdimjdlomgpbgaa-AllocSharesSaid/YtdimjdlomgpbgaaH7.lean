/- Plain laws of the Lean functions. Conditions: those of each statement. -/
import Derived.Test.YtdimjdlomgpbgaaH6
set_option linter.unusedVariables false
set_option linter.unusedSimpArgs false
namespace Go.Proofs.Ytdimjdlomgpbgaa.Pure
open Go Go.Ab

def gf (l : List Int) (a : Nat) : Int := l.getD a 0
def upd (B : Nat → Int) (w : Nat) : Nat → Int := fun a => if a = w then B a + 1 else B a
/-- the best claim, the first of equals -/
def am (W L B : Nat → Int) : Nat → Nat
  | 0 => 0
  | m + 1 => if clm W L B (am W L B m) < clm W L B m then m else am W L B m
theorem am_lt (W L B : Nat → Int) : ∀ m, am W L B (m + 1) < m + 1 := by
  intro m
  induction m with
  | zero => unfold am; split <;> simp [am]
  | succ m ih => unfold am; split <;> omega
theorem am_best (W L B : Nat → Int) : ∀ m, ∀ a, a < m → ¬ prior W L B a (am W L B m) := by
  intro m
  induction m with
  | zero => intro a h; omega
  | succ m ih =>
    intro a ha
    unfold am
    split
    · rename_i h
      by_cases e : a = m
      · subst e; unfold prior; omega
      · have := ih a (by omega)
        unfold prior at *; omega
    · rename_i h
      by_cases e : a = m
      · subst e
        have : am W L B a ≤ a := by
          cases a with
          | zero => simp [am]
          | succ k => have := am_lt W L B k; omega
        unfold prior; omega
      · exact ih a (by omega)
/-- bit by bit to the best claim -/
def itB (m : Nat) (W L : Nat → Int) : Nat → (Nat → Int) → (Nat → Int)
  | 0, B => B
  | n + 1, B => itB m W L n (upd B (am W L B m))

theorem prior_upd {W L B : Nat → Int} {w x y : Nat} (hx : x ≠ w) (hy : y ≠ w) : prior W L (upd B w) x y ↔ prior W L B x y := by
  have e1 : clm W L (upd B w) x = clm W L B x := by unfold clm upd; rw [if_neg hx]
  have e2 : clm W L (upd B w) y = clm W L B y := by unfold clm upd; rw [if_neg hy]
  unfold prior; rw [e1, e2]

theorem share_l2 {ws ls : List Int} (hm : ws.length ≤ 40) (hl : ls.length = ws.length) (hok : ∀ a, a < ws.length → okAt ws ls a) {total : Int} (h0 : 0 ≤ total) (h1 : total ≤ 1048576) :
    ∃ out, alloc_Share_l2 100 100 (total, S (gf ws) ws.length, total, (ws.length : Int), 0, ws, ls, []) = some out ∧
      ∃ c o, out = (total - S (B0 total (S (gf ws) ws.length) (gf ws)) ws.length, ws, ls, c) ∧ Gd ws.length (gf ws) (gf ls) (B0 total (S (gf ws) ws.length) (gf ws)) c o ∧ HP ws.length (gf ws) (gf ls) (B0 total (S (gf ws) ws.length) (gf ws)) o := by
  have hall := S_bd (f := gf ws) (k := 1000) ws.length (fun a ha => by have := hok a ha; unfold okAt at this; unfold gf; omega)
  have hge := S_ge (f := gf ws) ws.length (fun a ha => by have := hok a ha; unfold okAt at this; unfold gf; omega)
  generalize S (gf ws) ws.length = all at *
  refine itN_ok (I := Int × Int × Int × Int × Int × List Int × List Int × List (List Int)) (O := Int × List Int × List Int × List (List Int))
    (fun d => ∃ (i : Nat) (c : List (List Int)) (o : Nat → Nat), i ≤ ws.length ∧ d = (total, all, total - S (B0 total all (gf ws)) i, (ws.length : Int), (i : Int), ws, ls, c) ∧ Gd i (gf ws) (gf ls) (B0 total all (gf ws)) c o ∧ HP i (gf ws) (gf ls) (B0 total all (gf ws)) o)
    (fun d => ((ws.length : Int) - d.2.2.2.2.1).toNat) (fun _ out => ∃ c o, out = (total - S (B0 total all (gf ws)) ws.length, ws, ls, c) ∧ Gd ws.length (gf ws) (gf ls) (B0 total all (gf ws)) c o ∧ HP ws.length (gf ws) (gf ls) (B0 total all (gf ws)) o) ?_ 100 (total, all, total, (ws.length : Int), 0, ws, ls, []) ⟨0, [], fun _ => 0, by omega, by simp [S], ⟨rfl, fun i h => by omega, fun i j h => by omega, fun a h => by omega, fun i h => by omega⟩, fun i a b => by omega⟩ (by simp only; omega)
  rintro rec _ ⟨i, c, o, h, rfl, hg, hh⟩ ih
  simp only [br_ite, Int.toNat_natCast]
  by_cases hi : (i : Int) < (ws.length : Int)
  · have hwi := hok i (by omega)
    have hgi := hge i (by omega)
    unfold okAt at hwi
    unfold gf at hgi
    have hB : ∀ a, a < ws.length → 0 ≤ B0 total all (gf ws) a ∧ B0 total all (gf ws) a ≤ total := fun a ha => B0_bd h0 h1 (by have := hok a ha; unfold okAt at this; unfold gf; omega) (hge a ha) (by omega)
    have hp := Int.mul_nonneg h0 (by omega : 0 ≤ ws.getD i 0)
    have hp2 : total * ws.getD i 0 ≤ 1048576 * 1000 := Int.mul_le_mul h1 hwi.2.1 (by omega) (by omega)
    have hs := S_bd (f := B0 total all (gf ws)) (k := 1048576) i (fun a ha => by have := hB a (by omega); omega)
    have hbi := hB i (by omega)
    have w2 : IntKind.i64.wrap ((i : Int) + 1) = ((i + 1 : Nat) : Int) := by rw [wid (by omega) (by omega)]; omega
    have w3 : IntKind.i64.wrap (total * ws.getD i 0) = total * ws.getD i 0 := wid (by omega) (by omega)
    have w4 : IntKind.i64.wrap ((total * ws.getD i 0).tdiv all) = B0 total all (gf ws) i := IntWalk.i64_quo _ _ ⟨hp, by omega, by omega⟩
    have hbd : Bd (i + 1) (gf ws) (gf ls) (B0 total all (gf ws)) := ⟨by omega, fun a ha => (hok a (by omega)).1, fun a ha => (hok a (by omega)).2.1, fun a ha => (hok a (by omega)).2.2.1, fun a ha => (hok a (by omega)).2.2.2,
      fun a ha => (hB a (by omega)).1, fun a ha => by have := (hB a (by omega)).2; omega⟩
    obtain ⟨c', o', e, hg', hh'⟩ := push_ok hbd hg hh
    have e' : heap_Push 100 (i : Int) (ws.getD i 0) (ls.getD i 0) (B0 total all (gf ws) i) c = some c' := e
    rw [if_pos hi, need_t (by omega), need_t (by omega), need_t (by omega)]
    simp only [w3, w4, e', Option.bind_some, w2]
    have w5 : IntKind.i64.wrap (total - S (B0 total all (gf ws)) i - B0 total all (gf ws) i) = total - S (B0 total all (gf ws)) (i + 1) := by rw [wid (by omega) (by omega), S_succ]; omega
    rw [w5]
    exact ih _ ⟨i + 1, c', o', by omega, rfl, hg', hh'⟩ (by simp only; omega)
  · rw [if_neg hi]
    have e : i = ws.length := by omega
    subst e
    exact ⟨_, rfl, c, o, rfl, hg, hh⟩

/-- the best claim gets one more bit -/
theorem share_step {t : Nat} {W L B : Nat → Int} (hb : Bd t W L B) (hb2 : ∀ a, a < t → B a ≤ 1048675) (ht : 0 < t) {c : List (List Int)} {o : Nat → Nat} (hg : Gd t W L B c o) (hh : HP t W L B o) :
    ∃ c' o', heap_Fix 100 0 (c.set 0 ((c.getD 0 []).set 3 (IntKind.i64.wrap (((c.getD 0 []).getD 3 0) + 1)))) = some c' ∧ Gd t W L (upd B (am W L B t)) c' o' ∧ HP t W L (upd B (am W L B t)) o' ∧ Bd t W L (upd B (am W L B t)) := by
  have hr : o 0 = am W L B t := by
    obtain ⟨k, rfl⟩ : ∃ k, t = k + 1 := ⟨t - 1, by omega⟩
    have a1 := am_lt W L B k
    obtain ⟨i, hi, e⟩ := hg.sur _ a1
    have r1 := root_best hh i i (Nat.le_refl _) hi
    have r2 := am_best W L B (k + 1) (o 0) (hg.lt 0 ht)
    rw [e] at r1
    unfold prior at r1 r2; omega
  rw [← hr]
  have hbu : Bd t W L (upd B (o 0)) := ⟨hb.n, hb.w1, hb.w2, hb.l1, hb.l2, fun a ha => by have := hb.b1 a ha; unfold upd; split <;> omega, fun a ha => by have := hb2 a ha; unfold upd; split <;> omega⟩
  have h0 := hg.get 0 ht
  have b0 := hb.b1 _ (hg.lt 0 ht)
  have b1 := hb.b2 _ (hg.lt 0 ht)
  have hl := hg.len
  have ec : (c.getD 0 []).set 3 (IntKind.i64.wrap (((c.getD 0 []).getD 3 0) + 1)) = cm W L (upd B (o 0)) (o 0) := by
    rw [h0]
    have : IntKind.i64.wrap (B (o 0) + 1) = upd B (o 0) (o 0) := by unfold upd; rw [if_pos rfl]; exact wid (by omega) (by omega)
    simp only [cm, List.getD_cons_zero, List.getD_cons_succ, this, List.set_cons_succ, List.set_cons_zero]
  rw [ec]
  have hg' : Gd t W L (upd B (o 0)) (c.set 0 (cm W L (upd B (o 0)) (o 0))) o := by
    refine ⟨by simp [hl], hg.lt, hg.inj, hg.sur, fun i hi => ?_⟩
    have g := hg.get i hi
    have e0 : ∀ (l : List (List Int)) (k : Nat), l.getD k [] = (l[k]?).getD [] := fun l k => rfl
    rw [e0] at g ⊢
    simp only [List.getElem?_set, hl]
    by_cases h : i = 0
    · subst h; simp [ht]
    · rw [if_neg (fun e => h e.symm), g]
      have : o i ≠ o 0 := fun e => h (hg.inj i 0 hi ht e)
      unfold cm upd; rw [if_neg this]
  obtain ⟨c', o', e, g', hh'⟩ := fix_ok hbu ht hg' (fun m a b d => by
    have h1 : o m ≠ o 0 := fun e => by have := hg.inj m 0 b ht e; omega
    have h2 : o ((m - 1) / 2) ≠ o 0 := fun e => by have := hg.inj _ 0 (by omega) ht e; omega
    rw [prior_upd h1 h2]
    exact hh m a b)
  exact ⟨c', o', e, g', hh', hbu⟩
end Go.Proofs.Ytdimjdlomgpbgaa.Pure
