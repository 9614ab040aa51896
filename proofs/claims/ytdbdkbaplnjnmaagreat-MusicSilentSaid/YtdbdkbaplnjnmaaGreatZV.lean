/- mdct.Inverse of noughts is noughts: plain laws of the Lean functions. Conditions: those of each statement. -/
import Derived.Test.YtdbdkbaplnjnmaaGreatZQb
set_option linter.unusedVariables false
set_option linter.unusedSimpArgs false
namespace Go.Proofs.YtdbdkbaplnjnmaaGreat
open Go Go.Ab Go.Proofs

theorem wr {x : Int} (h1 : -9223372036854775808 ≤ x) (h2 : x ≤ 9223372036854775807) : IntKind.i64.wrap x = x := by
  simp only [IntKind.wrap, IntKind.bits, IntKind.signed]
  first | (simp; omega) | omega
theorem getD_rep (n i : Nat) : (List.replicate n (0 : Int)).getD i 0 = 0 := by
  rw [List.getD_eq_getElem?_getD, List.getElem?_replicate]; split <;> rfl
theorem set_rep (n i : Nat) : (List.replicate n (0 : Int)).set i 0 = List.replicate n 0 := by
  apply List.ext_getElem?
  intro j
  rw [List.getElem?_set]
  split
  · rename_i h
    subst h
    simp only [List.length_replicate, List.getElem?_replicate]
  · rfl
theorem l0_succ (k fu : Nat) (d) : mdct_Inverse_l0 k (fu + 1) d = mdct_Inverse_l0F k (mdct_Inverse_l0 k fu) d := rfl
theorem l4_succ (k fu : Nat) (d) : mdct_Inverse_l4 k (fu + 1) d = mdct_Inverse_l4F k (mdct_Inverse_l4 k fu) d := rfl
theorem l2_succ (k fu : Nat) (d) : mdct_Inverse_l2 k (fu + 1) d = mdct_Inverse_l2F k (mdct_Inverse_l2 k fu) d := rfl
theorem l0_run (k n : Nat) (shape : List Int) (hn : n ≤ 480) : ∀ (m i fu : Nat), i + m = n → m < fu → mdct_Inverse_l0 k fu (n, n, i, List.replicate n 0, shape, List.replicate n 0) = some ((n : Int), List.replicate n 0, shape, List.replicate n 0)
  | m, i, 0, _, h => by omega
  | 0, i, fu + 1, h1, _ => by
    rw [l0_succ]
    unfold mdct_Inverse_l0F
    simp only
    rw [decide_eq_false (by omega)]
    rfl
  | m + 1, i, fu + 1, h1, h2 => by
    rw [l0_succ]
    unfold mdct_Inverse_l0F
    simp only [List.length_replicate]
    rw [decide_eq_true (by omega : (i : Int) < n), need_mk (by omega), clamp_eq, getD_rep]
    have e0 : clampI 0 (-17179869184) 17179869184 = 0 := by decide
    rw [e0]
    simp only [Option.bind_some]
    show need _ _ = _
    rw [need_mk (by omega), wr (by omega) (by omega), set_rep]
    exact l0_run k n shape hn m (i + 1) fu (by omega) (by omega)
theorem l4_run (k n : Nat) (n0 j t51 t52 : Int) (b0 shape c out : List Int) (hn : n ≤ 480) (hc : c.length ≤ 100000) (step : Int) (s0 : 0 ≤ step) (s1 : step < c.length) : ∀ (m i fu : Nat) (p : Int), i + m = n → m < fu → 0 ≤ p → p < c.length → mdct_Inverse_l4 k fu (n0, j, 0, p, step, t51, t52, n, i, b0, shape, List.replicate n 0, c, out) = some (n0, j, 0, t51, t52, b0, shape, List.replicate n 0, c, out)
  | m, i, 0, p, _, h, _, _ => by omega
  | 0, i, fu + 1, p, h1, _, _, _ => by
    rw [l4_succ]
    unfold mdct_Inverse_l4F
    simp only
    rw [decide_eq_false (by omega)]
    rfl
  | m + 1, i, fu + 1, p, h1, h2, p0, p1 => by
    rw [l4_succ]
    unfold mdct_Inverse_l4F
    simp only [List.length_replicate]
    rw [decide_eq_true (by omega : (i : Int) < n), getD_rep]
    show need _ (need _ _) = _
    rw [need_mk (by omega), need_mk (by omega)]
    have e0 : IntKind.i64.wrap (0 + IntKind.i64.wrap (0 * c.getD p.toNat 0)) = 0 := by
      rw [Int.zero_mul]; decide
    rw [e0, wr (x := p + step) (by omega) (by omega), wr (x := (i : Int) + 1) (by omega) (by omega)]
    by_cases h : (c.length : Int) ≤ p + step
    · rw [decide_eq_true h, wr (by omega) (by omega)]
      exact l4_run k n n0 j t51 t52 b0 shape c out hn hc step s0 s1 m (i + 1) fu _ (by omega) (by omega) (by omega) (by omega)
    · rw [decide_eq_false h]
      exact l4_run k n n0 j t51 t52 b0 shape c out hn hc step s0 s1 m (i + 1) fu _ (by omega) (by omega) (by omega) (by omega)
theorem mul_nought (x : Int) : mulH x 0 15 = 0 := by
  have e : mulI (facI x) (facI 0) = 0 := by rw [mulI_eq, show facI 0 = 0 by decide, Int.mul_zero]
  show shrI (addI (mulI (facI x) (facI 0)) (.ofNat (Nat.pow 2 (Nat.sub 15 1)))) 15 = 0
  rw [e]; decide
theorem l2_run (k n : Nat) (b0 shape c : List Int) (h1 : 1 ≤ n) (hn : n ≤ 480) (hk : n < k) (hs : shape.length = 2 * n) (hc : c.length = 8 * n) : ∀ (m i fu : Nat), i + m = 2 * n → m < fu → mdct_Inverse_l2 k fu (n, ((2 * n : Nat) : Int), i, b0, shape, List.replicate n 0, c, List.replicate (2 * n) 0) = some (b0, List.replicate (2 * n) 0)
  | m, i, 0, _, h => by omega
  | 0, i, fu + 1, e1, _ => by
    rw [l2_succ]
    unfold mdct_Inverse_l2F
    simp only
    rw [decide_eq_false (by omega)]
    rfl
  | m + 1, i, fu + 1, e1, e2 => by
    rw [l2_succ]
    unfold mdct_Inverse_l2F
    simp only [List.length_replicate]
    rw [decide_eq_true (by omega : (i : Int) < ((2 * n : Nat) : Int))]
    rw [wr (x := 8 * (n : Int)) (by omega) (by omega), wr (x := 2 * (i : Int)) (by omega) (by omega), wr (x := 2 * (i : Int) + 1) (by omega) (by omega), wr (x := 2 * (i : Int) + 1 + n) (by omega) (by omega), wr (x := 2 * (2 * (i : Int) + 1 + n)) (by omega) (by omega)]
    show need _ (need _ _) = _
    rw [need_mk (by omega), need_mk (by omega)]
    have q1 : 0 ≤ (2 * (i : Int) + 1 + n).tmod (8 * n) := Int.tmod_nonneg _ (by omega)
    have q2 : (2 * (i : Int) + 1 + n).tmod (8 * n) < 8 * n := Int.tmod_lt_of_pos _ (by omega)
    have q3 : 0 ≤ (2 * (2 * (i : Int) + 1 + n)).tmod (8 * n) := Int.tmod_nonneg _ (by omega)
    have q4 : (2 * (2 * (i : Int) + 1 + n)).tmod (8 * n) < 8 * n := Int.tmod_lt_of_pos _ (by omega)
    rw [show (0 : Int) = ((0 : Nat) : Int) from rfl]
    rw [show ((0 : Nat) : Int) = 0 from rfl]
    have r := l4_run k n n i (2 * n : Nat) i b0 shape c (List.replicate (2 * n) 0) hn (by omega) ((2 * (2 * (i : Int) + 1 + n)).tmod (8 * n)) q3 (by omega) n 0 k ((2 * (i : Int) + 1 + n).tmod (8 * n)) (by omega) hk q1 (by omega)
    have r' : mdct_Inverse_l4 k k (↑n, ↑i, 0, (2 * (i : Int) + 1 + n).tmod (8 * n), (2 * (2 * (i : Int) + 1 + n)).tmod (8 * n), ((2 * n : Nat) : Int), ↑i, ↑n, 0, b0, shape, List.replicate n 0, c, List.replicate (2 * n) 0) = _ := r
    rw [r']
    simp only [Option.bind_some, List.length_replicate]
    rw [need_mk (by omega)]
    have d1 : mdct_down (IntKind.i64.wrap (IntKind.i64.wrap (2 * 0) + IntKind.i64.wrap (16384 * (n : Int)))) (IntKind.i64.wrap (32768 * (n : Int))) = some 0 := by
      rw [wr (x := 2 * 0) (by omega) (by omega), wr (x := 16384 * (n : Int)) (by omega) (by omega), wr (x := 32768 * (n : Int)) (by omega) (by omega), wr (by omega) (by omega)]
      unfold mdct_down
      have t1 : (2 * 0 + 16384 * (n : Int)).tmod (32768 * n) = 16384 * n := by rw [Int.tmod_eq_of_lt (by omega) (by omega)]; omega
      have t2 : (2 * 0 + 16384 * (n : Int)).tdiv (32768 * n) = 0 := Int.tdiv_eq_zero_of_lt (by omega) (by omega)
      rw [need_mk (by omega), need_mk (by omega), t1, t2, decide_eq_false (by omega)]
      rfl
    rw [d1]
    simp only [Option.bind_some]
    rw [clamp_eq]
    have c1 : clampI 0 (-16777216) 16777216 = 0 := by decide
    simp only [Option.bind_some, c1]
    rw [mul_eq, mul_nought]
    simp only [Option.bind_some]
    rw [need_mk (by omega), set_rep, wr (by omega) (by omega)]
    exact l2_run k n b0 shape c h1 hn hk hs hc m (i + 1) fu (by omega) (by omega)
theorem inverse_nought (k n l : Nat) (h1 : 1 ≤ n) (hn : n ≤ 480) (hk : 2 * n + 1 < k) (hS : ∃ s, mdct_Shape k n l = some (.inr (0, s)) ∧ s.length = 2 * n) (hW : ∃ c, mdct_waves k n = some c ∧ c.length = 8 * n) : mdct_Inverse k l (List.replicate n 0) = some (0, List.replicate n 0, List.replicate (2 * n) 0) := by
  obtain ⟨s, s1, s2⟩ := hS
  obtain ⟨c, c1, c2⟩ := hW
  unfold mdct_Inverse
  rw [List.length_replicate, s1]
  simp only [Option.bind_some]
  have e : mdct_Inverse_c3 k ((n : Int), 0, List.replicate n 0, s) = some (0, List.replicate n 0, List.replicate (2 * n) 0) := by
    unfold mdct_Inverse_c3
    simp only [List.length_replicate]
    show need _ _ = _
    rw [need_mk ⟨by omega, trivial, by omega, by omega⟩, Int.toNat_natCast]
    have r := l0_run k n s hn n 0 k (Nat.zero_add n) (by omega)
    have r' : mdct_Inverse_l0 k k (↑n, ↑n, 0, List.replicate n 0, s, List.replicate n 0) = _ := r
    rw [r']
    simp only [Option.bind_some]
    rw [c1]
    simp only [Option.bind_some]
    rw [wr (x := 2 * (n : Int)) (by omega) (by omega), need_mk ⟨by omega, trivial, by omega, by omega⟩, show (2 * (n : Int)).toNat = 2 * n by omega]
    have r2 := l2_run k n (List.replicate n 0) s c h1 hn (by omega) s2 c2 (2 * n) 0 k (Nat.zero_add _) (by omega)
    have r2' : mdct_Inverse_l2 k k (↑n, ((2 * n : Nat) : Int), 0, List.replicate n 0, s, List.replicate n 0, c, List.replicate (2 * n) 0) = _ := r2
    rw [r2']
    rfl
  rw [e]
  rfl
def isShape (o : Option (Int ⊕ (Int × List Int))) (m : Nat) : Bool := match o with
  | some (.inr (e, s)) => decide (e = 0) && Nat.beq s.length m
  | _ => false
theorem isShape_spec {o : Option (Int ⊕ (Int × List Int))} {m : Nat} (h : isShape o m = true) : ∃ s, o = some (.inr (0, s)) ∧ s.length = m := by
  unfold isShape at h
  split at h
  · rename_i e s
    simp only [Bool.and_eq_true, decide_eq_true_eq] at h
    obtain ⟨rfl, h2⟩ := h
    exact ⟨s, rfl, Nat.eq_of_beq_eq_true h2⟩
  · cases h
def isWaves (o : Option (List Int)) (m : Nat) : Bool := match o with
  | some s => Nat.beq s.length m
  | _ => false
theorem isWaves_spec {o : Option (List Int)} {m : Nat} (h : isWaves o m = true) : ∃ s, o = some s ∧ s.length = m := by
  unfold isWaves at h
  split at h
  · rename_i s
    exact ⟨s, rfl, Nat.eq_of_beq_eq_true h⟩
  · cases h
theorem shape160_20 : isShape (mdct_Shape 1300 160 20) 320 = true := by kernel_rfl
theorem shape160_40 : isShape (mdct_Shape 1300 160 40) 320 = true := by kernel_rfl
theorem shape80_20 : isShape (mdct_Shape 1300 80 20) 160 = true := by kernel_rfl
theorem shape20_20 : isShape (mdct_Shape 1300 20 20) 40 = true := by kernel_rfl
theorem shape40_20 : isShape (mdct_Shape 1300 40 20) 80 = true := by kernel_rfl
theorem shape40_40 : isShape (mdct_Shape 1300 40 40) 80 = true := by kernel_rfl
theorem sl0_succ (k fu : Nat) (d) : fix_series_l0 k (fu + 1) d = fix_series_l0F k (fix_series_l0 k fu) d := rfl
theorem series_run (k n o : Nat) (z : Int) (l : List Int) (hn : n ≤ 100) : ∀ (m i fu : Nat) (s : Int), i + m = n → m < fu → ∃ s', fix_series_l0 k fu (z, s, o, n, n, i, l) = some (s', l)
  | m, i, 0, s, _, h => by omega
  | 0, i, fu + 1, s, h1, _ => by
    rw [sl0_succ]
    unfold fix_series_l0F
    simp only
    rw [decide_eq_false (by omega)]
    exact ⟨s, rfl⟩
  | m + 1, i, fu + 1, s, h1, h2 => by
    rw [sl0_succ]
    unfold fix_series_l0F
    simp only
    rw [decide_eq_true (by omega : (i : Int) < n), need_mk (by omega), mul_eq]
    simp only [Option.bind_some]
    rw [wr (x := (i : Int) + 1) (by omega) (by omega)]
    exact series_run k n o z l hn m (i + 1) fu _ (by omega) (by omega)
theorem series_some (k : Nat) (z : Int) (l : List Int) (h1 : 1 ≤ l.length) (h2 : l.length ≤ 100) (hk : l.length < k) : ∃ s, fix_series k z l = some (s, l) := by
  unfold fix_series
  have e1 : ((l.length : Int) - 1).toNat = l.length - 1 := by omega
  obtain ⟨s, hs⟩ := series_run k (l.length - 1) 1 z l (by omega) (l.length - 1) 0 k (l.getD 0 0) (by omega) (by omega)
  refine ⟨s, ?_⟩
  rw [need_mk (by omega), need_mk (by omega), e1]
  have hs' : fix_series_l0 k k (z, l.getD 0 0, 1, l.length - 1, ((l.length - 1 : Nat) : Int), 0, l) = _ := hs
  rw [hs']; rfl
theorem c7_some (k : Nat) (hk : 6 < k) (d) : ∃ r, fix_Cos_c7 k d = some r := by
  obtain ⟨a, t⟩ := d
  unfold fix_Cos_c7
  simp only [mul_eq, Option.bind_some]
  cases decide (a ≤ 8192) with
  | true =>
    obtain ⟨s, hs⟩ := series_some k (mulH (mulH a 1686629713 14) (mulH a 1686629713 14) 30) [(-296), 26631, (-1491308), 44739243, (-536870912), 1073741824] (by decide) (by decide) hk
    simp only [br, hs, Option.bind_some]
    cases t <;> exact ⟨_, rfl⟩
  | false =>
    obtain ⟨s, hs⟩ := series_some k (mulH (mulH (IntKind.i64.wrap (16384 - a)) 1686629713 14) (mulH (IntKind.i64.wrap (16384 - a)) 1686629713 14) 30) [2959, (-213044), 8947849, (-178956971), 1073741824] (by decide) (by decide) (by show 5 < k; omega)
    simp only [br, hs, Option.bind_some]
    cases t <;> exact ⟨_, rfl⟩
theorem c4_some (k : Nat) (hk : 6 < k) (a : Int) : ∃ r, fix_Cos_c4 k a = some r := by
  unfold fix_Cos_c4
  cases h : decide (16384 < a) with
  | true =>
    obtain ⟨r, hr⟩ := c7_some k hk (IntKind.i64.wrap (32768 - a), true)
    simp only [br, h, hr, Option.bind_some]
    exact ⟨_, rfl⟩
  | false =>
    obtain ⟨r, hr⟩ := c7_some k hk (a, false)
    simp only [br, h, hr, Option.bind_some]
    exact ⟨_, rfl⟩
theorem cos_some (k : Nat) (hk : 6 < k) (a : Int) : ∃ r, fix_Cos k a = some r := by
  unfold fix_Cos
  generalize IntKind.i64.wrap ((BitVec.ofInt 64 a &&& BitVec.ofInt 64 65535).toNat : Int) = b
  cases decide (32768 < b) with
  | true =>
    obtain ⟨r, hr⟩ := c4_some k hk (IntKind.i64.wrap (65536 - b))
    simp only [br, hr, Option.bind_some]
    exact ⟨_, rfl⟩
  | false =>
    obtain ⟨r, hr⟩ := c4_some k hk b
    simp only [br, hr, Option.bind_some]
    exact ⟨_, rfl⟩
theorem wl0_succ (k fu : Nat) (d) : mdct_waves_l0 k (fu + 1) d = mdct_waves_l0F k (mdct_waves_l0 k fu) d := rfl
theorem wavesL_run (k n : Nat) (hk : 6 < k) (h1 : 1 ≤ n) (L : Nat) (hL : L ≤ 100000) : ∀ (m i fu : Nat) (out : List Int), out.length = L → i + m = L → m < fu → ∃ c, mdct_waves_l0 k fu (n, L, i, out) = some c ∧ c.length = L
  | m, i, 0, out, _, _, h => by omega
  | 0, i, fu + 1, out, ho, h2, _ => by
    rw [wl0_succ]
    unfold mdct_waves_l0F
    simp only
    rw [decide_eq_false (by omega)]
    exact ⟨out, rfl, ho⟩
  | m + 1, i, fu + 1, out, ho, h2, h3 => by
    rw [wl0_succ]
    unfold mdct_waves_l0F
    simp only
    rw [decide_eq_true (by omega : (i : Int) < L)]
    show ∃ c, need _ _ = some c ∧ _
    rw [need_mk (by omega)]
    obtain ⟨r, hr⟩ := cos_some k hk (IntKind.i64.wrap ((IntKind.i64.wrap ((IntKind.i64.wrap ((IntKind.i64.wrap ((IntKind.i64.wrap ((i : Int) * 65536)).tdiv 4)).tdiv n)) + 1)).tdiv 2))
    rw [hr]
    simp only [Option.bind_some]
    rw [need_mk (by omega), wr (x := (i : Int) + 1) (by omega) (by omega)]
    exact wavesL_run k n hk h1 L hL m (i + 1) fu _ (by simp [ho]) (by omega) (by omega)
theorem waves_some (k n : Nat) (hk : 6 < k) (h1 : 1 ≤ n) (h2 : n ≤ 480) (h3 : 8 * n < k) : ∃ c, mdct_waves k n = some c ∧ c.length = 8 * n := by
  unfold mdct_waves
  rw [wr (x := 8 * (n : Int)) (by omega) (by omega), need_mk ⟨by omega, rfl, by omega, by omega⟩, show (8 * (n : Int)).toNat = 8 * n by omega]
  obtain ⟨c, c1, c2⟩ := wavesL_run k n hk h1 (8 * n) (by omega) (8 * n) 0 k (List.replicate (8 * n) 0) (by simp) (by omega) h3
  refine ⟨c, ?_, c2⟩
  simp only [List.length_replicate]
  have c1' : mdct_waves_l0 k k (↑n, ((8 * n : Nat) : Int), 0, List.replicate (8 * n) 0) = _ := c1
  rw [c1']; rfl
theorem inverse160_20 : mdct_Inverse 1300 20 (List.replicate 160 0) = some (0, List.replicate 160 0, List.replicate 320 0) := inverse_nought 1300 160 20 (by omega) (by omega) (by omega) (isShape_spec shape160_20) (waves_some 1300 160 (by omega) (by omega) (by omega) (by omega))
theorem inverse160_40 : mdct_Inverse 1300 40 (List.replicate 160 0) = some (0, List.replicate 160 0, List.replicate 320 0) := inverse_nought 1300 160 40 (by omega) (by omega) (by omega) (isShape_spec shape160_40) (waves_some 1300 160 (by omega) (by omega) (by omega) (by omega))
theorem inverse80_20 : mdct_Inverse 1300 20 (List.replicate 80 0) = some (0, List.replicate 80 0, List.replicate 160 0) := inverse_nought 1300 80 20 (by omega) (by omega) (by omega) (isShape_spec shape80_20) (waves_some 1300 80 (by omega) (by omega) (by omega) (by omega))
theorem inverse20_20 : mdct_Inverse 1300 20 (List.replicate 20 0) = some (0, List.replicate 20 0, List.replicate 40 0) := inverse_nought 1300 20 20 (by omega) (by omega) (by omega) (isShape_spec shape20_20) (waves_some 1300 20 (by omega) (by omega) (by omega) (by omega))
theorem inverse40_20 : mdct_Inverse 1300 20 (List.replicate 40 0) = some (0, List.replicate 40 0, List.replicate 80 0) := inverse_nought 1300 40 20 (by omega) (by omega) (by omega) (isShape_spec shape40_20) (waves_some 1300 40 (by omega) (by omega) (by omega) (by omega))
theorem inverse40_40 : mdct_Inverse 1300 40 (List.replicate 40 0) = some (0, List.replicate 40 0, List.replicate 80 0) := inverse_nought 1300 40 40 (by omega) (by omega) (by omega) (isShape_spec shape40_40) (waves_some 1300 40 (by omega) (by omega) (by omega) (by omega))
end Go.Proofs.YtdbdkbaplnjnmaaGreat
