/- Plain laws of the Lean functions, or the contract of a function of the library. Conditions: those of each statement. -/
import Derived.Test.YtblaikeffnpagaaR4
set_option linter.unusedVariables false
set_option linter.unusedSimpArgs false
namespace Go.Proofs.Ytblaikeffnpagaa.Pure
open Go Go.Ab

theorem awake_ok : madrigallaw23_awake 5000 = some true := by kernel_rfl
theorem same_l0 (k : Nat) {a : List Int} (ha : a.length ≤ 10000000) : ∀ r K i, i + r = a.length → r < K → madrigallaw23_same_l0 k K ((i : Int), a, a) = some (.inl (a, a)) := by
  intro r
  induction r with
  | zero =>
    intro K i hi hK
    obtain ⟨K, rfl⟩ : ∃ m, K = m + 1 := ⟨K - 1, by omega⟩
    rw [show madrigallaw23_same_l0 k (K + 1) = madrigallaw23_same_l0F k (madrigallaw23_same_l0 k K) from rfl]
    unfold madrigallaw23_same_l0F
    simp only
    rw [br_n (by omega)]
  | succ r ih =>
    intro K i hi hK
    obtain ⟨K, rfl⟩ : ∃ m, K = m + 1 := ⟨K - 1, by omega⟩
    rw [show madrigallaw23_same_l0 k (K + 1) = madrigallaw23_same_l0F k (madrigallaw23_same_l0 k K) from rfl]
    unfold madrigallaw23_same_l0F
    simp only
    rw [br_y (by omega), need_t (by omega), need_t (by omega), br_f (by simp), wid (by omega) (by omega), show ((i : Int) + 1) = ((i + 1 : Nat) : Int) by omega]
    exact ih K (i + 1) (by omega) (by omega)
theorem same_ok {k : Nat} {a : List Int} (ha : a.length < k) (hk : k ≤ 10000000) : madrigallaw23_same k a a = some (true, a, a) := by
  unfold madrigallaw23_same
  rw [br_f (by simp), show (0 : Int) = ((0 : Nat) : Int) from rfl, same_l0 k (by omega) a.length k 0 (Nat.zero_add _) ha]
  rfl
theorem made_zero (n lag : Nat) (g : Int) (h : Nat) : made (List.replicate h 0) lag g n = List.replicate n 0 := by
  refine ext_getD (by rw [made_len]; simp) fun j hj => ?_
  rw [made_len] at hj
  have e : (List.replicate h (0 : Int)).getD (h - lag + j % lag) 0 = 0 := by
    simp only [List.getD_eq_getElem?_getD, List.getElem?_replicate]
    split <;> rfl
  rw [made_get hj, List.length_replicate, e]
  simp [m15, s16, List.getD_eq_getElem?_getD, List.getElem?_replicate, hj]

theorem PlcKnown : ∃ k, madrigallaw23_PlcKnown k = some true := by
  refine ⟨5000, ?_⟩
  unfold madrigallaw23_PlcKnown
  rw [awake_ok, bind_s, br_f (b := !true) rfl, new_bad (by decide), bind_s]
  simp only
  have hr : rateOk 48000 := by decide
  have h0 := new_mok hr
  obtain ⟨e, _, _⟩ := make_ok (k := 5000) (by omega) h0 (n := 100) (by omega)
  rw [show ((100 : Nat) : Int) = 100 from rfl, made_zero] at e
  have hc : plc_Cross 5000 [] [1] = some ([], [1], []) := by kernel_rfl
  unfold madrigallaw23_PlcKnown_c4
  simp only
  rw [new_ok hr, bind_s]
  simp only
  rw [make_bad (by omega), bind_s]
  simp only
  rw [make_bad (by omega), bind_s]
  rw [plc_Maker_Lost, bind_s]
  simp only
  rw [e, bind_s]
  simp only
  rw [br_y trivial, br_y trivial, br_y trivial, br_y trivial, br_y trivial, same_ok (by simp) (by omega), bind_s]
  simp only
  rw [br_t (b := true) rfl, hc, bind_s]
  simp only
  rw [br_t (by simp), soft_ok (by omega), bind_s]
  rfl

/-! made up samples are soft -/
theorem m15_bd {v g : Int} {t : Int} (hv : v.natAbs ≤ t.natAbs) (ht : 0 ≤ t) (hg : 0 ≤ g) : -m15 t g ≤ m15 v g ∧ m15 v g ≤ m15 t g ∧ 0 ≤ m15 t g := by
  have h1 : v * g ≤ t * g := Int.mul_le_mul_of_nonneg_right (by omega) hg
  have h2 : -t * g ≤ v * g := Int.mul_le_mul_of_nonneg_right (by omega) hg
  have h3 : 0 ≤ t * g := Int.mul_nonneg ht hg
  rw [Int.neg_mul] at h2
  unfold m15
  omega
theorem s16_in {z M : Int} (h1 : -M ≤ z) (h2 : z ≤ M) (hM : 0 ≤ M) : -M ≤ s16 z ∧ s16 z ≤ M := by
  unfold s16
  split <;> (try split) <;> omega
theorem made_in {m : List Int} {t : Int} (hm : ∀ v ∈ m, v.natAbs ≤ t.natAbs) (ht : 0 ≤ t) {lag : Nat} {g : Int} (hg : 0 ≤ g) {n j : Nat} (hj : j < n) : -m15 t g ≤ (made m lag g n).getD j 0 ∧ (made m lag g n).getD j 0 ≤ m15 t g := by
  rw [made_get hj]
  have hv : (m.getD (m.length - lag + j % lag) 0).natAbs ≤ t.natAbs := by
    by_cases h : m.length - lag + j % lag < m.length
    · simp only [List.getD_eq_getElem?_getD, List.getElem?_eq_getElem h, Option.getD_some]
      exact hm _ (List.getElem_mem _)
    · simp only [List.getD_eq_getElem?_getD]
      rw [List.getElem?_eq_none (by omega)]; simp
  obtain ⟨a, b, c⟩ := m15_bd hv ht hg
  exact s16_in a b c

theorem fades_l4 (k : Nat) {n : Nat} (hn : n ≤ 100) {many top kk most a b c : Int} {b0 m y : List Int} (hy : y.length = n) (hm : 0 ≤ most) (hm1 : most ≤ 100000) (h1 : ∀ j, j < n → -most ≤ y.getD j 0 ∧ y.getD j 0 ≤ most ∧ (40 < kk → y.getD j 0 = 0)) : ∀ r K i, i + r = n → r < K →
    madrigallaw23_PlcFades_l4 k K ((n : Int), many, top, kk, most, (i : Int), b0, a, b, c, y, m) = some (.inl ((n : Int), many, top, kk, b0, a, b, c, m)) := by
  intro r
  induction r with
  | zero =>
    intro K i hi hK
    obtain ⟨K, rfl⟩ : ∃ m, K = m + 1 := ⟨K - 1, by omega⟩
    rw [show madrigallaw23_PlcFades_l4 k (K + 1) = madrigallaw23_PlcFades_l4F k (madrigallaw23_PlcFades_l4 k K) from rfl]
    unfold madrigallaw23_PlcFades_l4F
    simp only
    rw [br_n (by omega)]
  | succ r ih =>
    intro K i hi hK
    obtain ⟨K, rfl⟩ : ∃ m, K = m + 1 := ⟨K - 1, by omega⟩
    rw [show madrigallaw23_PlcFades_l4 k (K + 1) = madrigallaw23_PlcFades_l4F k (madrigallaw23_PlcFades_l4 k K) from rfl]
    unfold madrigallaw23_PlcFades_l4F
    simp only
    obtain ⟨q1, q2, q3⟩ := h1 i (by omega)
    have hrec := ih K (i + 1) (by omega) (by omega)
    rw [br_y (by omega), need_t (by omega), Int.toNat_natCast, br_n (by omega), need_t (by omega), wid (x := 0 - most) (by omega) (by omega), br_n (by omega), wid (by omega) (by omega), show ((i : Int) + 1) = ((i + 1 : Nat) : Int) by omega]
    by_cases hk : 40 < kk
    · rw [br_y hk, need_t (by omega), q3 hk, br_f (by simp)]; exact hrec
    · rw [br_n hk]; exact hrec
theorem fades_l2 {k : Nat} (hk : 5000 ≤ k) {n : Nat} (hn : n ≤ 100) {many top r : Int} {b0 m : List Int} (hmany : many ≤ 60) (ht0 : 0 ≤ top) (ht1 : top ≤ 32768) (hm : ∀ v ∈ m, v.natAbs ≤ top.natAbs) : ∀ q K kk (lag : Int), kk + q = many.toNat + 1 → q < K → 1 ≤ kk → 0 ≤ many → MOk r ((kk : Int) - 1) lag m →
    ∃ lost lag2, madrigallaw23_PlcFades_l2 k K ((n : Int), many, top, (kk : Int), b0, r, (kk : Int) - 1, lag, m) = some (.inl (b0, r, lost, lag2, m)) ∧ MOk r lost lag2 m := by
  intro q
  induction q with
  | zero =>
    intro K kk lag hi hK h1 h2 hok
    obtain ⟨K, rfl⟩ : ∃ m, K = m + 1 := ⟨K - 1, by omega⟩
    rw [show madrigallaw23_PlcFades_l2 k (K + 1) = madrigallaw23_PlcFades_l2F k (madrigallaw23_PlcFades_l2 k K) from rfl]
    unfold madrigallaw23_PlcFades_l2F
    simp only
    rw [br_n (by omega)]
    exact ⟨_, _, rfl, hok⟩
  | succ q ih =>
    intro K kk lag hi hK h1 h2 hok
    obtain ⟨K, rfl⟩ : ∃ m, K = m + 1 := ⟨K - 1, by omega⟩
    rw [show madrigallaw23_PlcFades_l2 k (K + 1) = madrigallaw23_PlcFades_l2F k (madrigallaw23_PlcFades_l2 k K) from rfl]
    unfold madrigallaw23_PlcFades_l2F
    simp only
    obtain ⟨e, hok2, hl1⟩ := make_ok hk hok (n := n) (by omega)
    have hmore : more ((kk : Int) - 1) = (kk : Int) := by unfold more; rw [if_neg (by omega)]; omega
    rw [hmore] at e hok2
    have hs := sft_bd (kk : Int)
    rw [br_y (by omega), e, bind_s]
    simp only
    obtain ⟨_, _, hmt⟩ := m15_bd (v := top) (g := sft (kk : Int)) (t := top) (by omega) ht0 hs.1
    have hup : m15 top (sft (kk : Int)) ≤ 32768 := by
      have : top * sft (kk : Int) ≤ 32768 * 32768 := Int.mul_le_mul ht1 hs.2 hs.1 (by omega)
      unfold m15; omega
    rw [br_f (by simp), br_f (by rw [made_len]; simp)]
    simp only [plc_Maker_Lost, bind_s]
    rw [br_f (by simp), soft_ok (by omega), bind_s, rmul15 ⟨by omega, by omega⟩ ⟨by omega, by omega⟩, bind_s, wid (x := m15 top _ + 1) (by omega) (by omega), show (0 : Int) = ((0 : Nat) : Int) from rfl,
      fades_l4 k hn (made_len _ _ _ _) (by omega) (by omega) (fun j hj => by
        obtain ⟨a, b⟩ := made_in (lag := (lag' r lag m).toNat) hm ht0 hs.1 hj
        refine ⟨by omega, by omega, fun h => ?_⟩
        rw [made_get hj]
        have : sft (kk : Int) = 0 := by unfold sft; rw [if_pos h]
        rw [this]; simp [m15, s16]) n k 0 (by omega) (by omega), bind_s]
    simp only
    rw [wid (by omega) (by omega), show ((kk : Int) + 1) = ((kk + 1 : Nat) : Int) by omega]
    have := ih K (kk + 1) (lag' r lag m) (by omega) (by omega) (by omega) h2 (by rw [show ((kk + 1 : Nat) : Int) - 1 = (kk : Int) by omega]; exact hok2)
    rw [show ((kk + 1 : Nat) : Int) - 1 = (kk : Int) by omega] at this
    exact this
theorem rsat_ok (a : Int) : madrigalref1_Sat16 a = some (s16 a) := by unfold madrigalref1_Sat16; rw [rclamp16]; rfl
theorem fades_l0 (k : Nat) {n many a b c : Int} {x m : List Int} (hx : x.length ≤ 1000) : ∀ r K i (top : Int), i + r = x.length → r < K → 0 ≤ top → top ≤ 32768 → (∀ j, j < i → (s16 (x.getD j 0)).natAbs ≤ top.natAbs) →
    ∃ t, madrigallaw23_PlcFades_l0 k K (n, many, top, (i : Int), x, a, b, c, m) = some (n, many, t, x, a, b, c, m) ∧ 0 ≤ t ∧ t ≤ 32768 ∧ (∀ j, j < x.length → (s16 (x.getD j 0)).natAbs ≤ t.natAbs) := by
  intro r
  induction r with
  | zero =>
    intro K i top hi hK h0 h1 h2
    obtain ⟨K, rfl⟩ : ∃ m, K = m + 1 := ⟨K - 1, by omega⟩
    rw [show madrigallaw23_PlcFades_l0 k (K + 1) = madrigallaw23_PlcFades_l0F k (madrigallaw23_PlcFades_l0 k K) from rfl]
    unfold madrigallaw23_PlcFades_l0F
    simp only
    rw [br_n (by omega)]
    exact ⟨top, rfl, h0, h1, fun j hj => h2 j (by omega)⟩
  | succ r ih =>
    intro K i top hi hK h0 h1 h2
    obtain ⟨K, rfl⟩ : ∃ m, K = m + 1 := ⟨K - 1, by omega⟩
    rw [show madrigallaw23_PlcFades_l0 k (K + 1) = madrigallaw23_PlcFades_l0F k (madrigallaw23_PlcFades_l0 k K) from rfl]
    unfold madrigallaw23_PlcFades_l0F
    simp only
    have hs := s16_bd (x.getD i 0)
    have st : ∀ t : Int, top ≤ t → (s16 (x.getD i 0)).natAbs ≤ t.natAbs → ∀ j, j < i + 1 → (s16 (x.getD j 0)).natAbs ≤ t.natAbs := fun t ht h j hj => by
      by_cases e : j = i
      · subst e; exact h
      · have := h2 j (by omega); omega
    rw [br_y (by omega), need_t (by omega), rsat_ok, bind_s, Int.toNat_natCast, wid (x := (i : Int) + 1) (by omega) (by omega), wid (x := 0 - s16 _) (by omega) (by omega), show ((i : Int) + 1) = ((i + 1 : Nat) : Int) by omega]
    by_cases c1 : s16 (x.getD i 0) < 0
    · rw [br_y c1]
      by_cases c2 : top < 0 - s16 (x.getD i 0)
      · rw [br_y c2]; exact ih K (i + 1) _ (by omega) (by omega) (by omega) (by omega) (st _ (by omega) (by omega))
      · rw [br_n c2]; exact ih K (i + 1) _ (by omega) (by omega) (by omega) (by omega) (st _ (by omega) (by omega))
    · rw [br_n c1]
      by_cases c2 : top < s16 (x.getD i 0)
      · rw [br_y c2]; exact ih K (i + 1) _ (by omega) (by omega) (by omega) (by omega) (st _ (by omega) (by omega))
      · rw [br_n c2]; exact ih K (i + 1) _ (by omega) (by omega) (by omega) (by omega) (st _ (by omega) (by omega))

theorem PlcFades : ∀ (rate : Int) (n : Int) (many : Int) (x : List Int), (Lit.int .i64 rate).wf = true → (Lit.int .i64 n).wf = true → (Lit.int .i64 many).wf = true → (∀ n ∈ x, (Lit.int .i64 n).wf = true) → x.length * 8 ≤ 140737488351232 → ∃ k, ∃ r1, madrigallaw23_PlcFades k rate n many x = some (true, r1) := by
  intro rate n many x _ _ _ _ _
  refine ⟨5000, x, ?_⟩
  unfold madrigallaw23_PlcFades
  rw [awake_ok, bind_s, br_f (b := !true) rfl, known_ok, bind_s]
  by_cases hr : rateOk rate
  · rw [br_f (nd_f hr)]
    by_cases h1 : 1000 < (x.length : Int)
    · rw [br_y h1]
    rw [br_n h1]
    by_cases h2 : n < 0
    · rw [br_y h2]
    rw [br_n h2]
    by_cases h3 : 100 < n
    · rw [br_y h3]
    rw [br_n h3]
    by_cases h4 : many < 0
    · rw [br_y h4]
    rw [br_n h4]
    by_cases h5 : 60 < many
    · rw [br_y h5]
    rw [br_n h5, new_ok hr, bind_s]
    simp only
    obtain ⟨n, rfl⟩ := Int.eq_ofNat_of_zero_le (show 0 ≤ n by omega)
    have hh := hgt_bd hr
    have hok := keep_mok (new_mok hr) x
    rw [br_f (by simp), keep_ok (by omega) (by omega) (by simp; omega) (by simp; omega), bind_s]
    simp only
    obtain ⟨t, e0, t0, t1, t2⟩ := fades_l0 5000 (n := (n : Int)) (many := many) (a := rate) (b := 0) (c := 0) (m := keep (List.replicate (hgt rate) 0) x) (x := x) (by omega) x.length 5000 0 0 (by omega) (by omega) (by omega) (by omega) (fun j h => by omega)
    rw [show ((0 : Nat) : Int) = 0 from rfl] at e0
    rw [e0, bind_s]
    simp only
    have hkb : ∀ v ∈ keep (List.replicate (hgt rate) 0) x, v.natAbs ≤ t.natAbs := keep_bd (fun v hv => by rw [(List.mem_replicate.1 hv).2]; simp) fun v hv => by
      obtain ⟨i, hi, rfl⟩ := List.mem_iff_getElem.1 hv
      have := t2 i hi
      simpa [List.getD_eq_getElem?_getD, hi] using this
    obtain ⟨lost, lag, e1, hok1⟩ := fades_l2 (k := 5000) (by omega) (n := n) (many := many) (top := t) (b0 := x) (by omega) (by omega) t0 t1 hkb many.toNat 5000 1 0 (by omega) (by omega) (by omega) (by omega) hok
    rw [show ((1 : Nat) : Int) = 1 from rfl, show (1 : Int) - 1 = 0 from rfl] at e1
    rw [e1, bind_s]
    simp only
    have hl := hok1.len
    rw [keep_ok (by omega) (by simp) (by omega) (by omega), bind_s]
    simp [plc_Maker_Lost]
  · rw [br_t (nd_t hr)]

/-! One behind the other -/
theorem repeats_l0 (k : Nat) {n : Nat} (hn : n ≤ 200) {b0 a b : List Int} (ha : a.length = n) (hb : b.length = n) (h1 : ∀ j, j < n → (a.getD j 0).natAbs ≤ 32768 ∧ (b.getD j 0).natAbs ≤ 32768 ∧ 10 * b.getD j 0 - 9 * a.getD j 0 ≤ 30 ∧ -30 ≤ 10 * b.getD j 0 - 9 * a.getD j 0) : ∀ r K i, i + r = n → r < K →
    madrigallaw23_PlcRepeats_l0 k K ((n : Int), (i : Int), b0, a, b) = some (.inl b0) := by
  intro r
  induction r with
  | zero =>
    intro K i hi hK
    obtain ⟨K, rfl⟩ : ∃ m, K = m + 1 := ⟨K - 1, by omega⟩
    rw [show madrigallaw23_PlcRepeats_l0 k (K + 1) = madrigallaw23_PlcRepeats_l0F k (madrigallaw23_PlcRepeats_l0 k K) from rfl]
    unfold madrigallaw23_PlcRepeats_l0F
    simp only
    rw [br_n (by omega)]
  | succ r ih =>
    intro K i hi hK
    obtain ⟨K, rfl⟩ : ∃ m, K = m + 1 := ⟨K - 1, by omega⟩
    rw [show madrigallaw23_PlcRepeats_l0 k (K + 1) = madrigallaw23_PlcRepeats_l0F k (madrigallaw23_PlcRepeats_l0 k K) from rfl]
    unfold madrigallaw23_PlcRepeats_l0F
    simp only
    obtain ⟨q1, q2, q3, q4⟩ := h1 i (by omega)
    rw [br_y (by omega), need_t (by omega), Int.toNat_natCast, wid (x := 10 * b.getD i 0) (by omega) (by omega), need_t (by omega), wid (x := 9 * a.getD i 0) (by omega) (by omega), wid (x := 10 * b.getD i 0 - _) (by omega) (by omega), br_n (by omega), br_n (by omega), wid (by omega) (by omega), show ((i : Int) + 1) = ((i + 1 : Nat) : Int) by omega]
    exact ih K (i + 1) (by omega) (by omega)
theorem PlcRepeats : ∀ (n : Int) (x : List Int), (Lit.int .i64 n).wf = true → (∀ n ∈ x, (Lit.int .i64 n).wf = true) → x.length * 8 ≤ 140737488351232 → ∃ k, ∃ r1, madrigallaw23_PlcRepeats k n x = some (true, r1) := by
  intro n x _ _ _
  refine ⟨5000, x, ?_⟩
  unfold madrigallaw23_PlcRepeats
  rw [awake_ok, bind_s, br_f (b := !true) rfl]
  by_cases h1 : 400 < (x.length : Int)
  · rw [br_y h1]
  rw [br_n h1]
  by_cases h2 : n < 0
  · rw [br_y h2]
  rw [br_n h2]
  by_cases h3 : 200 < n
  · rw [br_y h3]
  have hr : rateOk 8000 := by decide
  rw [br_n h3, new_ok hr, bind_s]
  simp only
  obtain ⟨n, rfl⟩ := Int.eq_ofNat_of_zero_le (show 0 ≤ n by omega)
  have hh := hgt_bd hr
  have hok := keep_mok (new_mok hr) x
  rw [br_f (by simp), keep_ok (by omega) (by omega) (by simp; omega) (by simp; omega), bind_s]
  simp only
  generalize keep (List.replicate (hgt 8000) 0) x = m at *
  obtain ⟨e1, hok1, hl1⟩ := make_ok (k := 5000) (by omega) hok (n := n) (by omega)
  rw [e1, bind_s]
  simp only
  obtain ⟨e2, hok2, hl2⟩ := make_ok (k := 5000) (by omega) hok1 (n := n) (by omega)
  rw [e2, bind_s]
  simp only
  have hlag : lag' 8000 (lag' 8000 0 m) m = lag' 8000 0 m := by
    show (if lag' 8000 0 m = 0 then _ else _) = _
    rw [if_neg (by omega)]
  have g1 : sft (more 0) = 29491 := by decide
  have g2 : sft (more (more 0)) = 26542 := by decide
  have main := repeats_l0 5000 (n := n) (b0 := x) (a := made m (lag' 8000 0 m).toNat (sft (more 0)) n) (b := made m (lag' 8000 0 m).toNat (sft (more (more 0))) n) (by omega) (made_len _ _ _ _) (made_len _ _ _ _) (fun j hj => by
      rw [made_get hj, made_get hj]
      have hv : (m.getD (m.length - (lag' 8000 0 m).toNat + j % (lag' 8000 0 m).toNat) 0).natAbs ≤ 32768 := by
        by_cases h : m.length - (lag' 8000 0 m).toNat + j % (lag' 8000 0 m).toNat < m.length
        · simp only [List.getD_eq_getElem?_getD, List.getElem?_eq_getElem h, Option.getD_some]
          exact hok.bd _ (List.getElem_mem _)
        · simp only [List.getD_eq_getElem?_getD]
          rw [List.getElem?_eq_none (by omega)]; simp
      rw [g1, g2]
      generalize m.getD (m.length - (lag' 8000 0 m).toNat + j % (lag' 8000 0 m).toNat) 0 = v at hv
      have i1 : s16 (m15 v 29491) = m15 v 29491 := by unfold s16 m15; rw [if_neg (by omega), if_neg (by omega)]
      have i2 : s16 (m15 v 26542) = m15 v 26542 := by unfold s16 m15; rw [if_neg (by omega), if_neg (by omega)]
      rw [i1, i2]
      unfold m15
      omega) n 5000 0 (by omega) (by omega)
  rw [show ((0 : Nat) : Int) = 0 from rfl] at main
  rw [hlag, br_f (by simp), br_f (by simp), br_f (by rw [made_len]; simp), br_f (by rw [made_len]; simp), main, bind_s]

/-! Crossing -/
def crs (a b : List Int) (n i : Nat) : Int := (s16 (a.getD i 0) * ((n - i : Nat) : Int) + s16 (b.getD i 0) * (i : Int)) / (n : Int)
theorem crs_num (a b : List Int) {n i : Nat} (hi : i ≤ n) {lo hi' : Int} (h1 : lo ≤ s16 (a.getD i 0)) (h2 : lo ≤ s16 (b.getD i 0)) (h3 : s16 (a.getD i 0) ≤ hi') (h4 : s16 (b.getD i 0) ≤ hi') :
    lo * (n : Int) ≤ s16 (a.getD i 0) * ((n - i : Nat) : Int) + s16 (b.getD i 0) * (i : Int) ∧ s16 (a.getD i 0) * ((n - i : Nat) : Int) + s16 (b.getD i 0) * (i : Int) ≤ hi' * (n : Int) := by
  have e : (n : Int) = ((n - i : Nat) : Int) + (i : Int) := by omega
  have a1 := Int.mul_le_mul_of_nonneg_right h1 (show 0 ≤ ((n - i : Nat) : Int) by omega)
  have a2 := Int.mul_le_mul_of_nonneg_right h2 (show 0 ≤ (i : Int) by omega)
  have a3 := Int.mul_le_mul_of_nonneg_right h3 (show 0 ≤ ((n - i : Nat) : Int) by omega)
  have a4 := Int.mul_le_mul_of_nonneg_right h4 (show 0 ≤ (i : Int) by omega)
  rw [e, Int.mul_add, Int.mul_add]
  omega
theorem crs_in (a b : List Int) {n i : Nat} (hn : 0 < n) (hi : i ≤ n) {lo hi' : Int} (h1 : lo ≤ s16 (a.getD i 0)) (h2 : lo ≤ s16 (b.getD i 0)) (h3 : s16 (a.getD i 0) ≤ hi') (h4 : s16 (b.getD i 0) ≤ hi') : lo ≤ crs a b n i ∧ crs a b n i ≤ hi' := by
  obtain ⟨q1, q2⟩ := crs_num a b hi h1 h2 h3 h4
  unfold crs
  constructor
  · exact Int.le_ediv_of_mul_le (by omega) q1
  · have := Int.ediv_le_ediv (c := (n : Int)) (by omega) q2
    rwa [Int.mul_ediv_cancel _ (by omega)] at this
theorem tdiv_dn {x d : Int} (hd : 0 < d) : (if x.tmod d < 0 then x.tdiv d - 1 else x.tdiv d) = x / d := by
  have h0 := Int.emod_nonneg x (show d ≠ 0 by omega)
  have h1 := Int.emod_lt_of_pos x hd
  have h2 := Int.mul_ediv_add_emod x d
  by_cases hx : 0 ≤ x
  · rw [Int.tmod_eq_emod_of_nonneg hx, if_neg (by omega), Int.tdiv_eq_ediv_of_nonneg hx]
  · have e1 : x.tmod d = -((-x) % d) := by rw [← Int.tmod_eq_emod_of_nonneg (show 0 ≤ -x by omega), Int.neg_tmod, Int.neg_neg]
    have e2 : x.tdiv d = -((-x) / d) := by rw [← Int.tdiv_eq_ediv_of_nonneg (show 0 ≤ -x by omega), Int.neg_tdiv, Int.neg_neg]
    have k0 := Int.emod_nonneg (-x) (show d ≠ 0 by omega)
    have k1 := Int.emod_lt_of_pos (-x) hd
    have k2 := Int.mul_ediv_add_emod (-x) d
    rw [e1, e2]
    split
    · rename_i h
      have : d * (x / d + (-x) / d) = -(x % d) - ((-x) % d) := by rw [Int.mul_add]; omega
      have hq : x / d + (-x) / d = -1 := by
        have l1 : d * (x / d + (-x) / d) < 0 := by omega
        have l2 : d * (-2) < d * (x / d + (-x) / d) := by omega
        have m1 := Int.lt_of_mul_lt_mul_left (a := d) (show d * (x / d + (-x) / d) < d * 0 by omega) (by omega)
        have m2 := Int.lt_of_mul_lt_mul_left (a := d) l2 (by omega)
        omega
      omega
    · rename_i h
      have hz : (-x) % d = 0 := by omega
      have hdv : d ∣ x := by have := Int.dvd_of_emod_eq_zero hz; exact (Int.dvd_neg).1 this
      rw [Int.neg_ediv_of_dvd hdv, Int.neg_neg]
theorem div0 {x : Int} {n : Nat} (hn : 0 < n) (hn2 : n ≤ 500) (hx : x.natAbs ≤ 100000000) : fix_Div x (n : Int) 0 = some (x / (n : Int)) := by
  unfold fix_Div
  have fx : fac x = x := fac_id (by omega) (by omega)
  have fn : fac (n : Int) = (n : Int) := fac_id (by omega) (by omega)
  have p1 : x * 2 ^ (min ((0 : Int).toNat) 64) = x := by simp
  have q1 : (x.tdiv (n : Int)).natAbs ≤ 100000000 := by
    rw [Int.natAbs_tdiv]; exact Nat.le_trans (Nat.div_le_self _ _) hx
  rw [factor_ok, bind_s, factor_ok, bind_s, fx, fn, br_n (by omega), br_n (by decide), br_n (by decide), need_t (by decide), need_t (by omega), p1, wid (x := x) (by omega) (by omega), wid (x := x.tdiv _) (by omega) (by omega)]
  simp only
  rw [need_t (by omega), wid (x := x.tdiv (n : Int) - 1) (by omega) (by omega), ← tdiv_dn (x := x) (d := (n : Int)) (by omega)]
  have s1 := Int.tmod_lt_of_pos x (show 0 < (n : Int) by omega)
  by_cases h : x.tmod (n : Int) = 0
  · rw [br_f (nd_f h), if_neg (by omega)]
  · rw [br_t (nd_t h)]
    have e : decide ((n : Int) < 0) = false := d_f (by omega)
    rw [e]
    by_cases hx0 : x < 0
    · have : x.tmod (n : Int) ≤ 0 := by
        have := Int.tmod_nonneg (n : Int) (show 0 ≤ -x by omega)
        rw [Int.neg_tmod] at this; omega
      rw [br_t (by simp [hx0]), if_pos (by omega)]
    · have := Int.tmod_nonneg (n : Int) (show 0 ≤ x by omega)
      rw [br_f (by simp [hx0]), if_neg (by omega)]
theorem down_ok {x : Int} {n : Nat} (hn : 0 < n) (hx : x.natAbs ≤ 100000000) : madrigalref1_Down x (n : Int) = some (x / (n : Int)) := by
  unfold madrigalref1_Down
  have q1 : (x.tdiv (n : Int)).natAbs ≤ 100000000 := by
    rw [Int.natAbs_tdiv]; exact Nat.le_trans (Nat.div_le_self _ _) hx
  rw [need_t (by omega), need_t (by omega), wid (x := x.tdiv _) (by omega) (by omega), wid (x := x.tdiv (n : Int) - 1) (by omega) (by omega), ← tdiv_dn (x := x) (d := (n : Int)) (by omega), br_ite]
  split <;> rfl
def crsL (a b : List Int) (n : Nat) : List Int := (List.range n).map (crs a b n)
theorem crsL_len (a b : List Int) (n : Nat) : (crsL a b n).length = n := by simp [crsL]
theorem crsL_get {a b : List Int} {n j : Nat} (h : j < n) : (crsL a b n).getD j 0 = crs a b n j := by simp [crsL, List.getD_eq_getElem?_getD, h]
theorem cross_step (a b : List Int) {n i : Nat} (hi : i < n) (hn : n ≤ 500) :
    IntKind.i64.wrap (IntKind.i64.wrap (s16 (a.getD i 0) * IntKind.i64.wrap ((n : Int) - (i : Int))) + IntKind.i64.wrap (s16 (b.getD i 0) * (i : Int))) = s16 (a.getD i 0) * ((n - i : Nat) : Int) + s16 (b.getD i 0) * (i : Int) ∧
    (s16 (a.getD i 0) * ((n - i : Nat) : Int) + s16 (b.getD i 0) * (i : Int)).natAbs ≤ 100000000 := by
  have h1 := s16_bd (a.getD i 0)
  have h2 := s16_bd (b.getD i 0)
  have m1 : (s16 (a.getD i 0) * ((n - i : Nat) : Int)).natAbs ≤ 32768 * 500 := mul_bd h1 (by omega)
  have m2 : (s16 (b.getD i 0) * (i : Int)).natAbs ≤ 32768 * 500 := mul_bd h2 (by omega)
  rw [wid (x := (n : Int) - (i : Int)) (by omega) (by omega), show (n : Int) - (i : Int) = ((n - i : Nat) : Int) by omega, wid (x := s16 (a.getD i 0) * _) (by omega) (by omega), wid (x := s16 (b.getD i 0) * _) (by omega) (by omega), wid (by omega) (by omega)]
  exact ⟨rfl, by omega⟩
theorem cross_l0 (k : Nat) {a b : List Int} {n : Nat} (hn : n ≤ 500) (ha : n ≤ a.length) (hb : n ≤ b.length) : ∀ r K i (l : List Int), i + r = n → r < K → l.length = n → (∀ j, j < i → l.getD j 0 = crs a b n j) →
    plc_Cross_l0 k K ((n : Int), (n : Int), (i : Int), a, b, l) = some (a, b, crsL a b n) := by
  intro r
  induction r with
  | zero =>
    intro K i l hi hK hl hj
    obtain ⟨K, rfl⟩ : ∃ m, K = m + 1 := ⟨K - 1, by omega⟩
    rw [show plc_Cross_l0 k (K + 1) = plc_Cross_l0F k (plc_Cross_l0 k K) from rfl]
    unfold plc_Cross_l0F
    simp only
    rw [br_n (by omega), show l = crsL a b n from ext_getD (by rw [hl, crsL_len]) fun j h => by rw [hj j (by omega), crsL_get (by omega)]]
  | succ r ih =>
    intro K i l hi hK hl hj
    obtain ⟨K, rfl⟩ : ∃ m, K = m + 1 := ⟨K - 1, by omega⟩
    rw [show plc_Cross_l0 k (K + 1) = plc_Cross_l0F k (plc_Cross_l0 k K) from rfl]
    unfold plc_Cross_l0F
    simp only
    obtain ⟨e1, e2⟩ := cross_step a b (show i < n by omega) hn
    rw [br_y (by omega), need_t (by omega), sat16_ok, bind_s, need_t (by omega), sat16_ok, bind_s, Int.toNat_natCast, e1, div0 (by omega) hn e2, bind_s, need_t (by omega), wid (by omega) (by omega), show ((i : Int) + 1) = ((i + 1 : Nat) : Int) by omega]
    refine ih K (i + 1) _ (by omega) (by omega) (by simpa using hl) fun j h => ?_
    by_cases hji : j = i
    · subst hji
      simp [List.getD_eq_getElem?_getD, List.getElem?_set, show j < l.length by omega, crs]
    · have : (l.set i ((s16 (a.getD i 0) * ((n - i : Nat) : Int) + s16 (b.getD i 0) * (i : Int)) / (n : Int))).getD j 0 = l.getD j 0 := by
        simp only [List.getD_eq_getElem?_getD, List.getElem?_set]
        rw [if_neg (fun h => hji h.symm)]
      rw [this]; exact hj j (by omega)
theorem cross_ok {k : Nat} (hk : 1000 ≤ k) {a b : List Int} (ha : a.length ≤ 500) (hb : b.length ≤ 500) : plc_Cross k a b = some (a, b, crsL a b (min a.length b.length)) := by
  unfold plc_Cross
  have e : (if (b.length : Int) < (a.length : Int) then (b.length : Int) else (a.length : Int)) = ((min a.length b.length : Nat) : Int) := by split <;> omega
  simp only [e]
  rw [need_t ⟨by omega, trivial, by omega, by omega⟩, Int.toNat_natCast, List.length_replicate]
  have := cross_l0 k (a := a) (b := b) (n := min a.length b.length) (by omega) (by omega) (by omega) (min a.length b.length) k 0 (List.replicate (min a.length b.length) 0) (by omega) (by omega) (by simp) (fun j h => by omega)
  rw [show ((0 : Nat) : Int) = 0 from rfl] at this
  rw [this, bind_s]
theorem rcross_l0 (k : Nat) {a b : List Int} {n : Nat} (hn : n ≤ 500) (ha : n ≤ a.length) (hb : n ≤ b.length) : ∀ r K i (l : List Int), i + r = n → r < K → l.length = i → (∀ j, j < i → l.getD j 0 = crs a b n j) →
    madrigalref10_Cross_l0 k K ((n : Int), (i : Int), a, b, l) = some (a, b, crsL a b n) := by
  intro r
  induction r with
  | zero =>
    intro K i l hi hK hl hj
    obtain ⟨K, rfl⟩ : ∃ m, K = m + 1 := ⟨K - 1, by omega⟩
    rw [show madrigalref10_Cross_l0 k (K + 1) = madrigalref10_Cross_l0F k (madrigalref10_Cross_l0 k K) from rfl]
    unfold madrigalref10_Cross_l0F
    simp only
    rw [br_n (by omega), show l = crsL a b n from ext_getD (by rw [hl, crsL_len]; omega) fun j h => by rw [hj j (by omega), crsL_get (by omega)]]
  | succ r ih =>
    intro K i l hi hK hl hj
    obtain ⟨K, rfl⟩ : ∃ m, K = m + 1 := ⟨K - 1, by omega⟩
    rw [show madrigalref10_Cross_l0 k (K + 1) = madrigalref10_Cross_l0F k (madrigalref10_Cross_l0 k K) from rfl]
    unfold madrigalref10_Cross_l0F
    simp only
    obtain ⟨e1, e2⟩ := cross_step a b (show i < n by omega) hn
    have h1 := s16_bd (a.getD i 0)
    have h2 := s16_bd (b.getD i 0)
    have hs16 : s16 (crs a b n i) = crs a b n i := by
      have q1 : -32768 ≤ s16 (a.getD i 0) ∧ s16 (a.getD i 0) ≤ 32767 := by unfold s16; split <;> (try split) <;> omega
      have q2 : -32768 ≤ s16 (b.getD i 0) ∧ s16 (b.getD i 0) ≤ 32767 := by unfold s16; split <;> (try split) <;> omega
      obtain ⟨c1, c2⟩ := crs_in a b (n := n) (i := i) (by omega) (by omega) q1.1 q2.1 q1.2 q2.2
      have : ∀ z : Int, -32768 ≤ z → z ≤ 32767 → s16 z = z := fun z a b => by unfold s16; rw [if_neg (by omega), if_neg (by omega)]
      exact this _ c1 c2
    rw [br_y (by omega), need_t (by omega), rsat_ok, bind_s, need_t (by omega), rsat_ok, bind_s, Int.toNat_natCast, e1, down_ok (by omega) e2, bind_s]
    change (madrigalref1_Sat16 (crs a b n i)).bind _ = _
    rw [rsat_ok, bind_s, hs16, need_t (by simp; omega), wid (by omega) (by omega), show ((i : Int) + 1) = ((i + 1 : Nat) : Int) by omega]
    refine ih K (i + 1) _ (by omega) (by omega) (by simp; omega) fun j h => ?_
    by_cases hji : j = i
    · subst hji
      simp only [List.getD_eq_getElem?_getD]
      rw [List.getElem?_append_right (by omega), hl]; simp
    · have : (l ++ [crs a b n i]).getD j 0 = l.getD j 0 := by
        simp only [List.getD_eq_getElem?_getD]
        rw [List.getElem?_append_left (by omega)]
      rw [this]; exact hj j (by omega)
theorem rcross_ok {k : Nat} (hk : 1000 ≤ k) {a b : List Int} (ha : a.length ≤ 500) (hb : b.length ≤ 500) : madrigalref10_Cross k a b = some (a, b, crsL a b (min a.length b.length)) := by
  unfold madrigalref10_Cross
  have := rcross_l0 k (a := a) (b := b) (n := min a.length b.length) (by omega) (by omega) (by omega) (min a.length b.length) k 0 [] (by omega) (by omega) (by simp) (fun j h => by omega)
  rw [show ((0 : Nat) : Int) = 0 from rfl] at this
  by_cases h : (b.length : Int) < (a.length : Int)
  · rw [br_y h, show (b.length : Int) = ((min a.length b.length : Nat) : Int) by omega, this]; rfl
  · rw [br_n h, show (a.length : Int) = ((min a.length b.length : Nat) : Int) by omega, this]; rfl
theorem softer_l0 (k : Nat) {a b : List Int} {n : Nat} (hn : n ≤ 500) (ha : n ≤ a.length) (hb : n ≤ b.length) : ∀ r K i, i + r = n → r < K →
    madrigallaw23_PlcSofter_l0 k K ((i : Int), a, b, crsL a b n) = some (.inl (a, b)) := by
  intro r
  induction r with
  | zero =>
    intro K i hi hK
    obtain ⟨K, rfl⟩ : ∃ m, K = m + 1 := ⟨K - 1, by omega⟩
    rw [show madrigallaw23_PlcSofter_l0 k (K + 1) = madrigallaw23_PlcSofter_l0F k (madrigallaw23_PlcSofter_l0 k K) from rfl]
    unfold madrigallaw23_PlcSofter_l0F
    simp only
    rw [br_n (by rw [crsL_len]; omega)]
  | succ r ih =>
    intro K i hi hK
    obtain ⟨K, rfl⟩ : ∃ m, K = m + 1 := ⟨K - 1, by omega⟩
    rw [show madrigallaw23_PlcSofter_l0 k (K + 1) = madrigallaw23_PlcSofter_l0F k (madrigallaw23_PlcSofter_l0 k K) from rfl]
    unfold madrigallaw23_PlcSofter_l0F
    simp only
    have hrec := ih K (i + 1) (by omega) (by omega)
    have c17 : ∀ lo hi' : Int, lo ≤ s16 (a.getD i 0) → lo ≤ s16 (b.getD i 0) → s16 (a.getD i 0) ≤ hi' → s16 (b.getD i 0) ≤ hi' → madrigallaw23_PlcSofter_c17 k ((i : Int), lo, hi', a, b, crsL a b n) = some (.inl ((i : Int), a, b, crsL a b n)) := by
      intro lo hi' h1 h2 h3 h4
      unfold madrigallaw23_PlcSofter_c17
      simp only
      obtain ⟨q1, q2⟩ := crs_in a b (n := n) (i := i) (by omega) (by omega) h1 h2 h3 h4
      rw [need_t (by rw [crsL_len]; omega), Int.toNat_natCast, crsL_get (by omega), br_n (by omega), need_t (by rw [crsL_len]; omega), br_n (by omega)]
      by_cases h0 : (i : Int) = 0
      · have h0' : i = 0 := by omega
        subst h0'
        have e : crs a b n 0 = s16 (a.getD 0 0) := by
          unfold crs
          rw [show ((n - 0 : Nat) : Int) = (n : Int) by omega, show ((0 : Nat) : Int) = 0 from rfl, Int.mul_zero, Int.add_zero, Int.mul_ediv_cancel _ (by omega)]
        rw [br_y h0, need_t (by rw [crsL_len]; omega), need_t (by omega), rsat_ok, bind_s, e, br_f (by simp)]
      · rw [br_n h0]
    rw [br_y (by rw [crsL_len]; omega), need_t (by omega), rsat_ok, bind_s, need_t (by omega), rsat_ok, bind_s, Int.toNat_natCast]
    by_cases hc : s16 (b.getD i 0) < s16 (a.getD i 0)
    · rw [br_y hc, c17 _ _ (by omega) (by omega) (by omega) (by omega), bind_s]
      simp only
      rw [wid (by omega) (by omega), show ((i : Int) + 1) = ((i + 1 : Nat) : Int) by omega]; exact hrec
    · rw [br_n hc, c17 _ _ (by omega) (by omega) (by omega) (by omega), bind_s]
      simp only
      rw [wid (by omega) (by omega), show ((i : Int) + 1) = ((i + 1 : Nat) : Int) by omega]; exact hrec
theorem softer_c5 {a b : List Int} (ha : a.length * 8 ≤ 140737488351232) (hb : b.length * 8 ≤ 140737488351232) : madrigallaw23_PlcSofter_c5 5000 (a, b) = some (true, a, b) := by
  unfold madrigallaw23_PlcSofter_c5
  simp only
  by_cases h1 : 500 < (a.length : Int)
  · rw [br_y h1]
  rw [br_n h1]
  by_cases h2 : 500 < (b.length : Int)
  · rw [br_y h2]
  rw [br_n h2, need_t (by omega), need_t (by omega), cross_ok (by omega) (by omega) (by omega), bind_s]
  simp only
  rw [rcross_ok (by omega) (by omega) (by omega), bind_s]
  simp only
  rw [same_ok (by rw [crsL_len]; omega) (by omega), bind_s]
  simp only
  rw [br_f (b := !true) rfl, show (0 : Int) = ((0 : Nat) : Int) from rfl, softer_l0 5000 (by omega) (by omega) (by omega) (min a.length b.length) 5000 0 (by omega) (by omega), bind_s]
theorem soft_falls : (List.range 40).all (fun n => decide (1 ≤ n → soft (n + 1) < soft n)) = true := by decide +kernel
theorem and_bd (n : Int) : 0 ≤ IntKind.i64.wrap ((BitVec.ofInt 64 n &&& BitVec.ofInt 64 1023).toNat : Int) ∧ (0 ≤ n → n < 1024 → IntKind.i64.wrap ((BitVec.ofInt 64 n &&& BitVec.ofInt 64 1023).toNat : Int) = n) := by
  have e : (BitVec.ofInt 64 n &&& BitVec.ofInt 64 1023).toNat = (BitVec.ofInt 64 n).toNat % 1024 := by
    rw [BitVec.toNat_and, show (BitVec.ofInt 64 1023).toNat = 2 ^ 10 - 1 from by decide, Nat.and_two_pow_sub_one_eq_mod]
  rw [e]
  have hlt := Nat.mod_lt (BitVec.ofInt 64 n).toNat (show 0 < 1024 by decide)
  rw [wid (by omega) (by omega)]
  refine ⟨by omega, fun h0 h1 => ?_⟩
  have : (BitVec.ofInt 64 n).toNat = n.toNat := by
    rw [BitVec.toNat_ofInt, Int.emod_eq_of_lt h0 (by omega)]
  rw [this]; omega
theorem PlcSofter : ∀ (n : Int) (a : List Int) (b : List Int), (Lit.int .i64 n).wf = true → (∀ n ∈ a, (Lit.int .i64 n).wf = true) → a.length * 8 ≤ 140737488351232 → (∀ n ∈ b, (Lit.int .i64 n).wf = true) → b.length * 8 ≤ 140737488351232 → ∃ k, ∃ r1 r2, madrigallaw23_PlcSofter k n a b = some (true, r1, r2) := by
  intro n a b _ _ ha _ hb
  refine ⟨5000, a, b, ?_⟩
  have hc5 := softer_c5 ha hb
  obtain ⟨hz0, hz1⟩ := and_bd n
  have falls : 1 ≤ n → n < 40 → ¬ sft n ≤ sft (n + 1) := fun h1 h2 => by
    have := List.all_eq_true.mp soft_falls n.toNat (List.mem_range.mpr (by omega))
    have := of_decide_eq_true this (by omega)
    unfold sft
    rw [if_neg (by omega), if_neg (by omega), show (n + 1).toNat = n.toNat + 1 by omega]
    omega
  have tail : (br (decide (1 ≤ n)) (br (decide (n < 40)) ((plc_Soft 5000 (IntKind.i64.wrap (n + 1))).bind fun t37 => (some (sft n)).bind fun t39 => br (decide (t39 ≤ t37)) (some (false, a, b)) ((madrigallaw23_PlcSofter_c5 5000 (a, b)).bind fun (t6, b0, b1) => some (t6, b0, b1)))
      ((madrigallaw23_PlcSofter_c5 5000 (a, b)).bind fun (t6, b0, b1) => some (t6, b0, b1))) ((madrigallaw23_PlcSofter_c5 5000 (a, b)).bind fun (t6, b0, b1) => some (t6, b0, b1))) = some (true, a, b) := by
    rw [hc5, bind_s]
    simp only
    by_cases h1 : 1 ≤ n
    · rw [br_y h1]
      by_cases h2 : n < 40
      · rw [br_y h2, wid (by omega) (by omega), soft_ok (by omega), bind_s, bind_s, br_n (falls h1 h2)]
      · rw [br_n h2]
    · rw [br_n h1]
  unfold madrigallaw23_PlcSofter
  rw [awake_ok, bind_s, br_f (b := !true) rfl, soft_ok (by omega), bind_s, rsoft_ok (by omega) _ hz0, bind_s]
  by_cases he : sft n = sft (IntKind.i64.wrap ((BitVec.ofInt 64 n &&& BitVec.ofInt 64 1023).toNat : Int))
  · rw [br_f (nd_f he)]; exact tail
  · rw [br_t (nd_t he)]
    by_cases h0 : 0 ≤ n
    · rw [br_y h0]
      by_cases h1 : n < 1024
      · exact absurd (by rw [hz1 h0 h1]) he
      · rw [br_n h1]; exact tail
    · rw [br_n h0]; exact tail
end Go.Proofs.Ytblaikeffnpagaa.Pure
