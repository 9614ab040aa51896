/- Plain laws of the Lean functions, or the contract of a function of the library. Conditions: those of each statement. -/
import Derived.Test.YtdimjdlomgpbgaaQ3
set_option linter.unusedVariables false
set_option linter.unusedSimpArgs false
namespace Go.Proofs.Ytdimjdlomgpbgaa.Pure
open Go Go.Ab

theorem awake_ok : madrigallaw11_awake 2000 = some true := by kernel_rfl
theorem PitchKnown : ∃ k, madrigallaw11_PitchKnown k = some true := ⟨2000, by kernel_rfl⟩

/-! all of them -/
def full (x : List Int) : Nat → Nat → List LS → List LS
  | _, 0, l => l
  | a, n + 1, l => full x (a + 1) n (insB (SL x a) l)
theorem insB_take (s : LS) : ∀ (l : List LS) (b : Nat), (insB s (l.take b)).take b = (insB s l).take b
  | [], b => by simp
  | t :: l, 0 => by simp
  | t :: l, b + 1 => by
    simp only [List.take_succ_cons, insB]
    split
    · simp only [List.take_succ_cons, insB_take s l b]
    · cases b with
      | zero => simp
      | succ b => simp [List.take_take, Nat.min_eq_left]
theorem go_full (x : List Int) (b : Nat) : ∀ n a l, go x b a n (l.take b) = (full x a n l).take b
  | 0, _, _ => rfl
  | n + 1, a, l => by simp only [go, full]; rw [insB_take, go_full x b n (a + 1)]
theorem go_take (x : List Int) (b a n : Nat) : go x b a n [] = (full x a n []).take b := by
  have := go_full x b n a []
  simpa using this
def rng (x : List Int) : Nat → Nat → List LS
  | _, 0 => []
  | a, n + 1 => SL x a :: rng x (a + 1) n
theorem full_perm (x : List Int) : ∀ n a l, (full x a n l).Perm (rng x a n ++ l)
  | 0, _, _ => .refl _
  | n + 1, a, l => by
    simp only [full, rng, List.cons_append]
    refine (full_perm x n (a + 1) _).trans ?_
    have h1 : (rng x (a + 1) n ++ insB (SL x a) l).Perm (rng x (a + 1) n ++ SL x a :: l) := (insB_perm _ _).append_left _
    exact h1.trans List.perm_middle
theorem rng_len (x : List Int) : ∀ n a, (rng x a n).length = n
  | 0, _ => rfl
  | n + 1, a => by simp [rng, rng_len x n]
theorem rng_mem (x : List Int) : ∀ n a (t : LS), t ∈ rng x a n ↔ ∃ c, a ≤ c ∧ c < a + n ∧ t = SL x c
  | 0, a, t => by simp [rng]; omega
  | n + 1, a, t => by
    simp only [rng, List.mem_cons, rng_mem x n (a + 1) t]
    constructor
    · rintro (rfl | ⟨c, h1, h2, rfl⟩)
      · exact ⟨a, by omega, by omega, rfl⟩
      · exact ⟨c, by omega, by omega, rfl⟩
    · rintro ⟨c, h1, h2, rfl⟩
      by_cases h : c = a
      · subst h; exact .inl rfl
      · exact .inr ⟨c, by omega, by omega, rfl⟩
theorem full_ok {x : List Int} : ∀ (n a : Nat) (l : List LS), l.Pairwise bt → (∀ t ∈ l, t.1 < (a : Int)) → (full x a n l).Pairwise bt
  | 0, _, _, h, _ => h
  | n + 1, a, l, h, hl => by
    simp only [full]
    refine full_ok n (a + 1) _ (insB_sorted h hl) fun t ht => ?_
    rcases List.mem_cons.1 ((insB_perm _ _).subset ht) with rfl | hm
    · show (a : Int) < _; omega
    · have := hl t hm; omega
theorem full_len (x : List Int) (a n : Nat) : (full x a n []).length = n := by
  rw [(full_perm x n a []).length_eq]; simp [rng_len]
theorem full_mem (x : List Int) (a n : Nat) (t : LS) : t ∈ full x a n [] ↔ ∃ c, a ≤ c ∧ c < a + n ∧ t = SL x c := by
  rw [(full_perm x n a []).mem_iff, List.append_nil, rng_mem]
theorem full_srt (x : List Int) (a n : Nat) : (full x a n []).Pairwise bt := full_ok n a [] List.Pairwise.nil fun t ht => by simp at ht
theorem first_best {l : List LS} (h : l.Pairwise bt) {t : LS} (ht : t ∈ l) : t.2 ≤ (l.getD 0 dl).2 := by
  match l, h, ht with
  | u :: l, h, ht =>
    simp only [List.getD_cons_zero]
    rcases List.mem_cons.1 ht with rfl | ht
    · exact Int.le_refl _
    · have := (List.pairwise_cons.1 h).1 t ht
      unfold bt at this; omega
theorem scr_nn {x : List Int} (lag : Int) : 0 ≤ scr x lag := by
  unfold scr
  split
  · rename_i h; exact (sc_bd h.2.1 _).1
  · exact Int.le_refl _

/-! What repeats best is found. -/
theorem says_l0 (k : Nat) {b0 : List Int} {l : List (List Int)} (hl : l.length ≤ 1000) : ∀ r K i, i + r = l.length → r < K → madrigallaw11_PitchSays_l0 k K ((i : Int), b0, l, l) = some (.inl b0) := by
  intro r
  induction r with
  | zero =>
    intro K i hi hK
    obtain ⟨K, rfl⟩ : ∃ m, K = m + 1 := ⟨K - 1, by omega⟩
    rw [show madrigallaw11_PitchSays_l0 k (K + 1) = madrigallaw11_PitchSays_l0F k (madrigallaw11_PitchSays_l0 k K) from rfl]
    unfold madrigallaw11_PitchSays_l0F
    simp only
    rw [br_n (by omega)]
  | succ r ih =>
    intro K i hi hK
    obtain ⟨K, rfl⟩ : ∃ m, K = m + 1 := ⟨K - 1, by omega⟩
    rw [show madrigallaw11_PitchSays_l0 k (K + 1) = madrigallaw11_PitchSays_l0F k (madrigallaw11_PitchSays_l0 k K) from rfl]
    unfold madrigallaw11_PitchSays_l0F
    simp only
    rw [br_y (by omega), need_t (by omega), need_t (by omega), need_t (by omega), br_f (by simp), wid (by omega) (by omega), show ((i : Int) + 1) = ((i + 1 : Nat) : Int) by omega]
    exact ih K (i + 1) (by omega) (by omega)

theorem PitchSays : ∀ (lag : Int) (least : Int) (most : Int) (best : Int) (x : List Int), (Lit.int .i64 lag).wf = true → (Lit.int .i64 least).wf = true → (Lit.int .i64 most).wf = true → (Lit.int .i64 best).wf = true → (∀ n ∈ x, (Lit.int .i64 n).wf = true) → x.length * 8 ≤ 140737488351232 → ∃ k, ∃ r1, madrigallaw11_PitchSays k lag least most best x = some (true, r1) := by
  intro lag least most best x _ _ _ _ _ hx
  refine ⟨2000, x, ?_⟩
  unfold madrigallaw11_PitchSays
  rw [awake_ok, bind_s, br_f (b := !true) rfl]
  by_cases h0 : 1000 < x.length
  · rw [br_y (by omega)]
  rw [br_n (by omega), need_t (by omega), score_ok (by omega) (by omega), bind_s]
  simp only
  rw [rscore_ok (by omega) (by omega), bind_s]
  simp only
  rw [br_f (by simp), need_t (by omega)]
  by_cases hf : fits x least most best
  · rw [search_ok (by omega) (by omega) hf, bind_s]
    simp only
    have hf' := hf
    obtain ⟨h1, h2, h3, h4, h5, h6, h7⟩ := hf
    rw [br_n (by omega), br_n (by omega), br_n (by omega), br_n (by omega), half (by omega), br_n (by omega), br_n (by omega), br_n (by omega)]
    obtain ⟨a, rfl⟩ := Int.eq_ofNat_of_zero_le (show 0 ≤ least by omega)
    obtain ⟨b, rfl⟩ := Int.eq_ofNat_of_zero_le (show 0 ≤ best by omega)
    obtain ⟨n, rfl⟩ : ∃ n : Nat, most = ((a + n : Nat) : Int) - 1 := ⟨(most - a + 1).toNat, by omega⟩
    have e : found x (a : Int) (((a + n : Nat) : Int) - 1) (b : Int) = go x b a n [] := by
      unfold found
      rw [Int.toNat_natCast, Int.toNat_natCast, show (((a + n : Nat) : Int) - 1 - (a : Int) + 1).toNat = n by omega]
    rw [rbest_ok (by omega) (by omega) (by omega) (by omega), bind_s]
    simp only
    rw [br_f (by simp), e, br_f (by simp)]
    have hl := (go_ok (x := x) n a [] (ok_nil b a)).len
    rw [show (0 : Int) = ((0 : Nat) : Int) from rfl, says_l0 2000 (by rw [List.length_map]; omega) _ 2000 0 (Nat.zero_add _) (by rw [List.length_map]; omega)]
    rfl
  · rw [search_bad (by omega) hf, bind_s]
    simp only
    have fin : ∀ e : Option (Bool × List Int), br (decide ((1 : Int) = 1)) (some (decide ((([] : List (List Int)).length : Int) = 0), x)) e = some (true, x) := fun e => rfl
    unfold fits at hf
    by_cases h1 : (x.length : Int) < 2
    · rw [br_y h1]; exact fin _
    rw [br_n h1]
    by_cases h2 : 960 < (x.length : Int)
    · rw [br_y h2]; exact fin _
    rw [br_n h2]
    by_cases h3 : least < 1
    · rw [br_y h3]; exact fin _
    rw [br_n h3]
    by_cases h4 : most < least
    · rw [br_y h4]; exact fin _
    rw [br_n h4, half (by omega)]
    by_cases h5 : ((x.length / 2 : Nat) : Int) < most
    · rw [br_y h5]; exact fin _
    rw [br_n h5]
    by_cases h6 : best < 1
    · rw [br_y h6]; exact fin _
    rw [br_n h6, br_y (by omega)]; exact fin _

/-! A sound that repeats -/
theorem finds_l0 (k : Nat) {best : Int} {cycle : List Int} {n : Nat} (hn : n ≤ 600) (hp : 0 < cycle.length) : ∀ r K i (x : List Int), i + r = n → x.length = i → r < K →
    ∃ x', madrigallaw11_PitchFinds_l0 k K ((n : Int), best, (cycle.length : Int), (i : Int), cycle, x) = some ((n : Int), best, (cycle.length : Int), cycle, x') ∧ x'.length = n := by
  intro r
  induction r with
  | zero =>
    intro K i x hi hx hK
    obtain ⟨K, rfl⟩ : ∃ m, K = m + 1 := ⟨K - 1, by omega⟩
    rw [show madrigallaw11_PitchFinds_l0 k (K + 1) = madrigallaw11_PitchFinds_l0F k (madrigallaw11_PitchFinds_l0 k K) from rfl]
    unfold madrigallaw11_PitchFinds_l0F
    simp only
    rw [br_n (by omega)]
    exact ⟨x, rfl, by omega⟩
  | succ r ih =>
    intro K i x hi hx hK
    obtain ⟨K, rfl⟩ : ∃ m, K = m + 1 := ⟨K - 1, by omega⟩
    rw [show madrigallaw11_PitchFinds_l0 k (K + 1) = madrigallaw11_PitchFinds_l0F k (madrigallaw11_PitchFinds_l0 k K) from rfl]
    unfold madrigallaw11_PitchFinds_l0F
    simp only
    have e : (i : Int).tmod (cycle.length : Int) = (i : Int) % (cycle.length : Int) := Int.tmod_eq_emod_of_nonneg (by omega)
    have e1 := Int.emod_nonneg (i : Int) (show (cycle.length : Int) ≠ 0 by omega)
    have e2 := Int.emod_lt_of_pos (i : Int) (show 0 < (cycle.length : Int) by omega)
    rw [br_y (by omega), need_t (by omega), e, need_t (by omega), need_t (by simp; omega), wid (by omega) (by omega), show ((i : Int) + 1) = ((i + 1 : Nat) : Int) by omega]
    exact ih K (i + 1) _ (by omega) (by simp; omega) (by omega)

theorem pw_get {l : List LS} (h : l.Pairwise bt) {i j : Nat} (hij : i < j) (hj : j < l.length) : bt (l.getD i dl) (l.getD j dl) := by
  have := List.pairwise_iff_getElem.1 h i j (by omega) hj hij
  simpa [List.getD_eq_getElem?_getD, hj, show i < l.length by omega] using this

theorem finds_l2 (k : Nat) {p : Int} {b0 x : List Int} {l a b : List LS} (hl : a.length ≤ 1000) (hab : a.length ≤ b.length) (he : ∀ i, i < a.length → a.getD i dl = b.getD i dl) (hs : a.Pairwise bt) : ∀ r K i, i + r = a.length → r < K →
    madrigallaw11_PitchFinds_l2 k K (p, (i : Int), b0, x, PL l, PL a, PL b) = some (.inl (p, b0, x, PL l, PL a)) := by
  intro r
  induction r with
  | zero =>
    intro K i hi hK
    obtain ⟨K, rfl⟩ : ∃ m, K = m + 1 := ⟨K - 1, by omega⟩
    rw [show madrigallaw11_PitchFinds_l2 k (K + 1) = madrigallaw11_PitchFinds_l2F k (madrigallaw11_PitchFinds_l2 k K) from rfl]
    unfold madrigallaw11_PitchFinds_l2F
    simp only [List.length_map]
    rw [br_n (by omega)]
  | succ r ih =>
    intro K i hi hK
    obtain ⟨K, rfl⟩ : ∃ m, K = m + 1 := ⟨K - 1, by omega⟩
    rw [show madrigallaw11_PitchFinds_l2 k (K + 1) = madrigallaw11_PitchFinds_l2F k (madrigallaw11_PitchFinds_l2 k K) from rfl]
    unfold madrigallaw11_PitchFinds_l2F
    simp only [List.length_map]
    have hrec := ih K (i + 1) (by omega) (by omega)
    have hw : IntKind.i64.wrap ((i : Int) + 1) = ((i + 1 : Nat) : Int) := by rw [wid (by omega) (by omega)]; omega
    rw [br_y (by omega), need_t (by omega), need_t (by omega), Int.toNat_natCast, PL_get (show i < a.length by omega), PL_get (show i < b.length by omega), he i (by omega), br_f (by simp), hw]
    by_cases h0 : i = 0
    · rw [br_n (by omega)]; exact hrec
    · have hb := pw_get hs (show i - 1 < i by omega) (show i < a.length by omega)
      have h1 : IntKind.i64.wrap ((i : Int) - 1) = ((i - 1 : Nat) : Int) := by rw [wid (by omega) (by omega)]; omega
      rw [br_y (by omega), need_t (by omega), h1, need_t (by omega), Int.toNat_natCast, PL_get (show i - 1 < a.length by omega), ← he i (by omega)]
      unfold bt at hb
      simp only [rwp, List.getD_cons_zero, List.getD_cons_succ]
      rw [br_n (by omega), need_t (by omega), need_t (by omega)]
      by_cases h2 : (a.getD i dl).2 = (a.getD (i - 1) dl).2
      · rw [br_y h2, need_t (by omega), need_t (by omega), br_n (by omega)]; exact hrec
      · rw [br_n h2]; exact hrec

theorem PitchFinds : ∀ (n : Int) (best : Int) (cycle : List Int), (Lit.int .i64 n).wf = true → (Lit.int .i64 best).wf = true → (∀ n ∈ cycle, (Lit.int .i64 n).wf = true) → cycle.length * 8 ≤ 140737488351232 → ∃ k, ∃ r1, madrigallaw11_PitchFinds k n best cycle = some (true, r1) := by
  intro n best cycle _ _ _ hx
  refine ⟨2000, cycle, ?_⟩
  unfold madrigallaw11_PitchFinds
  rw [awake_ok, bind_s, br_f (b := !true) rfl]
  by_cases h1 : (cycle.length : Int) < 2
  · rw [br_y h1]
  rw [br_n h1]
  by_cases h2 : 60 < (cycle.length : Int)
  · rw [br_y h2]
  rw [br_n h2, wid (x := 4 * (cycle.length : Int)) (by omega) (by omega)]
  by_cases h3 : n < 4 * (cycle.length : Int)
  · rw [br_y h3]
  rw [br_n h3]
  by_cases h4 : 600 < n
  · rw [br_y h4]
  rw [br_n h4]
  by_cases h5 : best < 1
  · rw [br_y h5]
  rw [br_n h5]
  by_cases h6 : 31 < best
  · rw [br_y h6]
  rw [br_n h6]
  obtain ⟨n, rfl⟩ := Int.eq_ofNat_of_zero_le (show 0 ≤ n by omega)
  obtain ⟨b, rfl⟩ := Int.eq_ofNat_of_zero_le (show 0 ≤ best by omega)
  obtain ⟨x, e, hxl⟩ := finds_l0 2000 (best := (b : Int)) (cycle := cycle) (n := n) (by omega) (by omega) n 2000 0 [] (by omega) rfl (by omega)
  rw [show ((0 : Nat) : Int) = 0 from rfl] at e
  rw [e, bind_s]
  simp only
  rw [half (by omega), wid (x := (b : Int) + 1) (by omega) (by omega)]
  have fit : ∀ c : Int, 1 ≤ c → c ≤ 32 → fits x 1 ((n / 2 : Nat) : Int) c := fun c c1 c2 => ⟨by omega, by omega, by omega, by omega, by rw [hxl]; omega, c1, c2⟩
  have fnd : ∀ c : Nat, found x 1 ((n / 2 : Nat) : Int) (c : Int) = (full x 1 (n / 2) []).take c := fun c => by
    unfold found
    rw [Int.toNat_natCast, show (((n / 2 : Nat) : Int) - 1 + 1).toNat = n / 2 by omega, show (1 : Int).toNat = 1 from rfl, go_take]
  have f1 := fnd 1
  have f3 := fnd (b + 1)
  rw [show ((1 : Nat) : Int) = 1 from rfl] at f1
  rw [show ((b + 1 : Nat) : Int) = (b : Int) + 1 by omega] at f3
  rw [search_ok (by omega) (by omega) (fit 1 (by omega) (by omega)), bind_s]
  simp only
  rw [search_ok (by omega) (by omega) (fit b (by omega) (by omega)), bind_s]
  simp only
  rw [search_ok (by omega) (by omega) (fit (b + 1) (by omega) (by omega)), bind_s]
  simp only
  rw [br_f (by simp), br_f (by simp), br_f (by simp), f1, fnd, f3]
  have hfl := full_len x 1 (n / 2)
  have hfs := full_srt x 1 (n / 2)
  have hm := full_mem x 1 (n / 2) (SL x cycle.length)
  generalize full x 1 (n / 2) [] = A at *
  rw [br_f (nd_f (by simp; omega)), br_n (by simp; omega)]
  have hget : ∀ c i, i < c → (A.take c).getD i dl = A.getD i dl := fun c i h => by simp only [List.getD_eq_getElem?_getD, List.getElem?_take]; rw [if_pos h]
  have hloop := finds_l2 2000 (p := (cycle.length : Int)) (b0 := cycle) (x := x) (l := A.take 1) (a := A.take b) (b := A.take (b + 1)) (by simp; omega) (by simp; omega)
    (fun i hi => by have : i < b := by simp at hi; omega
                    rw [hget b i this, hget (b + 1) i (by omega)]) (hfs.sublist (List.take_sublist _ _)) (A.take b).length 2000 0 (by omega) (by simp; omega)
  rw [show ((0 : Nat) : Int) = 0 from rfl] at hloop
  rw [hloop, bind_s]
  simp only
  have hl1 : (A.take 1).length = 1 := by simp; omega
  have hlb : 0 < (A.take b).length := by simp; omega
  have g1 : (PL (A.take 1)).getD 0 [] = rwp (A.getD 0 dl) := by rw [PL_get (by omega), hget 1 0 (by omega)]
  have g2 : (PL (A.take b)).getD 0 [] = rwp (A.getD 0 dl) := by rw [PL_get hlb, hget b 0 (by omega)]
  rw [need_t (by rw [List.length_map]; omega), score_ok (by omega) (by omega), bind_s]
  simp only
  have hbest : scr x (cycle.length : Int) ≤ (A.getD 0 dl).2 := first_best hfs (hm.2 ⟨cycle.length, by omega, by omega, rfl⟩)
  rw [g1, g2]
  simp only [rwp, List.getD_cons_zero, List.getD_cons_succ]
  rw [br_y hbest, need_t (by rw [List.length_map]; omega), need_t (by rw [List.length_map]; omega)]
  simp

/-! Signs -/
theorem s16_neg {v : Int} (h1 : v ≤ 16383) (h2 : -16383 ≤ v) : s16 (-v) = -s16 v := by
  unfold s16
  rw [if_neg (by omega), if_neg (by omega), if_neg (by omega), if_neg (by omega)]
theorem signs_l0 (k : Nat) {lag : Int} {x : List Int} (hx : x.length ≤ 960) : ∀ r K i (m : List Int), i + r = x.length → m.length = i → r < K → (∀ j, j < i → m.getD j 0 = -(x.getD j 0) ∧ (x.getD j 0) ≤ 16383 ∧ -16383 ≤ x.getD j 0) →
    madrigallaw11_PitchSigns_l0 k K (lag, (i : Int), x, m) = some (.inr (true, x)) ∨
    ∃ m', madrigallaw11_PitchSigns_l0 k K (lag, (i : Int), x, m) = some (.inl (lag, x, m')) ∧ m'.length = x.length ∧ ∀ j, j < x.length → m'.getD j 0 = -(x.getD j 0) ∧ (x.getD j 0) ≤ 16383 ∧ -16383 ≤ x.getD j 0 := by
  intro r
  induction r with
  | zero =>
    intro K i m hi hm hK hj
    obtain ⟨K, rfl⟩ : ∃ m, K = m + 1 := ⟨K - 1, by omega⟩
    rw [show madrigallaw11_PitchSigns_l0 k (K + 1) = madrigallaw11_PitchSigns_l0F k (madrigallaw11_PitchSigns_l0 k K) from rfl]
    unfold madrigallaw11_PitchSigns_l0F
    simp only
    rw [br_n (by omega)]
    exact .inr ⟨m, rfl, by omega, fun j h => hj j (by omega)⟩
  | succ r ih =>
    intro K i m hi hm hK hj
    obtain ⟨K, rfl⟩ : ∃ m, K = m + 1 := ⟨K - 1, by omega⟩
    rw [show madrigallaw11_PitchSigns_l0 k (K + 1) = madrigallaw11_PitchSigns_l0F k (madrigallaw11_PitchSigns_l0 k K) from rfl]
    unfold madrigallaw11_PitchSigns_l0F
    simp only
    rw [br_y (by omega), need_t (by omega), Int.toNat_natCast]
    by_cases h1 : 16383 < x.getD i 0
    · rw [br_y h1]; exact .inl rfl
    rw [br_n h1, need_t (by omega)]
    by_cases h2 : x.getD i 0 < -16383
    · rw [br_y h2]; exact .inl rfl
    rw [br_n h2, need_t (by omega), wid (x := 0 - x.getD i 0) (by omega) (by omega), need_t (by simp; omega), wid (by omega) (by omega), show ((i : Int) + 1) = ((i + 1 : Nat) : Int) by omega]
    refine ih K (i + 1) _ (by omega) (by simp; omega) (by omega) fun j h => ?_
    by_cases hji : j = i
    · subst hji
      have : (m ++ [0 - x.getD j 0]).getD j 0 = 0 - x.getD j 0 := by
        simp only [List.getD_eq_getElem?_getD]
        rw [List.getElem?_append_right (by omega), hm]; simp
      rw [this]; omega
    · have : (m ++ [0 - x.getD i 0]).getD j 0 = m.getD j 0 := by
        simp only [List.getD_eq_getElem?_getD]
        rw [List.getElem?_append_left (by omega)]
      rw [this]; exact hj j (by omega)
theorem scr_neg {x m : List Int} (hl : m.length = x.length) (h : ∀ j, j < x.length → m.getD j 0 = -(x.getD j 0) ∧ (x.getD j 0) ≤ 16383 ∧ -16383 ≤ x.getD j 0) (lag : Int) : scr m lag = scr x lag := by
  have e1 : ∀ i lag, i < x.length → cf m lag i = cf x lag i ∧ ef m lag i = ef x lag i := by
    intro i lag hi
    obtain ⟨a1, a2, a3⟩ := h i hi
    obtain ⟨b1, b2, b3⟩ := h (i - lag) (by omega)
    unfold cf ef
    rw [a1, b1, s16_neg a2 a3, s16_neg b2 b3, Int.neg_mul_neg, Int.neg_mul_neg]
    exact ⟨rfl, rfl⟩
  have eC : ∀ lag, C m lag = C x lag := fun lag => by
    unfold C; rw [hl]; exact acc_congr _ _ fun i _ h2 => (e1 i lag (by omega)).1
  have eE : ∀ lag, E m lag = E x lag := fun lag => by
    unfold E; rw [hl]; exact acc_congr _ _ fun i _ h2 => (e1 i lag (by omega)).2
  have eg : good m lag ↔ good x lag := by unfold good; rw [hl]
  unfold scr
  by_cases hg : good x lag
  · rw [if_pos hg, if_pos (eg.2 hg)]
    unfold sc
    rw [eC, eE]
  · rw [if_neg hg, if_neg fun h => hg (eg.1 h)]
theorem PitchSigns : ∀ (lag : Int) (x : List Int), (Lit.int .i64 lag).wf = true → (∀ n ∈ x, (Lit.int .i64 n).wf = true) → x.length * 8 ≤ 140737488351232 → ∃ k, ∃ r1, madrigallaw11_PitchSigns k lag x = some (true, r1) := by
  intro lag x _ _ hx
  refine ⟨2000, x, ?_⟩
  unfold madrigallaw11_PitchSigns
  rw [awake_ok, bind_s, br_f (b := !true) rfl]
  by_cases h1 : 960 < (x.length : Int)
  · rw [br_y h1]
  rw [br_n h1]
  rcases signs_l0 2000 (lag := lag) (x := x) (by omega) x.length 2000 0 [] (by omega) rfl (by omega) (fun j h => by omega) with e | ⟨m, e, hm, hj⟩
  · rw [show ((0 : Nat) : Int) = 0 from rfl] at e
    rw [e]; rfl
  · rw [show ((0 : Nat) : Int) = 0 from rfl] at e
    rw [e, bind_s]
    simp only
    rw [score_ok (by omega) (by omega), bind_s]
    simp only
    rw [score_ok (by omega) (by omega), bind_s]
    simp only
    rw [scr_neg hm hj, br_y rfl, bind_s]
    simp [scr_nn]

/-! All of them -/
theorem all_l2 (k : Nat) (hk : 1000 ≤ k) {most lag : Int} {x : List Int} (hx : x.length * 8 ≤ 140737488355328) {l : List LS} (hl : l.length ≤ 1000) (h1 : ∀ t ∈ l, t.2 = scr x t.1) (h2 : ∀ t ∈ l, t.2 ≤ (l.getD 0 dl).2) : ∀ (l2 l1 : List LS) K (n : Nat), l = l1 ++ l2 → l2.length < K → n ≤ l1.length →
    madrigallaw11_PitchAll_l2 k K (most, lag, (n : Int), (l1.length : Int), x, PL l) = some (.inl (most, lag, ((n + l2.countP (fun t => t.1 = lag) : Nat) : Int), x, PL l)) := by
  intro l2
  induction l2 with
  | nil =>
    intro l1 K n hll hK hn
    obtain ⟨K, rfl⟩ : ∃ m, K = m + 1 := ⟨K - 1, by omega⟩
    rw [show madrigallaw11_PitchAll_l2 k (K + 1) = madrigallaw11_PitchAll_l2F k (madrigallaw11_PitchAll_l2 k K) from rfl]
    unfold madrigallaw11_PitchAll_l2F
    simp only [List.length_map]
    have : l.length = l1.length := by rw [hll]; simp
    rw [br_n (by omega)]
    simp
  | cons t l2 ih =>
    intro l1 K n hll hK hn
    obtain ⟨K, rfl⟩ : ∃ m, K = m + 1 := ⟨K - 1, by omega⟩
    rw [show madrigallaw11_PitchAll_l2 k (K + 1) = madrigallaw11_PitchAll_l2F k (madrigallaw11_PitchAll_l2 k K) from rfl]
    unfold madrigallaw11_PitchAll_l2F
    simp only [List.length_map]
    have hlen : l.length = l1.length + (l2.length + 1) := by rw [hll]; simp
    have htm : t ∈ l := by rw [hll]; simp
    have hgt : l.getD l1.length dl = t := by rw [hll]; simp [List.getD_eq_getElem?_getD]
    have hg : (PL l).getD l1.length [] = rwp t := by rw [PL_get (by omega), hgt]
    have hg0 : (PL l).getD 0 [] = rwp (l.getD 0 dl) := PL_get (by omega)
    have c17 : ∀ n' : Int, madrigallaw11_PitchAll_c17 k (most, lag, n', (l1.length : Int), x, PL l) = some (.inl (most, lag, n', (l1.length : Int), x, PL l)) := by
      intro n'
      unfold madrigallaw11_PitchAll_c17
      simp only [List.length_map]
      rw [need_t (by omega), Int.toNat_natCast, hg, hg0]
      simp only [rwp, List.getD_cons_zero, List.getD_cons_succ]
      have q2 := h2 t htm
      by_cases ht : t.1 = lag
      · rw [br_y ht, need_t (by omega), score_ok hk hx, bind_s]
        simp only
        rw [← ht, ← h1 t htm, br_f (by simp), need_t (by omega), need_t (by omega), br_n (by omega)]
      · rw [br_n ht, need_t (by omega), need_t (by omega), br_n (by omega)]
    have hw : IntKind.i64.wrap ((l1.length : Int) + 1) = ((l1.length + 1 : Nat) : Int) := by rw [wid (by omega) (by omega)]; omega
    rw [br_y (by omega), need_t (by omega), Int.toNat_natCast, hg]
    simp only [rwp, List.getD_cons_zero]
    have hlc : (l1 ++ [t]).length = l1.length + 1 := by simp
    by_cases ht : t.1 = lag
    · rw [br_y ht, c17, bind_s]
      simp only
      rw [hw, wid (x := (n : Int) + 1) (by omega) (by omega), show ((n : Int) + 1) = ((n + 1 : Nat) : Int) by omega]
      have := ih (l1 ++ [t]) K (n + 1) (by rw [hll]; simp) (by simp at hK; omega) (by omega)
      rw [hlc] at this
      rw [this]
      simp [List.countP_cons, ht]; omega
    · rw [br_n ht, c17, bind_s]
      simp only
      rw [hw]
      have := ih (l1 ++ [t]) K n (by rw [hll]; simp) (by simp at hK; omega) (by omega)
      rw [hlc] at this
      rw [this]
      simp [List.countP_cons, ht]
theorem rng_count (x : List Int) (lag : Int) : ∀ n a, (rng x a n).countP (fun t => t.1 = lag) = if (a : Int) ≤ lag ∧ lag < ((a + n : Nat) : Int) then 1 else 0
  | 0, a => by simp only [rng, List.countP_nil]; rw [if_neg (by omega)]
  | n + 1, a => by
    simp only [rng, List.countP_cons, rng_count x lag n (a + 1), SL]
    by_cases h : (a : Int) = lag
    · rw [if_neg (by omega), if_pos (by simpa using h), if_pos (by omega)]
    · by_cases h2 : ((a + 1 : Nat) : Int) ≤ lag ∧ lag < ((a + 1 + n : Nat) : Int)
      · rw [if_pos h2, if_neg (by simpa using h), if_pos (by omega)]
      · rw [if_neg h2, if_neg (by simpa using h), if_neg (by omega)]
theorem all_l0 (k : Nat) (hk : 1000 ≤ k) {x : List Int} (hx : x.length * 8 ≤ 140737488355328) {l : List LS} (hl : l.length ≤ 900) (h1 : ∀ t ∈ l, t.2 = scr x t.1) (h2 : ∀ t ∈ l, t.2 ≤ (l.getD 0 dl).2) {m : Int} (hm : m ≤ 1000) : ∀ (n K : Nat) (a : Int), 0 ≤ a → a + n = m + 1 → n < K →
    (∀ lag, a ≤ lag → lag ≤ m → l.countP (fun t => t.1 = lag) = 1) → madrigallaw11_PitchAll_l0 k K (m, a, x, PL l) = some (.inl x) := by
  intro n
  induction n with
  | zero =>
    intro K a ha hn hK hc
    obtain ⟨K, rfl⟩ : ∃ m, K = m + 1 := ⟨K - 1, by omega⟩
    rw [show madrigallaw11_PitchAll_l0 k (K + 1) = madrigallaw11_PitchAll_l0F k (madrigallaw11_PitchAll_l0 k K) from rfl]
    unfold madrigallaw11_PitchAll_l0F
    simp only
    rw [br_n (by omega)]
  | succ n ih =>
    intro K a ha hn hK hc
    obtain ⟨K, rfl⟩ : ∃ m, K = m + 1 := ⟨K - 1, by omega⟩
    rw [show madrigallaw11_PitchAll_l0 k (K + 1) = madrigallaw11_PitchAll_l0F k (madrigallaw11_PitchAll_l0 k K) from rfl]
    unfold madrigallaw11_PitchAll_l0F
    simp only
    have e := all_l2 k hk (most := m) (lag := a) hx (by omega) h1 h2 l [] k 0 rfl (by omega) (Nat.zero_le _)
    rw [show ((0 : Nat) : Int) = 0 from rfl, show (([] : List LS).length : Int) = 0 from rfl, hc a (by omega) (by omega)] at e
    rw [br_y (by omega), e, bind_s]
    simp only
    rw [br_f (by simp), wid (by omega) (by omega)]
    exact ih K (a + 1) (by omega) (by omega) (by omega) fun lag l1 l2 => hc lag (by omega) l2
theorem PitchAll : ∀ (least : Int) (most : Int) (x : List Int), (Lit.int .i64 least).wf = true → (Lit.int .i64 most).wf = true → (∀ n ∈ x, (Lit.int .i64 n).wf = true) → x.length * 8 ≤ 140737488351232 → ∃ k, ∃ r1, madrigallaw11_PitchAll k least most x = some (true, r1) := by
  intro least most x _ _ _ hx
  refine ⟨2000, x, ?_⟩
  unfold madrigallaw11_PitchAll
  rw [awake_ok, bind_s, br_f (b := !true) rfl]
  by_cases hf : fits x least most 32
  · rw [search_ok (by omega) (by omega) hf, bind_s]
    simp only
    obtain ⟨h1, h2, h3, h4, h5, h6, h7⟩ := hf
    rw [br_f (by simp), wid (x := most - least) (by omega) (by omega)]
    by_cases h8 : 31 < most - least
    · rw [br_y h8]
    rw [br_n h8, wid (by omega) (by omega)]
    obtain ⟨a, rfl⟩ := Int.eq_ofNat_of_zero_le (show 0 ≤ least by omega)
    obtain ⟨n, rfl⟩ : ∃ n : Nat, most = ((a + n : Nat) : Int) - 1 := ⟨(most - a + 1).toNat, by omega⟩
    have e : found x (a : Int) (((a + n : Nat) : Int) - 1) 32 = full x a n [] := by
      unfold found
      rw [Int.toNat_natCast, show (((a + n : Nat) : Int) - 1 - (a : Int) + 1).toNat = n by omega, show (32 : Int).toNat = 32 from rfl, go_take, List.take_of_length_le (by rw [full_len]; omega)]
    have hfl := full_len x a n
    have hfs := full_srt x a n
    have hm := full_mem x a n
    have hp := full_perm x n a []
    rw [e, br_f (nd_f (by rw [List.length_map, hfl]; omega)),
      all_l0 2000 (by omega) (x := x) (l := full x a n []) (by omega) (by omega) (m := ((a + n : Nat) : Int) - 1) (fun t ht => by obtain ⟨c, _, _, rfl⟩ := (hm t).1 ht; rfl) (fun t ht => first_best hfs ht) (by omega) n 2000 (a : Int) (by omega) (by omega) (by omega)
        (fun lag l1 l2 => by rw [hp.countP_eq, List.append_nil, rng_count, if_pos (by omega)])]
    rfl
  · rw [search_bad (by omega) hf, bind_s]
    simp only
    rw [br_t (by rfl)]
end Go.Proofs.Ytdimjdlomgpbgaa.Pure
