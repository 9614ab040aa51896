/- Plain laws of the Lean functions. Conditions: those of each statement. -/
import Derived.Test.YtdimjdlomgpbgaaF
set_option linter.unusedVariables false
set_option linter.unusedSimpArgs false
namespace Go.Proofs.Ytdimjdlomgpbgaa.Pure
open Go Go.Ab

theorem wid {x : Int} (h1 : -9223372036854775808 ≤ x) (h2 : x ≤ 9223372036854775807) : IntKind.i64.wrap x = x := IntWalk.i64_in x ⟨h1, h2⟩

theorem itN_ok {I O : Type} {F : (I → Option O) → I → Option O} (Inv : I → Prop) (m : I → Nat) (R : I → O → Prop)
    (h : ∀ rec d, Inv d → (∀ d', Inv d' → m d' < m d → ∃ o, rec d' = some o ∧ R d' o) → ∃ o, F rec d = some o ∧ R d o) :
    ∀ n d, Inv d → m d < n → ∃ o, itN F n d = some o ∧ R d o := by
  intro n
  induction n with
  | zero => intro d _ h2; omega
  | succ n ih =>
    intro d hd hm
    exact h _ d hd (fun d' hd' hm' => ih d' hd' (by omega))

theorem need_t {X : Type} {p : Prop} [Decidable p] (h : p) (t : Option X) : need p t = t := if_pos h
theorem br_t {X : Type} {b : Bool} (h : b = true) (t e : Option X) : br b t e = t := by subst h; rfl
theorem br_f {X : Type} {b : Bool} (h : b = false) (t e : Option X) : br b t e = e := by subst h; rfl
theorem br_ite {X : Type} {p : Prop} [Decidable p] (t e : Option X) : br (decide p) t e = if p then t else e := by
  by_cases h : p <;> simp [br, h]


/-! the bits' length -/
def bl (x : Nat) : Nat := if x = 0 then 0 else Nat.log2 x + 1
theorem bl_half {x : Nat} (h : 1 ≤ x) : bl x = bl (x / 2) + 1 := by
  unfold bl
  rw [if_neg (by omega : x ≠ 0)]
  by_cases h2 : 2 ≤ x
  · rw [Nat.log2_def, if_pos h2, if_neg (by omega : ¬ x / 2 = 0)]
  · have : x = 1 := by omega
    subst this; decide
theorem bl_256 {x : Nat} (h : 256 ≤ x) : bl x = bl (x / 256) + 8 := by
  rw [bl_half (by omega), bl_half (x := x / 2) (by omega), Nat.div_div_eq_div_mul, bl_half (x := x / _) (by omega), Nat.div_div_eq_div_mul, bl_half (x := x / _) (by omega), Nat.div_div_eq_div_mul,
    bl_half (x := x / _) (by omega), Nat.div_div_eq_div_mul, bl_half (x := x / _) (by omega), Nat.div_div_eq_div_mul, bl_half (x := x / _) (by omega), Nat.div_div_eq_div_mul, bl_half (x := x / _) (by omega), Nat.div_div_eq_div_mul]
theorem bl_mono {x y : Nat} (h : x ≤ y) : bl x ≤ bl y := by
  unfold bl
  by_cases hx : x = 0
  · rw [if_pos hx]; omega
  · rw [if_neg hx, if_neg (by omega)]
    have := (Nat.log2_lt hx).mpr (Nat.lt_of_le_of_lt h (Nat.lt_log2_self (n := y)))
    omega
theorem bl_lt {x k : Nat} (h : x < 2 ^ k) : bl x ≤ k := by
  unfold bl
  by_cases hx : x = 0
  · rw [if_pos hx]; omega
  · rw [if_neg hx]; have := (Nat.log2_lt hx).mpr h; omega
theorem bl_tab : (List.range 256).all (fun b => decide (((str0).data.getD b 0).toNat = bl b)) = true := by decide +kernel
theorem bl_byte {b : Nat} (h : b < 256) : ((str0).data.getD b 0).toNat = bl b := of_decide_eq_true (List.all_eq_true.mp bl_tab b (List.mem_range.mpr h))
theorem u8_id {x : Nat} (h : x < 256) : IntKind.u8.wrap (x : Int) = (x : Int) := by
  rw [IntKind.wrap_u8]; omega
theorem len_c7 {x : Nat} (h : x < 65536) {n : Int} (h0 : 0 ≤ n) (h1 : n ≤ 100) : bits_Len64_c7 100 ((x : Int), n) = some (n + bl x) := by
  have hs : ((str0).size : Int) = 256 := by decide +kernel
  have hb : bl x ≤ 16 := bl_lt h
  simp only [bits_Len64_c7, br_ite]
  by_cases h2 : (256 : Int) ≤ x
  · have e : ((x : Int)).fdiv 256 = ((x / 256 : Nat) : Int) := by rw [Int.fdiv_eq_ediv_of_nonneg _ (by omega)]; omega
    have hb2 := bl_256 (x := x) (by omega)
    rw [if_pos h2, e, u8_id (by omega), need_t (by omega), Int.toNat_natCast, bl_byte (by omega), wid (x := n + 8) (by omega) (by omega), wid (x := (bl (x / 256) : Int)) (by omega) (by omega), wid (by omega) (by omega)]
    congr 1; omega
  · rw [if_neg h2, u8_id (by omega), need_t (by omega), Int.toNat_natCast, bl_byte (by omega), wid (x := (bl x : Int)) (by omega) (by omega), wid (by omega) (by omega)]
theorem len_ok {x : Int} (h0 : 0 ≤ x) (h : x ≤ 4294967295) : fix_Len 100 x = some (bl x.toNat) := by
  obtain ⟨x, rfl⟩ := Int.eq_ofNat_of_zero_le h0
  rw [Int.toNat_natCast]
  simp only [fix_Len, br_ite]
  by_cases hx : (x : Int) ≤ 0
  · have : x = 0 := by omega
    subst this; rfl
  · rw [if_neg hx]
    have w : IntKind.u64.wrap (x : Int) = x := by rw [IntKind.wrap_u64]; omega
    rw [w]
    simp only [bits_Len64, bits_Len64_c4, br_ite]
    rw [if_neg (by omega)]
    by_cases h2 : (65536 : Int) ≤ x
    · have e : ((x : Int)).fdiv 65536 = ((x / 65536 : Nat) : Int) := by rw [Int.fdiv_eq_ediv_of_nonneg _ (by omega)]; omega
      have w2 : IntKind.i64.wrap (0 + 16) = 16 := by decide
      have hb := bl_256 (x := x) (by omega)
      have hb2 := bl_256 (x := x / 256) (by omega)
      have e2 : x / 256 / 256 = x / 65536 := by omega
      rw [e2] at hb2
      rw [if_pos h2, e, w2, len_c7 (by omega) (by omega) (by omega)]
      simp only [Option.bind_some]
      congr 1; omega
    · rw [if_neg h2, len_c7 (by omega) (by omega) (by omega)]
      simp only [Option.bind_some]
      congr 1; omega
theorem rlen_ok {x : Int} (h0 : 0 ≤ x) (h : x ≤ 4294967295) : madrigalref1_Len 100 x = some (bl x.toNat) := by
  have e : ∃ o, madrigalref1_Len_l0 100 100 (x, 0) = some o ∧ o = 0 + (bl x.toNat : Int) := by
    refine itN_ok (I := Int × Int) (O := Int) (fun d => 0 ≤ d.1 ∧ d.1 ≤ 4294967295 ∧ 0 ≤ d.2 ∧ d.2 + bl d.1.toNat ≤ 100) (fun d => bl d.1.toNat) (fun d o => o = d.2 + (bl d.1.toNat : Int)) ?_ 100 _ ⟨h0, h, Int.le_refl _, ?_⟩ ?_
    · rintro rec ⟨a, n⟩ ⟨h0, h1, h2, h3⟩ ih
      replace ih := fun a b => ih (a, b)
      simp only at h0 h1 h2 h3 ih
      simp only [br_ite]
      by_cases ha : 0 < a
      · have w1 : IntKind.i64.wrap (a.tdiv 2) = a / 2 := IntWalk.i64_quo _ _ ⟨by omega, by omega, by omega⟩
        have w2 : IntKind.i64.wrap (n + 1) = n + 1 := wid (by omega) (by omega)
        have hb := bl_half (x := a.toNat) (by omega)
        have e : a.toNat / 2 = (a / 2).toNat := by omega
        rw [e] at hb
        rw [if_pos ha, w1, w2]
        obtain ⟨o, eo, ho⟩ := ih (a / 2) (n + 1) ⟨by omega, by omega, by omega, by omega⟩ (by omega)
        exact ⟨o, eo, by omega⟩
      · rw [if_neg ha]
        have : a = 0 := by omega
        subst this
        exact ⟨n, rfl, by have : bl (0 : Int).toNat = 0 := by decide
                          omega⟩
    · have := bl_lt (x := x.toNat) (k := 32) (by omega)
      simp only; omega
    · have := bl_lt (x := x.toNat) (k := 32) (by omega)
      simp only; omega
  obtain ⟨o, e, rfl⟩ := e
  unfold madrigalref1_Len
  rw [e]
  simp

/-! the counts -/
def stepU (f : Nat → Nat) : Nat → Nat
  | 0 => 1
  | j + 1 => min 4294967296 (f (j + 1) + stepU f j + f j)
def U : Nat → Nat → Nat
  | 0 => fun j => if j = 0 then 1 else 0
  | n + 1 => stepU (U n)
theorem U0 (n : Nat) : U n 0 = 1 := by cases n <;> rfl
theorem U_succ (n j : Nat) : U (n + 1) (j + 1) = min 4294967296 (U n (j + 1) + U (n + 1) j + U n j) := rfl
theorem U_le (n j : Nat) : U n j ≤ 4294967296 := by
  cases n with
  | zero => unfold U; split <;> omega
  | succ n => cases j with
    | zero => rw [U0]; omega
    | succ j => rw [U_succ]; omega
theorem U_up (n j : Nat) : U (n + 1) j ≤ U (n + 1) (j + 1) := by
  have := U_le (n + 1) j
  rw [U_succ]; omega
theorem U_two (n : Nat) : 2 ≤ U (n + 1) 1 := by
  rw [U_succ, U0, U0]; omega

def Rw (f : Nat → Nat) (k : Nat) : List Int := (List.range (k + 1)).map (fun i => (f i : Int))
def Mix (f g : Nat → Nat) (k j : Nat) : List Int := Rw (fun i => if i < j then f i else g i) k
theorem Rw_len (f : Nat → Nat) (k : Nat) : (Rw f k).length = k + 1 := by simp [Rw]
theorem Rw_get (f : Nat → Nat) {k i : Nat} (h : i ≤ k) : (Rw f k).getD i 0 = (f i : Int) := by
  have h2 : i < k + 1 := by omega
  simp [Rw, List.getD, h2]
theorem Rw_set (f : Nat → Nat) {k j : Nat} (x : Nat) : (Rw f k).set j (x : Int) = Rw (fun i => if i = j then x else f i) k := by
  apply List.ext_getElem
  · simp [Rw]
  · intro i h1 h2
    simp only [Rw, List.getElem_set, List.getElem_map, List.getElem_range]
    by_cases h : j = i
    · subst h; simp
    · rw [if_neg h, if_neg (fun e => h e.symm)]
theorem Rw_ext {f g : Nat → Nat} {k : Nat} (h : ∀ i, i ≤ k → f i = g i) : Rw f k = Rw g k := by
  unfold Rw
  apply List.map_congr_left
  intro i hi
  have := List.mem_range.mp hi
  rw [h i (by omega)]
theorem Mix_len (f g : Nat → Nat) (k j : Nat) : (Mix f g k j).length = k + 1 := Rw_len _ _
theorem Mix_lo (f g : Nat → Nat) {k i j : Nat} (h : i ≤ k) (h2 : i < j) : (Mix f g k j).getD i 0 = (f i : Int) := by
  unfold Mix; rw [Rw_get _ h, if_pos h2]
theorem Mix_hi (f g : Nat → Nat) {k i j : Nat} (h : i ≤ k) (h2 : j ≤ i) : (Mix f g k j).getD i 0 = (g i : Int) := by
  unfold Mix; rw [Rw_get _ h, if_neg (by omega)]
theorem Mix_set (f g : Nat → Nat) {k j : Nat} {x : Int} (h : x = (f j : Int)) : (Mix f g k j).set j x = Mix f g k (j + 1) := by
  unfold Mix
  rw [h, Rw_set]
  apply Rw_ext
  intro i _
  by_cases h1 : i = j
  · subst h1; rw [if_pos rfl, if_pos (by omega)]
  · rw [if_neg h1]
    by_cases h2 : i < j
    · rw [if_pos h2, if_pos (by omega)]
    · rw [if_neg h2, if_neg (by omega)]
theorem Mix_full (f g : Nat → Nat) {k j : Nat} (h : k < j) : Mix f g k j = Rw f k := Rw_ext (fun i hi => if_pos (by omega))
theorem Mix_one (f g : Nat → Nat) {k : Nat} (h : f 0 = g 0) : Mix f g k 1 = Rw g k := Rw_ext (fun i hi => by
  by_cases h2 : i < 1
  · rw [if_pos h2]; have : i = 0 := by omega
    subst this; exact h
  · rw [if_neg h2])
theorem rep_Rw (k : Nat) : (List.replicate (k + 1) (0 : Int)).set 0 1 = Rw (U 0) k := by
  have e : List.replicate (k + 1) (0 : Int) = Rw (fun _ => 0) k := by
    apply List.ext_getElem
    · simp [Rw]
    · intro i h1 h2; simp [Rw]
  have e1 : (1 : Int) = ((1 : Nat) : Int) := rfl
  rw [e, e1, Rw_set]
  exact Rw_ext (fun i _ => rfl)

theorem row_l2 {k m : Nat} (hk : k ≤ 64) (t13 t14 : Int) : pvq_row_l2 100 100 ((k : Int), 1, 1, t13, t14, Rw (U m) k) = some ((k : Int), t13, t14, Rw (U (m + 1)) k) := by
  have e : ∃ o, pvq_row_l2 100 100 ((k : Int), 1, 1, t13, t14, Rw (U m) k) = some o ∧ o = ((k : Int), t13, t14, Rw (U (m + 1)) k) := by
    refine itN_ok (I := Int × Int × Int × Int × Int × List Int) (O := Int × Int × Int × List Int)
      (fun d => ∃ j : Nat, 1 ≤ j ∧ j ≤ k + 1 ∧ d = ((k : Int), (U m (j - 1) : Int), (j : Int), t13, t14, Mix (U (m + 1)) (U m) k j))
      (fun d => ((k : Int) + 1 - d.2.2.1).toNat) (fun _ o => o = ((k : Int), t13, t14, Rw (U (m + 1)) k)) ?_ 100 _ ⟨1, by omega, by omega, ?_⟩ (by simp only; omega)
    · rintro rec _ ⟨j, h1, h2, rfl⟩ ih
      simp only [br_ite]
      by_cases hj : (j : Int) ≤ k
      · have w1 : IntKind.i64.wrap ((j : Int) - 1) = ((j - 1 : Nat) : Int) := by rw [wid (by omega) (by omega)]; omega
        have w2 : IntKind.i64.wrap ((j : Int) + 1) = ((j + 1 : Nat) : Int) := by rw [wid (by omega) (by omega)]; omega
        have u1 := U_le m j
        have u2 := U_le (m + 1) (j - 1)
        have u3 := U_le m (j - 1)
        rw [if_pos hj, w1, w2]
        simp only [Int.toNat_natCast, Mix_len]
        rw [need_t (by omega), need_t (by omega), need_t (by omega), need_t (by omega), Mix_hi _ _ (by omega) (Nat.le_refl j), Mix_lo _ _ (by omega) (by omega),
          wid (x := (U m j : Int) + (U (m + 1) (j - 1) : Int)) (by omega) (by omega), wid (x := _ + (U m (j - 1) : Int)) (by omega) (by omega)]
        have es : U (m + 1) j = min 4294967296 (U m j + U (m + 1) (j - 1) + U m (j - 1)) := by
          obtain ⟨i, rfl⟩ : ∃ i, j = i + 1 := ⟨j - 1, by omega⟩
          exact U_succ m i
        rw [Mix_set _ _ (by split <;> omega)]
        have h' := ih ((k : Int), (U m j : Int), ((j + 1 : Nat) : Int), t13, t14, Mix (U (m + 1)) (U m) k (j + 1)) ⟨j + 1, by omega, by omega, rfl⟩ (by simp only; omega)
        exact h'
      · rw [if_neg hj, Mix_full _ _ (by omega)]
        exact ⟨_, rfl, rfl⟩
    · rw [Mix_one _ _ (by rw [U0, U0])]; simp [U0]
  obtain ⟨o, e, rfl⟩ := e
  exact e

theorem row_ok {n k : Nat} (hn : n ≤ 16) (hk : k ≤ 64) : pvq_row 100 (n : Int) (k : Int) = some (Rw (U n) k) := by
  have w : IntKind.i64.wrap ((k : Int) + 1) = ((k + 1 : Nat) : Int) := by rw [wid (by omega) (by omega)]; omega
  unfold pvq_row
  rw [w, need_t (by omega)]
  simp only [Int.toNat_natCast]
  rw [need_t (by simp), rep_Rw]
  have e : ∃ o, pvq_row_l0 100 100 ((k : Int), (n : Int), 0, Rw (U 0) k) = some o ∧ o = Rw (U n) k := by
    refine itN_ok (I := Int × Int × Int × List Int) (O := List Int) (fun d => ∃ m : Nat, m ≤ n ∧ d = ((k : Int), (n : Int), (m : Int), Rw (U m) k))
      (fun d => ((n : Int) - d.2.2.1).toNat) (fun _ o => o = Rw (U n) k) ?_ 100 _ ⟨0, by omega, rfl⟩ (by simp only; omega)
    rintro rec _ ⟨m, h1, rfl⟩ ih
    simp only [br_ite]
    by_cases hm : (m : Int) < n
    · have w2 : IntKind.i64.wrap ((m : Int) + 1) = ((m + 1 : Nat) : Int) := by rw [wid (by omega) (by omega)]; omega
      rw [if_pos hm, row_l2 hk]
      simp only [Option.bind_some, w2]
      exact ih _ ⟨m + 1, by omega, rfl⟩ (by simp only; omega)
    · rw [if_neg hm]
      have : m = n := by omega
      subst this
      exact ⟨_, rfl, rfl⟩
  obtain ⟨o, e, rfl⟩ := e
  rw [e]; rfl

theorem pcount_ok {n k : Nat} (h1 : 1 ≤ n) (hn : n ≤ 16) (hk : k ≤ 64) : pvq_Count 100 (n : Int) (k : Int) = some (U n k : Int) := by
  unfold pvq_Count pvq_may
  simp only [br_ite]
  rw [if_pos (by omega)]
  simp only [Option.bind_some]
  rw [br_f (by simp; omega), if_neg (by omega), if_neg (by omega), row_ok hn hk]
  simp only [Option.bind_some, Rw_len, Int.toNat_natCast]
  rw [need_t (by omega), Rw_get _ (Nat.le_refl k)]

theorem rcount_l2 {k m : Nat} (hk : k ≤ 64) (n i : Int) : madrigalref17_Count_l2 100 100 (n, (k : Int), i, 1, Rw (U m) k, Rw (U 0) k) = some (n, (k : Int), i, Rw (U (m + 1)) k) := by
  have e : ∃ o, madrigalref17_Count_l2 100 100 (n, (k : Int), i, 1, Rw (U m) k, Rw (U 0) k) = some o ∧ o = (n, (k : Int), i, Rw (U (m + 1)) k) := by
    refine itN_ok (I := Int × Int × Int × Int × List Int × List Int) (O := Int × Int × Int × List Int)
      (fun d => ∃ j : Nat, 1 ≤ j ∧ j ≤ k + 1 ∧ d = (n, (k : Int), i, (j : Int), Rw (U m) k, Mix (U (m + 1)) (U 0) k j))
      (fun d => ((k : Int) + 1 - d.2.2.2.1).toNat) (fun _ o => o = (n, (k : Int), i, Rw (U (m + 1)) k)) ?_ 100 _ ⟨1, by omega, by omega, ?_⟩ (by simp only; omega)
    · rintro rec _ ⟨j, h1, h2, rfl⟩ ih
      simp only [br_ite]
      by_cases hj : (j : Int) ≤ k
      · have w1 : IntKind.i64.wrap ((j : Int) - 1) = ((j - 1 : Nat) : Int) := by rw [wid (by omega) (by omega)]; omega
        have w2 : IntKind.i64.wrap ((j : Int) + 1) = ((j + 1 : Nat) : Int) := by rw [wid (by omega) (by omega)]; omega
        have u1 := U_le m j
        have u2 := U_le (m + 1) (j - 1)
        have u3 := U_le m (j - 1)
        have es : U (m + 1) j = min 4294967296 (U m j + U (m + 1) (j - 1) + U m (j - 1)) := by
          obtain ⟨i, rfl⟩ : ∃ i, j = i + 1 := ⟨j - 1, by omega⟩
          exact U_succ m i
        rw [if_pos hj, w1, w2]
        simp only [Int.toNat_natCast, Mix_len, Rw_len, List.length_set]
        rw [need_t (by omega), need_t (by omega), need_t (by omega), need_t (by omega), Rw_get _ (by omega), Mix_lo _ _ (by omega) (by omega), Rw_get _ (by omega),
          wid (x := (U m j : Int) + (U (m + 1) (j - 1) : Int)) (by omega) (by omega), wid (x := _ + (U m (j - 1) : Int)) (by omega) (by omega), need_t (by omega)]
        have eg : ∀ x : Int, ((Mix (U (m + 1)) (U 0) k j).set j x).getD j 0 = x := fun x => by
          have hl : j < (Mix (U (m + 1)) (U 0) k j).length := by rw [Mix_len]; omega
          simp [List.getD, List.getElem?_set, hl]
        rw [eg, List.set_set]
        have h' := ih (n, (k : Int), i, ((j + 1 : Nat) : Int), Rw (U m) k, Mix (U (m + 1)) (U 0) k (j + 1)) ⟨j + 1, by omega, by omega, rfl⟩ (by simp only; omega)
        by_cases hb : (4294967296 : Int) < (U m j : Int) + (U (m + 1) (j - 1) : Int) + (U m (j - 1) : Int)
        · rw [if_pos hb, need_t (by omega), Mix_set _ _ (by omega)]
          exact h'
        · rw [if_neg hb, Mix_set _ _ (by omega)]
          exact h'
      · rw [if_neg hj, Mix_full _ _ (by omega)]
        exact ⟨_, rfl, rfl⟩
    · rw [Mix_one _ _ (by rw [U0, U0])]; rfl
  obtain ⟨o, e, rfl⟩ := e
  exact e

theorem rcount_ok {n k : Nat} (h1 : 1 ≤ n) (hn : n ≤ 16) (hk : k ≤ 64) : madrigalref17_Count 100 (n : Int) (k : Int) = some (U n k : Int) := by
  have w : IntKind.i64.wrap ((k : Int) + 1) = ((k + 1 : Nat) : Int) := by rw [wid (by omega) (by omega)]; omega
  unfold madrigalref17_Count
  simp only [br_ite]
  rw [if_neg (by omega), if_neg (by omega), if_neg (by omega), if_neg (by omega), w, need_t ⟨by omega, trivial, by omega, by omega⟩]
  simp only [Int.toNat_natCast]
  rw [need_t (by simp), rep_Rw]
  have e : ∃ o, madrigalref17_Count_l0 100 100 ((n : Int), (k : Int), 0, Rw (U 0) k) = some o ∧ o = ((k : Int), Rw (U n) k) := by
    refine itN_ok (I := Int × Int × Int × List Int) (O := Int × List Int) (fun d => ∃ m : Nat, m ≤ n ∧ d = ((n : Int), (k : Int), (m : Int), Rw (U m) k))
      (fun d => ((n : Int) - d.2.2.1).toNat) (fun _ o => o = ((k : Int), Rw (U n) k)) ?_ 100 _ ⟨0, by omega, rfl⟩ (by simp only; omega)
    rintro rec _ ⟨m, h1, rfl⟩ ih
    simp only [br_ite, w, Int.toNat_natCast]
    by_cases hm : (m : Int) < n
    · have w2 : IntKind.i64.wrap ((m : Int) + 1) = ((m + 1 : Nat) : Int) := by rw [wid (by omega) (by omega)]; omega
      rw [if_pos hm, need_t ⟨by omega, trivial, by omega, by omega⟩, need_t (by simp), rep_Rw, rcount_l2 hk]
      simp only [Option.bind_some, w2]
      exact ih _ ⟨m + 1, by omega, rfl⟩ (by simp only; omega)
    · rw [if_neg hm]
      have : m = n := by omega
      subst this
      exact ⟨_, rfl, rfl⟩
  obtain ⟨o, e, rfl⟩ := e
  rw [e]
  simp only [Option.bind_some, Rw_len, Int.toNat_natCast]
  rw [need_t (by omega), Rw_get _ (Nat.le_refl k)]

def ML : List Int := [64, 64, 64, 64, 64, 64, 53, 36, 27, 22, 18, 16, 15, 13, 12, 12]
def tb (n j : Int) : Int := (bl (U n.toNat j.toNat - 1) : Int)
def mo (n : Int) : Int := ML.getD (n - 1).toNat 0
def chkm (n : Int) : Bool := decide (pvq_Most 100 n = some (mo n)) && decide (madrigalref17_Most n = some (mo n)) && decide (0 ≤ mo n) && decide (mo n ≤ 64)
theorem chkm_1 : chkm 1 = true := by kernel_rfl
theorem chkm_2 : chkm 2 = true := by kernel_rfl
theorem chkm_3 : chkm 3 = true := by kernel_rfl
theorem chkm_4 : chkm 4 = true := by kernel_rfl
theorem chkm_5 : chkm 5 = true := by kernel_rfl
theorem chkm_6 : chkm 6 = true := by kernel_rfl
theorem chkm_7 : chkm 7 = true := by kernel_rfl
theorem chkm_8 : chkm 8 = true := by kernel_rfl
theorem chkm_9 : chkm 9 = true := by kernel_rfl
theorem chkm_10 : chkm 10 = true := by kernel_rfl
theorem chkm_11 : chkm 11 = true := by kernel_rfl
theorem chkm_12 : chkm 12 = true := by kernel_rfl
theorem chkm_13 : chkm 13 = true := by kernel_rfl
theorem chkm_14 : chkm 14 = true := by kernel_rfl
theorem chkm_15 : chkm 15 = true := by kernel_rfl
theorem chkm_16 : chkm 16 = true := by kernel_rfl
theorem chkm_all (n : Int) (h1 : 1 ≤ n) (h2 : n ≤ 16) : chkm n = true := by
  obtain ⟨n, rfl⟩ := Int.eq_ofNat_of_zero_le (by omega : 0 ≤ n)
  match n, h1, h2 with
  | 1, _, _ => exact chkm_1
  | 2, _, _ => exact chkm_2
  | 3, _, _ => exact chkm_3
  | 4, _, _ => exact chkm_4
  | 5, _, _ => exact chkm_5
  | 6, _, _ => exact chkm_6
  | 7, _, _ => exact chkm_7
  | 8, _, _ => exact chkm_8
  | 9, _, _ => exact chkm_9
  | 10, _, _ => exact chkm_10
  | 11, _, _ => exact chkm_11
  | 12, _, _ => exact chkm_12
  | 13, _, _ => exact chkm_13
  | 14, _, _ => exact chkm_14
  | 15, _, _ => exact chkm_15
  | 16, _, _ => exact chkm_16
  | 0, h, _ => omega
  | n + 17, _, h => omega
theorem chk_most {n : Int} (h1 : 1 ≤ n) (h2 : n ≤ 16) : pvq_Most 100 n = some (mo n) ∧ madrigalref17_Most n = some (mo n) ∧ 0 ≤ mo n ∧ mo n ≤ 64 := by
  have h : chkm n = true := chkm_all n h1 h2
  simp only [chkm, Bool.and_eq_true, decide_eq_true_eq] at h
  exact ⟨h.1.1.1, h.1.1.2, h.1.2, h.2⟩

theorem cnt_of {n j : Int} (h1 : 1 ≤ n) (h2 : n ≤ 16) (h3 : 1 ≤ j) (h4 : j ≤ mo n) :
    ∃ c, pvq_Count 100 n j = some c ∧ madrigalref17_Count 100 n j = some c ∧ fix_Len 100 (IntKind.i64.wrap (c - 1)) = some (tb n j) ∧ madrigalref1_Len 100 (IntKind.i64.wrap (c - 1)) = some (tb n j) := by
  have h64 := (chk_most h1 h2).2.2.2
  have a := pcount_ok (n := n.toNat) (k := j.toNat) (by omega) (by omega) (by omega)
  have b := rcount_ok (n := n.toNat) (k := j.toNat) (by omega) (by omega) (by omega)
  have e1 : ((n.toNat : Nat) : Int) = n := by omega
  have e2 : ((j.toNat : Nat) : Int) = j := by omega
  rw [e1, e2] at a b
  have hu := U_le n.toNat j.toNat
  have hp : 1 ≤ U n.toNat j.toNat := by
    obtain ⟨m, hm⟩ : ∃ m, n.toNat = m + 1 := ⟨n.toNat - 1, by omega⟩
    rw [hm]
    have : ∀ j, 1 ≤ U (m + 1) j := fun j => by
      induction j with
      | zero => rw [U0]; omega
      | succ j ih => have := U_up m j; omega
    exact this _
  have w : IntKind.i64.wrap ((U n.toNat j.toNat : Int) - 1) = (U n.toNat j.toNat : Int) - 1 := wid (by omega) (by omega)
  have e3 : ((U n.toNat j.toNat : Int) - 1).toNat = U n.toNat j.toNat - 1 := by omega
  refine ⟨_, a, b, ?_, ?_⟩
  · rw [w, len_ok (by omega) (by omega), e3]; rfl
  · rw [w, rlen_ok (by omega) (by omega), e3]; rfl

theorem U_mono {m i : Nat} (d : Nat) : U (m + 1) i ≤ U (m + 1) (i + d) := by
  induction d with
  | zero => exact Nat.le_refl _
  | succ d ih => have := U_up m (i + d); rw [← Nat.add_assoc]; omega

theorem tb_le {n : Int} (h1 : 1 ≤ n) (h2 : n ≤ 16) {i j : Int} (h3 : 1 ≤ i) (h4 : i ≤ j) (h5 : j ≤ mo n) : tb n i ≤ tb n j := by
  obtain ⟨m, hm⟩ : ∃ m, n.toNat = m + 1 := ⟨n.toNat - 1, by omega⟩
  have h := U_mono (m := m) (i := i.toNat) (j.toNat - i.toNat)
  have e : i.toNat + (j.toNat - i.toNat) = j.toNat := by omega
  rw [e] at h
  unfold tb
  rw [hm]
  have := bl_mono (x := U (m + 1) i.toNat - 1) (y := U (m + 1) j.toNat - 1) (by omega)
  omega

theorem tb_one {n : Int} (h1 : 1 ≤ n) : 1 ≤ tb n 1 := by
  obtain ⟨m, hm⟩ : ∃ m, n.toNat = m + 1 := ⟨n.toNat - 1, by omega⟩
  unfold tb
  rw [hm]
  have := U_two m
  have h := bl_half (x := U (m + 1) 1 - 1) (by omega)
  have e : (1 : Int).toNat = 1 := rfl
  rw [e]; omega

/-- r pulses are what the bits pay for -/
def PR (n bits r : Int) : Prop := 0 ≤ r ∧ r ≤ mo n ∧ (∀ j, 1 ≤ j → j ≤ r → tb n j ≤ bits) ∧ (r < mo n → bits < tb n (r + 1))

theorem PR_le {n b1 b2 r1 r2 : Int} (h : b1 ≤ b2) (h1 : PR n b1 r1) (h2 : PR n b2 r2) : r1 ≤ r2 := by
  apply Int.not_lt.mp
  intro hlt
  have a := h2.2.2.2 (by have := h1.2.1; omega)
  have b := h1.2.2.1 (r2 + 1) (by have := h2.1; omega) (by omega)
  omega

theorem PR_eq {n b r1 r2 : Int} (h1 : PR n b r1) (h2 : PR n b r2) : r1 = r2 := by
  have a := PR_le (Int.le_refl b) h1 h2
  have b := PR_le (Int.le_refl b) h2 h1
  omega

theorem pulses_ok {n bits : Int} (h1 : 1 ≤ n) (h2 : n ≤ 16) : ∃ r, alloc_Pulses 100 n bits = some r ∧ PR n bits r := by
  obtain ⟨hm, -, hm0, hm1⟩ := chk_most h1 h2
  have hl : ∃ r, alloc_Pulses_l0 100 100 (n, bits, 0, mo n) = some r ∧ PR n bits r := by
    refine itN_ok (fun d => d.1 = n ∧ d.2.1 = bits ∧ 0 ≤ d.2.2.1 ∧ d.2.2.1 ≤ d.2.2.2 ∧ d.2.2.2 ≤ mo n ∧ (∀ j, 1 ≤ j → j ≤ d.2.2.1 → tb n j ≤ bits) ∧ (d.2.2.2 < mo n → bits < tb n (d.2.2.2 + 1)))
      (fun d => (d.2.2.2 - d.2.2.1).toNat) (fun _ r => PR n bits r) ?_ 100 _ ⟨rfl, rfl, Int.le_refl _, hm0, Int.le_refl _, fun j a b => by have := b; simp only at this; omega, fun a => by simp only at a; omega⟩ (by simp only; omega)
    rintro rec ⟨n', bits', least, most⟩ ⟨hn, hb, hl0, hlm, hmm, hlo, hhi⟩ ih
    replace ih := fun a b c d => ih (a, b, c, d)
    simp only at hn hb hl0 hlm hmm hlo hhi ih
    subst hn hb
    simp only [br_ite]
    by_cases hlt : least < most
    · rw [if_pos hlt]
      have w1 : IntKind.i64.wrap (IntKind.i64.wrap (least + most) + 1) = least + most + 1 := by rw [wid (x := least + most) (by omega) (by omega), wid (by omega) (by omega)]
      have w2 : IntKind.i64.wrap ((least + most + 1).tdiv 2) = (least + most + 1) / 2 := IntWalk.i64_quo _ _ ⟨by omega, by omega, by omega⟩
      simp only [w1, w2]
      generalize hmid : (least + most + 1) / 2 = mid
      have b1 : least < mid := by omega
      have b2 : mid ≤ most := by omega
      have w3 : IntKind.i64.wrap (mid - 1) = mid - 1 := wid (by omega) (by omega)
      obtain ⟨c, e1, -, e2, -⟩ := cnt_of h1 h2 (j := mid) (by omega) (by omega)
      simp only [e1, Option.bind_some, e2, w3]
      by_cases hle : tb n' mid ≤ bits'
      · rw [if_pos hle]
        exact ih _ _ _ _ ⟨rfl, rfl, by omega, by omega, by omega, fun j a b => by
          have := tb_le h1 h2 a b (by omega)
          omega, hhi⟩ (by omega)
      · rw [if_neg hle]
        refine ih _ _ _ _ ⟨rfl, rfl, by omega, by omega, by omega, hlo, fun _ => by
          have e : mid - 1 + 1 = mid := by omega
          rw [e]; omega⟩ (by omega)
    · rw [if_neg hlt]
      have e : least = most := by omega
      subst e
      exact ⟨_, rfl, hl0, hmm, hlo, hhi⟩
  obtain ⟨r, e, hr⟩ := hl
  refine ⟨r, ?_, hr⟩
  simp only [alloc_Pulses, hm, Option.bind_some, e]

theorem pulses_out {n bits : Int} (h : n < 1 ∨ 16 < n) : alloc_Pulses 100 n bits = some 0 := by
  have hm : pvq_Most 100 n = some 0 := by
    have : pvq_may n = some false := by
      unfold pvq_may
      simp only [br_ite]
      rcases h with h | h
      · rw [if_neg (by omega)]
      · rw [if_pos (by omega)]; simp; omega
    simp only [pvq_Most, this, Option.bind_some]; rfl
  simp only [alloc_Pulses, hm, Option.bind_some]
  rfl

theorem paid_ok {n bits : Int} (h1 : 1 ≤ n) (h2 : n ≤ 16) : ∃ r, madrigalref17_Paid 100 n bits = some r ∧ PR n bits r := by
  obtain ⟨-, hm, hm0, hm1⟩ := chk_most h1 h2
  unfold madrigalref17_Paid
  simp only [br_ite]
  rw [if_neg (by omega), if_neg (by omega)]
  by_cases hb : bits < 1
  · rw [if_pos hb]
    refine ⟨0, rfl, Int.le_refl _, hm0, fun j a b => by omega, fun h => ?_⟩
    have := tb_one h1
    simp only [Int.zero_add]; omega
  · rw [if_neg hb]
    have hl : ∃ r, madrigalref17_Paid_l0 100 100 (n, bits, mo n, 0) = some r ∧ PR n bits r := by
      refine itN_ok (fun d => d.1 = n ∧ d.2.1 = bits ∧ d.2.2.1 = mo n ∧ 0 ≤ d.2.2.2 ∧ d.2.2.2 ≤ mo n ∧ (∀ j, 1 ≤ j → j ≤ d.2.2.2 → tb n j ≤ bits))
        (fun d => (mo n - d.2.2.2).toNat) (fun _ r => PR n bits r) ?_ 100 _ ⟨rfl, rfl, rfl, Int.le_refl _, hm0, fun j a b => by have := b; simp only at this; omega⟩ (by simp only; omega)
      rintro rec ⟨n', bits', most, k⟩ ⟨hn, hb', hmo, hk0, hkm, hlo⟩ ih
      replace ih := fun a b c d => ih (a, b, c, d)
      simp only at hn hb' hmo hk0 hkm hlo ih
      subst hn hb' hmo
      simp only [br_ite]
      by_cases hlt : k < mo n'
      · rw [if_pos hlt]
        have w1 : IntKind.i64.wrap (k + 1) = k + 1 := wid (by omega) (by omega)
        obtain ⟨c, -, e1, -, e2⟩ := cnt_of h1 h2 (j := k + 1) (by omega) (by omega)
        simp only [w1, e1, e2, Option.bind_some]
        by_cases hle : tb n' (k + 1) ≤ bits'
        · rw [if_pos hle]
          exact ih _ _ _ _ ⟨rfl, rfl, rfl, by omega, by omega, fun j a b => by
            by_cases hj : j = k + 1
            · subst hj; exact hle
            · exact hlo j a (by omega)⟩ (by omega)
        · rw [if_neg hle]
          exact ⟨_, rfl, hk0, hkm, hlo, fun _ => by omega⟩
      · rw [if_neg hlt]
        exact ⟨_, rfl, hk0, hkm, hlo, fun h => by omega⟩
    obtain ⟨r, e, hr⟩ := hl
    exact ⟨r, by simp only [hm, Option.bind_some, e], hr⟩

theorem pulses_paid (n bits : Int) : ∃ r, alloc_Pulses 100 n bits = some r ∧ madrigalref17_Paid 100 n bits = some r := by
  by_cases h : 1 ≤ n ∧ n ≤ 16
  · obtain ⟨r, e, hr⟩ := pulses_ok (bits := bits) h.1 h.2
    obtain ⟨r', e', hr'⟩ := paid_ok (bits := bits) h.1 h.2
    exact ⟨r, e, by rw [e', PR_eq hr hr']⟩
  · refine ⟨0, pulses_out (by omega), ?_⟩
    unfold madrigalref17_Paid
    simp only [br_ite]
    by_cases h1 : n < 1
    · rw [if_pos h1]
    · rw [if_neg h1, if_pos (by omega)]

theorem ints_same {a : List Int} (h : a.length < 90) : madrigallaw18_ints 100 a a = some (true, a, a) := by
  unfold madrigallaw18_ints
  have e : ∃ o, madrigallaw18_ints_l0 100 100 (0, a, a) = some o ∧ o = .inl (a, a) := by
    refine itN_ok (I := Int × List Int × List Int) (O := (List Int × List Int) ⊕ (Bool × List Int × List Int)) (fun d => d.2 = (a, a) ∧ 0 ≤ d.1 ∧ d.1 ≤ a.length) (fun d => ((a.length : Int) - d.1).toNat) (fun _ o => o = .inl (a, a)) ?_ 100 _ ⟨rfl, Int.le_refl _, by simp only; omega⟩ (by simp only; omega)
    rintro rec ⟨i, x⟩ ⟨hx, h0, h1⟩ ih
    replace ih := fun a b => ih (a, b)
    simp only at hx h0 h1 ih
    subst hx
    simp only [br_ite]
    by_cases hlt : i < a.length
    · have w : IntKind.i64.wrap (i + 1) = i + 1 := wid (by omega) (by omega)
      rw [if_pos hlt, need_t ⟨h0, hlt⟩, need_t ⟨h0, hlt⟩, br_f (by simp), w]
      exact ih _ _ ⟨rfl, by omega, by omega⟩ (by omega)
    · rw [if_neg hlt]
      exact ⟨_, rfl, rfl⟩
  obtain ⟨o, e, rfl⟩ := e
  rw [br_f (by simp), e]
  rfl

end Go.Proofs.Ytdimjdlomgpbgaa.Pure
