/- Plain laws of the Lean functions, or the contract of a function of the library. Conditions: those of each statement. -/
import Derived.Test.YtblaikeffnpagaaR3
set_option linter.unusedVariables false
set_option linter.unusedSimpArgs false
namespace Go.Proofs.Ytblaikeffnpagaa.Pure
open Go Go.Ab

/-! numbers -/
def fac (a : Int) : Int := if a < -2147483648 then -2147483648 else if 2147483648 < a then 2147483648 else a
theorem fac_bd (a : Int) : -2147483648 ≤ fac a ∧ fac a ≤ 2147483648 := by unfold fac; split <;> (try split) <;> omega
theorem fac_id {a : Int} (h1 : -2147483648 ≤ a) (h2 : a ≤ 2147483648) : fac a = a := by unfold fac; rw [if_neg (by omega), if_neg (by omega)]
theorem factor_ok (a : Int) : fix_factor a = some (fac a) := by
  unfold fix_factor fix_Clamp fac
  rw [br_n (by omega)]
  simp only [br_ite]
  split
  · rfl
  · split <;> rfl
theorem rfactor_ok (a : Int) : madrigalref1_Clamp a (-2147483648) 2147483648 = some (fac a) := by
  unfold madrigalref1_Clamp fac
  simp only [br_ite]
  split
  · rfl
  · rw [if_neg (by omega)]; split <;> rfl
/-- multiplied, divided by 2^15, rounded -/
def m15 (a b : Int) : Int := (a * b + 16384) / 32768
def inF (a : Int) : Prop := -2147483648 ≤ a ∧ a ≤ 2147483648
theorem prod_bd {a b : Int} (ha : inF a) (hb : inF b) : (a * b).natAbs ≤ 4611686018427387904 := mul_bd (A := 2147483648) (B := 2147483648) (by unfold inF at ha; omega) (by unfold inF at hb; omega)
theorem mul15 {a b : Int} (ha : inF a) (hb : inF b) : fix_Mul a b 15 = some (m15 a b) := by
  have hp := prod_bd ha hb
  unfold fix_Mul
  rw [factor_ok, bind_s, factor_ok, bind_s, fac_id ha.1 ha.2, fac_id hb.1 hb.2, br_n (by decide), br_n (by decide), br_n (by decide), need_t (by decide), need_t (by decide)]
  have e1 : IntKind.i64.wrap (1 * 2 ^ (min ((IntKind.i64.wrap (15 - 1)).toNat) 64)) = 16384 := by decide
  have e2 : (2 : Int) ^ (min ((15 : Int).toNat) 64) = 32768 := by decide
  rw [e1, e2, wid (x := a * b) (by omega) (by omega), wid (by omega) (by omega), fdiv_nn (by decide)]
  rfl
theorem rmul15 {a b : Int} (ha : inF a) (hb : inF b) : madrigalref1_Mul a b 15 = some (m15 a b) := by
  have hp := prod_bd ha hb
  unfold madrigalref1_Mul
  rw [rfactor_ok, bind_s, rfactor_ok, bind_s, fac_id ha.1 ha.2, fac_id hb.1 hb.2, br_n (by decide), br_n (by decide), br_n (by decide), need_t (by decide), need_t (by decide), need_t (by decide)]
  have e1 : IntKind.i64.wrap (1 * 2 ^ (min ((IntKind.u64.wrap (IntKind.i64.wrap (15 - 1))).toNat) 64)) = 16384 := by decide
  have e2 : (2 : Int) ^ (min ((IntKind.u64.wrap 15).toNat) 64) = 32768 := by decide
  rw [e1, e2, wid (x := a * b) (by omega) (by omega), fdiv_nn (by decide)]
  rw [wid (x := a * b / 32768 * 32768) (by omega) (by omega), wid (x := a * b - _) (by omega) (by omega)]
  unfold m15
  rw [br_ite]
  split
  · rw [wid (by omega) (by omega)]; congr 1; omega
  · congr 1; omega

/-! softness -/
def soft : Nat → Int
  | 0 => 32768
  | n + 1 => m15 (soft n) 29491
theorem soft_bd : ∀ n, 0 ≤ soft n ∧ soft n ≤ 32768
  | 0 => by decide
  | n + 1 => by have := soft_bd n; simp only [soft, m15]; omega
def sft (n : Int) : Int := if 40 < n then 0 else soft n.toNat
theorem sft_bd (n : Int) : 0 ≤ sft n ∧ sft n ≤ 32768 := by
  unfold sft; split
  · omega
  · exact soft_bd _
theorem soft_l0 (k : Nat) {m : Nat} (hm : m ≤ 1000) : ∀ r K i, i + r = m → r < K → plc_Soft_l0 k K (soft i, (m : Int), (i : Int)) = some (soft m) := by
  intro r
  induction r with
  | zero =>
    intro K i hi hK
    obtain ⟨K, rfl⟩ : ∃ m, K = m + 1 := ⟨K - 1, by omega⟩
    rw [show plc_Soft_l0 k (K + 1) = plc_Soft_l0F k (plc_Soft_l0 k K) from rfl]
    unfold plc_Soft_l0F
    simp only
    rw [br_n (by omega)]
    congr 2
  | succ r ih =>
    intro K i hi hK
    obtain ⟨K, rfl⟩ : ∃ m, K = m + 1 := ⟨K - 1, by omega⟩
    rw [show plc_Soft_l0 k (K + 1) = plc_Soft_l0F k (plc_Soft_l0 k K) from rfl]
    unfold plc_Soft_l0F
    simp only
    have hb := soft_bd i
    rw [br_y (by omega), mul15 ⟨by omega, by omega⟩ ⟨by decide, by decide⟩, bind_s, wid (by omega) (by omega), show ((i : Int) + 1) = ((i + 1 : Nat) : Int) by omega]
    exact ih K (i + 1) (by omega) (by omega)
theorem rsoft_l0 (k : Nat) {m : Nat} (hm : m ≤ 1000) : ∀ r K i, i + r = m → r < K → madrigalref10_Soft_l0 k K ((m : Int), soft i, (i : Int)) = some (soft m) := by
  intro r
  induction r with
  | zero =>
    intro K i hi hK
    obtain ⟨K, rfl⟩ : ∃ m, K = m + 1 := ⟨K - 1, by omega⟩
    rw [show madrigalref10_Soft_l0 k (K + 1) = madrigalref10_Soft_l0F k (madrigalref10_Soft_l0 k K) from rfl]
    unfold madrigalref10_Soft_l0F
    simp only
    rw [br_n (by omega)]
    congr 2
  | succ r ih =>
    intro K i hi hK
    obtain ⟨K, rfl⟩ : ∃ m, K = m + 1 := ⟨K - 1, by omega⟩
    rw [show madrigalref10_Soft_l0 k (K + 1) = madrigalref10_Soft_l0F k (madrigalref10_Soft_l0 k K) from rfl]
    unfold madrigalref10_Soft_l0F
    simp only
    have hb := soft_bd i
    rw [br_y (by omega), rmul15 ⟨by omega, by omega⟩ ⟨by decide, by decide⟩, bind_s, wid (by omega) (by omega), show ((i : Int) + 1) = ((i + 1 : Nat) : Int) by omega]
    exact ih K (i + 1) (by omega) (by omega)
theorem soft_ok {k : Nat} (hk : 1000 ≤ k) (n : Int) : plc_Soft k n = some (sft n) := by
  unfold plc_Soft sft
  by_cases h : 40 < n
  · rw [br_y h, if_pos h]
  · rw [br_n h, if_neg h]
    have e : (if 0 > n then 0 else n) = ((n.toNat : Nat) : Int) := by split <;> omega
    have := soft_l0 k (m := n.toNat) (by omega) n.toNat k 0 (by omega) (by omega)
    rw [show soft 0 = 32768 from rfl, show ((0 : Nat) : Int) = 0 from rfl] at this
    rw [e, this]; rfl
theorem rsoft_ok {k : Nat} (hk : 1000 ≤ k) (n : Int) (h0 : 0 ≤ n) : madrigalref10_Soft k n = some (sft n) := by
  unfold madrigalref10_Soft sft
  by_cases h : 40 < n
  · rw [br_y h, if_pos h]
  · rw [br_n h, if_neg h]
    obtain ⟨n, rfl⟩ := Int.eq_ofNat_of_zero_le h0
    have := rsoft_l0 k (m := n) (by omega) n k 0 (by omega) (by omega)
    rw [show soft 0 = 32768 from rfl, show ((0 : Nat) : Int) = 0 from rfl] at this
    rw [this]; rfl

/-! rates -/
def rateOk (r : Int) : Prop := r = 8000 ∨ r = 12000 ∨ r = 16000 ∨ r = 24000 ∨ r = 48000
instance (r : Int) : Decidable (rateOk r) := by unfold rateOk; infer_instance
def hgt (r : Int) : Nat := (r / 50).toNat
theorem new_ok {r : Int} (h : rateOk r) : plc_New r = some (.inl (0, r, 0, 0, List.replicate (hgt r) (0 : Int))) := by
  rcases h with rfl | rfl | rfl | rfl | rfl <;> rfl
theorem new_bad {r : Int} (h : ¬ rateOk r) : plc_New r = some (.inr 1) := by
  unfold rateOk at h
  unfold plc_New
  rw [br_n (by omega), br_n (by omega), br_n (by omega), br_n (by omega), br_n (by omega)]
theorem known_ok (r : Int) : madrigalref10_Known r = some (decide (rateOk r)) := by
  unfold madrigalref10_Known rateOk
  by_cases h1 : r = 8000
  · subst h1; rfl
  rw [br_n h1]
  by_cases h2 : r = 12000
  · subst h2; rfl
  rw [br_n h2]
  by_cases h3 : r = 16000
  · subst h3; rfl
  rw [br_n h3]
  by_cases h4 : r = 24000
  · subst h4; rfl
  rw [br_n h4]
  simp [h1, h2, h3, h4]
theorem hgt_bd {r : Int} (h : rateOk r) : 160 ≤ hgt r ∧ hgt r ≤ 960 ∧ (hgt r : Int) = r / 50 ∧ 20 ≤ r / 400 ∧ r / 400 ≤ ((hgt r / 2 : Nat) : Int) ∧ 8000 ≤ r ∧ r ≤ 48000 := by
  rcases h with rfl | rfl | rfl | rfl | rfl <;> decide

/-! what is kept -/
def keep (m x : List Int) : List Int := ((m ++ x.map s16).drop x.length)
theorem keep_len (m x : List Int) : (keep m x).length = m.length := by unfold keep; simp
theorem keep_l0 (k : Nat) {h a b c : Int} {x m : List Int} {o n : Nat} (ho : o + n = x.length) (hx : x.length ≤ 10000000) : ∀ r K i (l : List Int), i + r = n → r < K → l.length + r ≤ 100000000 →
    plc_Maker_Keep_l0 k K (h, o, n, (n : Int), (i : Int), a, b, c, x, m, l) = some (h, a, b, c, x, m, l ++ (x.drop (o + i)).map s16) := by
  intro r
  induction r with
  | zero =>
    intro K i l hi hK hl
    obtain ⟨K, rfl⟩ : ∃ m, K = m + 1 := ⟨K - 1, by omega⟩
    rw [show plc_Maker_Keep_l0 k (K + 1) = plc_Maker_Keep_l0F k (plc_Maker_Keep_l0 k K) from rfl]
    unfold plc_Maker_Keep_l0F
    simp only
    rw [br_n (by omega), List.drop_of_length_le (by omega)]
    simp
  | succ r ih =>
    intro K i l hi hK hl
    obtain ⟨K, rfl⟩ : ∃ m, K = m + 1 := ⟨K - 1, by omega⟩
    rw [show plc_Maker_Keep_l0 k (K + 1) = plc_Maker_Keep_l0F k (plc_Maker_Keep_l0 k K) from rfl]
    unfold plc_Maker_Keep_l0F
    simp only
    rw [br_y (by omega), need_t (by omega), sat16_ok, bind_s, need_t (by simp; omega), wid (by omega) (by omega), show ((i : Int) + 1) = ((i + 1 : Nat) : Int) by omega, Int.toNat_natCast, ih K (i + 1) _ (by omega) (by omega) (by simp; omega)]
    rw [List.drop_eq_getElem_cons (show o + i < x.length by omega), List.map_cons, List.append_assoc]
    simp [List.getD_eq_getElem?_getD, show o + i < x.length by omega, Nat.add_assoc]
theorem keep_ok {k : Nat} (hk : 1000 ≤ k) {a b c : Int} {x m : List Int} (hx : x.length ≤ 10000000) (hm0 : 0 < m.length) (hm : m.length ≤ 960) :
    plc_Maker_Keep k a b c x m = some (a, 0, 0, x, m, keep m x) := by
  unfold plc_Maker_Keep slices_Clone_int64_int64
  rw [need_t hm0, need_t (by omega), bind_s]
  have e1 : IntKind.i64.wrap ((x.length : Int) - (m.length : Int)) = (x.length : Int) - (m.length : Int) := wid (by omega) (by omega)
  have e2 : (if 0 > IntKind.i64.wrap ((x.length : Int) - (m.length : Int)) then 0 else IntKind.i64.wrap ((x.length : Int) - (m.length : Int))) = ((x.length - m.length : Nat) : Int) := by
    rw [e1]; split <;> omega
  simp only [e2]
  rw [need_t (by omega), show (((x.length : Nat) : Int) - ((x.length - m.length : Nat) : Int)).toNat = x.length - (x.length - m.length) by omega, Int.toNat_natCast,
    show (0 : Int) = ((0 : Nat) : Int) from rfl, keep_l0 k (by omega) hx (x.length - (x.length - m.length)) k 0 m (by omega) (by omega) (by omega), bind_s]
  simp only [Nat.add_zero]
  have hll : (m ++ (x.drop (x.length - m.length)).map s16).length = m.length + (x.length - (x.length - m.length)) := by simp
  have e3 : IntKind.i64.wrap (((m ++ (x.drop (x.length - m.length)).map s16).length : Int) - (m.length : Int)) = ((m ++ (x.drop (x.length - m.length)).map s16).length : Int) - (m.length : Int) := wid (by omega) (by omega)
  rw [need_t (by omega), e3]
  congr 6
  rw [List.take_of_length_le (by rw [List.length_drop]; omega)]
  unfold keep
  rw [show (((m ++ (x.drop (x.length - m.length)).map s16).length : Int) - (m.length : Int)).toNat = x.length - (x.length - m.length) by omega]
  by_cases h : x.length ≤ m.length
  · rw [show x.length - m.length = 0 by omega]; simp
  · rw [show x.length - (x.length - m.length) = m.length by omega, List.drop_append, List.drop_append]
    rw [List.drop_of_length_le (show m.length ≤ m.length by omega), List.drop_of_length_le (show m.length ≤ x.length by omega)]
    simp [List.map_drop]
theorem keep_bd {m x : List Int} {M : Nat} (h0 : ∀ v ∈ m, v.natAbs ≤ M) (h1 : ∀ v ∈ x, (s16 v).natAbs ≤ M) : ∀ v ∈ keep m x, v.natAbs ≤ M := by
  intro v hv
  rcases List.mem_append.1 (List.mem_of_mem_drop hv) with h | h
  · exact h0 v h
  · obtain ⟨y, hy, rfl⟩ := List.mem_map.1 h; exact h1 y hy

/-! samples are made up -/
def made (m : List Int) (lag : Nat) (g : Int) (n : Nat) : List Int := (List.range n).map fun j => s16 (m15 (m.getD (m.length - lag + j % lag) 0) g)
theorem made_len (m : List Int) (lag : Nat) (g : Int) (n : Nat) : (made m lag g n).length = n := by simp [made]
theorem make_l0 (k : Nat) {a b : Int} {m : List Int} {lag : Nat} {g : Int} {n : Nat} (hl1 : 1 ≤ lag) (hl2 : lag ≤ m.length) (hm : m.length ≤ 960) (hb : ∀ v ∈ m, inF v) (hg : inF g) (hn : n ≤ 4800) : ∀ r K i (l : List Int), i + r = n → r < K → l.length = n → (∀ j, j < i → l.getD j 0 = s16 (m15 (m.getD (m.length - lag + j % lag) 0) g)) →
    ∃ l', plc_Maker_Make_2_l0 k K (g, (n : Int), (i : Int), a, b, (lag : Int), m, l) = some (a, b, (lag : Int), m, l') ∧ l'.length = n ∧ (∀ j, j < n → l'.getD j 0 = s16 (m15 (m.getD (m.length - lag + j % lag) 0) g)) := by
  intro r
  induction r with
  | zero =>
    intro K i l hi hK hll hj
    obtain ⟨K, rfl⟩ : ∃ m, K = m + 1 := ⟨K - 1, by omega⟩
    rw [show plc_Maker_Make_2_l0 k (K + 1) = plc_Maker_Make_2_l0F k (plc_Maker_Make_2_l0 k K) from rfl]
    unfold plc_Maker_Make_2_l0F
    simp only
    rw [br_n (by omega)]
    exact ⟨l, rfl, hll, fun j h => hj j (by omega)⟩
  | succ r ih =>
    intro K i l hi hK hll hj
    obtain ⟨K, rfl⟩ : ∃ m, K = m + 1 := ⟨K - 1, by omega⟩
    rw [show plc_Maker_Make_2_l0 k (K + 1) = plc_Maker_Make_2_l0F k (plc_Maker_Make_2_l0 k K) from rfl]
    unfold plc_Maker_Make_2_l0F
    simp only
    have hmod : i % lag < lag := Nat.mod_lt _ (by omega)
    have e1 : (i : Int).tmod (lag : Int) = ((i % lag : Nat) : Int) := by rw [Int.tmod_eq_emod_of_nonneg (by omega)]; rfl
    have e2 : IntKind.i64.wrap (IntKind.i64.wrap ((m.length : Int) - (lag : Int)) + (i : Int).tmod (lag : Int)) = ((m.length - lag + i % lag : Nat) : Int) := by
      rw [e1, wid (x := (m.length : Int) - (lag : Int)) (by omega) (by omega), wid (by omega) (by omega)]; omega
    have hv : inF (m.getD (m.length - lag + i % lag) 0) := by
      have hlt : m.length - lag + i % lag < m.length := by omega
      simp only [List.getD_eq_getElem?_getD, List.getElem?_eq_getElem hlt, Option.getD_some]
      exact hb _ (List.getElem_mem _)
    rw [br_y (by omega), need_t (by omega), e2, need_t (by omega), Int.toNat_natCast, mul15 hv hg, bind_s, sat16_ok, bind_s, need_t (by omega), wid (by omega) (by omega), show ((i : Int) + 1) = ((i + 1 : Nat) : Int) by omega, Int.toNat_natCast]
    refine ih K (i + 1) _ (by omega) (by omega) (by simpa using hll) fun j h => ?_
    by_cases hji : j = i
    · subst hji
      simp [List.getD_eq_getElem?_getD, List.getElem?_set, show j < l.length by omega]
    · have : (l.set i (s16 (m15 (m.getD (m.length - lag + i % lag) 0) g))).getD j 0 = l.getD j 0 := by
        simp only [List.getD_eq_getElem?_getD, List.getElem?_set]
        rw [if_neg (fun h => hji h.symm)]
      rw [this]; exact hj j (by omega)
theorem ext_getD {l m : List Int} (h : l.length = m.length) (e : ∀ j, j < l.length → l.getD j 0 = m.getD j 0) : l = m := by
  refine List.ext_getElem h fun i h1 h2 => ?_
  have := e i h1
  simpa [List.getD_eq_getElem?_getD, h1, h2] using this
theorem made_get {m : List Int} {lag : Nat} {g : Int} {n j : Nat} (h : j < n) : (made m lag g n).getD j 0 = s16 (m15 (m.getD (m.length - lag + j % lag) 0) g) := by
  simp [made, List.getD_eq_getElem?_getD, h]
theorem made_c6 {k : Nat} (hk : 5000 ≤ k) {a lost : Int} {m : List Int} {lag : Nat} {n : Nat} (hl1 : 1 ≤ lag) (hl2 : lag ≤ m.length) (hm : m.length ≤ 960) (hb : ∀ v ∈ m, inF v) (hn : n ≤ 4800) :
    plc_Maker_Make_2_c6 k ((n : Int), a, lost, (lag : Int), m) = some (0, a, lost, (lag : Int), m, made m lag (sft lost) n) := by
  unfold plc_Maker_Make_2_c6
  simp only
  have hs := sft_bd lost
  rw [soft_ok (by omega), bind_s, need_t ⟨by omega, trivial, by omega, by omega⟩, Int.toNat_natCast, List.length_replicate]
  obtain ⟨l', e, h1, h2⟩ := make_l0 k (a := a) (b := lost) hl1 hl2 hm hb (g := sft lost) ⟨by omega, by omega⟩ hn n k 0 (List.replicate n 0) (by omega) (by omega) (by simp) (fun j h => by omega)
  rw [show ((0 : Nat) : Int) = 0 from rfl] at e
  rw [e, bind_s]
  simp only
  have : l' = made m lag (sft lost) n := ext_getD (by rw [h1, made_len]) fun j hj => by rw [h2 j (by omega), made_get (by omega)]
  rw [this]

/-- a maker that may be -/
structure MOk (r lost lag : Int) (m : List Int) : Prop where
  rate : rateOk r
  len : m.length = hgt r
  l0 : 0 ≤ lost
  l1 : lost ≤ 1000
  lag0 : 0 ≤ lag
  lag1 : lag ≤ (m.length : Int)
  bd : ∀ v ∈ m, v.natAbs ≤ 32768
theorem MOk.inF {r lost lag : Int} {m : List Int} (h : MOk r lost lag m) : ∀ v ∈ m, inF v := fun v hv => by have := h.bd v hv; unfold Pure.inF; omega
def more (lost : Int) : Int := if 1000 < lost + 1 then 1000 else lost + 1
/-- the lag that is found -/
def lagOf (r : Int) (m : List Int) : Int := ((found m (r / 400) ((m.length / 2 : Nat) : Int) 1).getD 0 dl).1
theorem look_fits {r lost lag : Int} {m : List Int} (h : MOk r lost lag m) : fits m (r / 400) ((m.length / 2 : Nat) : Int) 1 := by
  obtain ⟨h1, h2, h3, h4, h5, h6, h7⟩ := hgt_bd h.rate
  have := h.len
  exact ⟨by omega, by omega, by omega, by rw [this]; omega, by omega, by omega, by omega⟩
theorem found_one {x : List Int} {a b : Int} (h : fits x a b 1) : ∃ c : Nat, a ≤ (c : Int) ∧ (c : Int) ≤ b ∧ found x a b 1 = [SL x c] := by
  obtain ⟨h1, h2, h3, h4, h5, h6, h7⟩ := h
  unfold found
  rw [show (1 : Int).toNat = 1 from rfl]
  have key : ∀ n a l, (∃ c, l = [c]) ∨ 0 < n → (∀ t ∈ l, ∃ c, t = SL x c ∧ c < a) → ∃ c, go x 1 a n l = [SL x c] ∧ c < a + n ∧ (l = [] → a ≤ c) := by
    intro n
    induction n with
    | zero =>
      intro a l h0 hl
      rcases h0 with ⟨t, rfl⟩ | h0
      · obtain ⟨c, rfl, hc⟩ := hl t (by simp)
        exact ⟨c, rfl, by omega, fun h => by simp at h⟩
      · omega
    | succ n ih =>
      intro a l _ hl
      simp only [go]
      have hlen := insB_len (SL x a) l
      have hmem : ∀ t ∈ (insB (SL x a) l).take 1, ∃ c, t = SL x c ∧ c < a + 1 ∧ (l = [] → c = a) := fun t ht => by
        rcases List.mem_cons.1 ((insB_perm _ _).subset (List.mem_of_mem_take ht)) with rfl | hm
        · exact ⟨a, rfl, by omega, fun _ => rfl⟩
        · obtain ⟨c, rfl, hc⟩ := hl t hm
          exact ⟨c, rfl, by omega, fun h => by subst h; simp at hm⟩
      have hone : ∃ t, (insB (SL x a) l).take 1 = [t] := by
        cases hi : insB (SL x a) l with
        | nil => rw [hi] at hlen; simp at hlen
        | cons t r => exact ⟨t, rfl⟩
      obtain ⟨t, ht⟩ := hone
      rw [ht] at hmem ⊢
      obtain ⟨c0, rfl, hc0, hc1⟩ := hmem t (by simp)
      by_cases hn : n = 0
      · subst hn
        exact ⟨c0, rfl, by omega, fun h => by have := hc1 h; omega⟩
      · obtain ⟨c, e1, e2, e3⟩ := ih (a + 1) [SL x c0] (.inl ⟨_, rfl⟩) (fun t ht => by simp at ht; subst ht; exact ⟨c0, rfl, by omega⟩)
        refine ⟨c, e1, by omega, fun h => ?_⟩
        -- the one that stays is one of them
        have hge : ∀ n a (l : List LS), (∀ t ∈ l, ∃ c, t = SL x c ∧ c0 ≤ c) → c0 ≤ a → ∀ t ∈ go x 1 a n l, ∃ c, t = SL x c ∧ c0 ≤ c := by
          intro n
          induction n with
          | zero => intro a l hl _ t ht; exact hl t ht
          | succ n ih2 =>
            intro a l hl ha t ht
            refine ih2 (a + 1) _ (fun u hu => ?_) (by omega) t ht
            rcases List.mem_cons.1 ((insB_perm _ _).subset (List.mem_of_mem_take hu)) with rfl | hm
            · exact ⟨a, rfl, ha⟩
            · exact hl u hm
        have hh := hc1 h
        obtain ⟨c', f1, f2⟩ := hge n (a + 1) [SL x c0] (fun t ht => by simp at ht; subst ht; exact ⟨c0, rfl, by omega⟩) (by omega) (SL x c) (by rw [e1]; simp)
        have : (c : Int) = (c' : Int) := congrArg Prod.fst f1
        omega
  obtain ⟨c, e1, e2, e3⟩ := key (b - a + 1).toNat a.toNat [] (.inr (by omega)) (fun t ht => by simp at ht)
  have := e3 rfl
  exact ⟨c, by omega, by omega, e1⟩
theorem lagOf_bd {r lost lag : Int} {m : List Int} (h : MOk r lost lag m) : 1 ≤ lagOf r m ∧ lagOf r m ≤ (m.length : Int) := by
  obtain ⟨c, h1, h2, e⟩ := found_one (look_fits h)
  have h3 := hgt_bd h.rate
  unfold lagOf
  rw [e]
  simp only [List.getD_cons_zero, SL]
  omega
theorem look_ok {k : Nat} (hk : 2000 ≤ k) {r lost lag x3 : Int} {m : List Int} (h : MOk r lost lag m) : plc_Maker_look_2 k r lost x3 m = some (r, lost, lagOf r m, m) := by
  obtain ⟨h1, h2, h3, h4, h5, h6, h7⟩ := hgt_bd h.rate
  have hl := h.len
  unfold plc_Maker_look_2
  have e1 : IntKind.i64.wrap ((m.length : Int) - 960) = (m.length : Int) - 960 := wid (by omega) (by omega)
  have e2 : (if 0 > IntKind.i64.wrap ((m.length : Int) - 960) then 0 else IntKind.i64.wrap ((m.length : Int) - 960)) = 0 := by rw [e1]; split <;> omega
  have e3 : IntKind.i64.wrap (r.tdiv 400) = r / 400 := IntWalk.i64_quo _ _ ⟨by omega, by omega, by omega⟩
  have e4 : (if 480 < IntKind.i64.wrap ((m.length : Int).tdiv 2) then 480 else IntKind.i64.wrap ((m.length : Int).tdiv 2)) = ((m.length / 2 : Nat) : Int) := by rw [half (by omega)]; split <;> omega
  simp only [e2, e3, e4]
  rw [need_t (by omega)]
  have e5 : (m.drop (0 : Int).toNat).take ((m.length : Int) - 0).toNat = m := by
    rw [show (0 : Int).toNat = 0 from rfl, List.drop_zero, List.take_of_length_le (by omega)]
  rw [e5, search_ok hk (by omega) (look_fits h), bind_s]
  obtain ⟨c, q1, q2, e⟩ := found_one (look_fits h)
  simp only
  rw [need_t (by rw [e]; simp)]
  congr 2
  unfold lagOf
  rw [PL_get (by rw [e]; simp)]
  rfl
/-- the lag behind Make -/
def lag' (r lag : Int) (m : List Int) : Int := if lag = 0 then lagOf r m else lag
theorem make_ok {k : Nat} (hk : 5000 ≤ k) {r lost lag : Int} {m : List Int} (h : MOk r lost lag m) {n : Nat} (hn : n ≤ 4800) :
    plc_Maker_Make_2 k (n : Int) r lost lag m = some (0, r, more lost, lag' r lag m, m, made m (lag' r lag m).toNat (sft (more lost)) n) ∧ MOk r (more lost) (lag' r lag m) m ∧ 1 ≤ lag' r lag m := by
  have hl := h.len
  have hh := hgt_bd h.rate
  have l0 := h.l0
  have l1 := h.l1
  have g0 := h.lag0
  have g1 := h.lag1
  have hlb := lagOf_bd h
  have hlag : 1 ≤ lag' r lag m ∧ lag' r lag m ≤ (m.length : Int) := by unfold lag'; split <;> omega
  have hmore : 0 ≤ more lost ∧ more lost ≤ 1000 := by unfold more; split <;> omega
  refine ⟨?_, ⟨h.rate, h.len, hmore.1, hmore.2, by omega, hlag.2, h.bd⟩, hlag.1⟩
  unfold plc_Maker_Make_2
  have e1 : (if 1000 < IntKind.i64.wrap (lost + 1) then 1000 else IntKind.i64.wrap (lost + 1)) = more lost := by
    rw [wid (by omega) (by omega)]; rfl
  have e2 : ((lag' r lag m).toNat : Int) = lag' r lag m := by omega
  have hc := made_c6 hk (a := r) (lost := more lost) (m := m) (lag := (lag' r lag m).toNat) (n := n) (by omega) (by omega) (by omega) h.inF hn
  rw [e2] at hc
  rw [br_n (by omega), br_n (by omega), e1]
  by_cases hz : lag = 0
  · have e3 : lag' r lag m = lagOf r m := by unfold lag'; rw [if_pos hz]
    have hm2 : MOk r (more lost) lag m := ⟨h.rate, h.len, hmore.1, hmore.2, h.lag0, h.lag1, h.bd⟩
    rw [br_y hz, look_ok (by omega) hm2, bind_s]
    simp only
    rw [← e3, hc, bind_s]
  · have e3 : lag' r lag m = lag := by unfold lag'; rw [if_neg hz]
    rw [br_n hz, show plc_Maker_Make_2_c6 k ((n : Int), r, more lost, lag, m) = plc_Maker_Make_2_c6 k ((n : Int), r, more lost, lag' r lag m, m) by rw [e3], hc, bind_s]
theorem make_bad {k : Nat} {n r lost lag : Int} {m : List Int} (hn : n < 0 ∨ 4800 < n) : plc_Maker_Make_2 k n r lost lag m = some (1, r, lost, lag, m, []) := by
  unfold plc_Maker_Make_2
  by_cases h : n < 0
  · rw [br_y h]
  · rw [br_n h, br_y (by omega)]
theorem new_mok {r : Int} (h : rateOk r) : MOk r 0 0 (List.replicate (hgt r) (0 : Int)) :=
  ⟨h, by simp, by omega, by omega, by omega, by omega, fun v hv => by rw [(List.mem_replicate.1 hv).2]; decide⟩
theorem keep_mok {r lost lag : Int} {m : List Int} (h : MOk r lost lag m) (x : List Int) : MOk r 0 0 (keep m x) :=
  ⟨h.rate, by rw [keep_len]; exact h.len, by omega, by omega, by omega, by omega, keep_bd h.bd fun v _ => s16_bd v⟩
end Go.Proofs.Ytblaikeffnpagaa.Pure
