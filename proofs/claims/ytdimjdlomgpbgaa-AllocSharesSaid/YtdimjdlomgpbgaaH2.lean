/- Plain laws of the Lean functions. Conditions: those of each statement. -/
import Derived.Test.YtdimjdlomgpbgaaH1
set_option linter.unusedVariables false
set_option linter.unusedSimpArgs false
namespace Go.Proofs.Ytdimjdlomgpbgaa.Pure
open Go Go.Ab

theorem awake_ok : madrigallaw18_awake 100 = some true := by kernel_rfl

/-- how many pieces -/
def pc (n : Int) : Int := if 1 ≤ n ∧ n ≤ 1000 then (n + 15) / 16 else 0
theorem pc_lo (n : Int) : 0 ≤ pc n := by unfold pc; split <;> omega
theorem pc_hi (n : Int) : pc n ≤ 63 := by unfold pc; split <;> omega
theorem pieces_n (n : Int) (h1 : -9223372036854775808 ≤ n) (h2 : n ≤ 9223372036854775807) : alloc_pieces n = some (pc n) := by
  unfold alloc_pieces pc
  simp only [br_ite]
  by_cases a : n < 1
  · rw [if_pos a, if_neg (by omega)]
  · rw [if_neg a]
    by_cases b : 1000 < n
    · rw [if_pos b, if_neg (by omega)]
    · rw [if_neg b, if_pos (by omega), wid (x := n + 16) (by omega) (by omega), wid (x := n + 16 - 1) (by omega) (by omega), IntWalk.i64_quo _ _ ⟨by omega, by omega, by omega⟩]
      congr 1; omega

def pieceAt (n p : Int) (i : Nat) : Int := (((i : Int) + 1) * n) / p - ((i : Int) * n) / p
def pcs (n p : Int) (m : Nat) : List Int := (List.range m).map (pieceAt n p)
theorem pcs_len (n p : Int) (m : Nat) : (pcs n p m).length = m := by simp [pcs]
theorem pcs_succ (n p : Int) (m : Nat) : pcs n p (m + 1) = pcs n p m ++ [pieceAt n p m] := by simp [pcs, List.range_succ]
theorem pcs_get (n p : Int) {m i : Nat} (h : i < m) : (pcs n p m).getD i 0 = pieceAt n p i := by simp [pcs, List.getD, h]
theorem mulb {a n : Int} (h0 : 0 ≤ a) (h1 : a ≤ 64) (h2 : 0 ≤ n) (h3 : n ≤ 1000) : 0 ≤ a * n ∧ a * n ≤ 64000 := by
  have h := Int.mul_nonneg h0 h2
  have h' := Int.mul_le_mul h1 h3 h2 (by omega : (0 : Int) ≤ 64)
  omega
theorem piece_val {n p : Int} {i : Nat} (hn : 1 ≤ n) (hn2 : n ≤ 1000) (hp : 1 ≤ p) (hi : i ≤ 63) :
    IntKind.i64.wrap ((IntKind.i64.wrap ((IntKind.i64.wrap ((IntKind.i64.wrap ((i : Int) + 1)) * n)).tdiv p)) - (IntKind.i64.wrap ((IntKind.i64.wrap ((i : Int) * n)).tdiv p))) = pieceAt n p i := by
  have a := mulb (a := (i : Int) + 1) (n := n) (by omega) (by omega) (by omega) hn2
  have b := mulb (a := (i : Int)) (n := n) (by omega) (by omega) (by omega) hn2
  rw [wid (x := (i : Int) + 1) (by omega) (by omega), wid (x := ((i : Int) + 1) * n) (by omega) (by omega), wid (x := (i : Int) * n) (by omega) (by omega),
    IntWalk.i64_quo _ _ ⟨a.1, by omega, hp⟩, IntWalk.i64_quo _ _ ⟨b.1, by omega, hp⟩]
  have c := Int.ediv_nonneg a.1 (by omega : 0 ≤ p)
  have d := Int.ediv_nonneg b.1 (by omega : 0 ≤ p)
  have c' := Int.ediv_le_self p a.1
  have d' := Int.ediv_le_self p b.1
  exact wid (by omega) (by omega)

theorem pieces_ok (n : Int) (h1 : -9223372036854775808 ≤ n) (h2 : n ≤ 9223372036854775807) : alloc_Pieces 100 n = some (pcs n (pc n) (pc n).toNat) := by
  unfold alloc_Pieces
  rw [pieces_n n h1 h2]
  simp only [Option.bind_some]
  have hlo := pc_lo n
  have hhi := pc_hi n
  have e : ∃ o, alloc_Pieces_l0 100 100 (n, pc n, pc n, 0, []) = some o ∧ o = pcs n (pc n) (pc n).toNat := by
    refine itN_ok (I := Int × Int × Int × Int × List Int) (O := List Int) (fun d => ∃ i : Nat, (i : Int) ≤ pc n ∧ d = (n, pc n, pc n, (i : Int), pcs n (pc n) i))
      (fun d => (pc n - d.2.2.2.1).toNat) (fun _ o => o = pcs n (pc n) (pc n).toNat) ?_ 100 _ ⟨0, by omega, rfl⟩ (by simp only; omega)
    rintro rec _ ⟨i, h, rfl⟩ ih
    simp only [br_ite]
    by_cases hi : (i : Int) < pc n
    · have hn : 1 ≤ n ∧ n ≤ 1000 := by unfold pc at hi; split at hi <;> omega
      have w2 : IntKind.i64.wrap ((i : Int) + 1) = ((i + 1 : Nat) : Int) := by rw [wid (by omega) (by omega)]; omega
      rw [if_pos hi, need_t (by omega), need_t (by omega), piece_val hn.1 hn.2 (by omega) (by omega), ← pcs_succ, w2, need_t (by rw [pcs_len]; omega)]
      exact ih _ ⟨i + 1, by omega, rfl⟩ (by simp only; omega)
    · rw [if_neg hi]
      have : (pc n).toNat = i := by omega
      rw [this]
      exact ⟨_, rfl, rfl⟩
  obtain ⟨o, e, rfl⟩ := e
  rw [e]; rfl

theorem rpieces_ok (n : Int) : madrigalref17_Pieces 100 n = some (pcs n (pc n) (pc n).toNat) := by
  unfold madrigalref17_Pieces
  simp only [br_ite]
  by_cases a : n < 1
  · have : pc n = 0 := by unfold pc; rw [if_neg (by omega)]
    rw [if_pos a, this]; rfl
  · rw [if_neg a]
    by_cases b : 1000 < n
    · have : pc n = 0 := by unfold pc; rw [if_neg (by omega)]
      rw [if_pos b, this]; rfl
    · have hp : pc n = (n + 15) / 16 := by unfold pc; rw [if_pos (by omega)]
      have hlo := pc_lo n
      have hhi := pc_hi n
      rw [if_neg b, wid (x := n + 15) (by omega) (by omega), IntWalk.i64_quo _ _ ⟨by omega, by omega, by omega⟩, ← hp]
      have e : ∃ o, madrigalref17_Pieces_l0 100 100 (n, pc n, 0, []) = some o ∧ o = pcs n (pc n) (pc n).toNat := by
        refine itN_ok (I := Int × Int × Int × List Int) (O := List Int) (fun d => ∃ i : Nat, (i : Int) ≤ pc n ∧ d = (n, pc n, (i : Int), pcs n (pc n) i))
          (fun d => (pc n - d.2.2.1).toNat) (fun _ o => o = pcs n (pc n) (pc n).toNat) ?_ 100 _ ⟨0, by omega, rfl⟩ (by simp only; omega)
        rintro rec _ ⟨i, h, rfl⟩ ih
        simp only [br_ite]
        by_cases hi : (i : Int) < pc n
        · have w2 : IntKind.i64.wrap ((i : Int) + 1) = ((i + 1 : Nat) : Int) := by rw [wid (by omega) (by omega)]; omega
          rw [if_pos hi, need_t (by omega), need_t (by omega), piece_val (by omega) (by omega) (by omega) (by omega), ← pcs_succ, w2, need_t (by rw [pcs_len]; omega)]
          exact ih _ ⟨i + 1, by omega, rfl⟩ (by simp only; omega)
        · rw [if_neg hi]
          have : (pc n).toNat = i := by omega
          rw [this]
          exact ⟨_, rfl, rfl⟩
      obtain ⟨o, e, rfl⟩ := e
      rw [e]; rfl

/-- the bits that a band may have -/
def cb (b : Int) : Int := max 0 (min b 1048576)
theorem cb_lo (b : Int) : 0 ≤ cb b := by unfold cb; omega
theorem cb_hi (b : Int) : cb b ≤ 1048576 := by unfold cb; omega
theorem cb_p (bits : Int) : (if 1048576 < (if 0 > bits then 0 else bits) then 1048576 else (if 0 > bits then 0 else bits)) = cb bits := by
  unfold cb
  by_cases h : 0 > bits
  · rw [if_pos h]; simp; omega
  · rw [if_neg h]; split <;> omega
theorem cb_r (bits : Int) : madrigalref1_Clamp bits 0 1048576 = some (cb bits) := by
  unfold madrigalref1_Clamp cb
  simp only [br_ite]
  by_cases h : bits < 0
  · rw [if_pos h]; congr 1; omega
  · rw [if_neg h, if_neg (by omega)]
    by_cases h2 : 1048576 < bits
    · rw [if_pos h2]; congr 1; omega
    · rw [if_neg h2]; congr 1; omega

def splitAt' (b p : Int) (i : Nat) : Int := if (i : Int) < b % p then b / p + 1 else b / p
def spl (b p : Int) (m : Nat) : List Int := (List.range m).map (splitAt' b p)
theorem spl_len (n p : Int) (m : Nat) : (spl n p m).length = m := by simp [spl]
theorem spl_succ (n p : Int) (m : Nat) : spl n p (m + 1) = spl n p m ++ [splitAt' n p m] := by simp [spl, List.range_succ]
theorem spl_get (n p : Int) {m i : Nat} (h : i < m) : (spl n p m).getD i 0 = splitAt' n p i := by simp [spl, List.getD, h]

theorem split_ok (n bits : Int) (h1 : -9223372036854775808 ≤ n) (h2 : n ≤ 9223372036854775807) : alloc_Split 100 n bits = some (spl (cb bits) (pc n) (pc n).toNat) := by
  unfold alloc_Split
  rw [pieces_n n h1 h2, cb_p]
  simp only [Option.bind_some]
  have hlo := pc_lo n
  have hhi := pc_hi n
  have hb0 := cb_lo bits
  have hb1 := cb_hi bits
  generalize cb bits = b at hb0 hb1 ⊢
  have e : ∃ o, alloc_Split_l0 100 100 (b, pc n, pc n, 0, []) = some o ∧ o = spl b (pc n) (pc n).toNat := by
    refine itN_ok (I := Int × Int × Int × Int × List Int) (O := List Int) (fun d => ∃ i : Nat, (i : Int) ≤ pc n ∧ d = (b, pc n, pc n, (i : Int), spl b (pc n) i))
      (fun d => (pc n - d.2.2.2.1).toNat) (fun _ o => o = spl b (pc n) (pc n).toNat) ?_ 100 _ ⟨0, by omega, rfl⟩ (by simp only; omega)
    rintro rec _ ⟨i, h, rfl⟩ ih
    simp only [br_ite]
    by_cases hi : (i : Int) < pc n
    · have w2 : IntKind.i64.wrap ((i : Int) + 1) = ((i + 1 : Nat) : Int) := by rw [wid (by omega) (by omega)]; omega
      have hq := Int.ediv_le_self (pc n) hb0
      have hq0 := Int.ediv_nonneg hb0 hlo
      rw [if_pos hi, need_t (by omega), need_t (by omega), IntWalk.i64_quo _ _ ⟨hb0, by omega, by omega⟩, Int.tmod_eq_emod_of_nonneg hb0, w2]
      by_cases hm : (i : Int) < b % pc n
      · have es : b / pc n + 1 = splitAt' b (pc n) i := by unfold splitAt'; rw [if_pos hm]
        rw [if_pos hm, wid (by omega) (by omega), es, ← spl_succ, need_t (by rw [spl_len]; omega)]
        exact ih _ ⟨i + 1, by omega, rfl⟩ (by simp only; omega)
      · have es : b / pc n = splitAt' b (pc n) i := by unfold splitAt'; rw [if_neg hm]
        rw [if_neg hm, es, ← spl_succ, need_t (by rw [spl_len]; omega)]
        exact ih _ ⟨i + 1, by omega, rfl⟩ (by simp only; omega)
    · rw [if_neg hi]
      have : (pc n).toNat = i := by omega
      rw [this]
      exact ⟨_, rfl, rfl⟩
  obtain ⟨o, e, rfl⟩ := e
  rw [e]; rfl

theorem rsplit_ok (n bits : Int) : madrigalref17_Split 100 n bits = some (spl (cb bits) (pc n) (pc n).toNat) := by
  unfold madrigalref17_Split
  rw [cb_r, rpieces_ok]
  simp only [Option.bind_some]
  have hlo := pc_lo n
  have hhi := pc_hi n
  have hb0 := cb_lo bits
  have hb1 := cb_hi bits
  generalize cb bits = b at hb0 hb1 ⊢
  have el : (((pcs n (pc n) (pc n).toNat).length : Nat) : Int) = pc n := by rw [pcs_len]; omega
  rw [el]
  have e : ∃ o, madrigalref17_Split_l0 100 100 (b, pc n, 0, []) = some o ∧ o = spl b (pc n) (pc n).toNat := by
    refine itN_ok (I := Int × Int × Int × List Int) (O := List Int) (fun d => ∃ i : Nat, (i : Int) ≤ pc n ∧ d = (b, pc n, (i : Int), spl b (pc n) i))
      (fun d => (pc n - d.2.2.1).toNat) (fun _ o => o = spl b (pc n) (pc n).toNat) ?_ 100 _ ⟨0, by omega, rfl⟩ (by simp only; omega)
    rintro rec _ ⟨i, h, rfl⟩ ih
    simp only [br_ite]
    by_cases hi : (i : Int) < pc n
    · have w2 : IntKind.i64.wrap ((i : Int) + 1) = ((i + 1 : Nat) : Int) := by rw [wid (by omega) (by omega)]; omega
      have hq := Int.ediv_le_self (pc n) hb0
      have hq0 := Int.ediv_nonneg hb0 hlo
      rw [if_pos hi, need_t (by omega), need_t (by omega), IntWalk.i64_quo _ _ ⟨hb0, by omega, by omega⟩, Int.tmod_eq_emod_of_nonneg hb0, w2]
      by_cases hm : (i : Int) < b % pc n
      · have es : b / pc n + 1 = splitAt' b (pc n) i := by unfold splitAt'; rw [if_pos hm]
        rw [if_pos hm, wid (by omega) (by omega), es, ← spl_succ, need_t (by rw [spl_len]; omega)]
        exact ih _ ⟨i + 1, by omega, rfl⟩ (by simp only; omega)
      · have es : b / pc n = splitAt' b (pc n) i := by unfold splitAt'; rw [if_neg hm]
        rw [if_neg hm, es, ← spl_succ, need_t (by rw [spl_len]; omega)]
        exact ih _ ⟨i + 1, by omega, rfl⟩ (by simp only; omega)
    · rw [if_neg hi]
      have : (pc n).toNat = i := by omega
      rw [this]
      exact ⟨_, rfl, rfl⟩
  obtain ⟨o, e, rfl⟩ := e
  rw [e]; rfl

theorem i64_b {n : Int} (h : (Lit.int .i64 n).wf = true) : -9223372036854775808 ≤ n ∧ n ≤ 9223372036854775807 := by
  have h2 : IntKind.i64.min ≤ n ∧ n ≤ 9223372036854775807 := by simpa [Lit.wf] using h
  have e : IntKind.i64.min = -9223372036854775808 := by decide
  omega
end Go.Proofs.Ytdimjdlomgpbgaa.Pure
