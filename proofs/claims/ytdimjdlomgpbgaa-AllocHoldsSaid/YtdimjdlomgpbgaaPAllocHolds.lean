/- The plain law AllocHolds over the Lean functions. Condition: the values are ones that Go can hold. -/
import Derived.Test.YtdimjdlomgpbgaaH2
set_option linter.unusedVariables false
set_option linter.unusedSimpArgs false
namespace Go.Proofs.Ytdimjdlomgpbgaa.Pure
open Go Go.Ab

theorem piece_bounds {n p : Int} (hn : 1 ≤ n) (hp : 1 ≤ p) (hpn : p ≤ n) (hpn2 : n ≤ 16 * p) (i : Nat) : 1 ≤ pieceAt n p i ∧ pieceAt n p i ≤ 16 := by
  unfold pieceAt
  have e : ((i : Int) + 1) * n = (i : Int) * n + n := by rw [Int.add_mul, Int.one_mul]
  rw [e]
  generalize (i : Int) * n = a
  have h1 : (a + 1 * p) / p ≤ (a + n) / p := Int.ediv_le_ediv (by omega) (by omega)
  have h2 : (a + n) / p ≤ (a + 16 * p) / p := Int.ediv_le_ediv (by omega) (by omega)
  rw [Int.add_mul_ediv_right _ _ (by omega)] at h1 h2
  omega

theorem AllocHolds : ∀ (n : Int) (bits : Int), (Lit.int .i64 n).wf = true → (Lit.int .i64 bits).wf = true → ∃ k, madrigallaw18_AllocHolds k n bits = some true := by
  intro n bits hn hb
  have hn := i64_b hn
  refine ⟨100, ?_⟩
  unfold madrigallaw18_AllocHolds
  rw [awake_ok]
  simp only [Option.bind_some, br_ite]
  rw [br_f (b := !true) rfl]
  by_cases a1 : n < 1
  · rw [if_pos a1]
  rw [if_neg a1]
  by_cases a2 : 1000 < n
  · rw [if_pos a2]
  rw [if_neg a2]
  by_cases a3 : bits < 0
  · rw [if_pos a3]
  rw [if_neg a3]
  by_cases a4 : 1048576 < bits
  · rw [if_pos a4]
  rw [if_neg a4, pieces_ok n hn.1 hn.2, split_ok n bits hn.1 hn.2]
  have ecb : cb bits = bits := by unfold cb; omega
  have epc : pc n = (n + 15) / 16 := by unfold pc; rw [if_pos (by omega)]
  have hhi := pc_hi n
  simp only [Option.bind_some, pcs_len, spl_len]
  rw [br_f (by simp), ecb]
  obtain ⟨p, hp⟩ : ∃ p : Nat, pc n = p := ⟨(pc n).toNat, by have := pc_lo n; omega⟩
  rw [hp] at epc hhi ⊢
  rw [Int.toNat_natCast]
  have e : ∃ o, madrigallaw18_AllocHolds_l0 100 100 (n, bits, 0, 0, 0, pcs n p p, spl bits p p) = some o ∧ o = .inl (n, bits, n, bits) := by
    refine itN_ok (I := Int × Int × Int × Int × Int × List Int × List Int) (O := (Int × Int × Int × Int) ⊕ Bool)
      (fun d => ∃ i : Nat, i ≤ p ∧ d = (n, bits, ((i : Int) * n) / p, (i : Int) * (bits / p) + min (i : Int) (bits % p), (i : Int), pcs n p p, spl bits p p))
      (fun d => ((p : Int) - d.2.2.2.2.1).toNat) (fun _ o => o = .inl (n, bits, n, bits)) ?_ 100 _ ⟨0, by omega, ?_⟩ (by simp only; omega)
    · rintro rec _ ⟨i, h, rfl⟩ ih
      simp only [br_ite, pcs_len, spl_len, Int.toNat_natCast]
      by_cases hi : (i : Int) < p
      · have w2 : IntKind.i64.wrap ((i : Int) + 1) = ((i + 1 : Nat) : Int) := by rw [wid (by omega) (by omega)]; omega
        have hb := piece_bounds (n := n) (p := (p : Int)) (by omega) (by omega) (by omega) (by omega) i
        have hq0 := Int.ediv_nonneg (a := bits) (b := (p : Int)) (by omega) (by omega)
        have hq := Int.ediv_le_self (p : Int) (a := bits) (by omega)
        have hm0 := Int.emod_nonneg bits (by omega : (p : Int) ≠ 0)
        have hm1 := Int.emod_lt_of_pos bits (by omega : 0 < (p : Int))
        have hs0 : 0 ≤ splitAt' bits p i ∧ splitAt' bits p i ≤ 1048577 := by unfold splitAt'; split <;> omega
        have hmb := mulb (a := (i : Int)) (n := n) (by omega) (by omega) (by omega) (by omega)
        have hsq0 := Int.ediv_nonneg hmb.1 (by omega : 0 ≤ (p : Int))
        have hsq := Int.ediv_le_self (p : Int) hmb.1
        have es : ((i : Int) * n) / p + pieceAt n p i = (((i + 1 : Nat) : Int) * n) / p := by
          unfold pieceAt
          have : ((i + 1 : Nat) : Int) = (i : Int) + 1 := by omega
          rw [this]; omega
        have et : (i : Int) * (bits / p) + min (i : Int) (bits % p) + splitAt' bits p i = ((i + 1 : Nat) : Int) * (bits / p) + min ((i + 1 : Nat) : Int) (bits % p) := by
          have e1 : ((i + 1 : Nat) : Int) = (i : Int) + 1 := by omega
          have e2 : ((i : Int) + 1) * (bits / p) = (i : Int) * (bits / p) + bits / p := by rw [Int.add_mul, Int.one_mul]
          rw [e1, e2]
          unfold splitAt'
          split <;> omega
        have hmt : 0 ≤ (i : Int) * (bits / p) ∧ (i : Int) * (bits / p) ≤ 64 * 1048576 :=
          ⟨Int.mul_nonneg (by omega) hq0, Int.mul_le_mul (by omega) (by omega) hq0 (by omega)⟩
        obtain ⟨r, e1, hr⟩ := pulses_ok (n := pieceAt n p i) (bits := splitAt' bits p i) hb.1 hb.2
        obtain ⟨r2, e2, hr2⟩ := pulses_ok (n := pieceAt n p i) (bits := splitAt' bits p i + 1) hb.1 hb.2
        have hle := PR_le (by omega) hr hr2
        have hip : i < p := by omega
        simp only [pcs_get n (p : Int) hip, spl_get bits (p : Int) hip]
        rw [if_pos hi, need_t (by omega), if_neg (by omega), need_t (by omega), if_neg (by omega), need_t (by omega),
          if_neg (by omega), need_t (by omega), need_t (by omega), need_t (by omega), need_t (by omega), e1]
        simp only [Option.bind_some]
        rw [need_t (by omega), need_t (by omega), wid (x := splitAt' bits p i + 1) (by omega) (by omega), e2]
        simp only [Option.bind_some]
        rw [if_neg (by omega), wid (x := _ + pieceAt n p i) (by omega) (by omega), es, wid (x := _ + splitAt' bits p i) (by omega) (by omega), et, w2]
        have h' := ih (n, bits, (((i + 1 : Nat) : Int) * n) / p, ((i + 1 : Nat) : Int) * (bits / p) + min ((i + 1 : Nat) : Int) (bits % p), ((i + 1 : Nat) : Int), pcs n p p, spl bits p p) ⟨i + 1, by omega, rfl⟩ (by simp only; omega)
        by_cases hr0 : 0 < r
        · obtain ⟨c, -, c1, -, c2⟩ := cnt_of hb.1 hb.2 (j := r) (by omega) hr.2.1
          have ht := hr.2.2.1 r (by omega) (by omega)
          rw [if_pos hr0, need_t (by omega), c1]
          simp only [Option.bind_some]
          rw [c2]
          simp only [Option.bind_some]
          rw [need_t (by omega), if_neg (by omega)]
          exact h'
        · rw [if_neg hr0]
          exact h'
      · rw [if_neg hi]
        have e : i = p := by omega
        subst e
        have hp0 : (i : Int) ≠ 0 := by omega
        refine ⟨_, rfl, ?_⟩
        have x1 : (i : Int) * n / i = n := Int.mul_ediv_cancel_left n hp0
        have hm1 := Int.emod_lt_of_pos bits (by omega : 0 < (i : Int))
        have x2 : (i : Int) * (bits / i) + min (i : Int) (bits % i) = bits := by
          have := Int.mul_ediv_add_emod bits i
          omega
        rw [x1, x2]
    · have hm0 := Int.emod_nonneg bits (by omega : (p : Int) ≠ 0)
      simp
      omega
  obtain ⟨o, e, rfl⟩ := e
  rw [e]
  simp only [Option.bind_some, br_ite]
  simp
end Go.Proofs.Ytdimjdlomgpbgaa.Pure
