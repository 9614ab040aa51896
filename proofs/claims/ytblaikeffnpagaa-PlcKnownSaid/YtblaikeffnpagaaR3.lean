/- Plain laws of the Lean functions, or the contract of a function of the library. Conditions: those of each statement. -/
import Derived.Test.YtblaikeffnpagaaR2
set_option linter.unusedVariables false
set_option linter.unusedSimpArgs false
namespace Go.Proofs.Ytblaikeffnpagaa.Pure
open Go Go.Ab

/-! the best ones, put in one by one -/
def insB (s : LS) : List LS → List LS
  | [] => [s]
  | t :: l => if s.2 ≤ t.2 then t :: insB s l else s :: t :: l
def pre (v : Int) : List LS → Nat
  | [] => 0
  | t :: l => if v ≤ t.2 then pre v l + 1 else 0
theorem pre_le (v : Int) : ∀ l : List LS, pre v l ≤ l.length
  | [] => Nat.le_refl _
  | t :: l => by simp only [pre]; split <;> simp [pre_le v l]
theorem insB_eq (s : LS) : ∀ l : List LS, insB s l = l.take (pre s.2 l) ++ s :: l.drop (pre s.2 l)
  | [] => rfl
  | t :: l => by
    simp only [insB, pre]
    split
    · simp [insB_eq s l]
    · simp
theorem insB_len (s : LS) (l : List LS) : (insB s l).length = l.length + 1 := by
  have := pre_le s.2 l
  rw [insB_eq]; simp; omega
theorem insB_perm (s : LS) (l : List LS) : (insB s l).Perm (s :: l) := by
  rw [insB_eq]
  have := List.perm_middle (a := s) (l₁ := l.take (pre s.2 l)) (l₂ := l.drop (pre s.2 l))
  rwa [List.take_append_drop] at this
theorem insB_sorted {s : LS} : ∀ {l : List LS}, l.Pairwise bt → (∀ t ∈ l, t.1 < s.1) → (insB s l).Pairwise bt
  | [], _, _ => by simp [insB]
  | t :: l, h, hl => by
    simp only [insB]
    have ht := hl t List.mem_cons_self
    have h1 := (List.pairwise_cons.1 h).1
    split
    · rename_i hv
      refine List.pairwise_cons.2 ⟨fun x hx => ?_, insB_sorted (List.pairwise_cons.1 h).2 fun t ht => hl t (List.mem_cons_of_mem _ ht)⟩
      rcases List.mem_cons.1 ((insB_perm s l).subset hx) with rfl | hx
      · unfold bt; omega
      · exact h1 x hx
    · rename_i hv
      refine List.pairwise_cons.2 ⟨fun x hx => ?_, h⟩
      have hb : bt s t := by unfold bt; omega
      rcases List.mem_cons.1 hx with rfl | hx
      · exact hb
      · exact bt_trans hb (h1 x hx)

def SL (x : List Int) (a : Nat) : LS := ((a : Int), scr x (a : Int))
def go (x : List Int) (b : Nat) : Nat → Nat → List LS → List LS
  | _, 0, l => l
  | a, n + 1, l => go x b (a + 1) n ((insB (SL x a) l).take b)

/-- what stays true from lag to lag -/
structure Ok (b a : Nat) (l : List LS) : Prop where
  srt : l.Pairwise bt
  len : l.length ≤ b
  lt : ∀ t ∈ l, t.1 < (a : Int)
theorem Ok.step {x : List Int} {b a : Nat} {l : List LS} (h : Ok b a l) : Ok b (a + 1) ((insB (SL x a) l).take b) where
  srt := (insB_sorted h.srt h.lt).sublist (List.take_sublist _ _)
  len := by simp; omega
  lt t ht := by
    rcases List.mem_cons.1 ((insB_perm _ _).subset (List.mem_of_mem_take ht)) with rfl | hm
    · show (a : Int) < _; omega
    · have := h.lt t hm; omega

/-! the heap's -/
theorem search_l0 {k : Nat} (hk : 2000 ≤ k) {x : List Int} (hx : x.length * 8 ≤ 140737488355328) {b : Nat} (hb : b ≤ 32) : ∀ n a K (l h : List LS), n < K → a + n ≤ 1000 → Ok b a l → h.Perm l → HP h.length h →
    ∃ h', pitch_Search_l0 k K (((a + n : Nat) : Int) - 1, (b : Int), (a : Int), x, PL h) = some (x, PL h') ∧ h'.Perm (go x b a n l) ∧ (go x b a n l).Pairwise bt ∧ (go x b a n l).length ≤ b := by
  intro n
  induction n with
  | zero =>
    intro a K l h hK ha hok hp hh
    obtain ⟨K, rfl⟩ : ∃ m, K = m + 1 := ⟨K - 1, by omega⟩
    rw [show pitch_Search_l0 k (K + 1) = pitch_Search_l0F k (pitch_Search_l0 k K) from rfl]
    unfold pitch_Search_l0F
    simp only [go]
    rw [br_n (by omega)]
    exact ⟨h, rfl, hp, hok.srt, hok.len⟩
  | succ n ih =>
    intro a K l h hK ha hok hp hh
    obtain ⟨K, rfl⟩ : ∃ m, K = m + 1 := ⟨K - 1, by omega⟩
    rw [show pitch_Search_l0 k (K + 1) = pitch_Search_l0F k (pitch_Search_l0 k K) from rfl]
    unfold pitch_Search_l0F
    simp only [go]
    have hlen := hok.len
    have hhl := hp.length_eq
    obtain ⟨h1, e1, p1, g1⟩ := push_ok (k := k) (by omega) (l := h) (by omega) hh (SL x a)
    have hw : IntKind.i64.wrap ((a : Int) + 1) = ((a + 1 : Nat) : Int) := by rw [wid (by omega) (by omega)]; omega
    rw [br_y (by omega), score_ok (by omega) hx, bind_s, show heap_Push k (a : Int) (scr x (a : Int)) (PL h) = some (PL h1) from e1, bind_s, hw, show (((a + (n + 1) : Nat) : Int) - 1) = (((a + 1 + n : Nat) : Int) - 1) by omega]
    have hL := insB_perm (SL x a) l
    have hh1 : h1.Perm (insB (SL x a) l) := p1.trans ((hp.cons _).trans hL.symm)
    have hil := insB_len (SL x a) l
    have h1l := hh1.length_eq
    have hstep := hok.step (x := x)
    by_cases hc : b < h1.length
    · rw [br_y (by rw [List.length_map]; omega)]
      obtain ⟨h2, r, e2, p2, g2, w2⟩ := pop_ok (k := k) (by omega) (l := h1) (by omega) (by omega) g1
      rw [e2, bind_s]
      -- what is taken out is the last one
      have hsrt := insB_sorted hok.srt (s := SL x a) hok.lt
      have hne : insB (SL x a) l ≠ [] := List.length_pos_iff.1 (by omega)
      have hsplit := List.dropLast_concat_getLast hne
      have hdl : (insB (SL x a) l).dropLast = (insB (SL x a) l).take b := by rw [List.dropLast_eq_take]; congr 1; omega
      rw [hdl] at hsplit
      have hlast : ∀ y ∈ (insB (SL x a) l).take b, bt y ((insB (SL x a) l).getLast hne) := by
        intro y hy
        rw [← hsplit, List.pairwise_append] at hsrt
        exact hsrt.2.2 y hy _ (by simp)
      have hr : r = (insB (SL x a) l).getLast hne := by
        have hrm : r ∈ insB (SL x a) l := hh1.subset (p2.symm.subset List.mem_cons_self)
        have hlm : (insB (SL x a) l).getLast hne ∈ r :: h2 := p2.subset (hh1.symm.subset (List.getLast_mem hne))
        rcases List.mem_cons.1 hlm with e | e
        · exact e.symm
        · have h3 := w2 _ e
          rw [← hsplit] at hrm
          rcases List.mem_append.1 hrm with hm | hm
          · exact absurd (hlast r hm) h3
          · simpa using hm
      have hp2 : h2.Perm ((insB (SL x a) l).take b) := by
        have q1 : (r :: h2).Perm ((insB (SL x a) l).take b ++ [r]) := by
          have := p2.symm.trans hh1
          rw [← hsplit, ← hr] at this
          exact this
        have q2 : (r :: h2).Perm (r :: (insB (SL x a) l).take b) := q1.trans List.perm_append_comm
        exact q2.cons_inv
      exact ih (a + 1) K _ h2 (by omega) (by omega) hstep hp2 g2
    · rw [br_n (by rw [List.length_map]; omega)]
      have ht : (insB (SL x a) l).take b = insB (SL x a) l := List.take_of_length_le (by omega)
      exact ih (a + 1) K _ h1 (by omega) (by omega) hstep (by rw [ht]; exact hh1) g1

theorem bits_ok (k : Nat) {n : Nat} (h : n ≤ 40) : ∃ t, bits_Len k (IntKind.u64.wrap (n : Int)) = some t ∧ 0 ≤ t ∧ t ≤ 16 := by
  have key : (List.range 41).all (fun n => match bits_Len 0 (IntKind.u64.wrap (n : Int)) with | some t => decide (0 ≤ t ∧ t ≤ 16) | none => false) = true := by decide +kernel
  have := List.all_eq_true.mp key n (List.mem_range.mpr (by omega))
  have e : bits_Len k (IntKind.u64.wrap (n : Int)) = bits_Len 0 (IntKind.u64.wrap (n : Int)) := rfl
  rw [e]
  split at this
  · rename_i t ht
    exact ⟨t, ht, of_decide_eq_true this⟩
  · cases this

theorem sort_ok (k : Nat) {h l : List LS} (hp : h.Perm l) (hs : l.Pairwise bt) (hl : l.length ≤ 40) : pitch_Lag k (PL h) = some (PL l) := by
  unfold pitch_Lag
  have hhl := hp.length_eq
  obtain ⟨t, e, t0, t1⟩ := bits_ok k (n := h.length) (by omega)
  rw [List.length_map, e, bind_s]
  unfold slices_pdq
  rw [need_t (by rw [List.length_map]; omega), bind_s]
  have e1 : sortR (PL h) = PL (sortP h) := sortR_map h
  have e2 : sortP h = l := List.Perm.eq_of_pairwise (le := lgLe) (fun a b _ _ h k => lg_anti h k) (sortP_sorted h) (hs.imp fun {a b} hab => by
    unfold lgLe; rw [lgB_no]; unfold bt at hab; omega) ((sortP_perm h).trans hp)
  rw [e1, e2]

def fits (x : List Int) (a b best : Int) : Prop := 2 ≤ x.length ∧ x.length ≤ 960 ∧ 1 ≤ a ∧ a ≤ b ∧ b ≤ ((x.length / 2 : Nat) : Int) ∧ 1 ≤ best ∧ best ≤ 32
def found (x : List Int) (a b best : Int) : List LS := go x best.toNat a.toNat (b - a + 1).toNat []

theorem go_ok {x : List Int} {b : Nat} : ∀ n a (l : List LS), Ok b a l → Ok b (a + n) (go x b a n l)
  | 0, _, _, h => h
  | n + 1, a, l, h => by
    have := go_ok (x := x) n (a + 1) _ (h.step (x := x))
    rw [show a + 1 + n = a + (n + 1) by omega] at this
    exact this
theorem ok_nil (b a : Nat) : Ok b a [] := ⟨List.Pairwise.nil, Nat.zero_le _, fun t ht => by simp at ht⟩

theorem search_ok {k : Nat} (hk : 2000 ≤ k) {x : List Int} (hx : x.length * 8 ≤ 140737488355328) {a b best : Int} (h : fits x a b best) : pitch_Search k a b best x = some (0, x, PL (found x a b best)) := by
  obtain ⟨h1, h2, h3, h4, h5, h6, h7⟩ := h
  unfold pitch_Search pitch_may
  rw [br_y (by omega), bind_s]
  simp only
  rw [br_f (nd_f (by omega)), br_n (by omega), br_n (by omega), half (by omega), br_n (by omega), br_n (by omega), br_n (by omega)]
  obtain ⟨a, rfl⟩ := Int.eq_ofNat_of_zero_le (show 0 ≤ a by omega)
  obtain ⟨best, rfl⟩ := Int.eq_ofNat_of_zero_le (show 0 ≤ best by omega)
  obtain ⟨n, rfl⟩ : ∃ n : Nat, b = ((a + n : Nat) : Int) - 1 := ⟨(b - a + 1).toNat, by omega⟩
  obtain ⟨h', e, p, q, r⟩ := search_l0 hk hx (b := best) (by omega) n a k [] [] (by omega) (by omega) (ok_nil _ _) (.refl _) (fun i _ h => by simp at h)
  rw [show PL [] = [] from rfl] at e
  rw [e, bind_s]
  simp only
  rw [sort_ok k p q (by omega), bind_s]
  unfold found
  rw [Int.toNat_natCast, Int.toNat_natCast, show (((a + n : Nat) : Int) - 1 - (a : Int) + 1).toNat = n by omega]

theorem search_bad {k : Nat} {x : List Int} (hx : x.length * 8 ≤ 140737488355328) {a b best : Int} (h : ¬ fits x a b best) : pitch_Search k a b best x = some (1, x, []) := by
  unfold pitch_Search pitch_may
  unfold fits at h
  by_cases h1 : 2 ≤ x.length
  · rw [br_y (by omega), bind_s]
    simp only
    by_cases h2 : x.length ≤ 960
    · rw [br_f (nd_f (by omega))]
      by_cases h3 : a < 1
      · rw [br_y h3]
      rw [br_n h3]
      by_cases h4 : b < a
      · rw [br_y h4]
      rw [br_n h4, half (by omega)]
      by_cases h5 : ((x.length / 2 : Nat) : Int) < b
      · rw [br_y h5]
      rw [br_n h5]
      by_cases h6 : best < 1
      · rw [br_y h6]
      rw [br_n h6, br_y (by omega)]
    · rw [br_t (nd_t (by omega))]
  · rw [br_n (by omega), bind_s]
    simp only [Bool.not_false]
    rw [br_t rfl]
end Go.Proofs.Ytblaikeffnpagaa.Pure
