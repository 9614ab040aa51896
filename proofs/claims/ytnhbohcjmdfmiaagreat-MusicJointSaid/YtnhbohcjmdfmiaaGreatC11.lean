/- Concrete runs: regions, as what was run. No condition. -/
import Derived.Test.YtnhbohcjmdfmiaaGreatC9
set_option linter.unusedVariables false
set_option linter.unusedSimpArgs false
namespace Go.Ab
open Go
noncomputable section

/-- what it looks at is the same, but what is hidden -/
def AgrH (ev : Operand → AV) (T : HT) (K : Heap) (hid : List Nat) : Cls → Prop
  | .x => (∀ b, b ∉ hid → hget K b = hget (absH T) b) ∧ ∀ b ∈ hid, hget K b = none
  | c => AgrC ev T K c
/-- an operation that was run with some blocks hidden -/
structure RanH (P : Program) (o : Oper) (ev : Operand → AV) (T : HT) (n : Nat) (v : AV) (T' : HT) (n' : Nat) (L hid : List Nat) : Prop where
  did : Did T n T' n'
  lt : ∀ b ∈ L, b < 65536
  new : ∀ b ∈ L, ¬ (QT.get 8 b T').older n
  same : ∀ b, b < 65536 → b ∉ L → QT.get 8 b T' = QT.get 8 b T
  turns : turnsC ev v n (clsOf P o.op) L
  top : ∀ b ∈ L, b < n'
  pre : ∀ b ∈ L, b < n → (QT.get 8 b T).md? ≠ none
  hno : ∀ b ∈ hid, b ∉ L
  rd : RdC P o ev T v
  step : ∀ K, AgrH ev T K hid (clsOf P o.op) → Step P o ev K n v (dL L T')
theorem Ran.h {P : Program} {o : Oper} {ev : Operand → AV} {T : HT} {n : Nat} {v : AV} {T' : HT} {n' : Nat} {L : List Nat} (h : Ran P o ev T n v T' n' L) : RanH P o ev T n v T' n' L [] :=
  ⟨h.did, h.lt, h.new, h.same, h.turns, h.top, h.pre, (fun b hb => by cases hb), h.rd, fun K hK => h.step K (by
    cases hc : clsOf P o.op with
    | x => rw [hc] at hK; exact fun b => hK.1 b (by simp)
    | p => trivial
    | a => trivial
    | r l => rw [hc] at hK; exact hK
    | w x => rw [hc] at hK; exact hK)⟩
theorem Ran.hide {P : Program} {o : Oper} {ev : Operand → AV} {T Th T1 T' : HT} {n : Nat} {v : AV} {n' : Nat} {L hid : List Nat} (h : Ran P o ev Th n v T1 n' L) (hT : TOk T n) (h1 : ∀ b, b < 65536 → QT.get 8 b Th = if b ∈ hid then .hole else QT.get 8 b T) (h2 : ∀ b, b < 65536 → QT.get 8 b T' = if b ∈ hid then QT.get 8 b T else QT.get 8 b T1)
    (h3 : ∀ b ∈ hid, b < n) (h4 : clsOf P o.op = .x ∨ hid = []) : RanH P o ev T n v T' n' L hid := by
  have hTh : TOk Th n := ⟨fun b hb hn => by rw [h1 b hb]; split; rfl; exact hT.top b hb hn, fun b hb w num d c md s he => by
    rw [h1 b hb] at he
    split at he
    · cases he
    · exact hT.wf b hb _ _ _ _ _ _ he⟩
  have hno : ∀ b ∈ hid, b ∉ L := fun b hb hL => by
    have := h.pre b hL (h3 b hb)
    rw [h1 b (h.lt b hL), if_pos hb] at this
    exact this rfl
  have hL' : ∀ b ∈ L, QT.get 8 b T' = QT.get 8 b T1 := fun b hb => by rw [h2 b (h.lt b hb), if_neg (fun q => hno b q hb)]
  have hd := h.did
  refine ⟨⟨hd.le, fun b hb ho => ?_, fun b hb hn hm => ?_, fun b hb md hm => ?_, fun _ => ?_, fun _ b hb bk md bk' md' e1 e2 => ?_⟩, h.lt, fun b hb => by rw [hL' b hb]; exact h.new b hb, fun b hb hn => ?_, h.turns, h.top, fun b hb hn hm => ?_, hno, ?_, fun K hK => ?_⟩
  · rw [h2 b hb] at ho ⊢
    by_cases hq : b ∈ hid
    · rw [if_pos hq]
    · rw [if_neg hq] at ho ⊢
      rw [hd.old b hb ho, h1 b hb, if_neg hq]
  · rw [h2 b hb]
    by_cases hq : b ∈ hid
    · rw [if_pos hq]
    · have e1 : QT.get 8 b Th = QT.get 8 b T := by rw [h1 b hb, if_neg hq]
      rw [if_neg hq, hd.gone b hb hn (by rw [e1]; exact hm), e1]
  · rw [h2 b hb] at hm
    by_cases hq : b ∈ hid
    · rw [if_pos hq] at hm; exact .inl hm
    · have e1 : QT.get 8 b Th = QT.get 8 b T := by rw [h1 b hb, if_neg hq]
      rw [if_neg hq] at hm
      rw [← e1]; exact hd.md b hb md hm
  · have hT1 := hd.ok hTh
    refine ⟨fun b hb hn => ?_, fun b hb w num d c md s he => ?_⟩
    · rw [h2 b hb]
      by_cases hq : b ∈ hid
      · have := h3 b hq; have := hd.le; omega
      · rw [if_neg hq]; exact hT1.top b hb hn
    · rw [h2 b hb] at he
      split at he
      · exact hT.wf b hb _ _ _ _ _ _ he
      · exact hT1.wf b hb _ _ _ _ _ _ he
  · rw [h2 b hb] at e2
    by_cases hq : b ∈ hid
    · rw [if_pos hq, e1] at e2; cases e2; exact ⟨rfl, rfl⟩
    · rw [if_neg hq] at e2
      exact hd.shape hTh b hb _ _ _ _ (by rw [h1 b hb, if_neg hq]; exact e1) e2
  · rw [h2 b hb]
    by_cases hq : b ∈ hid
    · rw [if_pos hq]
    · rw [if_neg hq, h.same b hb hn, h1 b hb, if_neg hq]
  · have hq : b ∉ hid := fun q => hno b q hb
    have e1 : QT.get 8 b Th = QT.get 8 b T := by rw [h1 b (h.lt b hb), if_neg hq]
    exact h.pre b hb hn (by rw [e1]; exact hm)
  · rcases h4 with h4 | h4
    · intro l hl; rw [h4] at hl; cases hl
    · intro l hl x hx
      have := h.rd l hl x hx
      have he : ∀ b, hget (absH Th) b = hget (absH T) b := fun b => by
        by_cases hb : b < 65536
        · rw [hget_abs Th hb, hget_abs T hb, h1 b hb, h4]; rfl
        · unfold hget; rw [hat_abs, hat_abs, if_neg hb, if_neg hb]
      unfold RdV at this ⊢
      split at this
      · simp only [he] at this; exact this
      · simp only [he] at this; exact this
      · trivial
  · have e1 : dL L T' = dL L T1 := by
      unfold dL
      exact List.map_congr_left fun b hb => by rw [hL' b hb]
    rw [e1]
    have he : ∀ b, b ∉ hid → hget (absH Th) b = hget (absH T) b := fun b hq => by
      by_cases hb : b < 65536
      · rw [hget_abs Th hb, hget_abs T hb, h1 b hb, if_neg hq]
      · unfold hget; rw [hat_abs, hat_abs, if_neg hb, if_neg hb]
    have hh : ∀ b, b ∈ hid → hget (absH Th) b = none := fun b hq => by
      by_cases hb : b < 65536
      · rw [hget_abs Th hb, h1 b hb, if_pos hq]; rfl
      · unfold hget; rw [hat_abs, if_neg hb]
    refine h.step K ?_
    rcases h4 with h4 | h4
    · rw [h4] at hK ⊢
      intro b
      by_cases hq : b ∈ hid
      · rw [hK.2 b hq, hh b hq]
      · rw [hK.1 b hq, he b hq]
    · have he' : ∀ b, hget (absH Th) b = hget (absH T) b := fun b => he b (by rw [h4]; simp)
      cases hc : clsOf P o.op with
      | p => trivial
      | a => trivial
      | x => rw [hc] at hK; intro b; rw [he' b]; exact hK.1 b (by rw [h4]; simp)
      | w x => rw [hc] at hK; intro b hb; rw [he' b]; exact hK b hb
      | r l =>
        rw [hc] at hK
        intro x hx b hb bk md hg
        rw [he' b] at hg
        exact hK x hx b hb bk md hg
/-- a heap without some blocks -/
theorem less_ex (T : HT) (hid : List Nat) : ∃ K : Heap, SubH K (absH T) ∧ (∀ b, b ∉ hid → hget K b = hget (absH T) b) ∧ ∀ b ∈ hid, hget K b = none := by
  classical
  have e0 : ∀ b, hat ((List.range 65536).map fun b => if b ∈ hid then Ent.hole else (QT.get 8 b T).ent) b = if b < 65536 then (if b ∈ hid then .hole else (QT.get 8 b T).ent) else .hole := fun b => by
    rw [hat_eq]
    by_cases hb : b < 65536
    · rw [if_pos hb]; simp [hb]
    · rw [if_neg hb, List.getElem?_eq_none (by simp; omega)]; rfl
  have key : ∀ b, hget ((List.range 65536).map fun b => if b ∈ hid then Ent.hole else (QT.get 8 b T).ent) b = if b ∈ hid then none else hget (absH T) b := fun b => by
    unfold hget
    rw [e0, hat_abs]
    by_cases hb : b < 65536
    · rw [if_pos hb, if_pos hb]
      by_cases hq : b ∈ hid
      · rw [if_pos hq, if_pos hq]
      · rw [if_neg hq, if_neg hq]
    · rw [if_neg hb, if_neg hb]
      by_cases hq : b ∈ hid
      · rw [if_pos hq]
      · rw [if_neg hq]
  refine ⟨_, fun b x hx => ?_, fun b hb => by rw [key, if_neg hb], fun b hb => by rw [key, if_pos hb]⟩
  rw [key] at hx
  split at hx
  · cases hx
  · exact hx

theorem RanH.near {P : Program} {o : Oper} {ev : Operand → AV} {T : HT} {n : Nat} {v : AV} {T' : HT} {n' : Nat} {L hid : List Nat} (h : RanH P o ev T n v T' n' L hid) : ∃ K, SubH K (absH T) ∧ Step P o ev K n v (dL L T') := by
  cases hc : clsOf P o.op with
  | x =>
    obtain ⟨K, k1, k2, k3⟩ := less_ex T hid
    exact ⟨K, k1, h.step K (by rw [hc]; exact ⟨k2, k3⟩)⟩
  | p => exact ⟨absH T, .refl _, h.step _ (by rw [hc]; trivial)⟩
  | a => exact ⟨absH T, .refl _, h.step _ (by rw [hc]; trivial)⟩
  | w x => exact ⟨absH T, .refl _, h.step _ (by rw [hc]; exact fun _ _ => rfl)⟩
  | r l => exact ⟨absH T, .refl _, h.step _ (by rw [hc]; exact fun x _ b _ bk md hg => ⟨bk, md, hg, rfl, rfl, by split <;> first | (intro _ _; rfl) | trivial⟩)⟩

/-- one operation of a walk: where it began, what it answered -/
structure XRec where
  o : Oper
  tm : List AV
  T : HT
  n : Nat
  v : AV
  L : List Nat
  T' : HT
  n' : Nat
  ran : Bool
  hid : List Nat

/-- what the guard says -/
def Wants (ops : Array Oper) (o : Oper) (tm : List AV) (b : Bool) : Prop := ∀ m H a tm', (∀ t ∈ o.looksAt ops, tget tm' t = tget tm t) → TR m H tm' a → Region.wanted o (yielded ops a.tmps) = b

/-- a walk through operations -/
inductive Walk (P : Program) (ops : Array Oper) : List Oper → List AV → HT → Nat → List XRec → List AV → HT → Nat → Prop
  | nil (tm : List AV) (T : HT) (n : Nat) : Walk P ops [] tm T n [] tm T n
  | skip {o : Oper} {rest : List Oper} {tm tmE : List AV} {T TE : HT} {n nE : Nat} {R : List XRec} : Wants ops o tm false → Walk P ops rest (tput tm o.dst (.tuple [])) T n R tmE TE nE →
      Walk P ops (o :: rest) tm T n (⟨o, tm, T, n, .tuple [], [], T, n, false, []⟩ :: R) tmE TE nE
  | run {o : Oper} {rest : List Oper} {tm tmE : List AV} {T T1 TE : HT} {n n1 nE : Nat} {v : AV} {L hid : List Nat} {R : List XRec} : Wants ops o tm true → RanH P o (ev tm) T n v T1 n1 L hid → Walk P ops rest (tput tm o.dst v) T1 n1 R tmE TE nE →
      Walk P ops (o :: rest) tm T n (⟨o, tm, T, n, v, L, T1, n1, true, hid⟩ :: R) tmE TE nE
  | bump {l : List Oper} {tm tmE : List AV} {T TE : HT} {n nE : Nat} {R : List XRec} : Walk P ops l tm T (n + 1) R tmE TE nE → Walk P ops l tm T n R tmE TE nE

theorem Walk.did {P : Program} {ops : Array Oper} {l : List Oper} {tm tmE : List AV} {T TE : HT} {n nE : Nat} {R : List XRec} (h : Walk P ops l tm T n R tmE TE nE) : Did T n TE nE := by
  induction h with
  | nil => exact .refl _ _
  | skip _ _ ih => exact ih
  | run _ hr _ ih => exact hr.did.trans ih
  | bump _ ih => exact (Did.bump _ _).trans ih
theorem Walk.len {P : Program} {ops : Array Oper} {l : List Oper} {tm tmE : List AV} {T TE : HT} {n nE : Nat} {R : List XRec} (h : Walk P ops l tm T n R tmE TE nE) : R.length = l.length := by
  induction h with
  | nil => rfl
  | skip _ _ ih => simp [ih]
  | run _ _ _ ih => simp [ih]
  | bump _ ih => exact ih

/-- where a call began: the heap about it, its own heap; so many places will have been given away in the end -/
structure Bs where
  H : Heap
  T : HT
  n : Nat
  nF : Nat
structure BsOk (B : Bs) : Prop where
  sub : SubH (absH B.T) B.H
  ok : TOk B.T B.n
  fresh : ∀ b, b < 65536 → B.n ≤ b → b < B.nF → hkn B.H b = false
/-- the heap about, with what has turned -/
theorem at_ex (B : Bs) (T : HT) (n : Nat) : ∃ H : Heap, H = hput B.H (dL (Lof B.T B.n T n) T) := ⟨_, rfl⟩
def Bs.at (B : Bs) (T : HT) (n : Nat) : Heap := Classical.choose (at_ex B T n)
theorem Bs.at_eq (B : Bs) (T : HT) (n : Nat) : B.at T n = hput B.H (dL (Lof B.T B.n T n) T) := Classical.choose_spec (at_ex B T n)
theorem Bs.hat (B : Bs) (T : HT) (n : Nat) (b : Nat) : Ab.hat (B.at T n) b = if b ∈ Lof B.T B.n T n then (QT.get 8 b T).ent else Ab.hat B.H b := by rw [B.at_eq]; exact hat_dL _ _ _ _
theorem hole_of {H : Heap} {b : Nat} (h : hkn H b = false) : hat H b = .hole := by
  unfold hkn at h
  split at h
  · assumption
  · cases h
theorem live_sub {K H : Heap} (h : SubH K H) {T : HT} (e : K = absH T) {b : Nat} (hb : b < 65536) (hm : (QT.get 8 b T).md? ≠ none) : hat H b = (QT.get 8 b T).ent := by
  subst e
  cases hq : (QT.get 8 b T).md? with
  | none => exact absurd hq hm
  | some md =>
    obtain ⟨bk, he⟩ := HE.md_live hq
    have h1 := h b (bk, md) (by rw [hget_abs T hb, he]; rfl)
    rw [he]
    unfold hget at h1
    split at h1
    · rename_i bk' md' hh; rw [hh]; cases h1; rfl
    · cases h1

theorem Bs.sub {B : Bs} (hB : BsOk B) {T : HT} {n : Nat} (hd : Did B.T B.n T n) : SubH (absH T) (B.at T n) := by
  intro b x hx
  have hb := hget_abs_lt hx
  rw [hget_abs T hb] at hx
  have hT := hd.ok hB.ok
  unfold hget
  rw [Bs.hat]
  by_cases hc : b ∈ Lof B.T B.n T n
  · rw [if_pos hc]
    cases hq : QT.get 8 b T <;> rw [hq] at hx <;> first | exact hx | cases hx
  · rw [if_neg hc]
    have hlt : b < n := by
      apply Classical.byContradiction
      intro q
      rw [hT.top b hb (by omega)] at hx
      cases hx
    have hnot : ¬ (B.n ≤ b ∨ QT.get 8 b T ≠ QT.get 8 b B.T) := fun q => hc (mem_Lof.2 ⟨hb, hlt, q⟩)
    have he : QT.get 8 b T = QT.get 8 b B.T := Classical.byContradiction fun q => hnot (.inr q)
    have h1 := hB.sub b x (by rw [hget_abs B.T hb, ← he]; exact hx)
    exact h1

theorem Bs.frsh {B : Bs} (hB : BsOk B) {T : HT} {n n1 : Nat} (hd : Did B.T B.n T n) (hle : n1 ≤ B.nF) {b : Nat} (hb : b < 65536) (h1 : n ≤ b) (h2 : b < n1) : hkn (B.at T n) b = false := by
  have := hd.le
  have h3 := hB.fresh b hb (by omega) (by omega)
  unfold hkn
  rw [Bs.hat, if_neg (fun q => by have := (mem_Lof.1 q).2.1; omega), hole_of h3]

theorem Bs.step {B : Bs} (hB : BsOk B) {P : Program} {o : Oper} {ev : Operand → AV} {T T1 : HT} {n n1 : Nat} {v : AV} {L hid : List Nat} (hd : Did B.T B.n T n) (h : RanH P o ev T n v T1 n1 L hid) (hle : n1 ≤ B.nF) (b : Nat) : Ab.hat (hput (B.at T n) (dL L T1)) b = Ab.hat (B.at T1 n1) b := by
  have hT := hd.ok hB.ok
  have h0 := hd.le
  have h01 := h.did.le
  rw [hat_dL, Bs.hat, Bs.hat]
  by_cases hL : b ∈ L
  · rw [if_pos hL]
    have hb := h.lt b hL
    have hb1 := h.top b hL
    by_cases hn : B.n ≤ b
    · rw [if_pos (mem_Lof.2 ⟨hb, hb1, .inl hn⟩)]
    · by_cases hne : QT.get 8 b T1 = QT.get 8 b B.T
      · rw [if_neg (fun q => by rcases (mem_Lof.1 q).2.2 with z | z; exact hn z; exact z hne)]
        have hlive : (QT.get 8 b B.T).md? ≠ none := fun hm => by
          have := hd.gone b hb (by omega) hm
          exact h.pre b hL (by omega) (by rw [this]; exact hm)
        rw [live_sub hB.sub rfl hb hlive, hne]
      · rw [if_pos (mem_Lof.2 ⟨hb, hb1, .inr hne⟩)]
  · rw [if_neg hL]
    by_cases hb : b < 65536
    · have hs := h.same b hb hL
      by_cases hc : b ∈ Lof B.T B.n T n
      · obtain ⟨_, c2, c3⟩ := mem_Lof.1 hc
        rw [if_pos hc, if_pos (mem_Lof.2 ⟨hb, by omega, c3.imp id fun q => by rw [hs]; exact q⟩), hs]
      · rw [if_neg hc]
        by_cases hc1 : b ∈ Lof B.T B.n T1 n1
        · rw [if_pos hc1]
          obtain ⟨_, c2, c3⟩ := mem_Lof.1 hc1
          have hge : n ≤ b := by
            apply Classical.byContradiction
            intro q
            exact hc (mem_Lof.2 ⟨hb, by omega, c3.imp id fun z => by rw [← hs]; exact z⟩)
          rw [hs, hT.top b hb hge]
          exact hole_of (hB.fresh b hb (by omega) (by omega))
        · rw [if_neg hc1]
    · rw [if_neg (fun q => hb (mem_Lof.1 q).1), if_neg (fun q => hb (mem_Lof.1 q).1)]

theorem Bs.bump {B : Bs} (hB : BsOk B) {T : HT} {n : Nat} (hd : Did B.T B.n T n) (hle : n + 1 ≤ B.nF) (b : Nat) : Ab.hat (B.at T n) b = Ab.hat (B.at T (n + 1)) b := by
  have h0 := hd.le
  have hT := hd.ok hB.ok
  rw [Bs.hat, Bs.hat]
  by_cases hc : b ∈ Lof B.T B.n T n
  · obtain ⟨c1, c2, c3⟩ := mem_Lof.1 hc
    rw [if_pos hc, if_pos (mem_Lof.2 ⟨c1, by omega, c3⟩)]
  · rw [if_neg hc]
    by_cases hc1 : b ∈ Lof B.T B.n T (n + 1)
    · obtain ⟨c1, c2, c3⟩ := mem_Lof.1 hc1
      have hge : n ≤ b := by
        apply Classical.byContradiction
        intro q
        exact hc (mem_Lof.2 ⟨c1, by omega, c3⟩)
      rw [if_pos hc1, hT.top b c1 hge]
      exact hole_of (hB.fresh b c1 (by omega) (by omega))
    · rw [if_neg hc1]

/-- where the evaluator is: the model is -/
theorem At.next {B : Bs} (hB : BsOk B) {P : Program} {o : Oper} {tm : List AV} {T T1 : HT} {n n1 : Nat} {v : AV} {L hid : List Nat} {m : Map} {a : Act} {w : World} {next : Act → World → Prop} {Q : Exit → Act → World → Prop} (hd : Did B.T B.n T n) (h : RanH P o (ev tm) T n v T1 n1 L hid) (hle : n1 ≤ B.nF) (hA : At m ⟨tm, B.at T n⟩ a w)
    (hn : ∀ m' a' w', To m (B.at T n) a w m' ⟨tput tm o.dst v, B.at T1 n1⟩ a' w' → next a' w') : o.wp P a w next Q := by
  have he := Bs.step hB hd h hle
  obtain ⟨K, hK1, hK2⟩ := h.near
  refine hK2 m (B.at T n) a w (fun b x hx => Bs.sub hB hd b x (hK1 b x hx)) (fun d hd' hge => ?_) hA.sim (fun x _ => hA.tr.ev x) _ _ fun v' m' w' g1 g2 g3 => hn m' _ w' ⟨⟨g1.congr he, ?_⟩, g3.congr he, put_defers _ _ _⟩
  · have hdL : d.1 ∈ L := by rw [← dL_keys L T1]; exact List.mem_map_of_mem hd'
    exact Bs.frsh hB hd hle (h.lt _ hdL) hge (h.top _ hdL)
  · exact ((hA.tr.mono g3.ext).put o.dst g2).mono fun _ _ hx => hx.mono (Le.congr he)

theorem Walk.seq {B : Bs} (hB : BsOk B) {P : Program} {ops : Array Oper} {Q : Exit → Act → World → Prop} {l : List Oper} {tm tmE : List AV} {T TE : HT} {n nE : Nat} {R : List XRec} (h : Walk P ops l tm T n R tmE TE nE) : ∀ {m : Map} {a : Act} {w : World}, Did B.T B.n T n → nE ≤ B.nF → At m ⟨tm, B.at T n⟩ a w →
    (∀ m' a' w', To m (B.at T n) a w m' ⟨tmE, B.at TE nE⟩ a' w' → Q .normal a' w') → wpList P ops Q l a w := by
  induction h with
  | nil tm T n => intro m a w _ _ hA hk; exact hk m a w ⟨hA, Tr.refl _ _ _, rfl⟩
  | @skip o rest tm tmE T TE n nE R h1 _ ih =>
    intro m a w hd hle hA hk
    unfold wpList
    rw [if_neg (by rw [h1 _ _ _ _ (fun _ _ => rfl) hA.tr]; simp)]
    refine ih hd hle ⟨hA.sim, hA.tr.put o.dst (VR.unit _ _)⟩ fun m' a' w' ht => hk m' a' w' ⟨ht.at_, ht.tr, by rw [ht.defers, put_defers]⟩
  | @run o rest tm tmE T T1 TE n n1 nE v L hid R h1 hr h2 ih =>
    intro m a w hd hle hA hk
    unfold wpList
    rw [if_pos (h1 _ _ _ _ (fun _ _ => rfl) hA.tr)]
    left
    have hle1 : n1 ≤ B.nF := Nat.le_trans h2.did.le hle
    exact At.next hB hd hr hle1 hA fun m' a' w' ht => ih (hd.trans hr.did) hle ht.at_ fun m'' a'' w'' ht' => hk m'' a'' w'' (ht.trans ht')
  | @bump l tm tmE T TE n nE R h2 ih =>
    intro m a w hd hle hA hk
    have hle1 : n + 1 ≤ B.nF := Nat.le_trans h2.did.le hle
    have hb := Bs.bump hB hd hle1
    exact ih (hd.trans (.bump T n)) hle ⟨hA.sim.congr hb, hA.tr.mono fun _ _ hx => hx.mono (Le.congr hb)⟩ fun m' a' w' ht => hk m' a' w' ⟨ht.at_, (Tr.refl m (B.at T n) w).congr hb |>.trans ht.tr, ht.defers⟩
end
end Go.Ab
