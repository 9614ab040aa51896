/- Concrete runs: a walk through a region that draws its order. No condition. -/
import Derived.Test.YtnhbohcjmdfmiaaGreatC13
set_option linter.unusedVariables false
set_option linter.unusedSimpArgs false
namespace Go.Ab
open Go
noncomputable section

/-- what must not turn -/
def seesC (hid : List Nat) (ev : Operand → AV) : Cls → Nat → Prop
  | .w x, b => blkA (ev x) = some b
  | .x, b => b ∉ hid
  | _, _ => False
theorem rd_operand {P : Program} {o : Op} {l : List (Operand × Rd)} (h : clsOf P o = .r l) {x : Operand × Rd} (hx : x ∈ l) : x.1 ∈ o.operands := by
  cases o <;> simp only [clsOf] at h <;> first
    | (cases h; done)
    | (cases h; obtain rfl := List.mem_singleton.1 hx; simp [Op.operands])
    | (split at h <;> first
        | (cases h; done)
        | (cases h; obtain rfl := List.mem_singleton.1 hx; simp [Op.operands])
        | (cases h; obtain ⟨y, hy, rfl⟩ := List.mem_map.1 hx; simp [Op.operands, Call.operands]; right; simpa using hy))
theorem VR.kn {m : Map} {H : Heap} {x : AV} {v : Value} (h : VR m H x v) {b : Nat} (hb : blkA x = some b) : hkn H b = true := by
  cases h <;> simp only [blkA, Option.some.injEq, reduceCtorEq] at hb
  all_goals (subst hb; assumption)
theorem abs_live {T : HT} {b : Nat} {bk : Blk} {md : Md} (h : hget (absH T) b = some (bk, md)) : b < 65536 ∧ (QT.get 8 b T).ent = .live bk md := by
  have hb := hget_abs_lt h
  rw [hget_abs T hb] at h
  refine ⟨hb, ?_⟩
  cases hq : (QT.get 8 b T).ent with
  | live bk' md' => rw [hq] at h; cases h; rfl
  | hole => rw [hq] at h; cases h
  | dead => rw [hq] at h; cases h
theorem hget_live {H : Heap} {b : Nat} {bk : Blk} {md : Md} (h : hat H b = .live bk md) : hget H b = some (bk, md) := by unfold hget; rw [h]
theorem md_of_live {x : HE} {bk : Blk} {md : Md} (h : x.ent = .live bk md) : x.md? = some md := by
  cases x with
  | hole => cases h
  | dead => cases h
  | cells w num d c md' s => cases h; rfl
  | ints kd num a md' s => cases h; rfl
theorem rd_same {T T1 : HT} {how : Rd} {p v : AV} {b : Nat} {bk bk' : Blk} {md md' : Md} (h : RdV T how p v) (h' : RdV T1 how p v) (hb : blkA p = some b) (hg : hget (absH T) b = some (bk, md)) (hg' : hget (absH T1) b = some (bk', md')) (e1 : bk'.num = bk.num) (e2 : bk'.str = bk.str) :
    match (generalizing := false) how, p with
    | .cell, .ptr _ i fo => i < bk.num → fo < bk.str → bk'.ld i fo = bk.ld i fo
    | .agg w, .ptr _ i fo => i < bk.num → fo < bk.str → ldn bk' i fo w = ldn bk i fo w
    | _, _ => True := by
  cases how with
  | shape => trivial
  | cell =>
    cases p <;> try trivial
    case ptr b0 i fo =>
      intro hi hf
      simp only [blkA, Option.some.injEq] at hb
      subst hb
      rw [h bk md hg hi hf, h' bk' md' hg' (by omega) (by omega)]
  | agg w =>
    cases p <;> try trivial
    case ptr b0 i fo =>
      intro hi hf
      simp only [blkA, Option.some.injEq] at hb
      subst hb
      obtain ⟨l, q1, q2⟩ := h bk md hg hi hf
      obtain ⟨l', q3, q4⟩ := h' bk' md' hg' (by omega) (by omega)
      rw [q2] at q4
      cases q4
      rw [q1, q3]
/-- who turned it last -/
theorem hpS_last (S : Nat → Bool) (b : Nat) : ∀ (rs : List Rec) (C : Heap) (i0 : Nat),
    (hat (hpS S C rs i0) b = hat C b ∧ ∀ i r, rs[i]? = some r → S (i0 + i) = true → b ∉ r.tc) ∨
    ∃ i r C', rs[i]? = some r ∧ S (i0 + i) = true ∧ b ∈ r.tc ∧ (∀ i' r', i < i' → rs[i']? = some r' → S (i0 + i') = true → b ∉ r'.tc) ∧ hat (hpS S C rs i0) b = hat (hput C' r.D) b
  | [], C, i0 => .inl ⟨rfl, fun i r h => by simp at h⟩
  | r :: rs, C, i0 => by
    simp only [hpS]
    rcases hpS_last S b rs (cond (S i0) (hput C r.D) C) (i0 + 1) with ⟨h1, h2⟩ | ⟨i, r', C', h1, h2, h3, h4, h5⟩
    · by_cases hc : S i0 = true ∧ b ∈ r.tc
      · refine .inr ⟨0, r, C, rfl, hc.1, hc.2, fun i' r' hi hr' hs => ?_, ?_⟩
        · cases i' with
          | zero => omega
          | succ i' => exact h2 i' r' (by simpa using hr') (by rw [show i0 + 1 + i' = i0 + (i' + 1) by omega]; exact hs)
        · rw [h1, hc.1]; rfl
      · refine .inl ⟨?_, fun i r' hr' hs => ?_⟩
        · rw [h1]
          cases hs : S i0 with
          | false => rfl
          | true =>
            have : dlook r.D b = none := (dlook_none _ _).2 fun q => hc ⟨hs, q⟩
            simp [hat_hput, this]
        · cases i with
          | zero => simp at hr'; subst hr'; exact fun q => hc ⟨hs, q⟩
          | succ i => exact h2 i r' (by simpa using hr') (by rw [show i0 + 1 + i = i0 + (i + 1) by omega]; exact hs)
    · refine .inr ⟨i + 1, r', C', by simpa using h1, by rw [show i0 + (i + 1) = i0 + 1 + i by omega]; exact h2, h3, fun i' r'' hi hr'' hs => ?_, h5⟩
      cases i' with
      | zero => omega
      | succ i' => exact h4 i' r'' (by omega) (by simpa using hr'') (by rw [show i0 + 1 + i' = i0 + (i' + 1) by omega]; exact hs)
open Classical in
/-- what an operation looked at -/
def fpX (P : Program) (r : XRec) : List Nat := if r.ran = true then (List.range r.n).filter fun b => decide (seesC r.hid (ev r.tm) (clsOf P r.o.op) b) else []
def toR (P : Program) (r : XRec) : Rec := ⟨r.o, r.v, dL r.L r.T', fpX P r⟩
theorem mem_fpX {P : Program} {r : XRec} {b : Nat} : b ∈ fpX P r ↔ r.ran = true ∧ b < r.n ∧ seesC r.hid (ev r.tm) (clsOf P r.o.op) b := by
  unfold fpX
  by_cases h : r.ran = true
  · rw [if_pos h, List.mem_filter]; simp [h]
  · rw [if_neg h]; simp [h]

theorem tmS_shift : ∀ (rs : List Rec) (T : List AV) (i : Nat), tmS (fun _ => true) T rs (i + 1) = tmS (fun _ => true) T rs i
  | [], _, _ => rfl
  | r :: rs, T, i => by simp only [tmS, cond_true]; exact tmS_shift rs _ (i + 1)
theorem hpS_shift : ∀ (rs : List Rec) (T : Heap) (i : Nat), hpS (fun _ => true) T rs (i + 1) = hpS (fun _ => true) T rs i
  | [], _, _ => rfl
  | r :: rs, T, i => by simp only [hpS, cond_true]; exact hpS_shift rs _ (i + 1)

theorem hat_hput_congr {H K : Heap} (h : ∀ b, hat H b = hat K b) (D : Delta) (b : Nat) : hat (hput H D) b = hat (hput K D) b := by rw [hat_hput, hat_hput, h]

theorem Walk.split {B : Bs} (hB : BsOk B) {P : Program} {ops : Array Oper} {l : List Oper} {tm tmE : List AV} {T TE : HT} {n nE : Nat} {R : List XRec} (h : Walk P ops l tm T n R tmE TE nE) : ∀ (C : Heap), Did B.T B.n T n → nE ≤ B.nF → (∀ b, hat C b = hat (B.at T n) b) → ∀ j, j ≤ R.length →
    ∃ tmj Tj nj, tmj = tmS (fun _ => true) tm ((R.map (toR P)).take j) 0 ∧ (∀ b, hat (hpS (fun _ => true) C ((R.map (toR P)).take j) 0) b = hat (B.at Tj nj) b) ∧ Did T n Tj nj ∧ Walk P ops (l.drop j) tmj Tj nj (R.drop j) tmE TE nE := by
  induction h with
  | nil tm T n => intro C hd hle hC j hj; exact ⟨tm, T, n, by simp [tmS], by simpa [hpS] using hC, .refl _ _, by simpa using Walk.nil tm T n⟩
  | @skip o rest tm tmE T TE n nE R h1 h2 ih =>
    intro C hd hle hC j hj
    cases j with
    | zero => exact ⟨tm, T, n, by simp [tmS], by simpa [hpS] using hC, .refl _ _, Walk.skip h1 h2⟩
    | succ j =>
      obtain ⟨tmj, Tj, nj, e1, e2, e3, e4⟩ := ih C hd hle hC j (by simpa using hj)
      refine ⟨tmj, Tj, nj, ?_, ?_, e3, by simpa using e4⟩
      · rw [List.map_cons, List.take_succ_cons]
        simp only [tmS, cond_true]
        rw [tmS_shift]; exact e1
      · rw [List.map_cons, List.take_succ_cons]
        simp only [hpS, cond_true]
        rw [hpS_shift]; exact e2
  | @run o rest tm tmE T T1 TE n n1 nE v L hid R h1 hr h2 ih =>
    intro C hd hle hC j hj
    cases j with
    | zero => exact ⟨tm, T, n, by simp [tmS], by simpa [hpS] using hC, .refl _ _, Walk.run h1 hr h2⟩
    | succ j =>
      obtain ⟨tmj, Tj, nj, e1, e2, e3, e4⟩ := ih (hput C (dL L T1)) (hd.trans hr.did) hle (fun b => by rw [hat_hput_congr hC]; exact Bs.step hB hd hr (Nat.le_trans h2.did.le hle) b) j (by simpa using hj)
      refine ⟨tmj, Tj, nj, ?_, ?_, hr.did.trans e3, by simpa using e4⟩
      · rw [List.map_cons, List.take_succ_cons]
        simp only [tmS, cond_true]
        rw [tmS_shift]; exact e1
      · rw [List.map_cons, List.take_succ_cons]
        simp only [hpS, cond_true]
        rw [hpS_shift]; exact e2
  | @bump l tm tmE T TE n nE R h2 ih =>
    intro C hd hle hC j hj
    have hle1 : n + 1 ≤ B.nF := Nat.le_trans h2.did.le hle
    have hb := Bs.bump hB hd hle1
    by_cases h0 : j = 0
    · subst h0
      exact ⟨tm, T, n, by simp [tmS], by simpa [hpS] using hC, .refl _ _, by simpa using Walk.bump h2⟩
    · obtain ⟨tmj, Tj, nj, e1, e2, e3, e4⟩ := ih C (hd.trans (.bump T n)) hle (fun b => by rw [hC, hb]) j hj
      exact ⟨tmj, Tj, nj, e1, e2, (Did.bump T n).trans e3, e4⟩

/-- what is known of one record -/
structure RecAt (B : Bs) (P : Program) (ops : Array Oper) (l : List Oper) (tm : List AV) (T : HT) (n : Nat) (R : List XRec) (tmE : List AV) (TE : HT) (nE : Nat) (C : Heap) (j : Nat) (r : XRec) : Prop where
  op : l[j]? = some r.o
  tm : r.tm = tmS (fun _ => true) tm ((R.map (toR P)).take j) 0
  hp : ∀ b, hat (hpS (fun _ => true) C ((R.map (toR P)).take j) 0) b = hat (B.at r.T r.n) b
  did0 : Did T n r.T r.n
  did1 : Did r.T r.n r.T' r.n'
  tail : Walk P ops (l.drop (j + 1)) (tput r.tm r.o.dst r.v) r.T' r.n' (R.drop (j + 1)) tmE TE nE
  ran : r.ran = true → Wants ops r.o r.tm true ∧ RanH P r.o (ev r.tm) r.T r.n r.v r.T' r.n' r.L r.hid
  not : r.ran = false → Wants ops r.o r.tm false ∧ r.v = .tuple [] ∧ r.L = []

theorem Walk.head {B : Bs} (hB : BsOk B) {P : Program} {ops : Array Oper} {l0 : List Oper} {tm tmE : List AV} {T TE : HT} {n nE : Nat} {R0 : List XRec} (h : Walk P ops l0 tm T n R0 tmE TE nE) : ∀ o rest r R, l0 = o :: rest → R0 = r :: R → Did B.T B.n T n → nE ≤ B.nF →
    r.o = o ∧ r.tm = tm ∧ r.T = T ∧ Did T n T r.n ∧ (∀ b, hat (B.at T n) b = hat (B.at T r.n) b) ∧ Did r.T r.n r.T' r.n' ∧ Walk P ops rest (tput r.tm r.o.dst r.v) r.T' r.n' R tmE TE nE ∧
    (r.ran = true → Wants ops r.o r.tm true ∧ RanH P r.o (ev r.tm) r.T r.n r.v r.T' r.n' r.L r.hid) ∧ (r.ran = false → Wants ops r.o r.tm false ∧ r.v = .tuple [] ∧ r.L = []) := by
  induction h with
  | nil => intro o rest r R h1; cases h1
  | skip h1 h2 ih =>
    intro o rest r R e1 e2 hd hle
    cases e1; cases e2
    exact ⟨rfl, rfl, rfl, .refl _ _, fun _ => rfl, .refl _ _, h2, (fun q => by cases q), fun _ => ⟨h1, rfl, rfl⟩⟩
  | run h1 h2 h3 ih =>
    intro o rest r R e1 e2 hd hle
    cases e1; cases e2
    exact ⟨rfl, rfl, rfl, .refl _ _, fun _ => rfl, h2.did, h3, (fun _ => ⟨h1, h2⟩), fun q => by cases q⟩
  | @bump l tm tmE T TE n nE R h2 ih =>
    intro o rest r R' e1 e2 hd hle
    have hle1 : n + 1 ≤ B.nF := Nat.le_trans h2.did.le hle
    have hb := Bs.bump hB hd hle1
    obtain ⟨q1, q2, q3, q4, q5, q6⟩ := ih o rest r R' e1 e2 (hd.trans (.bump T n)) hle
    exact ⟨q1, q2, q3, (Did.bump T n).trans q4, fun b => (hb b).trans (q5 b), q6⟩
theorem Walk.over {B : Bs} (hB : BsOk B) {P : Program} {ops : Array Oper} {l0 : List Oper} {tm tmE : List AV} {T TE : HT} {n nE : Nat} {R0 : List XRec} (h : Walk P ops l0 tm T n R0 tmE TE nE) : l0 = [] → Did B.T B.n T n → nE ≤ B.nF → tm = tmE ∧ ∀ b, hat (B.at T n) b = hat (B.at TE nE) b := by
  induction h with
  | nil => intro _ _ _; exact ⟨rfl, fun _ => rfl⟩
  | skip => intro h1; cases h1
  | run => intro h1; cases h1
  | @bump l tm tmE T TE n nE R h2 ih =>
    intro h1 hd hle
    have hle1 : n + 1 ≤ B.nF := Nat.le_trans h2.did.le hle
    have hb := Bs.bump hB hd hle1
    obtain ⟨q1, q2⟩ := ih h1 (hd.trans (.bump T n)) hle
    exact ⟨q1, fun b => (hb b).trans (q2 b)⟩

theorem Walk.at {B : Bs} (hB : BsOk B) {P : Program} {ops : Array Oper} {l : List Oper} {tm tmE : List AV} {T TE : HT} {n nE : Nat} {R : List XRec} (h : Walk P ops l tm T n R tmE TE nE) (hd : Did B.T B.n T n) (hle : nE ≤ B.nF) {C : Heap} (hC : ∀ b, hat C b = hat (B.at T n) b) {j : Nat} {r : XRec} (hr : R[j]? = some r) : RecAt B P ops l tm T n R tmE TE nE C j r := by
  have hlt : j < R.length := (List.getElem?_eq_some_iff.1 hr).1
  obtain ⟨tmj, Tj, nj, e1, e2, e3, e4⟩ := h.split hB C hd hle hC j (Nat.le_of_lt hlt)
  have hdr : R.drop j = r :: R.drop (j + 1) := by rw [List.drop_eq_getElem_cons hlt]; congr 1; simpa [hlt] using hr
  have hlj : j < l.length := by rw [← h.len]; exact hlt
  have hl : l.drop j = l[j] :: l.drop (j + 1) := List.drop_eq_getElem_cons hlj
  rw [hdr, hl] at e4
  generalize hx : l[j] = x at e4
  have hop : l[j]? = some x := by rw [List.getElem?_eq_getElem hlj, hx]
  obtain ⟨q1, q2, q3, q4, q5, q6, q7, q8, q9⟩ := e4.head hB _ _ _ _ rfl rfl (hd.trans e3) hle
  refine ⟨by rw [q1]; exact hop, by rw [q2]; exact e1, fun b => ?_, ?_, q6, q7, q8, q9⟩
  · rw [e2 b, q5 b, q3]
  · rw [q3]; exact e3.trans q4

/-! the static part -/
theorem masks_spec : ∀ (os : List Oper) (ms : List Nat), (masks ms os).length = ms.length + os.length ∧ (∀ i, i < ms.length → (masks ms os)[i]? = ms[i]?) ∧ ∀ j o, os[j]? = some o → (masks ms os)[ms.length + j]? = some (ancOf ((masks ms os).take (ms.length + j)) (predsOf o))
  | [], ms => ⟨rfl, fun _ _ => rfl, fun j o h => by simp at h⟩
  | o :: os, ms => by
    obtain ⟨h1, h2, h3⟩ := masks_spec os (ms ++ [ancOf ms (predsOf o)])
    have e0 : masks ms (o :: os) = masks (ms ++ [ancOf ms (predsOf o)]) os := rfl
    rw [e0]
    simp only [List.length_append, List.length_cons, List.length_nil] at h1 h2 h3
    refine ⟨by rw [h1, List.length_cons]; omega, fun i hi => ?_, fun j o' hj => ?_⟩
    · rw [h2 i (by omega), List.getElem?_append_left hi]
    · cases j with
      | zero =>
        simp at hj; subst hj
        rw [Nat.add_zero, h2 ms.length (by omega), List.getElem?_append_right (Nat.le_refl _), Nat.sub_self]
        simp only [List.getElem?_cons_zero, Option.some.injEq]
        congr 1
        apply List.ext_getElem?
        intro i
        rw [List.getElem?_take]
        by_cases hi : i < ms.length
        · rw [if_pos hi, h2 i (by omega), List.getElem?_append_left hi]
        · rw [if_neg hi, List.getElem?_eq_none (by omega)]
      | succ j =>
        have := h3 j o' (by simpa using hj)
        rw [show ms.length + (j + 1) = ms.length + (0 + 1) + j by omega]
        exact this

theorem apartL_spec {ops : Array Oper} {o : Oper} {m : Nat} : ∀ (rs : List Oper) (i0 j : Nat), apartAll.apartL ops o m rs i0 j = true → ∀ i r, rs[i]? = some r → i0 + i < j → m.testBit (i0 + i) = true ∨ r.apart ops o = true
  | [], _, _, _, i, r, h, _ => by simp at h
  | x :: rs, i0, j, h, i, r, hr, hlt => by
    unfold apartAll.apartL at h
    have hb : Nat.blt i0 j = true := Nat.ble_eq_true_of_le (by omega)
    rw [if_pos hb, Bool.and_eq_true] at h
    cases i with
    | zero =>
      simp at hr; subst hr
      rw [Nat.add_zero]
      simpa using h.1
    | succ i =>
      rw [show i0 + (i + 1) = i0 + 1 + i by omega]
      exact apartL_spec rs (i0 + 1) j h.2 i r (by simpa using hr) (by omega)

theorem apartAll_spec {ops : Array Oper} {all : List Oper} : ∀ (os : List Oper) (ms : List Nat) (j0 : Nat), apartAll ops all os ms j0 = true → ∀ j o, os[j]? = some o → ∃ m, ms[j]? = some m ∧ (∀ p ∈ predsOf o, p < j0 + j) ∧ ∀ i r, all[i]? = some r → i < j0 + j → m.testBit i = true ∨ r.apart ops o = true
  | [], _, _, _, j, o, h => by simp at h
  | x :: os, [], j0, h, j, o, ho => by cases h
  | x :: os, m :: ms, j0, h, j, o, ho => by
    simp only [apartAll, Bool.and_eq_true] at h
    cases j with
    | zero =>
      simp at ho; subst ho
      refine ⟨m, rfl, fun p hp => ?_, fun i r hr hlt => ?_⟩
      · have := List.all_eq_true.1 h.1 p hp
        exact Nat.le_of_ble_eq_true this
      · have := apartL_spec all 0 j0 h.2.1 i r hr (by omega)
        rwa [Nat.zero_add] at this
    | succ j =>
      obtain ⟨m', h1, h2, h3⟩ := apartAll_spec os ms (j0 + 1) h.2.2 j o (by simpa using ho)
      exact ⟨m', by simpa using h1, fun p hp => by have := h2 p hp; omega, fun i r hr hlt => h3 i r hr (by omega)⟩

theorem dstsNew_spec : ∀ (os : List Oper) (l : List Nat), dstsNew os l = true → (∀ (i : Nat) (o : Oper) (t : Nat), os[i]? = some o → o.dst = some t → t ∉ l) ∧ ∀ (i j : Nat) (o o' : Oper) (t : Nat), i < j → os[i]? = some o → os[j]? = some o' → o.dst = some t → o'.dst ≠ some t
  | [], l, _ => ⟨(fun i o t h => by simp at h), (fun i j o o' t _ h => by simp at h)⟩
  | x :: os, l, h => by
    unfold dstsNew at h
    cases hd : x.dst with
    | none =>
      rw [hd] at h
      obtain ⟨h1, h2⟩ := dstsNew_spec os l h
      refine ⟨fun i o t hi ht => ?_, fun i j o o' t hij hi hj ht => ?_⟩
      · cases i with
        | zero => simp at hi; subst hi; rw [hd] at ht; cases ht
        | succ i => exact h1 i o t (by simpa using hi) ht
      · cases i with
        | zero => simp at hi; subst hi; rw [hd] at ht; cases ht
        | succ i =>
          cases j with
          | zero => omega
          | succ j => exact h2 i j o o' t (by omega) (by simpa using hi) (by simpa using hj) ht
    | some u =>
      rw [hd] at h
      simp only [Bool.and_eq_true, Bool.not_eq_true'] at h
      obtain ⟨h0, h⟩ := h
      obtain ⟨h1, h2⟩ := dstsNew_spec os (u :: l) h
      refine ⟨fun i o t hi ht => ?_, fun i j o o' t hij hi hj ht => ?_⟩
      · cases i with
        | zero =>
          simp at hi; subst hi
          rw [hd] at ht; cases ht
          intro hin
          rw [List.contains_iff_mem.2 hin] at h0
          cases h0
        | succ i => exact fun hin => h1 i o t (by simpa using hi) ht (List.mem_cons_of_mem _ hin)
      · cases j with
        | zero => omega
        | succ j =>
          cases i with
          | zero =>
            simp at hi; subst hi
            rw [hd] at ht; cases ht
            intro hq
            exact h1 j o' u (by simpa using hj) hq List.mem_cons_self
          | succ i => exact h2 i j o o' t (by omega) (by simpa using hi) (by simpa using hj) ht

theorem mrows_mem {P : Program} : ∀ (os : List Oper) (ms : List Nat) (j0 : Nat) (r : MRow), r ∈ mrows P os ms j0 → ∃ i o m, os[i]? = some o ∧ ms[i]? = some m ∧ r = ⟨j0 + i, clsOf P o.op, m, o.dst⟩
  | [], ms, j0, r, h => by simp [mrows] at h
  | o :: os, [], j0, r, h => by simp [mrows] at h
  | o :: os, m :: ms, j0, r, h => by
    have rec_ : r ∈ mrows P os ms (j0 + 1) → ∃ i o' m', (o :: os)[i]? = some o' ∧ (m :: ms)[i]? = some m' ∧ r = ⟨j0 + i, clsOf P o'.op, m', o'.dst⟩ := fun hr => by
      obtain ⟨i, o', m', h1, h2, h3⟩ := mrows_mem os ms (j0 + 1) r hr
      exact ⟨i + 1, o', m', by simpa using h1, by simpa using h2, by rw [h3]; congr 1; omega⟩
    unfold mrows at h
    cases hc : clsOf P o.op with
    | p => rw [hc] at h; exact rec_ h
    | r l =>
      rw [hc] at h
      rcases List.mem_cons.1 h with rfl | h
      · exact ⟨0, o, m, rfl, rfl, by rw [hc]; rfl⟩
      · exact rec_ h
    | a =>
      rw [hc] at h
      rcases List.mem_cons.1 h with rfl | h
      · exact ⟨0, o, m, rfl, rfl, by rw [hc]; rfl⟩
      · exact rec_ h
    | w x =>
      rw [hc] at h
      rcases List.mem_cons.1 h with rfl | h
      · exact ⟨0, o, m, rfl, rfl, by rw [hc]; rfl⟩
      · exact rec_ h
    | x =>
      rw [hc] at h
      rcases List.mem_cons.1 h with rfl | h
      · exact ⟨0, o, m, rfl, rfl, by rw [hc]; rfl⟩
      · exact rec_ h

theorem mrows_has {P : Program} : ∀ (os : List Oper) (ms : List Nat) (j0 i : Nat) (o : Oper) (m : Nat), os[i]? = some o → ms[i]? = some m → clsOf P o.op ≠ .p → (⟨j0 + i, clsOf P o.op, m, o.dst⟩ : MRow) ∈ mrows P os ms j0
  | [], ms, j0, i, o, m, h, _, _ => by simp at h
  | x :: os, [], j0, i, o, m, _, h, _ => by simp at h
  | x :: os, y :: ms, j0, i, o, m, h1, h2, h3 => by
    cases i with
    | zero =>
      simp at h1 h2; subst h1 h2
      unfold mrows
      cases hc : clsOf P x.op with
      | p => exact absurd hc h3
      | r l => exact List.mem_cons_self
      | a => exact List.mem_cons_self
      | w z => exact List.mem_cons_self
      | x => exact List.mem_cons_self
    | succ i =>
      have := mrows_has os ms (j0 + 1) i o m (by simpa using h1) (by simpa using h2) h3
      rw [show j0 + 1 + i = j0 + (i + 1) by omega] at this
      unfold mrows
      cases clsOf P x.op with
      | p => exact this
      | r l => exact List.mem_cons_of_mem _ this
      | a => exact List.mem_cons_of_mem _ this
      | w z => exact List.mem_cons_of_mem _ this
      | x => exact List.mem_cons_of_mem _ this

theorem tmS_keep {t : Nat} : ∀ (rs : List Rec) (T : List AV) (i : Nat), (∀ r ∈ rs, r.o.dst ≠ some t) → tget (tmS (fun _ => true) T rs i) t = tget T t
  | [], _, _, _ => rfl
  | r :: rs, T, i, h => by
    simp only [tmS, cond_true]
    rw [tmS_keep rs _ (i + 1) fun x hx => h x (List.mem_cons_of_mem _ hx)]
    cases hd : r.o.dst with
    | none => rfl
    | some u =>
      simp only [tput, tget_tset]
      rw [if_neg]
      rintro rfl
      exact h r List.mem_cons_self hd

/-- a region that draws its order -/
theorem Walk.drawn {B : Bs} (hB : BsOk B) {P : Program} {ops : Array Oper} {Q : Exit → Act → World → Prop} {tm tmE : List AV} {T TE : HT} {n nE : Nat} {R : List XRec} (h : Walk P ops ops.toList tm T n R tmE TE nE) (hdr : drawOk P ops = true) (hd0 : Did B.T B.n T n) (hle0 : nE ≤ B.nF) {N : Nat} (hN : tm.length = N) (hdst : ∀ o ∈ ops.toList, dstIn N o = true)
    (hrow : ∀ i r, R[i]? = some r → r.ran = true → RowOk P (mrows P ops.toList (masks [] ops.toList) 0) i n r)
    (hseen : ∀ i i' r r', i < i' → R[i]? = some r → R[i']? = some r' → r'.ran = true → ∀ x ∈ readsOf (clsOf P r.o.op), r.ran = true → SeenOk P (mrows P ops.toList (masks [] ops.toList) 0) i' r' i x.2 (ev r.tm x.1) r.v)
    {m : Map} {a : Act} {w : World} (hA : At m ⟨tm, B.at T n⟩ a w) (hQ : ∀ m' a' w', To m (B.at T n) a w m' ⟨tmE, B.at TE nE⟩ a' w' → Q .normal a' w') (id : Nat) : wpAny P .any ops Q ops.size (Array.replicate ops.size false) a (drewW w) := by
  have hT : TOk T n := hd0.ok hB.ok
  unfold drawOk at hdr
  simp only [Bool.and_eq_true] at hdr
  obtain ⟨d1, d2, d3⟩ := hdr
  generalize hms : masks [] ops.toList = ms at d1 d3 hrow hseen
  generalize hrs : mrows P ops.toList ms 0 = rows at d3 hrow hseen
  have hmsp := masks_spec ops.toList []
  rw [hms] at hmsp
  simp only [List.length_nil, Nat.zero_add] at hmsp
  obtain ⟨ml, _, mspec⟩ := hmsp
  have hlen : R.length = ops.size := by rw [h.len]; simp
  have RA : ∀ {j : Nat} {r : XRec}, R[j]? = some r → RecAt B P ops ops.toList tm T n R tmE TE nE (B.at T n) j r := fun hr => h.at hB hd0 hle0 (fun _ => rfl) hr
  have hTj : ∀ {j : Nat} {r : XRec}, R[j]? = some r → TOk r.T r.n := fun hr => (RA hr).did0.ok hT
  -- from one record to a later one
  have later : ∀ {i j : Nat} {ri rj : XRec}, i < j → R[i]? = some ri → R[j]? = some rj → Did ri.T' ri.n' rj.T rj.n := by
    intro i j ri rj hij hi hj
    have t := (RA hi).tail
    have hj' : (R.drop (i + 1))[j - (i + 1)]? = some rj := by rw [List.getElem?_drop, show i + 1 + (j - (i + 1)) = j by omega]; exact hj
    exact (t.at hB (hd0.trans ((RA hi).did0.trans (RA hi).did1)) hle0 (C := B.at ri.T' ri.n') (fun _ => rfl) hj').did0
  have toE : ∀ {j : Nat} {r : XRec}, R[j]? = some r → Did r.T' r.n' TE nE := fun hr => (RA hr).tail.did
  have value : ∀ {i j : Nat} {ri rj : XRec} {t : Nat}, i < j → R[i]? = some ri → R[j]? = some rj → ri.o.dst = some t → tget rj.tm t = ri.v := by
    intro i j ri rj t hij hi hj ht
    have tl := (RA hi).tail
    have hj' : (R.drop (i + 1))[j - (i + 1)]? = some rj := by rw [List.getElem?_drop, show i + 1 + (j - (i + 1)) = j by omega]; exact hj
    have e1 := (tl.at hB (hd0.trans ((RA hi).did0.trans (RA hi).did1)) hle0 (C := B.at ri.T' ri.n') (fun _ => rfl) hj').tm
    rw [e1, tmS_keep]
    · rw [ht]
      simp only [tput, tget_tset, if_true]
      have htl : t < ri.tm.length := by
        rw [(RA hi).tm, tmS_length, hN]
        exact dstIn_lt (hdst ri.o (List.mem_of_getElem? (RA hi).op)) ht
      rw [if_pos htl]
    · intro r hr
      obtain ⟨x, hx, rfl⟩ := List.mem_map.1 (List.mem_of_mem_take hr)
      obtain ⟨q, hq, rfl⟩ := List.mem_iff_getElem.1 hx
      have hq' : R[i + 1 + q]? = some (R.drop (i + 1))[q] := by
        rw [← List.getElem?_drop]; exact List.getElem?_eq_getElem hq
      exact (dstsNew_spec ops.toList [] d2).2 i (i + 1 + q) ri.o _ t (by omega) (RA hi).op (RA hq').op ht
  -- rows
  have rowAt : ∀ {j : Nat} {r : XRec}, R[j]? = some r → clsOf P r.o.op ≠ .p → ∃ mk, ms[j]? = some mk ∧ (⟨j, clsOf P r.o.op, mk, r.o.dst⟩ : MRow) ∈ rows ∧ maskOf rows j = mk := by
    intro j r hr hc
    have hop := (RA hr).op
    have hj : j < ms.length := by rw [ml]; exact (List.getElem?_eq_some_iff.1 hop).1
    have hmem := mrows_has (P := P) ops.toList ms 0 j r.o ms[j] hop (List.getElem?_eq_getElem hj) hc
    rw [Nat.zero_add, hrs] at hmem
    refine ⟨ms[j], List.getElem?_eq_getElem hj, hmem, ?_⟩
    unfold maskOf
    cases hf : rows.find? (fun r => Nat.beq r.j j) with
    | none =>
      have := List.find?_eq_none.1 hf _ hmem
      simp at this
    | some x =>
      have hx1 := List.mem_of_find?_eq_some hf
      have hx2 := List.find?_some hf
      have hxj : x.j = j := Nat.eq_of_beq_eq_true hx2
      rw [← hrs] at hx1
      obtain ⟨i, o', m', q1, q2, q3⟩ := mrows_mem _ _ _ _ hx1
      rw [q3] at hxj
      simp only [Nat.zero_add] at hxj
      subst hxj
      rw [List.getElem?_eq_getElem hj] at q2
      cases q2
      rw [q3]
  have anc : ∀ {j : Nat} {r : XRec}, R[j]? = some r → ms[j]? = some (ancOf (ms.take j) (predsOf r.o)) := fun hr => by have := mspec _ _ (RA hr).op; simpa using this
  have blt : ∀ {i j : Nat}, i < j → Nat.blt i j = true := fun h => Nat.ble_eq_true_of_le h
  have wat0 : ∀ {i j : Nat} {ri rj : XRec}, i < j → R[i]? = some ri → R[j]? = some rj → (ancOf (ms.take j) (predsOf rj.o)).testBit i = false → ∀ (q : Nat), pairK (clsOf P ri.o.op) (clsOf P rj.o.op) = q → clsOf P ri.o.op ≠ .p → clsOf P rj.o.op ≠ .p → (q ≠ 4) ∧ (q = 1 → i ∈ seen rows j (clsOf P rj.o.op) (maskOf rows j)) ∧ (q = 2 → watched rows j (clsOf P rj.o.op) (maskOf rows j) = true) ∧ (q = 3 → ∃ t, ri.o.dst = some t ∧ t ∈ others rows j (clsOf P rj.o.op) (maskOf rows j)) ∧ (q = 5 → ∃ t, ri.o.dst = some t ∧ t ∈ hidden rows j (clsOf P rj.o.op) (maskOf rows j)) := by
      intro i j ri rj hij hi hj hbit q hq hci hcj
      obtain ⟨mi, i1, i2, i3⟩ := rowAt hi hci
      obtain ⟨mj, j1, j2, j3⟩ := rowAt hj hcj
      have hmj : mj = ancOf (ms.take j) (predsOf rj.o) := by have := anc hj; rw [j1] at this; exact Option.some.inj this
      have hb : mj.testBit i = false := by rw [hmj]; exact hbit
      have hcl := List.all_eq_true.1 (List.all_eq_true.1 d3 _ j2) _ i2
      simp only [blt hij, hb, hq, Bool.not_false, Bool.and_self, Bool.not_true, Bool.false_or, Bool.and_eq_true, Bool.not_eq_true', Bool.or_eq_true] at hcl
      refine ⟨fun q4 => ?_, fun q1 => ?_, fun q2 => ?_, fun q3 => ?_, fun q5 => ?_⟩
      · subst q4; simp at hcl
      · unfold seen
        rw [j3]
        refine List.mem_filterMap.2 ⟨_, i2, ?_⟩
        simp only [blt hij, hb, hq, q1]; rfl
      · unfold watched
        rw [j3]
        refine List.any_eq_true.2 ⟨_, i2, ?_⟩
        simp only [blt hij, hb, hq, q2]; simp
      · have hsome : ri.o.dst.isSome = true := by
          rcases hcl.2 with z | z
          · rw [q3] at z; simp at z
          · exact z
        obtain ⟨t, ht⟩ := Option.isSome_iff_exists.1 hsome
        refine ⟨t, ht, ?_⟩
        unfold others
        rw [j3]
        refine List.mem_filterMap.2 ⟨_, i2, ?_⟩
        simp only [blt hij, hb, hq, q3]
        simpa using ht
      · have hsome : ri.o.dst.isSome = true := by
          rcases hcl.2 with z | z
          · rw [q5] at z; simp at z
          · exact z
        obtain ⟨t, ht⟩ := Option.isSome_iff_exists.1 hsome
        refine ⟨t, ht, ?_⟩
        unfold hidden
        rw [j3]
        refine List.mem_filterMap.2 ⟨_, i2, ?_⟩
        simp only [blt hij, hb, hq, q5]
        simpa using ht
  have oldT0 : ∀ {i j : Nat} {ri rj : XRec}, i < j → R[i]? = some ri → R[j]? = some rj → ri.ran = true → ∀ {b : Nat}, b < 65536 → (QT.get 8 b rj.T).older n → b ∉ ri.L := by
    intro i j ri rj hij hi hj hri b hb ho hin
    have Ri := ((RA hi).ran hri).2
    have hle : ri.n' ≤ rj.n := (later hij hi hj).le
    have hle0 : ri.n ≤ ri.n' := (RA hi).did1.le
    have hn : n ≤ ri.n := (RA hi).did0.le
    have e1 := (later hij hi hj).old b hb (ho.mono (by omega))
    rw [e1] at ho
    exact Ri.new b hin (ho.mono hn)
  have newc0 : ∀ {i j : Nat} {ri rj : XRec}, i < j → R[i]? = some ri → R[j]? = some rj → (ancOf (ms.take j) (predsOf rj.o)).testBit i = false → ri.ran = true → rj.ran = true → ∀ {b : Nat} {x : Operand}, x ∈ placeOf (clsOf P rj.o.op) → blkA (ev rj.tm x) = some b → clsOf P ri.o.op = .a → pairK (clsOf P ri.o.op) (clsOf P rj.o.op) = 3 → clsOf P rj.o.op ≠ .p → b ∈ ri.L → False := by
    intro i j ri rj hij hi hj hbit hri hrj b x hx hbx hci hpk hcj hbi
    have ti := ((RA hi).ran hri).2.turns
    obtain ⟨t, t1, t2⟩ := (wat0 hij hi hj hbit 3 hpk (by rw [hci]; simp) hcj).2.2.2.1 rfl
    have := (hrow j rj hj hrj).2.1 t t2 x hx b hbx
    rw [value hij hi hj t1] at this
    rw [hci] at ti
    exact this (ti b hbi).1
  have pair : ∀ {i j : Nat} {ri rj : XRec}, i < j → R[i]? = some ri → R[j]? = some rj → (ancOf (ms.take j) (predsOf rj.o)).testBit i = false → ri.ran = true → rj.ran = true → (∀ b ∈ rj.L, b ∉ fpX P ri ∧ b ∉ ri.L) ∧ ∀ b ∈ fpX P rj, b ∉ ri.L := by
    intro i j ri rj hij hi hj hbit hri hrj
    have Ri := ((RA hi).ran hri).2
    have Rj := ((RA hj).ran hrj).2
    have hle : ri.n' ≤ rj.n := (later hij hi hj).le
    have hle0 : ri.n ≤ ri.n' := (RA hi).did1.le
    have wat := fun q hq hci hcj => wat0 hij hi hj hbit q hq hci hcj
    have ti := Ri.turns
    have tj := Rj.turns
    have oi := hrow i ri hi hri
    have oj := hrow j rj hj hrj
    have fi : ∀ {b : Nat}, b ∈ fpX P ri → b < ri.n ∧ seesC ri.hid (ev ri.tm) (clsOf P ri.o.op) b := fun hb => ⟨(mem_fpX.1 hb).2.1, (mem_fpX.1 hb).2.2⟩
    have fj : ∀ {b : Nat}, b ∈ fpX P rj → b < rj.n ∧ seesC rj.hid (ev rj.tm) (clsOf P rj.o.op) b := fun hb => ⟨(mem_fpX.1 hb).2.1, (mem_fpX.1 hb).2.2⟩
    have oldT : ∀ {b : Nat}, b < 65536 → (QT.get 8 b rj.T).older n → b ∉ ri.L := fun hb ho => oldT0 hij hi hj hri hb ho
    have newc : ∀ {b : Nat} {x : Operand}, x ∈ placeOf (clsOf P rj.o.op) → blkA (ev rj.tm x) = some b → clsOf P ri.o.op = .a → pairK (clsOf P ri.o.op) (clsOf P rj.o.op) = 3 → clsOf P rj.o.op ≠ .p → b ∈ ri.L → False := newc0 hij hi hj hbit hri hrj
    -- a new block of the first, hidden from the second
    have hidc : ∀ {b : Nat}, clsOf P ri.o.op = .a → clsOf P rj.o.op = .x → b ∈ ri.L → b ∈ rj.hid := by
      intro b hci hcj hbi
      obtain ⟨t, t1, t2⟩ := (wat 5 (by rw [hci, hcj]; rfl) (by rw [hci]; simp) (by rw [hcj]; simp)).2.2.2.2 rfl
      refine oj.2.2 t t2 b ?_
      rw [value hij hi hj t1]
      rw [hci] at ti
      exact (ti b hbi).1
    refine ⟨fun b hb => ?_, fun b hb hbi => ?_⟩
    · cases hcj : clsOf P rj.o.op with
      | p => rw [hcj] at tj; rw [show rj.L = [] from tj] at hb; cases hb
      | r l => rw [hcj] at tj; rw [show rj.L = [] from tj] at hb; cases hb
      | a =>
        rw [hcj] at tj
        have hge := (tj b hb).2
        exact ⟨fun q => by have := (fi q).1; omega, fun q => by have := Ri.top b q; omega⟩
      | w x =>
        rw [hcj] at tj
        have hbx := tj b hb
        cases hci : clsOf P ri.o.op with
        | p => rw [hci] at ti; exact ⟨fun q => by have := (fi q).2; rw [hci] at this; exact this, by rw [show ri.L = [] from ti]; simp⟩
        | r l => rw [hci] at ti; exact ⟨fun q => by have := (fi q).2; rw [hci] at this; exact this, by rw [show ri.L = [] from ti]; simp⟩
        | a =>
          refine ⟨fun q => by have := (fi q).2; rw [hci] at this; exact this, fun q => ?_⟩
          exact newc (b := b) (x := x) (by rw [hcj]; simp [placeOf]) hbx hci (by rw [hci, hcj]; rfl) (by rw [hcj]; simp) q
        | w z => exact absurd rfl (wat 4 (by rw [hci, hcj]; rfl) (by rw [hci]; simp) (by rw [hcj]; simp)).1
        | x => exact absurd rfl (wat 4 (by rw [hci, hcj]; rfl) (by rw [hci]; simp) (by rw [hcj]; simp)).1
      | x =>
        cases hci : clsOf P ri.o.op with
        | p => rw [hci] at ti; exact ⟨fun q => by have := (fi q).2; rw [hci] at this; exact this, by rw [show ri.L = [] from ti]; simp⟩
        | r l => rw [hci] at ti; exact ⟨fun q => by have := (fi q).2; rw [hci] at this; exact this, by rw [show ri.L = [] from ti]; simp⟩
        | a => exact ⟨fun q => by have := (fi q).2; rw [hci] at this; exact this, fun q => Rj.hno b (hidc hci hcj q) hb⟩
        | w z => exact absurd rfl (wat 4 (by rw [hci, hcj]; rfl) (by rw [hci]; simp) (by rw [hcj]; simp)).1
        | x => exact absurd rfl (wat 4 (by rw [hci, hcj]; rfl) (by rw [hci]; simp) (by rw [hcj]; simp)).1
    · have hs := (fj hb).2
      cases hcj : clsOf P rj.o.op with
      | p => rw [hcj] at hs; exact hs
      | a => rw [hcj] at hs; exact hs
      | r l => rw [hcj] at hs; exact hs
      | w x =>
        rw [hcj] at hs
        cases hci : clsOf P ri.o.op with
        | p => rw [hci] at ti; rw [show ri.L = [] from ti] at hbi; cases hbi
        | r l => rw [hci] at ti; rw [show ri.L = [] from ti] at hbi; cases hbi
        | a => exact newc (b := b) (x := x) (by rw [hcj]; simp [placeOf]) hs hci (by rw [hci, hcj]; rfl) (by rw [hcj]; simp) hbi
        | w y => exact absurd rfl (wat 4 (by rw [hci, hcj]; rfl) (by rw [hci]; simp) (by rw [hcj]; simp)).1
        | x => exact absurd rfl (wat 4 (by rw [hci, hcj]; rfl) (by rw [hci]; simp) (by rw [hcj]; simp)).1
      | x =>
        cases hci : clsOf P ri.o.op with
        | p => rw [hci] at ti; rw [show ri.L = [] from ti] at hbi; cases hbi
        | r l => rw [hci] at ti; rw [show ri.L = [] from ti] at hbi; cases hbi
        | a => rw [hcj] at hs; exact hs (hidc hci hcj hbi)
        | w z => exact absurd rfl (wat 4 (by rw [hci, hcj]; rfl) (by rw [hci]; simp) (by rw [hcj]; simp)).1
        | x => exact absurd rfl (wat 4 (by rw [hci, hcj]; rfl) (by rw [hci]; simp) (by rw [hcj]; simp)).1
  have facts : ∀ j r, (R.map (toR P))[j]? = some r → FactC P ops tm (B.at T n) (R.map (toR P)) ms j r := by
    intro j r hr
    rw [List.getElem?_map] at hr
    cases hq : R[j]? with
    | none => rw [hq] at hr; cases hr
    | some rj =>
      rw [hq] at hr
      cases hr
      have ra := RA hq
      obtain ⟨mk, a1, a2, a3⟩ := apartAll_spec ops.toList ms 0 d1 j rj.o ra.op
      have hmk : mk = ancOf (ms.take j) (predsOf rj.o) := by have := anc hq; rw [a1] at this; exact Option.some.inj this
      have prev : ∀ (i : Nat) (r' : Rec), (R.map (toR P))[i]? = some r' → ∃ ri, R[i]? = some ri ∧ r' = toR P ri := by
        intro i r' hr'
        rw [List.getElem?_map] at hr'
        cases hz : R[i]? with
        | none => rw [hz] at hr'; cases hr'
        | some ri => rw [hz] at hr'; cases hr'; exact ⟨ri, rfl, rfl⟩
      have tcR : ∀ x : XRec, (toR P x).tc = x.L := fun x => dL_keys _ _
      refine ⟨by have := ra.op; rw [Array.getElem?_toList] at this; exact this, fun p hp => by have := a2 p hp; omega, anc hq, fun i r' hij hr' hbit => ?_, ?_⟩
      · obtain ⟨ri, hri, rfl⟩ := prev i r' hr'
        refine ⟨?_, fun b hb => ?_⟩
        · rcases a3 i ri.o (RA hri).op (by omega) with z | z
          · rw [hmk, show predsOf rj.o = predsOf (toR P rj).o from rfl, hbit] at z; cases z
          · exact z
        · rw [tcR] at hb ⊢
          have hrj : rj.ran = true := by
            cases hran : rj.ran with
            | true => rfl
            | false => rw [(ra.not hran).2.2] at hb; cases hb
          cases hran : ri.ran with
          | false => rw [((RA hri).not hran).2.2]; simp
          | true => exact ((pair hij hri hq hbit hran hrj).1 b hb).2
      · cases hran : rj.ran with
        | false =>
          obtain ⟨n1, n2, n3⟩ := ra.not hran
          refine .inr ⟨by rw [← ra.tm]; exact n1, n2, ?_⟩
          show dL rj.L rj.T' = []
          rw [n3]; rfl
        | true =>
          obtain ⟨y1, y2⟩ := ra.ran hran
          refine .inl ⟨by rw [← ra.tm]; exact y1, ?_⟩
          have hTok := hTj hq
          rw [← ra.tm]
          have Lran : ∀ {i : Nat} {ri : XRec} {b : Nat}, R[i]? = some ri → b ∈ ri.L → ri.ran = true := fun {i ri b} hri hb => by
            cases hx : ri.ran with
            | true => rfl
            | false => rw [((RA hri).not hx).2.2] at hb; cases hb
          have tcM : ∀ {r' : Rec} {ri : XRec} {b : Nat}, r' = toR P ri → b ∈ r'.tc → b ∈ ri.L := fun e hb => by subst e; rwa [tcR] at hb
          -- the heap as it stood before it, where none that parts turned the place
          have same : ∀ (S : Nat → Bool) (b : Nat), S j = false → (∀ i ri, R[i]? = some ri → i < j → S i = false → b ∉ ri.L) → (∀ i ri, R[i]? = some ri → j < i → S i = true → b ∉ ri.L) →
              hat (hpS S (B.at T n) (R.map (toR P)) 0) b = hat (B.at rj.T rj.n) b := by
            intro S b hS h1 h2
            have e := hpS_take (B.at T n) (R.map (toR P)) 0 j (Nat.zero_le _)
            rw [Nat.sub_zero] at e
            rw [← ra.hp b, ← e]
            refine hpS_same (R.map (toR P)) _ _ 0 rfl fun i r' hr' => ?_
            obtain ⟨ri, hri, rfl⟩ := prev i r' hr'
            rw [Nat.zero_add, tcR]
            by_cases hij : i < j
            · cases hs : S i with
              | true => left; simp [hij]
              | false => exact .inr (h1 i ri hri hij hs)
            · by_cases he : i = j
              · subst he; left; rw [hS]; simp
              · cases hs : S i with
                | false => left; simp [hij]
                | true => exact .inr (h2 i ri hri (by omega) hs)
          have unb : ∀ (S : Nat → Bool), (∀ i A, ms[i]? = some A → j < i → S i = true → A.testBit j = false) → ∀ {i : Nat} {ri : XRec}, R[i]? = some ri → j < i → S i = true → (ancOf (ms.take i) (predsOf ri.o)).testBit j = false := fun S hlat i ri hri hji hs => hlat i _ (anc hri) hji hs
          have una : ∀ (S : Nat → Bool), (∀ i, (ancOf (ms.take j) (predsOf (toR P rj).o)).testBit i = true → S i = true) → ∀ {i : Nat}, S i = false → (ancOf (ms.take j) (predsOf rj.o)).testBit i = false := fun S hanc i hs => by
            cases hb : (ancOf (ms.take j) (predsOf rj.o)).testBit i with
            | false => rfl
            | true => have := hanc i hb; rw [hs] at this; cases this
          by_cases hr : ∃ l, clsOf P rj.o.op = .r l
          · obtain ⟨l, hl⟩ := hr
            have hLj : rj.L = [] := by have := y2.turns; rw [hl] at this; exact this
            refine ⟨rj.n, fun S hS hanc hlat => ⟨?_, fun d hd => ?_⟩⟩
            · intro m1 a1 w1 hfr hsim hvr
              refine y2.step (hpS S (B.at T n) (R.map (toR P)) 0) ?_ m1 _ a1 w1 (.refl _) hfr hsim hvr
              rw [hl]
              intro x hx b hb bk md hg
              obtain ⟨hb6, he⟩ := abs_live hg
              have hbn : b < rj.n := by
                apply Classical.byContradiction
                intro q
                rw [hTok.top b hb6 (by omega)] at he
                cases he
              by_cases hA : ∃ i ri, j < i ∧ R[i]? = some ri ∧ S i = true ∧ b ∈ ri.L
              · obtain ⟨i0, ri0, g1, g2, g3, g4⟩ := hA
                have g5 : (R.map (toR P))[i0]? = some (toR P ri0) := by rw [List.getElem?_map, g2]; rfl
                rcases hpS_last S b (R.map (toR P)) (B.at T n) 0 with ⟨h1, h2⟩ | ⟨i, r', C', h1, h2, h3, h4, h5⟩
                · exact absurd (by rw [tcR]; exact g4) (h2 i0 _ g5 (by rw [Nat.zero_add]; exact g3))
                · obtain ⟨ri, hri, rfl⟩ := prev i r' h1
                  have hbi : b ∈ ri.L := by rwa [tcR] at h3
                  rw [Nat.zero_add] at h2
                  have hji : j < i := by
                    apply Classical.byContradiction
                    intro q
                    exact h4 i0 _ (by omega) g5 (by rw [Nat.zero_add]; exact g3) (by rw [tcR]; exact g4)
                  have hrani := Lran hri hbi
                  have hbit := unb S hlat hri hji h2
                  have Ri := ((RA hri).ran hrani).2
                  have ti := Ri.turns
                  have hle : rj.n ≤ ri.n := Nat.le_trans ra.did1.le (later hji hq hri).le
                  have fin : pairK (clsOf P rj.o.op) (clsOf P ri.o.op) = 1 → clsOf P ri.o.op ≠ .p → ∃ bk' md', hget (hpS S (B.at T n) (R.map (toR P)) 0) b = some (bk', md') ∧ bk'.num = bk.num ∧ bk'.str = bk.str ∧
                      match x.2, ev rj.tm x.1 with
                      | .cell, .ptr _ i fo => i < bk.num → fo < bk.str → bk'.ld i fo = bk.ld i fo
                      | .agg w, .ptr _ i fo => i < bk.num → fo < bk.str → ldn bk' i fo w = ldn bk i fo w
                      | .shape, _ => md' = md
                      | _, _ => True := by
                    intro hpk hcp
                    have hsn := (wat0 hji hq hri hbit 1 hpk (by rw [hl]; simp) hcp).2.1 rfl
                    obtain ⟨k1, k2⟩ := hseen j i rj ri hji hq hri hrani x (by rw [hl]; exact hx) hran hsn
                    obtain ⟨bk', md', hg'⟩ := k1 b hb
                    obtain ⟨_, he'⟩ := abs_live hg'
                    have hd : Did rj.T rj.n ri.T' ri.n' := (ra.did1.trans (later hji hq hri)).trans (RA hri).did1
                    obtain ⟨s1, s2⟩ := hd.shape hTok b hb6 bk md bk' md' he he'
                    have hm : md' = md := by
                      rcases hd.md b hb6 md' (md_of_live he') with z | ⟨z, _⟩
                      · have := md_of_live he
                        rw [z] at this; cases this; rfl
                      · omega
                    have hold := rd_same (y2.rd l hl x hx) k2 hb hg hg' s1 s2
                    refine ⟨bk', md', ?_, s1, s2, ?_⟩
                    rotate_left
                    · revert hold
                      cases x.2 with
                      | shape => intro _; exact hm
                      | cell => cases ev rj.tm x.1 <;> exact fun h => h
                      | agg w => cases ev rj.tm x.1 <;> exact fun h => h
                    refine hget_live ?_
                    rw [h5]
                    show hat (hput C' (dL ri.L ri.T')) b = _
                    rw [hat_dL, if_pos hbi, he']
                  cases hci : clsOf P ri.o.op with
                  | p => rw [hci] at ti; rw [show ri.L = [] from ti] at hbi; cases hbi
                  | r l' => rw [hci] at ti; rw [show ri.L = [] from ti] at hbi; cases hbi
                  | a => rw [hci] at ti; have := (ti b hbi).2; omega
                  | w y => exact fin (by rw [hl, hci]; rfl) (by rw [hci]; simp)
                  | x => exact fin (by rw [hl, hci]; rfl) (by rw [hci]; simp)
              · by_cases hsh : x.2 = .shape
                · have hk := (hvr x.1 (rd_operand hl hx)).kn hb
                  suffices hs : ∃ bk' md', hget (hpS S (B.at T n) (R.map (toR P)) 0) b = some (bk', md') ∧ bk'.num = bk.num ∧ bk'.str = bk.str ∧ md' = md by
                    obtain ⟨bk', md', z1, z2, z3, z4⟩ := hs
                    refine ⟨bk', md', z1, z2, z3, ?_⟩
                    rw [hsh]
                    exact z4
                  rcases hpS_last S b (R.map (toR P)) (B.at T n) 0 with ⟨h1, h2⟩ | ⟨i, r', C', h1, h2, h3, h4, h5⟩
                  · rcases ra.did0.md b hb6 md (md_of_live he) with z | ⟨z, _⟩
                    · obtain ⟨bk0, he0⟩ := HE.md_live z
                      have hg0 : hget (absH T) b = some (bk0, md) := by rw [hget_abs T hb6, he0]; rfl
                      obtain ⟨s1, s2⟩ := ra.did0.shape hT b hb6 bk0 md bk md he0 he
                      refine ⟨bk0, md, ?_, s1.symm, s2.symm, rfl⟩
                      rw [hget_of_hat h1]
                      exact Bs.sub hB hd0 b _ hg0
                    · have := Bs.frsh hB hd0 (Nat.le_trans (Nat.le_trans ra.did1.le (toE hq).le) hle0) hb6 z hbn
                      have h6 := hkn_of_hat h1
                      rw [this] at h6
                      rw [h6] at hk; cases hk
                  · obtain ⟨ri, hri, rfl⟩ := prev i r' h1
                    have hbi : b ∈ ri.L := by rwa [tcR] at h3
                    rw [Nat.zero_add] at h2
                    have hij : i < j := by
                      apply Classical.byContradiction
                      intro q
                      by_cases hh : i = j
                      · subst hh; rw [hS] at h2; cases h2
                      · exact hA ⟨i, ri, by omega, hri, h2, hbi⟩
                    have Ri := ((RA hri).ran (Lran hri hbi)).2
                    have hd := later hij hri hq
                    rcases hd.md b hb6 md (md_of_live he) with z | ⟨z, _⟩
                    · obtain ⟨bk0, he0⟩ := HE.md_live z
                      obtain ⟨s1, s2⟩ := hd.shape ((RA hri).did1.ok (hTj hri)) b hb6 bk0 md bk md he0 he
                      refine ⟨bk0, md, hget_live ?_, s1.symm, s2.symm, rfl⟩
                      rw [h5]
                      show hat (hput C' (dL ri.L ri.T')) b = _
                      rw [hat_dL, if_pos hbi, he0]
                    · have := Ri.top b hbi
                      omega
                · have hns : allShape l = false := by
                    cases hq' : allShape l with
                    | false => rfl
                    | true =>
                      have := List.all_eq_true.1 hq' x hx
                      cases hx2 : x.2 with
                      | shape => exact absurd hx2 hsh
                      | cell => rw [hx2] at this; cases this
                      | agg w => rw [hx2] at this; cases this
                  have h1 := same S b hS (fun i ri hri hij hs hbi => by
                    have hbit := una S hanc hs
                    have hrani := Lran hri hbi
                    have ti := (((RA hri).ran hrani).2).turns
                    have hpl : x.1 ∈ placeOf (clsOf P rj.o.op) := by rw [hl]; exact List.mem_map_of_mem hx
                    have wt : pairK (clsOf P ri.o.op) (clsOf P rj.o.op) = 2 → clsOf P ri.o.op ≠ .p → False := fun hpk hcp => by
                      have hw := (wat0 hij hri hq hbit 2 hpk hcp (by rw [hl]; simp)).2.2.1 rfl
                      obtain ⟨z1, z2⟩ := (hrow j rj hq hran).1 hw x.1 hpl b hb
                      exact oldT0 hij hri hq hrani z1 z2 hbi
                    cases hci : clsOf P ri.o.op with
                    | p => rw [hci] at ti; rw [show ri.L = [] from ti] at hbi; cases hbi
                    | r l' => rw [hci] at ti; rw [show ri.L = [] from ti] at hbi; cases hbi
                    | a => exact newc0 hij hri hq hbit hrani hran hpl hb hci (by rw [hl, hci]; rfl) (by rw [hl]; simp) hbi
                    | w y => exact wt (by rw [hl, hci]; show cond (allShape l) 0 2 = 2; rw [hns]; rfl) (by rw [hci]; simp)
                    | x => exact wt (by rw [hl, hci]; show cond (allShape l) 0 2 = 2; rw [hns]; rfl) (by rw [hci]; simp)) (fun i ri hri hji hs hbi => hA ⟨i, ri, hji, hri, hs, hbi⟩)
                  refine ⟨bk, md, ?_, rfl, rfl, by split <;> first | (intro _ _; rfl) | trivial⟩
                  rw [hget_of_hat h1]
                  exact Bs.sub hB (hd0.trans ra.did0) b _ hg
            · have : d ∈ dL rj.L rj.T' := hd
              rw [hLj] at this
              cases this
          · classical
            let K : Heap := (List.range 65536).map fun b => if b ∈ fpX P rj then (QT.get 8 b rj.T).ent else .hole
            have hK : ∀ b, hget K b = if b ∈ fpX P rj then hget (absH rj.T) b else none := by
              intro b
              have e1 : hat K b = if b < 65536 then (if b ∈ fpX P rj then (QT.get 8 b rj.T).ent else .hole) else .hole := by
                rw [hat_eq]
                by_cases hb : b < 65536
                · rw [if_pos hb]; simp [K, hb]
                · rw [if_neg hb, List.getElem?_eq_none (by simp [K]; omega)]; rfl
              unfold hget
              rw [e1, hat_abs]
              by_cases hb : b < 65536
              · rw [if_pos hb, if_pos hb]
                by_cases hf : b ∈ fpX P rj
                · rw [if_pos hf, if_pos hf]
                · rw [if_neg hf, if_neg hf]
              · rw [if_neg hb, if_neg hb]
                by_cases hf : b ∈ fpX P rj
                · rw [if_pos hf]
                · rw [if_neg hf]
            have hfull : ∀ b, seesC rj.hid (ev rj.tm) (clsOf P rj.o.op) b → hget K b = hget (absH rj.T) b := by
              intro b hb
              rw [hK]
              by_cases hf : b ∈ fpX P rj
              · rw [if_pos hf]
              · rw [if_neg hf]
                by_cases hb6 : b < 65536
                · have hnb : rj.n ≤ b := by
                    apply Classical.byContradiction
                    intro hlt
                    exact hf (mem_fpX.2 ⟨hran, by omega, hb⟩)
                  unfold hget
                  rw [hat_abs, if_pos hb6, hTok.top b hb6 hnb]; rfl
                · unfold hget
                  rw [hat_abs, if_neg hb6]
            have hst : Step P rj.o (ev rj.tm) K rj.n rj.v (dL rj.L rj.T') := by
              refine y2.step K ?_
              cases hc : clsOf P rj.o.op with
              | p => trivial
              | a => trivial
              | r l => exact absurd ⟨l, hc⟩ hr
              | w x => exact fun b hb => hfull b (by rw [hc]; exact hb)
              | x => exact ⟨fun b hbh => hfull b (by rw [hc]; exact hbh), fun b hbh => by rw [hK, if_neg (fun q => by have := (mem_fpX.1 q).2.2; rw [hc] at this; exact this hbh)]⟩
            refine ⟨rj.n, fun S hS hanc hlat => ⟨?_, fun d hd hle => ?_⟩⟩
            · intro m1 a1 w1 hfr hsim hvr
              refine hst m1 _ a1 w1 (fun b x hb => ?_) hfr hsim hvr
              rw [hK] at hb
              by_cases hf : b ∈ fpX P rj
              · rw [if_pos hf] at hb
                have h1 := same S b hS (fun i ri hri hij hs hbi => (pair hij hri hq (una S hanc hs) (Lran hri hbi) hran).2 b hf hbi) (fun i ri hri hji hs hbi => ((pair hji hq hri (unb S hlat hri hji hs) hran (Lran hri hbi)).1 b hbi).1 hf)
                rw [hget_of_hat h1]
                exact Bs.sub hB (hd0.trans ra.did0) b x hb
              · rw [if_neg hf] at hb; cases hb
            · have hdL : d.1 ∈ rj.L := by
                have : d.1 ∈ (toR P rj).tc := List.mem_map_of_mem hd
                rwa [tcR] at this
              rcases hpS_last S d.1 (R.map (toR P)) (B.at T n) 0 with ⟨h1, h2⟩ | ⟨i, r', C', h1, h2, h3, h4, h5⟩
              · rw [hkn_of_hat h1]
                exact Bs.frsh hB hd0 (Nat.le_trans (toE hq).le hle0) (y2.lt _ hdL) (Nat.le_trans ra.did0.le hle) (y2.top _ hdL)
              · obtain ⟨ri, hri, rfl⟩ := prev i r' h1
                have hbi : d.1 ∈ ri.L := by rwa [tcR] at h3
                rw [Nat.zero_add] at h2
                by_cases hij : i < j
                · have := (((RA hri).ran (Lran hri hbi)).2).top _ hbi
                  have := (later hij hri hq).le
                  omega
                · by_cases hh : i = j
                  · subst hh; rw [hS] at h2; cases h2
                  · exact absurd hdL ((pair (by omega) hq hri (unb S hlat hri (by omega) h2) hran (Lran hri hbi)).1 _ hbi).2
  obtain ⟨tmj, Tj, nj, e1, e2, e3, e4⟩ := h.split hB (B.at T n) hd0 hle0 (fun _ => rfl) R.length (Nat.le_refl _)
  have hnil : ops.toList.drop R.length = [] := by rw [h.len]; exact List.drop_length
  obtain ⟨rfl, hfin⟩ := e4.over hB hnil (hd0.trans e3) hle0
  have e2 : ∀ b, hat (hpS (fun _ => true) (B.at T n) ((R.map (toR P)).take R.length) 0) b = hat (B.at TE nE) b := fun b => (e2 b).trans (hfin b)
  have htake : (R.map (toR P)).take R.length = R.map (toR P) := List.take_of_length_le (by simp)
  rw [htake] at e1 e2
  refine ordersC (m0 := m) (a0 := a) (w0 := w) (T0 := tm) (C0 := B.at T n) (R := R.map (toR P)) (ms := ms) (by simpa using hlen) (by rw [List.length_map, ml, hlen]; simp) facts (fun m' a' w' ht => hQ m' a' w' ?_) ops.size (Array.replicate ops.size false) m a (drewW w) (by simp) (by omega) (fun j A _ hl => ?_) ?_
  · rw [← e1] at ht
    refine ⟨⟨ht.at_.sim.congr e2, ht.at_.tr.mono fun _ _ hx => hx.mono (Le.congr e2)⟩, ht.tr.congr e2, ht.defers⟩
  · simp [Array.getD] at hl
  · have hz : ∀ i, (Array.replicate ops.size false).getD i false = false := by
      intro i
      simp [Array.getD]
    have hf : (fun i => (Array.replicate ops.size false).getD i false) = fun _ => false := funext hz
    rw [hf]
    have e1 : ∀ (rs : List Rec) (C : Heap) (i : Nat), hpS (fun _ => false) C rs i = C := by
      intro rs
      induction rs with
      | nil => intro C i; rfl
      | cons r rs ih => intro C i; simp [hpS, ih]
    have e2 : ∀ (rs : List Rec) (C : List AV) (i : Nat), tmS (fun _ => false) C rs i = C := by
      intro rs
      induction rs with
      | nil => intro C i; rfl
      | cons r rs ih => intro C i; simp [tmS, ih]
    rw [e1, e2]
    exact ⟨⟨hA.sim.drew, hA.tr⟩, Tr.drew _ _ _, rfl⟩
end
end Go.Ab
