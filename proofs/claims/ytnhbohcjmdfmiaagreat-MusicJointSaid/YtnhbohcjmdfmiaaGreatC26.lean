/- Concrete runs: calls with slices of whole numbers, kept for later runs. No condition. -/
import Derived.Test.YtnhbohcjmdfmiaaGreatC25
set_option linter.unusedVariables false
set_option linter.unusedSimpArgs false
namespace Go.Ab
open Go Go.RowKit
noncomputable section

/-- what a slice holds -/
structure SlJs (k : IntKind) (w : World) (a : Option Addr) (len cap : Nat) (zs : List Int) : Prop where
  hle : len ≤ cap
  hat_ : 0 < cap → ∃ b o, a = some ⟨b, o, none⟩ ∧ ∃ c e fr, w.heap[b]? = some (.cells c e fr) ∧ o + cap ≤ c.size ∧ ∀ i, i < len → c[o + i]? = some (.int k (zs.getD i 0))
theorem ro2_sim {w : World} {A : Nat → Option Addr} {C : Nat → Nat} {l : List (IntKind × List Int)} (h : ∀ i k z, l[i]? = some (k, z) → SlJs k w (A i) z.length (C i) z) : Sim (roM A l) (roH l) w where
  blk b bk md hg := by
    obtain ⟨k, z, h1, rfl, rfl⟩ := roH_at l b bk md hg
    have s := h b k z h1
    have hz : (l.getD b (.i64, [])).2 = z := by simp [List.getD_eq_getElem?_getD, h1]
    by_cases hz0 : z.length = 0
    · have : (roM A l b).2.2 = 0 := by unfold roM; rw [hz]; split <;> simp [hz0]
      exact ⟨trivial, by simp [Blk.num, hz0], fun _ => by rw [this]; simp [Blk.num, hz0], fun hp => by omega⟩
    · have hle := s.hle
      obtain ⟨bb, o, ha, c, e, fr, g1, g2, g3⟩ := s.hat_ (by omega)
      have hm : roM A l b = (bb, o, z.length) := by unfold roM; rw [ha, hz]
      rw [hm]
      refine ⟨trivial, by simp [Blk.num, Blk.str], fun _ => by simp [Blk.num, Blk.str], fun _ => ⟨c, e, fr, g1, by simp only; omega, fun h => absurd rfl h, fun j x y v hv => ?_, fun i fo hi hf => ?_⟩⟩
      · simp only at x y
        have := g3 (j - o) (by omega)
        rw [show o + (j - o) = j by omega, hv] at this
        cases this
        rfl
      · simp only [Blk.num] at hi
        simp only [Blk.str] at hf
        obtain rfl : fo = 0 := by omega
        exact ⟨_, _, rfl, by simpa [Blk.str] using g3 i hi, .int _ _⟩
  dis b b' bk md bk' md' hg hg' _ hm := by
    obtain ⟨_, _, _, _, r1⟩ := roH_at l b bk md hg
    obtain ⟨_, _, _, _, r2⟩ := roH_at l b' bk' md' hg'
    rcases hm with q | q
    · exact absurd r1 q
    · exact absurd r2 q

theorem ro2_vr {w : World} {A : Nat → Option Addr} {C : Nat → Nat} {l : List (IntKind × List Int)} (h : ∀ i k z, l[i]? = some (k, z) → SlJs k w (A i) z.length (C i) z) {i : Nat} {k : IntKind} {z : List Int} (hi : l[i]? = some (k, z)) : VR (roM A l) (roH l) (.whole i) (.slice (A i) z.length (C i)) := by
  have hlt : i < l.length := (List.getElem?_eq_some_iff.1 hi).1
  refine .whole i (A i) z.length (C i) (roH_kn l i hlt) fun bk md hg => ?_
  obtain ⟨k', z', h1, rfl, rfl⟩ := roH_at l i bk md hg
  rw [hi] at h1
  cases h1
  have s := h i k z hi
  refine ⟨rfl, s.hle, fun hmd => (by cases hmd), fun hc => ?_⟩
  obtain ⟨bb, o, ha, _⟩ := s.hat_ hc
  rw [ha]
  unfold roM
  rw [ha]
  simp


/-! what is kept of a call: its arguments, what it answers -/
inductive MA where | i (v : AV) | s (k : IntKind) (num a : Nat)
inductive MR where | sc (v : AV) | bl (k : IntKind) (num a : Nat) (rest : Option (List AV))
def MA.lst : MA → IntKind × List Int | .i _ => (.i64, []) | .s k num a => (k, (List.range num).map fun i => dDec (dGet a i))
def MA.he : MA → HE | .i _ => .ints .i64 0 0 .ro 0 | .s k num a => .ints k num a .ro 0
def MA.cv (j : Nat) : MA → CV | .i v => toC v | .s _ _ _ => .whole j
def MR.av (q : Nat) : MR → AV
  | .sc v => v
  | .bl _ _ _ none => .whole q
  | .bl _ _ _ (some l) => .tuple (.whole q :: l)
def memA (l : List MA) (j : Nat) : List CV := List.rec (motive := fun _ => Nat → List CV) (fun _ => []) (fun x _ ih j => natK j fun j => x.cv j :: ih (Nat.succ j)) l j
def memT (l : List MA) (j : Nat) (T : HT) : HT := List.rec (motive := fun _ => Nat → HT → HT) (fun _ T => T) (fun x _ ih j T => natK j fun j => ih (Nat.succ j) (runS (setC 8 j) x.he T)) l j T
theorem memA_cons (x : MA) (l : List MA) (j : Nat) : memA (x :: l) j = x.cv j :: memA l (j + 1) := by
  have e : memA (x :: l) j = natK j (fun j => x.cv j :: memA l (Nat.succ j)) := rfl
  rw [e, natK_eq]
theorem memT_cons (x : MA) (l : List MA) (j : Nat) (T : HT) : memT (x :: l) j T = memT l (j + 1) (runS (setC 8 j) x.he T) := by
  have e : memT (x :: l) j T = natK j (fun j => memT l (Nat.succ j) (runS (setC 8 j) x.he T)) := rfl
  rw [e, natK_eq]
theorem memA_at : ∀ (l : List MA) (j i : Nat), (memA l j)[i]? = (l[i]?).map (fun x => x.cv (j + i))
  | [], _, _ => by simp [memA]
  | x :: l, j, i => by
    have e1 := memA_cons x l j
    rw [e1]
    cases i with
    | zero => rfl
    | succ i => simp only [List.getElem?_cons_succ]; rw [memA_at l (j + 1) i, show j + 1 + i = j + (i + 1) by omega]
theorem memA_len (l : List MA) (j : Nat) : (memA l j).length = l.length := by
  induction l generalizing j with
  | nil => rfl
  | cons x l ih =>
    have e1 := memA_cons x l j
    rw [e1, List.length_cons, List.length_cons, ih]
theorem memT_get : ∀ (l : List MA) (j : Nat) (T : HT) (b : Nat), j + l.length ≤ 65536 → b < 65536 → QT.get 8 b (memT l j T) = if j ≤ b ∧ b < j + l.length then ((l[b - j]?).map MA.he).getD .hole else QT.get 8 b T
  | [], j, T, b, _, _ => by rw [if_neg (by simp only [List.length_nil]; omega)]; rfl
  | x :: l, j, T, b, hj, hb => by
    simp only [List.length_cons] at hj ⊢
    have e1 := memT_cons x l j T
    rw [e1, memT_get l (j + 1) _ b (by omega) hb, get_set8 T j b _ (by omega) hb]
    by_cases h1 : j + 1 ≤ b ∧ b < j + 1 + l.length
    · rw [if_pos h1, if_pos (by omega), show b - j = (b - (j + 1)) + 1 by omega]; rfl
    · rw [if_neg h1]
      by_cases h2 : b = j
      · subst h2; rw [if_pos rfl, if_pos (by omega)]; simp
      · rw [if_neg h2, if_neg (by omega)]
theorem memT_ok (l : List MA) (hl : l.length ≤ 65536) : TOk (memT l 0 noH) l.length := by
  have hn : ∀ b, QT.get 8 b noH = .hole := fun b => QT.get_fill _ _ _
  refine ⟨fun b hb h => ?_, fun b hb w num d c md s he => ?_⟩
  · rw [memT_get l 0 noH b (by omega) hb, if_neg (by omega), hn]
  · rw [memT_get l 0 noH b (by omega) hb] at he
    split at he
    · cases hx : l[b - 0]? with
      | none => rw [hx] at he; cases he
      | some x => rw [hx] at he; cases x <;> cases he
    · rw [hn] at he; cases he
theorem memT_sub (l : List MA) (hl : l.length ≤ 65536) : SubH (absH (memT l 0 noH)) (roH (l.map MA.lst)) := by
  intro b x hx
  have hb := hget_abs_lt hx
  have key : ∀ (l : List (IntKind × List Int)) (b : Nat), hat (roH l) b = match l[b]? with | some p => .live (.ints p.1 p.2) .ro | none => .hole := by
    intro l
    induction l with
    | nil => intro b; rfl
    | cons x xs ih => intro b; cases b with
      | zero => rfl
      | succ b => simpa [roH, hat] using ih b
  rw [hget_abs _ hb, memT_get l 0 noH b (by omega) hb] at hx
  split at hx
  · unfold hget
    rw [key, List.getElem?_map]
    cases hq : l[b]? with
    | none => rw [Nat.sub_zero, hq] at hx; cases hx
    | some y =>
      rw [Nat.sub_zero, hq] at hx
      cases y with
      | i v => exact hx
      | s k num a => exact hx
  · have : QT.get 8 b noH = .hole := QT.get_fill _ _ _
    rw [this] at hx; cases hx
theorem roH_out (l : List (IntKind × List Int)) (b : Nat) (h : l.length ≤ b) : hkn (roH l) b = false := by
  induction l generalizing b with
  | nil => cases b <;> rfl
  | cons x xs ih => cases b with
    | zero => simp at h
    | succ b => exact ih b (by simpa using h)

mutual
def eqSc : AV → AV → Bool
  | .bool a, .bool b => a == b
  | .int k a, .int k' b => Nat.beq (kix k) (kix k') && eqI a b
  | .nilSlice, .nilSlice => true
  | .tuple l, .tuple l' => eqScs l l'
  | _, _ => false
def eqScs : List AV → List AV → Bool
  | [], [] => true
  | x :: xs, y :: ys => eqSc x y && eqScs xs ys
  | _, _ => false
end
mutual
theorem eqSc_spec : ∀ {a b : AV}, eqSc a b = true → a = b ∧ scal b = true := by
  intro a b h
  match a, b, h with
  | .bool a, .bool b, h =>
    simp only [eqSc, beq_iff_eq] at h
    subst h; exact ⟨rfl, by simp [scal]⟩
  | .int k a, .int k' b, h =>
    simp only [eqSc, Bool.and_eq_true] at h
    obtain ⟨h1, h2⟩ := h
    obtain rfl := kix_inj h1
    rw [eqI_eq] at h2
    have := of_decide_eq_true h2
    subst this
    exact ⟨rfl, by simp [scal]⟩
  | .nilSlice, .nilSlice, _ => exact ⟨rfl, by simp [scal]⟩
  | .tuple l, .tuple l', h =>
    have h' : eqScs l l' = true := by simpa [eqSc] using h
    obtain ⟨h1, h2⟩ := eqScs_spec h'
    exact ⟨by rw [h1], by simpa [scal] using h2⟩
theorem eqScs_spec : ∀ {a b : List AV}, eqScs a b = true → a = b ∧ scals b = true := by
  intro a b h
  match a, b, h with
  | [], [], _ => exact ⟨rfl, by simp [scals]⟩
  | x :: xs, y :: ys, h =>
    simp only [eqScs, Bool.and_eq_true] at h
    obtain ⟨h1, h2⟩ := eqSc_spec h.1
    obtain ⟨h3, h4⟩ := eqScs_spec h.2
    exact ⟨by rw [h1, h3], by simp [scals, h2, h4]⟩
end
/-- a new block, and what names it -/
def isBl (T : HT) (n : Nat) (k : IntKind) (num a q : Nat) : Bool := Bool.rec false (Bool.rec false (HE.rec false false (fun _ _ _ _ _ _ => false) (fun k' num' a' md _ => Bool.rec false (Bool.rec false (Bool.rec false (Md.rec false false true md) (Nat.beq a a')) (Nat.beq num num')) (Nat.beq (kix k) (kix k'))) (QT.get 8 q T)) (Nat.ble n q)) (Nat.ble q 65535)
def isMR (T : HT) (n : Nat) (r : MR) (v : AV) : Bool := match r with
  | .sc u => eqSc v u
  | .bl k num a none => (match v with | .whole q => isBl T n k num a q | _ => false)
  | .bl k num a (some l) => (match v with | .tuple (.whole q :: l') => isBl T n k num a q && eqScs l' l | _ => false)
def sMA : List MA → Bool
  | [] => true
  | .i v :: l => scal v && sMA l
  | .s _ _ _ :: l => sMA l
def memoOk (c : CallI) (f : FuncId) (l : List MA) (r : MR) : Bool := Nat.ble l.length 65535 && (sMA l && Res.rec false (fun v T' _ => isMR T' l.length r v.av) (c f (memA l 0) (memT l 0 noH) l.length))
theorem isBl_spec {T : HT} {n : Nat} {k : IntKind} {num a q : Nat} (h : isBl T n k num a q = true) : q < 65536 ∧ n ≤ q ∧ ∃ s, QT.get 8 q T = .ints k num a .own s := by
  unfold isBl at h
  cases h1 : Nat.ble q 65535 with
  | false => rw [h1] at h; cases h
  | true =>
    rw [h1] at h
    cases h2 : Nat.ble n q with
    | false => rw [h2] at h; cases h
    | true =>
      rw [h2] at h
      have q1 := Nat.le_of_ble_eq_true h1
      refine ⟨by omega, Nat.le_of_ble_eq_true h2, ?_⟩
      cases hq : QT.get 8 q T with
      | hole => rw [hq] at h; cases h
      | dead => rw [hq] at h; cases h
      | cells => rw [hq] at h; cases h
      | ints k' num' a' md s =>
        rw [hq] at h
        simp only at h
        cases h3 : Nat.beq (kix k) (kix k') with
        | false => rw [h3] at h; cases h
        | true =>
          rw [h3] at h
          cases h4 : Nat.beq num num' with
          | false => rw [h4] at h; cases h
          | true =>
            rw [h4] at h
            cases h5 : Nat.beq a a' with
            | false => rw [h5] at h; cases h
            | true =>
              rw [h5] at h
              cases md with
              | ro => cases h
              | rw => cases h
              | own =>
                obtain rfl := kix_inj h3
                obtain rfl := Nat.eq_of_beq_eq_true h4
                obtain rfl := Nat.eq_of_beq_eq_true h5
                exact ⟨s, rfl⟩
theorem old_same {m' : Map} {H' : Heap} {w w' : World} {m0 : Map} {l : List (IntKind × List Int)} (ht : Tr m0 (roH l) w m' H' w') : ∀ b, b < w.heap.size → w'.heap[b]? = w.heap[b]? := fun b hb => by
  rcases ht.frame b hb with h3 | ⟨c, c', e, fr, f1, f2, f3, f4⟩
  · exact h3
  · have : c' = c := Array.ext f3 fun i h1 h2 => by
      have := f4 i (fun ⟨b', bk, md, g1, g2, _⟩ => by obtain ⟨_, _, _, _, r⟩ := roH_at l b' bk md g1; exact g2 r)
      simp [h1, h2] at this
      exact this
    rw [f1, f2, this]
/-- what the answer of a kept call is, in the heap that it leaves -/
def MRAt (D : Delta) (l : List MA) (r : MR) (v : AV) : Prop := match r with
  | .sc u => v = u ∧ scal u = true
  | .bl k num a rest => ∃ q0, l.length ≤ q0 ∧ v = (MR.bl k num a rest).av q0 ∧ hat (hput (roH (l.map MA.lst)) D) q0 = .live (intsBlk k num a) .own ∧ ∀ lr, rest = some lr → scals lr = true
/-- a call that may be kept: its arguments, its answer -/
def MemoAt (P : Program) (f : FuncId) (l : List MA) (r : MR) : Prop := l.length ≤ 65535 ∧ sMA l = true ∧ ∃ v D, CallStep P f ((memA l 0).map CV.av) (roH (l.map MA.lst)) l.length v D ∧ MRAt D l r v
theorem CallStep.sub {P : Program} {f : FuncId} {args : List AV} {K K' : Heap} {q : Nat} {v : AV} {D : Delta} (h : CallStep P f args K q v D) (hs : SubH K K') : CallStep P f args K' q v D :=
  ⟨h.1, fun m H w args' g1 g2 g3 g4 g5 => h.2 m H w args' (fun b x hx => g1 b x (hs b x hx)) g2 g3 g4 g5⟩
theorem memoAt_of {P : Program} {c : CallI} (hc : CallsOk P c) {f : FuncId} {l : List MA} {r : MR} (h : memoOk c f l r = true) : MemoAt P f l r := by
  unfold memoOk at h
  rw [Bool.and_eq_true, Bool.and_eq_true] at h
  obtain ⟨h1, h2, h3⟩ := h
  have hl : l.length ≤ 65535 := Nat.le_of_ble_eq_true h1
  cases hr : c f (memA l 0) (memT l 0 noH) l.length with
  | bad => rw [hr] at h3; cases h3
  | ok v T' n' =>
    rw [hr] at h3
    simp only at h3
    have hT0 := memT_ok l (by omega)
    obtain ⟨hd, hcall⟩ := hc _ _ _ _ _ _ _ hr hT0
    refine ⟨hl, h2, v.av, _, hcall.sub (memT_sub l (by omega)), ?_⟩
    · have block : ∀ (k : IntKind) (num a q0 : Nat), isBl T' l.length k num a q0 = true → l.length ≤ q0 ∧ hat (hput (roH (l.map MA.lst)) (dL (Lof (memT l 0 noH) l.length T' n') T')) q0 = .live (intsBlk k num a) .own := by
        intro k num a q0 hb
        obtain ⟨b1, b2, s, b3⟩ := isBl_spec hb
        have hq0 : q0 < n' := by
          apply Classical.byContradiction
          intro hge
          rw [(hd.ok hT0).top q0 b1 (by omega)] at b3; cases b3
        refine ⟨b2, ?_⟩
        rw [hat_dL, if_pos (mem_Lof.2 ⟨b1, hq0, .inl b2⟩), b3]; rfl
      cases r with
      | sc u => exact eqSc_spec h3
      | bl k num a rest =>
        cases rest with
        | none =>
          have h3' : (match v.av with | .whole q => isBl T' l.length k num a q | _ => false) = true := h3
          split at h3'
          · rename_i q0 hv0
            obtain ⟨z1, z2⟩ := block k num a q0 h3'
            exact ⟨q0, z1, hv0, z2, fun lr h => by cases h⟩
          · cases h3'
        | some lr =>
          have h3' : (match v.av with | .tuple (.whole q :: l') => isBl T' l.length k num a q && eqScs l' lr | _ => false) = true := h3
          split at h3'
          · rename_i q0 l' hv0
            rw [Bool.and_eq_true] at h3'
            obtain ⟨z1, z2⟩ := block k num a q0 h3'.1
            obtain ⟨y1, y2⟩ := eqScs_spec h3'.2
            subst y1
            exact ⟨q0, z1, hv0, z2, fun lr h => by cases h; exact y2⟩
          · cases h3'
/-- what a kept call tells of a call with the same -/
theorem memo_calls {P : Program} {f : FuncId} {l : List MA} {r : MR} (h : MemoAt P f l r) {m : Map} {H : Heap} {w : World} (hsim : Sim m H w) {q : Nat} (hq : hkn H q = false) {args' : Array Value} (hlen : args'.size = l.length) {A : Nat → Option Addr} {C : Nat → Nat}
    (hsl : ∀ i k z, (l.map MA.lst)[i]? = some (k, z) → SlJs k w (A i) z.length (C i) z)
    (hargs : ∀ (i : Nat) (x : MA) (v : Value), l[i]? = some x → args'[i]? = some v → match x with | .i u => ∃ m1 H1, VR m1 H1 u v | .s _ num _ => v = .slice (A i) num (C i)) :
    Calls P f args' w fun e w' => ∃ v' m', e = .returned v' ∧ match r with
      | .sc u => m' = m ∧ Sim m H w' ∧ VR m H u v' ∧ Tr m H w m H w'
      | .bl k num a rest => Sim m' (hfill H q (.live (intsBlk k num a) .own)) w' ∧ VR m' (hfill H q (.live (intsBlk k num a) .own)) ((MR.bl k num a rest).av q) v' ∧ Tr m H w m' (hfill H q (.live (intsBlk k num a) .own)) w' := by
  obtain ⟨hl, h2, v, D, ⟨_, hcall⟩, h3⟩ := h
  · skip
    have hsim0 := ro2_sim hsl
    have hlen' : (l.map MA.lst).length = l.length := by simp
    have hsubs : ∀ (i : Nat) (x : MA), l[i]? = some x → sMA l = true → ∀ u : AV, x = MA.i u → scal u = true := by
      have : ∀ (l : List MA) (i : Nat) (x : MA), l[i]? = some x → sMA l = true → ∀ u : AV, x = MA.i u → scal u = true := by
        intro l
        induction l with
        | nil => intro i x hx; simp at hx
        | cons y ys ih =>
          intro i x hx hs u hu
          cases y with
          | i w0 =>
            have hs' : (scal w0 && sMA ys) = true := hs
            rw [Bool.and_eq_true] at hs'
            cases i with
            | zero => simp at hx; rw [← hx] at hu; cases hu; exact hs'.1
            | succ i => exact ih i x (by simpa using hx) hs'.2 u hu
          | s k num a =>
            have hs' : sMA ys = true := hs
            cases i with
            | zero => simp at hx; rw [← hx] at hu; cases hu
            | succ i => exact ih i x (by simpa using hx) hs' u hu
      exact this l
    refine (hcall (roM A (l.map MA.lst)) (roH (l.map MA.lst)) w args' (SubH.refl _) (fun d hd' hle => ?_) hsim0 (by rw [List.length_map, memA_len, hlen]) fun j x y hx hy => ?_).mono fun e w' ⟨v', m', he, hs', hv', ht⟩ => ?_
    · exact roH_out _ _ (by rw [hlen']; exact hle)
    · rw [List.getElem?_map, memA_at, Nat.zero_add] at hx
      cases hlj : l[j]? with
      | none => rw [hlj] at hx; cases hx
      | some z =>
        rw [hlj] at hx
        simp only [Option.map_some, Option.some.injEq] at hx
        subst hx
        have hz := hargs j z y hlj hy
        cases z with
        | i u =>
          obtain ⟨m1, H1, hvu⟩ := hz
          have e1 : ((MA.i u).cv j).av = u := toC_av u
          rw [e1]
          exact hvu.scal (hsubs j _ hlj h2 u rfl)
        | s k num a =>
          simp only at hz
          subst hz
          have := ro2_vr hsl (i := j) (k := k) (z := (List.range num).map fun i => dDec (dGet a i)) (by rw [List.getElem?_map, hlj]; rfl)
          have e1 : ((MA.s k num a).cv j).av = .whole j := rfl
          rw [e1]
          simpa using this
    · have same := old_same ht
      have hnoWr : ∀ b o, ¬ Wr (roM A (l.map MA.lst)) (roH (l.map MA.lst)) b o := fun b o ⟨b', bk, md, g1, g2, _⟩ => by
        obtain ⟨_, _, _, _, rr⟩ := roH_at _ b' bk md g1
        exact g2 rr
      have block : ∀ (k : IntKind) (num a q0 : Nat), l.length ≤ q0 → hat (hput (roH (l.map MA.lst)) D) q0 = .live (intsBlk k num a) .own →
          Sim (upd m q (m' q0)) (hfill H q (.live (intsBlk k num a) .own)) w' ∧ (∀ v1, VR m' (hput (roH (l.map MA.lst)) D) (.whole q0) v1 → VR (upd m q (m' q0)) (hfill H q (.live (intsBlk k num a) .own)) (.whole q) v1) ∧ Tr m H w (upd m q (m' q0)) (hfill H q (.live (intsBlk k num a) .own)) w' := by
        intro k num a q0 b2 hatq
        have hgq : hget (hput (roH (l.map MA.lst)) D) q0 = some (intsBlk k num a, .own) := by unfold hget; rw [hatq]
        have hBR := hs'.blk q0 _ _ hgq
        have hle : Le m H (upd m q (m' q0)) (hfill H q (.live (intsBlk k num a) .own)) := Le.new hq
        have hsize : 0 < (m' q0).2.2 → w.heap.size ≤ (m' q0).1 := fun hp => by
          rcases ht.own (m' q0).1 (m' q0).2.1 ⟨q0, _, _, hgq, by simp, rfl, Nat.le_refl _, by omega⟩ with z | z
          · exact z
          · exact absurd z (hnoWr _ _)
        have hne : ∀ b bk md, hget H b = some (bk, md) → b ≠ q := fun b bk md hg e => by
          subst e
          have : hkn H b = true := by unfold hkn; unfold hget at hg; split at hg <;> first | (rename_i hh; rw [hh]) | cases hg
          rw [this] at hq; cases hq
        have hnew : ∀ b bk md, hget (hfill H q (.live (intsBlk k num a) .own)) b = some (bk, md) → (b = q ∧ bk = intsBlk k num a ∧ md = .own) ∨ (b ≠ q ∧ hget H b = some (bk, md)) := fun b bk md hg => by
          rw [hget_fill] at hg
          by_cases e : b = q
          · rw [if_pos e] at hg; cases hg; exact .inl ⟨e, rfl, rfl⟩
          · rw [if_neg e] at hg; exact .inr ⟨e, hg⟩
        have hfar : ∀ b bk md, hget H b = some (bk, md) → apart (m' q0) (m b) := fun b bk md hg => by
          by_cases p1 : (m' q0).2.2 = 0
          · exact .inl p1
          · by_cases p2 : (m b).2.2 = 0
            · exact .inr (.inl p2)
            · have := hsize (by omega)
              have := hsim.lt hg (by omega)
              exact .inr (.inr (.inl (by omega)))
        refine ⟨⟨fun b bk md hg => ?_, fun b b' bk md bk' md' g1 g2 hbb hm => ?_⟩, fun v1 hv1 => ?_, ⟨hle, ht.os, ht.tape, ht.output, ht.drawn, ht.size, fun b hb => .inl (same b hb), fun b o hw => ?_⟩⟩
        · rcases hnew b bk md hg with ⟨rfl, rfl, rfl⟩ | ⟨e, hg'⟩
          · have e1 : upd m b (m' q0) b = m' q0 := by simp [upd]
            rw [e1]
            obtain ⟨c1, c2, c3, c4⟩ := hBR
            refine ⟨c1, c2, c3, fun hp => ?_⟩
            obtain ⟨cc, ee, fr, d1, d2, d3, d4, d5⟩ := c4 hp
            refine ⟨cc, ee, fr, d1, d2, d3, d4, fun i fo hi hf => ?_⟩
            obtain ⟨x, v, e3, e4, e5⟩ := d5 i fo hi hf
            have hf1 : fo < 1 := hf
            rw [ints_ld hi hf1] at e3
            cases e3
            exact ⟨_, v, ints_ld hi hf1, e4, e5.scal (by simp [scal])⟩
          · have e1 : upd m q (m' q0) b = m b := by simp [upd, e]
            rw [e1]
            refine (hsim.blk b bk md hg').far (fun x v hx => hx.mono hle) fun hp => .inl (same _ (hsim.lt hg' hp))
        · rcases hnew b bk md g1 with ⟨rfl, rfl, rfl⟩ | ⟨e1, h1'⟩
          · rcases hnew b' bk' md' g2 with ⟨rfl, _, _⟩ | ⟨e2, h2'⟩
            · exact absurd rfl hbb
            · have z1 : upd m b (m' q0) b = m' q0 := by simp [upd]
              have z2 : upd m b (m' q0) b' = m b' := by simp [upd, e2]
              rw [z1, z2]; exact hfar _ _ _ h2'
          · rcases hnew b' bk' md' g2 with ⟨rfl, _, _⟩ | ⟨e2, h2'⟩
            · have z1 : upd m b' (m' q0) b' = m' q0 := by simp [upd]
              have z2 : upd m b' (m' q0) b = m b := by simp [upd, e1]
              rw [z1, z2]; exact (hfar _ _ _ h1').symm
            · have z1 : upd m q (m' q0) b = m b := by simp [upd, e1]
              have z2 : upd m q (m' q0) b' = m b' := by simp [upd, e2]
              rw [z1, z2]; exact hsim.dis _ _ _ _ _ _ h1' h2' hbb hm
        · cases hv1 with
          | whole _ aa nn cap hk hvv =>
            obtain ⟨y1, y2⟩ := hvv _ _ hgq
            refine .whole _ _ _ _ (by rw [hkn_fill, if_pos rfl]; rfl) fun bk md hg => ?_
            rw [hget_fill, if_pos rfl] at hg
            cases hg
            have z1 : upd m q (m' q0) q = m' q0 := by simp [upd]
            refine ⟨y1, ?_⟩
            unfold SlAt at y2 ⊢
            rw [z1]; exact y2
        · obtain ⟨b', bk, md, g1, g2, g3, g4, g5⟩ := hw
          rcases hnew b' bk md g1 with ⟨rfl, rfl, rfl⟩ | ⟨e1, h1'⟩
          · have z1 : upd m b' (m' q0) b' = m' q0 := by simp [upd]
            rw [z1] at g3 g4 g5
            exact .inl (by rw [← g3]; exact hsize (by omega))
          · have z1 : upd m q (m' q0) b' = m b' := by simp [upd, e1]
            rw [z1] at g3 g4 g5
            exact .inr ⟨b', bk, md, h1', g2, g3, g4, g5⟩
      cases r with
      | sc u =>
        obtain ⟨e1, e2⟩ := h3
        refine ⟨v', m, he, rfl, hsim.heap_eq same, ?_, ⟨.refl _ _, ht.os, ht.tape, ht.output, ht.drawn, ht.size, fun b hb => .inl (same b hb), fun _ _ h => .inr h⟩⟩
        rw [e1] at hv'
        exact hv'.scal e2
      | bl k num a rest =>
        obtain ⟨q0, y0, y1, y2, y3⟩ := h3
        obtain ⟨z1, z2, z3⟩ := block k num a q0 y0 y2
        rw [y1] at hv'
        cases rest with
        | none => exact ⟨v', _, he, z1, z2 _ hv', z3⟩
        | some lr =>
          have y3 := y3 lr rfl
          refine ⟨v', _, he, z1, ?_, z3⟩
          cases hv' with
          | tuple _ cs hl' hvs =>
            refine .tuple _ _ hl' fun j x y hx hy => ?_
            cases j with
            | zero =>
              simp only [List.getElem?_cons_zero, Option.some.injEq] at hx
              subst hx
              exact z2 _ (hvs 0 _ y rfl hy)
            | succ j =>
              have hx' : lr[j]? = some x := by simpa using hx
              exact (hvs (j + 1) x y (by simpa using hx') hy).scal (scals_at y3 j x hx')

end
end Go.Ab
