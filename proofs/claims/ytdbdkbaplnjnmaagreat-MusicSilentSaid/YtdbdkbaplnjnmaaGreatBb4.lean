/- An evaluator for the model's code over typed, abstract blocks, with its soundness, part 4 of 5: laws of any program; their conditions stand in each. -/
import Derived.Test.YtdbdkbaplnjnmaaGreatBb3
set_option linter.unusedVariables false
set_option linter.unusedSimpArgs false
section
/- States by patterns: what a loop's head keeps. No condition. -/
namespace Go.Ab
open Go

def mPh (sb : SB) (vs : Vs) : Option (List Lf × Vs) :=
  match sb with
  | .ints _ => some ([.li []], vs)
  | .recs ks => if 0 < ks.length then some ([.lr []], vs) else none
  | .vals n [] => if 0 < n then some ([], vs) else none
  | _ => none

def mBk (sb : SB) (bk : Blk) (vs : Vs) : Option (List Lf × Vs) :=
  match sb, bk with
  | .ints k, .ints k' l => if k = k' then some ([.li l], vs) else none
  | .recs ks, .recs ks' l => if ks = ks' then some ([.lr l], vs) else none
  | .vals n ps, .vals n' l => if n = n' then mVL ps l vs else none
  | _, _ => none

def mB1 (H : Heap) (sb : SB) (md : Md) (v : View) (vs : Vs) : Option (List Lf × Vs) :=
  match vB H v with
  | some (bk, md0) => match mdFits v md0 md with
    | true => mBk sb bk vs
    | false => none
  | none => none

def mB (H : Heap) (sb : SB) (md : Md) (v : View) (vs : Vs) : Option (List Lf × Vs) :=
  match v with
  | .ph => match md with | .own => none | _ => mPh sb vs
  | v => mB1 H sb md v vs

def fB : SB → List Lf → Blk × List Lf
  | .ints k, l => match l with | .li x :: r => (.ints k x, r) | r => (.ints k [], r)
  | .recs ks, l => match l with | .lr x :: r => (.recs ks x, r) | r => (.recs ks [], r)
  | .vals n ps, l => match fVL ps l with | (x, r) => (.vals n x, r)
  | _, r => (.ints .i64 [], r)

def mH (H : Heap) : List (SB × Md) → Nat → Vs → Option (List Lf × Vs)
  | [], _, vs => some ([], vs)
  | (.hole, _) :: r, j, vs => mH H r (j + 1) vs
  | (.dead, _) :: r, j, vs => mH H r (j + 1) vs
  | (sb, md) :: r, j, vs => match vat vs j with
    | some v => match mB H sb md v vs with
      | some (l1, vs1) => match mH H r (j + 1) vs1 with
        | some (l2, vs2) => some (l1 ++ l2, vs2)
        | none => none
      | none => none
    | none => none

def fH : List (SB × Md) → List Lf → Heap × List Lf
  | [], l => ([], l)
  | (.hole, _) :: r, l => match fH r l with | (L, l) => (.hole :: L, l)
  | (.dead, _) :: r, l => match fH r l with | (L, l) => (.dead :: L, l)
  | (sb, md) :: r, l => match fB sb l with | (bk, l) => match fH r l with | (L, l) => (.live bk md :: L, l)

theorem BR.cellsVR {m : Map} {H : Heap} {n : Nat} {l : List AV} {md : Md} {p : Nat × Nat × Nat} {w : World} (h : BR m H (.vals n l) md p w) (j : Nat) (x : AV) (hx : l[j]? = some x) : ∃ v, VR m H x v := by
  obtain ⟨h1, h2, h3, h4⟩ := h
  have hj : j < l.length := (List.getElem?_eq_some_iff.1 hx).1
  have hn : 0 < n := h1.1
  have hm : l.length % n = 0 := h1.2
  have hd : n * (l.length / n) = l.length := Nat.mul_div_cancel' (Nat.dvd_of_mod_eq_zero hm)
  have hlt : j / n < l.length / n := by
    rw [Nat.div_lt_iff_lt_mul hn, Nat.mul_comm]
    omega
  have hp : 0 < p.2.2 := by
    have : 0 < (Blk.vals n l).num * (Blk.vals n l).str := Nat.mul_pos (Nat.lt_of_le_of_lt (Nat.zero_le _) hlt) hn
    omega
  obtain ⟨c, e, fr, _, _, _, _, g5⟩ := h4 hp
  obtain ⟨y, v, k1, _, k3⟩ := g5 (j / n) (j % n) hlt (Nat.mod_lt _ hn)
  simp only [Blk.ld] at k1
  rw [show j / n * n + j % n = j by rw [Nat.mul_comm]; exact Nat.div_add_mod j n, hx] at k1
  cases k1
  exact ⟨v, k3⟩

theorem Seen.mono {m : Map} {H : Heap} {ρ ρ' : Nat → Option View} (h : ∀ j v, ρ j = some v → ρ' j = some v) {lb : Blk} {md : Md} {v : View} (hs : Seen m H ρ lb md v) : Seen m H ρ' lb md v :=
  ⟨hs.ok, hs.ph, fun e => by obtain ⟨gb, md0, k1, k2, k3⟩ := hs.at_ e; exact ⟨gb, md0, k1, k2, k3.mono h⟩⟩

theorem mB_spec {m : Map} {H : Heap} {w : World} (hs : Sim m H w) {sb : SB} {md : Md} {v : View} {vs vs' : Vs} {ls : List Lf} (hv : VOk m H v) (hV : ∀ i u, vat vs i = some u → VOk m H u) (h : mB H sb md v vs = some (ls, vs')) :
    LeV vs vs' ∧ (∀ i u, vat vs' i = some u → VOk m H u) ∧ ∃ lb, (∀ rest, fB sb (ls ++ rest) = (lb, rest)) ∧ Seen m H (vat vs') lb md v := by
  by_cases e : v = .ph
  · subst e
    have hmd : md ≠ .own := by rintro rfl; cases h
    have h : mPh sb vs = some (ls, vs') := by cases md <;> first | exact h | exact absurd rfl hmd
    simp only [mPh] at h
    split at h
    · cases h; exact ⟨LeV.refl _, hV, _, fun _ => rfl, trivial, fun _ => ⟨rfl, trivial, hmd⟩, fun h => absurd rfl h⟩
    · split at h
      · rename_i hk
        cases h
        exact ⟨LeV.refl _, hV, _, fun _ => rfl, trivial, fun _ => ⟨rfl, ⟨hk, fun x hx => by simp at hx⟩, hmd⟩, fun h => absurd rfl h⟩
      · cases h
    · split at h
      · rename_i hk
        cases h
        exact ⟨LeV.refl _, hV, _, fun _ => rfl, trivial, fun _ => ⟨by simp [Blk.num], ⟨hk, by simp⟩, hmd⟩, fun h => absurd rfl h⟩
      · cases h
    · cases h
  · have h' : mB1 H sb md v vs = some (ls, vs') := by
      cases v with
      | ph => exact absurd rfl e
      | full b => exact h
      | sub b off len => exact h
      | el b i fo n => exact h
    clear h
    unfold mB1 at h'
    split at h'
    · rename_i bk md0 hb
      split at h'
      · rename_i hmd
        unfold mBk at h'
        split at h'
        · rename_i k k' l
          split at h'
          · rename_i hk
            subst hk
            cases h'
            exact ⟨LeV.refl _, hV, _, fun _ => rfl, hv, fun h => absurd h e, fun _ => ⟨_, _, hb, hmd, .ints _ _⟩⟩
          · cases h'
        · split at h'
          · rename_i hk
            subst hk
            cases h'
            exact ⟨LeV.refl _, hV, _, fun _ => rfl, hv, fun h => absurd h e, fun _ => ⟨_, _, hb, hmd, .recs _ _⟩⟩
          · cases h'
        · rename_i n ps n' l
          split at h'
          · rename_i hk
            subst hk
            obtain ⟨a, ⟨ys, b, c, d⟩, f⟩ := mVL_spec _ _ _ _ _ h'
            have hbr := view_BR hs hb hv hmd
            refine ⟨a, fun i u hi => ?_, .vals n ys, fun rest => by simp only [fB, b], hv, fun h => absurd h e, fun _ => ⟨_, _, hb, hmd, .vals _ _ _ c d⟩⟩
            rcases f m H (fun j x hx => hbr.cellsVR j x hx) i u hi with q | q
            · exact hV i u q
            · exact q
          · cases h'
        · cases h'
      · cases h'
    · cases h'

def EntOk (m : Map) (H : Heap) (vs : Vs) (j : Nat) (sb : SB) (md : Md) (e : Ent) : Prop :=
  match sb with
  | .hole => e = .hole
  | .dead => e = .dead
  | _ => ∃ lb v, e = .live lb md ∧ vat vs j = some v ∧ Seen m H (vat vs) lb md v

theorem EntOk.mono {m : Map} {H : Heap} {vs vs' : Vs} (h : LeV vs vs') {j : Nat} {sb : SB} {md : Md} {e : Ent} (he : EntOk m H vs j sb md e) : EntOk m H vs' j sb md e := by
  cases sb <;> simp only [EntOk] at he ⊢ <;> first
    | exact he
    | (obtain ⟨lb, v, h1, h2, h3⟩ := he; exact ⟨lb, v, h1, h.2 _ _ h2, h3.mono h.2⟩)

theorem mH_spec {m : Map} {H : Heap} {w : World} (hs : Sim m H w) : ∀ (bs : List (SB × Md)) (j : Nat) (vs vs' : Vs) (ls : List Lf), (∀ i u, vat vs i = some u → VOk m H u) → mH H bs j vs = some (ls, vs') →
    LeV vs vs' ∧ (∀ i u, vat vs' i = some u → VOk m H u) ∧ ∃ L, (∀ rest, fH bs (ls ++ rest) = (L, rest)) ∧ L.length = bs.length ∧ ∀ i sb md, bs[i]? = some (sb, md) → EntOk m H vs' (j + i) sb md (hat L i)
  | [], j, vs, vs', ls, hV, h => by
    simp only [mH] at h
    cases h
    exact ⟨LeV.refl _, hV, [], fun _ => rfl, rfl, fun i sb md hi => by simp at hi⟩
  | (sb, md) :: r, j, vs, vs', ls, hV, h => by
    have next : ∀ vs1 l2, (∀ i u, vat vs1 i = some u → VOk m H u) → mH H r (j + 1) vs1 = some (l2, vs') → LeV vs1 vs' ∧ (∀ i u, vat vs' i = some u → VOk m H u) ∧ ∃ L, (∀ rest, fH r (l2 ++ rest) = (L, rest)) ∧ L.length = r.length ∧ ∀ i sb md, r[i]? = some (sb, md) → EntOk m H vs' (j + (i + 1)) sb md (hat L i) := by
      intro vs1 l2 hV1 h1
      obtain ⟨a, b, L, c, d, e⟩ := mH_spec hs r (j + 1) vs1 vs' l2 hV1 h1
      exact ⟨a, b, L, c, d, fun i sb md hi => by have := e i sb md hi; rwa [show j + 1 + i = j + (i + 1) by omega] at this⟩
    have live : ∀ (_ : (match vat vs j with
        | some v => match mB H sb md v vs with
          | some (l1, vs1) => match mH H r (j + 1) vs1 with
            | some (l2, vs2) => some (l1 ++ l2, vs2)
            | none => none
          | none => none
        | none => none) = some (ls, vs')) (_ : ∀ l, fH ((sb, md) :: r) l = match fB sb l with | (bk, l) => match fH r l with | (L, l) => (.live bk md :: L, l)) (_ : ∀ e, (∃ lb v, e = Ent.live lb md ∧ vat vs' j = some v ∧ Seen m H (vat vs') lb md v) → EntOk m H vs' j sb md e),
        LeV vs vs' ∧ (∀ i u, vat vs' i = some u → VOk m H u) ∧ ∃ L, (∀ rest, fH ((sb, md) :: r) (ls ++ rest) = (L, rest)) ∧ L.length = ((sb, md) :: r).length ∧ ∀ i sb' md', ((sb, md) :: r)[i]? = some (sb', md') → EntOk m H vs' (j + i) sb' md' (hat L i) := by
      intro h hf he
      split at h
      · rename_i v hv
        split at h
        · rename_i l1 vs1 h1
          split at h
          · rename_i l2 vs2 h2
            cases h
            obtain ⟨a1, b1, lb, c1, d1⟩ := mB_spec hs (hV j v hv) hV h1
            obtain ⟨a2, b2, L, c2, d2, e2⟩ := next vs1 l2 b1 h2
            refine ⟨a1.trans a2, b2, .live lb md :: L, fun rest => by rw [hf, List.append_assoc, c1]; simp only [c2], by simp [d2], fun i sb' md' hi => ?_⟩
            cases i with
            | zero => simp at hi; obtain ⟨rfl, rfl⟩ := hi; exact he _ ⟨lb, v, rfl, (a1.trans a2).2 _ _ hv, d1.mono a2.2⟩
            | succ i => exact e2 i sb' md' (by simpa using hi)
          · cases h
        · cases h
      · cases h
    cases sb with
    | hole =>
      simp only [mH] at h
      obtain ⟨a, b, L, c, d, e⟩ := next vs ls hV h
      refine ⟨a, b, .hole :: L, fun rest => by simp only [fH, c], by simp [d], fun i sb' md' hi => ?_⟩
      cases i with
      | zero => simp at hi; obtain ⟨rfl, rfl⟩ := hi; exact rfl
      | succ i => exact e i sb' md' (by simpa using hi)
    | dead =>
      simp only [mH] at h
      obtain ⟨a, b, L, c, d, e⟩ := next vs ls hV h
      refine ⟨a, b, .dead :: L, fun rest => by simp only [fH, c], by simp [d], fun i sb' md' hi => ?_⟩
      cases i with
      | zero => simp at hi; obtain ⟨rfl, rfl⟩ := hi; exact rfl
      | succ i => exact e i sb' md' (by simpa using hi)
    | ints k => exact live h (fun _ => rfl) fun e he => he
    | recs ks => exact live h (fun _ => rfl) fun e he => he
    | vals n ps => exact live h (fun _ => rfl) fun e he => he

/-- no place lies under two views, but where all are but read -/
def compat (x y : Option Nat × Md) : Bool :=
  match x, y with
  | (some b, md), (some b', md') => match Nat.beq b b' with
    | true => match md, md' with | .ro, .ro => true | _, _ => false
    | false => true
  | _, _ => true

def apartOk : List (Option Nat × Md) → Bool
  | [] => true
  | x :: xs => xs.all (compat x) && apartOk xs

def idsOf : List (SB × Md) → Nat → Vs → List (Option Nat × Md)
  | [], _, _ => []
  | (sb, md) :: r, j, vs => ((match sb with | .hole => none | .dead => none | _ => match vat vs j with | some v => vId v | none => none), md) :: idsOf r (j + 1) vs

def holesOk : List (SB × Md) → Nat → Vs → Bool
  | [], _, _ => true
  | (.hole, _) :: r, j, vs => (match vat vs j with | none => true | some _ => false) && holesOk r (j + 1) vs
  | _ :: r, j, vs => holesOk r (j + 1) vs

theorem compat_spec {b : Nat} {md md' : Md} (h : compat (some b, md) (some b, md') = true) : md = .ro ∧ md' = .ro := by
  simp only [compat] at h
  rw [show Nat.beq b b = true by simp] at h
  cases md <;> cases md' <;> simp at h ⊢

theorem apartOk_spec : ∀ (l : List (Option Nat × Md)) (i j : Nat) (b : Nat) (md md' : Md), apartOk l = true → i < j → l[i]? = some (some b, md) → l[j]? = some (some b, md') → md = .ro ∧ md' = .ro
  | [], i, j, b, md, md', _, _, hi, _ => by simp at hi
  | x :: xs, i, j, b, md, md', h, hlt, hi, hj => by
    simp only [apartOk, Bool.and_eq_true] at h
    cases j with
    | zero => omega
    | succ j =>
      cases i with
      | zero =>
        simp at hi hj
        subst hi
        exact compat_spec (List.all_eq_true.1 h.1 _ (List.mem_of_getElem? hj))
      | succ i => exact apartOk_spec xs i j b md md' h.2 (by omega) (by simpa using hi) (by simpa using hj)

theorem idsOf_at : ∀ (bs : List (SB × Md)) (j : Nat) (vs : Vs) (i : Nat) (sb : SB) (md : Md) (v : View), bs[i]? = some (sb, md) → sb ≠ .hole → sb ≠ .dead → vat vs (j + i) = some v → (idsOf bs j vs)[i]? = some (vId v, md)
  | [], j, vs, i, sb, md, v, h, _, _, _ => by simp at h
  | (sb0, md0) :: r, j, vs, i, sb, md, v, h, h1, h2, hv => by
    cases i with
    | zero =>
      simp at h
      obtain ⟨rfl, rfl⟩ := h
      rw [Nat.add_zero] at hv
      cases sb0 <;> simp [idsOf, hv] at h1 h2 ⊢
    | succ i =>
      simp only [idsOf, List.getElem?_cons_succ]
      exact idsOf_at r (j + 1) vs i sb md v (by simpa using h) h1 h2 (by rw [show j + 1 + i = j + (i + 1) by omega]; exact hv)

theorem holesOk_spec : ∀ (bs : List (SB × Md)) (j : Nat) (vs : Vs) (i : Nat) (md : Md), holesOk bs j vs = true → bs[i]? = some (.hole, md) → vat vs (j + i) = none
  | [], j, vs, i, md, _, h => by simp at h
  | (sb0, md0) :: r, j, vs, i, md, hh, h => by
    cases i with
    | zero =>
      simp at h
      obtain ⟨rfl, rfl⟩ := h
      simp only [holesOk, Bool.and_eq_true] at hh
      rw [Nat.add_zero]
      have := hh.1
      split at this
      · assumption
      · cases this
    | succ i =>
      have h' : holesOk r (j + 1) vs = true := by
        cases sb0 <;> simp only [holesOk, Bool.and_eq_true] at hh <;> first | exact hh.2 | exact hh
      rw [show j + (i + 1) = j + 1 + i by omega]
      exact holesOk_spec r (j + 1) vs i md h' (by simpa using h)

/-- the small heap's map -/
def mlOf (m : Map) (H : Heap) (vs : Vs) (bs : List (SB × Md)) : Map := fun j =>
  match vat vs j with
  | some v => vP m H (match bs[j]? with | some (_, md) => isOwn md | none => false) v
  | none => (0, 0, 0)

/-- a match that went through: the small heap -/
theorem small_of {m : Map} {H : Heap} {w : World} (_hs : Sim m H w) {bs : List (SB × Md)} {vs : Vs} {L : Heap} (hlen : vs.length = bs.length) (hL : L.length = bs.length) (hE : ∀ i sb md, bs[i]? = some (sb, md) → EntOk m H vs i sb md (hat L i)) (ha : apartOk (idsOf bs 0 vs) = true) (hh : holesOk bs 0 vs = true) :
    Small m H (mlOf m H vs bs) L (vat vs) := by
  have hvat : ∀ (vs : Vs) j v, vat vs j = some v → j < vs.length := by
    intro vs
    induction vs with
    | nil => intro j v h; simp [vat] at h
    | cons x xs ih => intro j v h; cases j with
      | zero => simp
      | succ j => have := ih j v h; simp; omega
  have get : ∀ j lb md, hget L j = some (lb, md) → ∃ sb v, bs[j]? = some (sb, md) ∧ sb ≠ .hole ∧ sb ≠ .dead ∧ vat vs j = some v ∧ Seen m H (vat vs) lb md v := by
    intro j lb md hg
    have hat' : hat L j = .live lb md := by
      unfold hget at hg
      split at hg
      · rename_i e; cases hg; exact e
      · cases hg
    have hj : j < bs.length := by
      apply Classical.byContradiction
      intro hn
      rw [hat_len L j (by omega)] at hat'
      cases hat'
    have hb : bs[j]? = some bs[j] := by simp [hj]
    generalize hbe : bs[j] = x at hb
    obtain ⟨sb, md1⟩ := x
    have := hE j sb md1 hb
    cases sb with
    | hole => simp only [EntOk] at this; rw [hat'] at this; cases this
    | dead => simp only [EntOk] at this; rw [hat'] at this; cases this
    | ints k => obtain ⟨lb1, v, e1, e2, e3⟩ := this; rw [hat'] at e1; cases e1; exact ⟨_, v, hb, by simp, by simp, e2, e3⟩
    | recs k => obtain ⟨lb1, v, e1, e2, e3⟩ := this; rw [hat'] at e1; cases e1; exact ⟨_, v, hb, by simp, by simp, e2, e3⟩
    | vals n k => obtain ⟨lb1, v, e1, e2, e3⟩ := this; rw [hat'] at e1; cases e1; exact ⟨_, v, hb, by simp, by simp, e2, e3⟩
  refine ⟨fun j v hv => ?_, fun j lb md hg => ?_, fun j j' lb md lb' md' v v' b hg hg' hne hv hv' hi hi' => ?_⟩
  · have hj : j < bs.length := by have := hvat vs j v hv; omega
    have hb : bs[j]? = some bs[j] := by simp [hj]
    generalize hbe : bs[j] = x at hb
    obtain ⟨sb, md1⟩ := x
    have := hE j sb md1 hb
    unfold hkn
    cases sb with
    | hole =>
      have hn := holesOk_spec bs 0 vs j md1 hh hb
      rw [Nat.zero_add, hv] at hn
      cases hn
    | dead => simp only [EntOk] at this; rw [this]
    | ints k => obtain ⟨lb1, v, e1, e2, e3⟩ := this; rw [e1]
    | recs k => obtain ⟨lb1, v, e1, e2, e3⟩ := this; rw [e1]
    | vals n k => obtain ⟨lb1, v, e1, e2, e3⟩ := this; rw [e1]
  · obtain ⟨sb, v, h1, h2, h3, h4, h5⟩ := get j lb md hg
    exact ⟨v, h4, h5, by simp only [mlOf, h4, h1]⟩
  · obtain ⟨sb, u, h1, h2, h3, h4, h5⟩ := get j lb md hg
    obtain ⟨sb', u', h1', h2', h3', h4', h5'⟩ := get j' lb' md' hg'
    have a1 := idsOf_at bs 0 vs j sb md v h1 h2 h3 (by rw [Nat.zero_add]; exact hv)
    have a2 := idsOf_at bs 0 vs j' sb' md' v' h1' h2' h3' (by rw [Nat.zero_add]; exact hv')
    rw [hi] at a1
    rw [hi'] at a2
    rcases Nat.lt_or_gt_of_ne hne with hlt | hlt
    · exact apartOk_spec _ j j' b md md' ha hlt a1 a2
    · obtain ⟨q1, q2⟩ := apartOk_spec _ j' j b md' md ha hlt a2 a1
      exact ⟨q2, q1⟩

end Go.Ab
end

section
/- States by patterns: the small state says no more than the great one. No condition. -/
namespace Go.Ab
open Go

/-- a state's pattern: how many temporaries; how many places stay where they are; temporaries that are kept; places -/
structure Sk where
  nt : Nat
  n0 : Nat
  slots : List (Nat × SV)
  blocks : List (SB × Md)

def vsI (n0 : Nat) : List (SB × Md) → Nat → Vs
  | [], _ => []
  | _ :: r, j => (match Nat.blt j n0 with | true => some (.full j) | false => none) :: vsI n0 r (j + 1)

theorem vsI_length (n0 : Nat) : ∀ (bs : List (SB × Md)) (j : Nat), (vsI n0 bs j).length = bs.length
  | [], _ => rfl
  | _ :: r, j => by simp [vsI, vsI_length n0 r]

theorem vsI_at (n0 : Nat) : ∀ (bs : List (SB × Md)) (j i : Nat), vat (vsI n0 bs j) i = if j + i < n0 ∧ i < bs.length then some (.full (j + i)) else none
  | [], j, i => by simp [vsI, vat]
  | x :: r, j, i => by
    cases i with
    | zero =>
      simp only [vsI, vat, Nat.add_zero, List.length_cons]
      by_cases h : j < n0
      · have : Nat.blt j n0 = true := by simpa using h
        rw [this, if_pos ⟨h, by omega⟩]
      · have : Nat.blt j n0 = false := by
          cases hb : Nat.blt j n0 with
          | false => rfl
          | true => exact absurd (by simpa using hb) h
        rw [this, if_neg (fun q => h q.1)]
    | succ i =>
      simp only [vsI, vat, vsI_at n0 r, List.length_cons]
      rw [show j + 1 + i = j + (i + 1) by omega]
      by_cases h : j + (i + 1) < n0 ∧ i < r.length
      · rw [if_pos h, if_pos ⟨h.1, by omega⟩]
      · rw [if_neg h, if_neg (fun q => h ⟨q.1, by omega⟩)]

def mdEq : Md → Md → Bool
  | .ro, .ro => true
  | .rw, .rw => true
  | .own, .own => true
  | _, _ => false

theorem mdEq_spec {a b : Md} (h : mdEq a b = true) : a = b := by cases a <;> cases b <;> simp [mdEq] at h ⊢

/-- the first places stay what they are -/
def firstOk (H : Heap) : Nat → List (SB × Md) → Nat → Bool
  | 0, _, _ => true
  | _ + 1, [], _ => false
  | n + 1, (sb, md) :: r, j => (match sb, hat H j with
    | .dead, .dead => true
    | .hole, _ => false
    | .dead, .live _ _ => true
    | .dead, _ => false
    | _, .live _ md' => mdEq md md'
    | _, _ => false) && firstOk H n r (j + 1)

def putAll : List (Nat × SV) → List AV → List AV → List AV
  | [], _, T => T
  | (t, _) :: r, ys, T => match ys with | y :: ys => putAll r ys (tset T t y) | [] => T

def rdS (sk : Sk) (s : St) : Option (List Lf) :=
  match Nat.beq s.tmps.length sk.nt with
  | true => match mVL (sk.slots.map (·.2)) (sk.slots.map fun p => tget s.tmps p.1) (vsI sk.n0 sk.blocks 0) with
    | some (l1, vs1) => match mH s.heap sk.blocks 0 vs1 with
      | some (l2, vs2) => match apartOk (idsOf sk.blocks 0 vs2) && (holesOk sk.blocks 0 vs2 && firstOk s.heap sk.n0 sk.blocks 0) with
        | true => some (l1 ++ l2)
        | false => none
      | none => none
    | none => none
  | false => none

def fiS (sk : Sk) (d : List Lf) : St :=
  match fVL (sk.slots.map (·.2)) d with
  | (ys, d) => ⟨putAll sk.slots ys (List.replicate sk.nt .undef), (fH sk.blocks d).1⟩

theorem putAll_length : ∀ (sl : List (Nat × SV)) (ys T : List AV), (putAll sl ys T).length = T.length
  | [], _, _ => rfl
  | (t, p) :: r, ys, T => by
    cases ys with
    | nil => rfl
    | cons y ys => simp only [putAll, putAll_length r]; exact tset_length _ _ _

theorem putAll_at : ∀ (sl : List (Nat × SV)) (ys T : List AV) (t : Nat), tget (putAll sl ys T) t = tget T t ∨ tget (putAll sl ys T) t = .undef ∨ ∃ (i : Nat) (p : SV) (y : AV), sl[i]? = some (t, p) ∧ ys[i]? = some y ∧ tget (putAll sl ys T) t = y
  | [], _, _, _ => .inl rfl
  | (u, p) :: r, ys, T, t => by
    cases ys with
    | nil => exact .inl rfl
    | cons y ys =>
      simp only [putAll]
      rcases putAll_at r ys (tset T u y) t with h | h | ⟨i, q, z, h1, h2, h3⟩
      · rw [h, tget_tset]
        by_cases e : t = u
        · subst e
          rw [if_pos rfl]
          by_cases hl : t < T.length
          · rw [if_pos hl]; exact .inr (.inr ⟨0, p, y, rfl, rfl, rfl⟩)
          · rw [if_neg hl]; exact .inr (.inl rfl)
        · rw [if_neg e]; exact .inl rfl
      · exact .inr (.inl h)
      · exact .inr (.inr ⟨i + 1, q, z, by simpa using h1, by simpa using h2, h3⟩)

theorem firstOk_spec (H : Heap) : ∀ (n : Nat) (bs : List (SB × Md)) (j i : Nat), firstOk H n bs j = true → i < n → ∃ sb md, bs[i]? = some (sb, md) ∧ ((sb = .dead ∧ hat H (j + i) ≠ .hole) ∨ (sb ≠ .dead ∧ sb ≠ .hole ∧ ∃ bk, hat H (j + i) = .live bk md))
  | 0, bs, j, i, _, hi => by omega
  | n + 1, [], j, i, h, _ => by simp [firstOk] at h
  | n + 1, (sb, md) :: r, j, i, h, hi => by
    simp only [firstOk, Bool.and_eq_true] at h
    cases i with
    | zero =>
      refine ⟨sb, md, rfl, ?_⟩
      have h1 := h.1
      rw [Nat.add_zero]
      cases sb with
      | dead => left; refine ⟨rfl, ?_⟩; cases e : hat H j <;> simp [e] at h1 ⊢
      | hole => simp at h1
      | ints k => right; cases e : hat H j <;> simp [e] at h1; have := mdEq_spec h1; subst this; exact ⟨by simp, by simp, _, rfl⟩
      | recs k => right; cases e : hat H j <;> simp [e] at h1; have := mdEq_spec h1; subst this; exact ⟨by simp, by simp, _, rfl⟩
      | vals k l => right; cases e : hat H j <;> simp [e] at h1; have := mdEq_spec h1; subst this; exact ⟨by simp, by simp, _, rfl⟩
    | succ i =>
      have := firstOk_spec H n r (j + 1) i h.2 (by omega)
      rw [show j + 1 + i = j + (i + 1) by omega] at this
      simpa using this

theorem hat_of_hget' {H : Heap} {b : Nat} {bk : Blk} {md : Md} (h : hget H b = some (bk, md)) : hat H b = .live bk md := by
  unfold hget at h
  split at h
  · rename_i e; cases h; exact e
  · cases h

theorem rdS_gen {sk : Sk} {s : St} {d : List Lf} (h : rdS sk s = some d) : Gen sk.n0 s (fiS sk d) := by
  unfold rdS at h
  split at h
  · rename_i hlen
    split at h
    · rename_i l1 vs1 h1
      split at h
      · rename_i l2 vs2 h2
        split at h
        · rename_i hck
          cases h
          simp only [Bool.and_eq_true] at hck
          obtain ⟨ha, hh, hf⟩ := hck
          intro B m a w hn hon
          have hs := hon.at_.sim
          obtain ⟨a1, ⟨ys, b1, c1, d1⟩, e1⟩ := mVL_spec _ _ _ _ _ h1
          have hV0 : ∀ i u, vat (vsI sk.n0 sk.blocks 0) i = some u → VOk m s.heap u := by
            intro i u hi
            rw [vsI_at] at hi
            split at hi
            · cases hi; trivial
            · cases hi
          have hV1 : ∀ i u, vat vs1 i = some u → VOk m s.heap u := by
            intro i u hi
            rcases e1 m s.heap (fun j x hx => by
              simp only [List.getElem?_map, Option.map_eq_some_iff] at hx
              obtain ⟨p, _, rfl⟩ := hx
              exact ⟨_, hon.at_.tr.at_ p.1⟩) i u hi with q | q
            · exact hV0 i u q
            · exact q
          obtain ⟨a2, b2, L, c2, d2, e2⟩ := mH_spec hs sk.blocks 0 vs1 vs2 l2 hV1 h2
          have hvl : vs2.length = sk.blocks.length := by rw [a2.1, a1.1, vsI_length]
          have hE : ∀ i sb md, sk.blocks[i]? = some (sb, md) → EntOk m s.heap vs2 i sb md (hat L i) := fun i sb md hi => by have := e2 i sb md hi; rwa [Nat.zero_add] at this
          have hsm := small_of hs hvl d2 hE ha hh
          have hfi : fiS sk (l1 ++ l2) = ⟨putAll sk.slots ys (List.replicate sk.nt .undef), L⟩ := by
            unfold fiS
            rw [b1]
            simp only
            have := c2 []
            rw [List.append_nil] at this
            rw [this]
          rw [hfi]
          have hv0 : ∀ j, j < sk.n0 → j < sk.blocks.length → vat vs2 j = some (.full j) := by
            intro j hj hb
            refine a2.2 _ _ (a1.2 _ _ ?_)
            rw [vsI_at, if_pos ⟨by omega, hb⟩, Nat.zero_add]
          refine ⟨mlOf m s.heap vs2 sk.blocks, ⟨⟨hsm.sim hs, ⟨?_, fun t => ?_⟩⟩, ?_, hon.defers⟩⟩
          · simp only [putAll_length, List.length_replicate]
            have h3 := hon.at_.tr.len
            have : s.tmps.length = sk.nt := by simpa using hlen
            omega
          · rcases putAll_at sk.slots ys (List.replicate sk.nt .undef) t with q | q | ⟨i, p, y, q1, q2, q3⟩
            · have : tget (List.replicate sk.nt AV.undef) t = .undef := by
                rw [tget_eq]
                simp only [List.getD_eq_getElem?_getD, List.getElem?_replicate]
                split <;> rfl
              simp only [q, this]
              exact .undef _
            · simp only [q]; exact .undef _
            · simp only [q3]
              have hl := d1 i (tget s.tmps t) y (by simp [q1]) q2
              exact (hl.mono a2.2).vr hs hsm _ (hon.at_.tr.at_ t)
          · -- from the base
            have hfirst : ∀ b, b < sk.n0 → ∃ sb md, sk.blocks[b]? = some (sb, md) ∧ ((sb = .dead ∧ hat s.heap b ≠ .hole) ∨ (sb ≠ .dead ∧ sb ≠ .hole ∧ ∃ bk, hat s.heap b = .live bk md)) := fun b hb => by
              have := firstOk_spec s.heap sk.n0 sk.blocks 0 b hf hb
              rwa [Nat.zero_add] at this
            have hltn : ∀ b, hkn B.H b = true → b < sk.n0 := by
              intro b hb
              apply Classical.byContradiction
              intro hnn
              rw [fresh_ge (by omega)] at hb
              cases hb
            have hle : Le m B.H m B.H := Le.refl _ _
            refine ⟨⟨fun b hb => ?_, fun b bk' md' hb hg => ?_⟩, hon.tr.os, hon.tr.tape, hon.tr.output, hon.tr.drawn, hon.tr.size, hon.tr.frame, fun x o hw => ?_⟩
            · obtain ⟨sb, md, k1, k2⟩ := hfirst b (hltn b hb)
              have hlt : b < sk.blocks.length := (List.getElem?_eq_some_iff.1 k1).1
              exact hsm.kn b _ (hv0 b (hltn b hb) hlt)
            · obtain ⟨sb, md, k1, k2⟩ := hfirst b (hltn b hb)
              have hlt : b < sk.blocks.length := (List.getElem?_eq_some_iff.1 k1).1
              obtain ⟨v, g1, g2, g3⟩ := hsm.seen b bk' md' hg
              rw [hv0 b (hltn b hb) hlt] at g1
              cases g1
              obtain ⟨gb, md0, f1, f2, f3⟩ := g2.at_ (by simp)
              have hent := hE b sb md k1
              have hmd : md' = md := by
                have hat' : hat L b = .live bk' md' := by
                  unfold hget at hg
                  split at hg
                  · rename_i e; cases hg; exact e
                  · cases hg
                cases sb with
                | hole => simp only [EntOk] at hent; rw [hat'] at hent; cases hent
                | dead => simp only [EntOk] at hent; rw [hat'] at hent; cases hent
                | ints k => obtain ⟨_, _, e1, _⟩ := hent; rw [hat'] at e1; cases e1; rfl
                | recs k => obtain ⟨_, _, e1, _⟩ := hent; rw [hat'] at e1; cases e1; rfl
                | vals n k => obtain ⟨_, _, e1, _⟩ := hent; rw [hat'] at e1; cases e1; rfl
              have hgb : hget s.heap b = some (gb, md0) := f1
              have hmd0 : md0 = md := by
                rcases k2 with ⟨k0, _⟩ | ⟨_, _, bk, k2⟩
                · subst k0
                  simp only [EntOk] at hent
                  rw [hat_of_hget' hg] at hent
                  cases hent
                · unfold hget at hgb; rw [k2] at hgb; cases hgb; rfl
              subst hmd hmd0
              obtain ⟨bk0, q1, q2, q3, q4⟩ := hon.tr.le.at_ b gb md0 hb hgb
              obtain ⟨n1, n2⟩ := f3.num
              refine ⟨bk0, q1, by omega, by omega, ?_⟩
              rw [g3, ← q4]
              simp only [vP, hgb]
              cases md0 with
              | own => rfl
              | ro => have := (hs.blk b gb _ hgb).2.2.1 (by simp); simp only [isOwn]; rw [← this]
              | rw => have := (hs.blk b gb _ hgb).2.2.1 (by simp); simp only [isOwn]; rw [← this]
            · obtain ⟨j, lb, md, g1, g2, g3, g4, g5⟩ := hw
              refine hon.tr.own x o ?_
              obtain ⟨v, r1, r2, r3⟩ := hsm.seen j lb md g1
              rw [r3] at g3 g4 g5
              by_cases e : v = .ph
              · subst e; simp [vP] at g4 g5
              · obtain ⟨gb, md0, f1, f2, f3⟩ := r2.at_ e
                obtain ⟨b, bk, i1, i2, i3, i4, i5⟩ := vP_in (md := md) hs f1 r2.ok
                exact ⟨b, bk, md0, i2, mdFits_ro f2 g2, by omega, by omega, by omega⟩
        · cases h
      · cases h
    · cases h
  · cases h

end Go.Ab
end

section
/- What a call turned in its small heap, in the great one. No condition. -/
namespace Go.Ab
open Go

mutual
/-- a value of the small heap in the great one's words: nL places were there, those that came begin at q -/
def gV (vs : Vs) (f : Nat → Bool) (nL q : Nat) : AV → AV
  | .ptr j i fo => match Nat.blt j nL with
    | true => match vat vs j with
      | some (.full b) => .ptr b i fo
      | some (.sub b off _) => .ptr b (off + i) fo
      | some (.el b i0 f0 _) => .ptr b i0 (f0 + fo)
      | _ => .undef
    | false => .ptr (q + (j - nL)) i fo
  | .whole j => match Nat.blt j nL with
    | true => match f j, vat vs j with
      | true, some (.full b) => .whole b
      | true, some (.sub b off len) => .part b off len
      | _, _ => .undef
    | false => .whole (q + (j - nL))
  | .part j o l => match Nat.blt j nL with
    | true => match f j, vat vs j with
      | true, some (.full b) => .part b o l
      | true, some (.sub b off _) => .part b (off + o) l
      | _, _ => .undef
    | false => .part (q + (j - nL)) o l
  | .seg .. => .undef
  | .func fn g c => .func fn (gVL vs f nL q g) (gVL vs f nL q c)
  | .iface t v => .iface t (gV vs f nL q v)
  | .agg l => .agg (gVL vs f nL q l)
  | .tuple l => .tuple (gVL vs f nL q l)
  | .undef => .undef
  | .bool b => .bool b
  | .int k n => .int k n
  | .str s => .str s
  | .nilPtr => .nilPtr
  | .nilSlice => .nilSlice
  | .nilFunc => .nilFunc
  | .nilIface => .nilIface
def gVL (vs : Vs) (f : Nat → Bool) (nL q : Nat) : List AV → List AV
  | [] => []
  | x :: xs => gV vs f nL q x :: gVL vs f nL q xs
end

/-- may a slice of the small heap be handed back? -/
def slOk (H : Heap) (vs : Vs) (bs : List (SB × Md)) (j : Nat) : Bool :=
  match vat vs j, bs[j]? with
  | some v, some (_, md) => match vId v with
    | some b => (match hget H b with | some (_, md0) => !isOwn md0 || isOwn md | none => false)
    | none => false
  | _, _ => false

theorem gVL_length (vs : Vs) (f : Nat → Bool) (nL q : Nat) : ∀ l : List AV, (gVL vs f nL q l).length = l.length
  | [] => rfl
  | x :: xs => by simp [gVL, gVL_length vs f nL q xs]

theorem gVL_at (vs : Vs) (f : Nat → Bool) (nL q : Nat) : ∀ (l : List AV) (j : Nat), (gVL vs f nL q l)[j]? = (l[j]?).map (gV vs f nL q)
  | [], j => by simp [gVL]
  | x :: xs, j => by cases j <;> simp [gVL, gVL_at vs f nL q xs]

def gB (vs : Vs) (f : Nat → Bool) (nL q : Nat) : Blk → Blk
  | .vals n l => .vals n (gVL vs f nL q l)
  | .ints k l => .ints k l
  | .recs ks l => .recs ks l

theorem gB_num (vs : Vs) (f : Nat → Bool) (nL q : Nat) (b : Blk) : (gB vs f nL q b).num = b.num ∧ (gB vs f nL q b).str = b.str := by
  cases b <;> simp [gB, Blk.num, Blk.str, gVL_length]

theorem gB_ok (vs : Vs) (f : Nat → Bool) (nL q : Nat) {b : Blk} (h : b.ok) : (gB vs f nL q b).ok := by
  cases b with
  | ints => exact h
  | recs => exact h
  | vals n l => exact ⟨h.1, by rw [gVL_length]; exact h.2⟩

theorem gB_ld (vs : Vs) (f : Nat → Bool) (nL q : Nat) {b : Blk} {i fo : Nat} {x : AV} (h : b.ld i fo = some x) : (gB vs f nL q b).ld i fo = some (gV vs f nL q x) := by
  cases b with
  | ints k l => cases fo with
    | zero => simp only [Blk.ld] at h; cases h; rfl
    | succ n => simp [Blk.ld] at h
  | recs ks l =>
    simp only [gB, Blk.ld] at h ⊢
    split at h
    · rename_i e; cases h; rfl
    · cases h
  | vals n l => simp only [gB, Blk.ld] at h ⊢; rw [gVL_at, h]; rfl

/-- so many elements from off on are others -/
def putSub (gb : Blk) (off : Nat) (lb : Blk) : Option Blk :=
  match gb, lb with
  | .ints k l, .ints k' l' => if k = k' then some (.ints k (splice l off l')) else none
  | .recs k l, .recs k' l' => if k = k' then some (.recs k (splice l off l')) else none
  | .vals n l, .vals n' l' => if n = n' then some (.vals n (splice l (off * n) l')) else none
  | _, _ => none

theorem putSub_spec {gb lb nb : Blk} {off : Nat} (h : putSub gb off lb = some nb) (hle : off + lb.num ≤ gb.num) (hg : gb.ok) (hl : lb.ok) :
    nb.num = gb.num ∧ nb.str = gb.str ∧ lb.str = gb.str ∧ nb.ok ∧ ∀ i fo, i < gb.num → fo < gb.str → nb.ld i fo = if off ≤ i ∧ i < off + lb.num then lb.ld (i - off) fo else gb.ld i fo := by
  unfold putSub at h
  split at h
  · rename_i k l k' l'
    split at h
    · rename_i e
      subst e
      cases h
      simp only [Blk.num] at hle
      refine ⟨by simp only [Blk.num]; exact splice_length _ _ _ hle, rfl, rfl, trivial, fun i fo hi hf => ?_⟩
      simp only [Blk.str] at hf
      obtain rfl : fo = 0 := by omega
      simp only [Blk.ld, Blk.num, List.getD_eq_getElem?_getD, splice_get _ _ _ hle]
      split <;> rfl
    · cases h
  · rename_i k l k' l'
    split at h
    · rename_i e
      subst e
      cases h
      simp only [Blk.num] at hle
      refine ⟨by simp only [Blk.num]; exact splice_length _ _ _ hle, rfl, rfl, ⟨hg.1, fun x hx => ?_⟩, fun i fo hi hf => ?_⟩
      · obtain ⟨j, hj⟩ := List.mem_iff_getElem?.1 hx
        rw [splice_get _ _ _ hle] at hj
        split at hj
        · exact hl.2 x (List.mem_of_getElem? hj)
        · exact hg.2 x (List.mem_of_getElem? hj)
      · simp only [Blk.ld, Blk.num, List.getD_eq_getElem?_getD, splice_get _ _ _ hle]
        split <;> split <;> rfl
    · cases h
  · rename_i n l n' l'
    split at h
    · rename_i e
      subst e
      cases h
      have hn : 0 < n := hg.1
      have hd : n * (l.length / n) = l.length := Nat.mul_div_cancel' (Nat.dvd_of_mod_eq_zero hg.2)
      have hd' : n * (l'.length / n) = l'.length := Nat.mul_div_cancel' (Nat.dvd_of_mod_eq_zero hl.2)
      simp only [Blk.num] at hle
      have hle' : off * n + l'.length ≤ l.length := by
        have : n * (off + l'.length / n) ≤ n * (l.length / n) := Nat.mul_le_mul_left _ hle
        rw [Nat.mul_add, hd, hd', Nat.mul_comm n off] at this
        exact this
      have hlen := splice_length l l' (off * n) hle'
      refine ⟨by simp only [Blk.num, hlen], rfl, rfl, ⟨hn, by rw [hlen]; exact hg.2⟩, fun i fo hi hf => ?_⟩
      simp only [Blk.str] at hf
      have hnl : (Blk.vals n l').num = l'.length / n := rfl
      simp only [Blk.ld]
      rw [splice_get _ _ _ hle']
      by_cases hc : off ≤ i ∧ i < off + (Blk.vals n l').num
      · obtain ⟨c1, c2⟩ := hc
        have e1 : i * n = off * n + (i - off) * n := by rw [← Nat.add_mul]; congr 1; omega
        have e2 : (i - off + 1) * n ≤ l'.length := by
          have : (i - off + 1) * n ≤ (l'.length / n) * n := Nat.mul_le_mul_right _ (by omega)
          rw [Nat.mul_comm (l'.length / n) n, hd'] at this
          exact this
        rw [Nat.add_mul] at e2
        rw [if_pos (show off * n ≤ i * n + fo ∧ i * n + fo < off * n + l'.length by omega), if_pos ⟨c1, c2⟩]
        congr 1
        omega
      · rw [if_neg hc, if_neg]
        rintro ⟨c1, c2⟩
        apply hc
        constructor
        · apply Classical.byContradiction
          intro hlt
          have : (i + 1) * n ≤ off * n := Nat.mul_le_mul_right _ (by omega)
          rw [Nat.add_mul] at this
          omega
        · apply Classical.byContradiction
          intro hge
          have : (off + l'.length / n) * n ≤ i * n := Nat.mul_le_mul_right _ (by omega)
          rw [Nat.add_mul, Nat.mul_comm (l'.length / n) n, hd'] at this
          omega
    · cases h
  · cases h

def consO {α : Type} (x : α) : Option (List α) → Option (List α)
  | some l => some (x :: l)
  | none => none

def isLive : Ent → Bool
  | .live _ _ => true
  | _ => false

def backOne (H : Heap) (vs : Vs) (f : Nat → Bool) (nL q : Nat) (v : Option View) (e : Ent) : Option (Option (Nat × Ent)) :=
  match v with
  | none => none
  | some .ph => some none
  | some (.full b) => match e with
    | .dead => some (some (b, .dead))
    | .live lb _ => (match hget H b with
      | some (_, md0) => some (some (b, .live (gB vs f nL q lb) md0))
      | none => none)
    | .hole => none
  | some (.sub b off _) => match e with
    | .live lb _ => (match hget H b with
      | some (gb, md0) => (match putSub gb off (gB vs f nL q lb) with
        | some nb => some (some (b, .live nb md0))
        | none => none)
      | none => none)
    | _ => none
  | some (.el b i fo _) => match e with
    | .live (.vals _ l) _ => (match hget H b with
      | some (gb, md0) => (match stn i (gVL vs f nL q l) fo gb with
        | some nb => some (some (b, .live nb md0))
        | none => none)
      | none => none)
    | _ => none

/-- what turned: first the places that were there, then those that came -/
def backD (H : Heap) (vs : Vs) (f : Nat → Bool) (nL q : Nat) : List (SB × Md) → Heap → Nat → Option Delta
  | [], [], _ => some []
  | [], e :: L, j => match e with
    | .live lb .own => consO (q + (j - nL), .live (gB vs f nL q lb) .own) (backD H vs f nL q [] L (j + 1))
    | .dead => consO (q + (j - nL), .dead) (backD H vs f nL q [] L (j + 1))
    | _ => none
  | _ :: _, [], _ => none
  | (.hole, _) :: bs, _ :: L, j => backD H vs f nL q bs L (j + 1)
  | (.dead, _) :: bs, _ :: L, j => backD H vs f nL q bs L (j + 1)
  | (_, .ro) :: bs, e :: L, j => match isLive e with
    | true => backD H vs f nL q bs L (j + 1)
    | false => none
  | (_, _) :: bs, e :: L, j => match backOne H vs f nL q (vat vs j) e with
    | some (some x) => consO x (backD H vs f nL q bs L (j + 1))
    | some none => backD H vs f nL q bs L (j + 1)
    | none => none

/-- what turned at one place -/
inductive Back (H : Heap) (vs : Vs) (f : Nat → Bool) (nL q : Nat) (bs : List (SB × Md)) (L : Heap) : Nat → Nat → Ent → Prop
  | new (j : Nat) (lb : Blk) : nL ≤ j → hat L j = .live lb .own → Back H vs f nL q bs L j (q + (j - nL)) (.live (gB vs f nL q lb) .own)
  | newDead (j : Nat) : nL ≤ j → hat L j = .dead → Back H vs f nL q bs L j (q + (j - nL)) .dead
  | full (j b : Nat) (sb : SB) (md mdl md0 : Md) (lb gb : Blk) : j < nL → bs[j]? = some (sb, md) → sb ≠ .hole → sb ≠ .dead → md ≠ .ro → vat vs j = some (.full b) → hat L j = .live lb mdl → hget H b = some (gb, md0) → Back H vs f nL q bs L j b (.live (gB vs f nL q lb) md0)
  | fullDead (j b : Nat) (sb : SB) (md : Md) : j < nL → bs[j]? = some (sb, md) → sb ≠ .hole → sb ≠ .dead → md ≠ .ro → vat vs j = some (.full b) → hat L j = .dead → Back H vs f nL q bs L j b .dead
  | sub (j b off len : Nat) (sb : SB) (md mdl md0 : Md) (lb gb nb : Blk) : j < nL → bs[j]? = some (sb, md) → sb ≠ .hole → sb ≠ .dead → md ≠ .ro → vat vs j = some (.sub b off len) → hat L j = .live lb mdl → hget H b = some (gb, md0) → putSub gb off (gB vs f nL q lb) = some nb → Back H vs f nL q bs L j b (.live nb md0)
  | el (j b i fo n n' : Nat) (sb : SB) (md mdl md0 : Md) (l : List AV) (gb nb : Blk) : j < nL → bs[j]? = some (sb, md) → sb ≠ .hole → sb ≠ .dead → md ≠ .ro → vat vs j = some (.el b i fo n) → hat L j = .live (.vals n' l) mdl → hget H b = some (gb, md0) → stn i (gVL vs f nL q l) fo gb = some nb → Back H vs f nL q bs L j b (.live nb md0)

theorem consO_some {α : Type} {x : α} {o : Option (List α)} {l : List α} (h : consO x o = some l) : ∃ l', o = some l' ∧ l = x :: l' := by
  cases o with
  | none => cases h
  | some l' => cases h; exact ⟨l', rfl, rfl⟩

structure BackOk (H : Heap) (vs : Vs) (f : Nat → Bool) (nL q : Nat) (bs : List (SB × Md)) (L : Heap) (j0 : Nat) (D : Delta) : Prop where
  mem : ∀ b e, (b, e) ∈ D → ∃ j, j0 ≤ j ∧ Back H vs f nL q bs L j b e
  new : ∀ j, j0 ≤ j → nL ≤ j → j < L.length → ∃ e, (q + (j - nL), e) ∈ D
  old : ∀ j sb md b v, j0 ≤ j → j < nL → bs[j]? = some (sb, md) → sb ≠ .hole → sb ≠ .dead → md ≠ .ro → vat vs j = some v → vId v = some b → ∃ e, (b, e) ∈ D
  ro : ∀ j sb, j0 ≤ j → j < nL → bs[j]? = some (sb, .ro) → sb ≠ .hole → sb ≠ .dead → ∃ lb md, hat L j = .live lb md
  len : nL ≤ L.length

theorem backD_spec {H : Heap} {vs : Vs} {f : Nat → Bool} {q : Nat} {bs0 : List (SB × Md)} {L0 : Heap} : ∀ (bs : List (SB × Md)) (L : Heap) (j0 : Nat) (D : Delta), (∀ i, bs[i]? = bs0[j0 + i]?) → (∀ i, hat L i = hat L0 (j0 + i)) → j0 + L.length = L0.length → (j0 ≤ bs0.length ∨ bs = []) →
    backD H vs f bs0.length q bs L j0 = some D → BackOk H vs f bs0.length q bs0 L0 j0 D
  | [], [], j0, D, hb, hl, hlen, hj, h => by
    simp only [backD] at h
    cases h
    have hj0 : bs0.length ≤ j0 := by
      have := hb 0
      simp at this
      simpa using this
    refine ⟨fun b e hm => by simp at hm, fun j h1 h2 h3 => by simp at hlen; omega, fun j sb md b v h1 h2 => by omega, fun j sb h1 h2 => by omega, by simp at hlen; omega⟩
  | [], e :: L, j0, D, hb, hl, hlen, hj, h => by
    have hj0 : bs0.length ≤ j0 := by
      have := hb 0
      simp at this
      simpa using this
    have he : hat L0 j0 = e := by have := hl 0; rw [Nat.add_zero] at this; exact this.symm
    have next : ∀ D', backD H vs f bs0.length q [] L (j0 + 1) = some D' → BackOk H vs f bs0.length q bs0 L0 (j0 + 1) D' := fun D' h' =>
      backD_spec [] L (j0 + 1) D' (fun i => by simp; omega) (fun i => by have := hl (i + 1); rw [show j0 + 1 + i = j0 + (i + 1) by omega, ← this]; rfl) (by simp at hlen; omega) (.inr rfl) h'
    have add : ∀ x D', (∃ j, j = j0 ∧ Back H vs f bs0.length q bs0 L0 j x.1 x.2) → x.1 = q + (j0 - bs0.length) → BackOk H vs f bs0.length q bs0 L0 (j0 + 1) D' → BackOk H vs f bs0.length q bs0 L0 j0 (x :: D') := by
      intro x D' hx hx1 k
      refine ⟨fun b e hm => ?_, fun j h1 h2 h3 => ?_, fun j sb md b v h1 h2 => by omega, fun j sb h1 h2 => by omega, k.len⟩
      · rcases List.mem_cons.1 hm with hm | hm
        · subst hm
          obtain ⟨j, rfl, hbk⟩ := hx
          exact ⟨j, Nat.le_refl _, hbk⟩
        · obtain ⟨j, h1, h2⟩ := k.mem b e hm
          exact ⟨j, by omega, h2⟩
      · by_cases e : j = j0
        · subst e
          exact ⟨x.2, List.mem_cons.2 (.inl (by rw [← hx1]))⟩
        · obtain ⟨e', he'⟩ := k.new j (by omega) h2 h3
          exact ⟨e', List.mem_cons_of_mem _ he'⟩
    simp only [backD] at h
    split at h
    · rename_i lb
      obtain ⟨D', h1, rfl⟩ := consO_some h
      exact add _ D' ⟨j0, rfl, .new j0 lb hj0 he⟩ rfl (next D' h1)
    · obtain ⟨D', h1, rfl⟩ := consO_some h
      exact add _ D' ⟨j0, rfl, .newDead j0 hj0 he⟩ rfl (next D' h1)
    · cases h
  | (sb, md) :: bs, [], j0, D, hb, hl, hlen, hj, h => by simp [backD] at h
  | (sb, md) :: bs, e :: L, j0, D, hb, hl, hlen, hj, h => by
    have hb0 : bs0[j0]? = some (sb, md) := by have := hb 0; simpa using this.symm
    have hj0 : j0 < bs0.length := (List.getElem?_eq_some_iff.1 hb0).1
    have he : hat L0 j0 = e := by have := hl 0; rw [Nat.add_zero] at this; exact this.symm
    have next : ∀ D', backD H vs f bs0.length q bs L (j0 + 1) = some D' → BackOk H vs f bs0.length q bs0 L0 (j0 + 1) D' := fun D' h' =>
      backD_spec bs L (j0 + 1) D' (fun i => by have := hb (i + 1); rw [show j0 + 1 + i = j0 + (i + 1) by omega, ← this]; simp) (fun i => by have := hl (i + 1); rw [show j0 + 1 + i = j0 + (i + 1) by omega, ← this]; rfl) (by simp at hlen; omega) (.inl (by omega)) h'
    have skip : ∀ D', BackOk H vs f bs0.length q bs0 L0 (j0 + 1) D' → (sb ≠ .hole → sb ≠ .dead → md ≠ .ro → ∀ v, vat vs j0 = some v → vId v = none) → (sb ≠ .hole → sb ≠ .dead → md = .ro → ∃ lb md, e = .live lb md) → BackOk H vs f bs0.length q bs0 L0 j0 D' := by
      intro D' k hv hro
      refine ⟨fun b e hm => by obtain ⟨j, h1, h2⟩ := k.mem b e hm; exact ⟨j, by omega, h2⟩, fun j h1 h2 h3 => k.new j (by omega) h2 h3, fun j sb' md' b v h1 h2 h3 h4 h5 h6 h7 h8 => ?_, fun j sb' h1 h2 h3 h4 h5 => ?_, k.len⟩
      · by_cases e : j = j0
        · subst e
          rw [hb0] at h3
          cases h3
          rw [hv h4 h5 h6 v h7] at h8
          cases h8
        · exact k.old j sb' md' b v (by omega) h2 h3 h4 h5 h6 h7 h8
      · by_cases e : j = j0
        · subst e
          rw [hb0] at h3
          cases h3
          rw [he]
          exact hro h4 h5 rfl
        · exact k.ro j sb' (by omega) h2 h3 h4 h5
    have add : ∀ x D', Back H vs f bs0.length q bs0 L0 j0 x.1 x.2 → md ≠ .ro → (∀ v b, vat vs j0 = some v → vId v = some b → b = x.1) → BackOk H vs f bs0.length q bs0 L0 (j0 + 1) D' → BackOk H vs f bs0.length q bs0 L0 j0 (x :: D') := by
      intro x D' hx hro hv k
      refine ⟨fun b e hm => ?_, fun j h1 h2 h3 => ?_, fun j sb' md' b v h1 h2 h3 h4 h5 h6 h7 h8 => ?_, fun j sb' h1 h2 h3 h4 h5 => ?_, k.len⟩
      · rcases List.mem_cons.1 hm with hm | hm
        · subst hm; exact ⟨j0, Nat.le_refl _, hx⟩
        · obtain ⟨j, h1, h2⟩ := k.mem b e hm
          exact ⟨j, by omega, h2⟩
      · obtain ⟨e', he'⟩ := k.new j (by omega) h2 h3
        exact ⟨e', List.mem_cons_of_mem _ he'⟩
      · by_cases e : j = j0
        · subst e
          obtain rfl := hv v b h7 h8
          exact ⟨x.2, List.mem_cons.2 (.inl rfl)⟩
        · obtain ⟨e', he'⟩ := k.old j sb' md' b v (by omega) h2 h3 h4 h5 h6 h7 h8
          exact ⟨e', List.mem_cons_of_mem _ he'⟩
      · by_cases e : j = j0
        · subst e
          rw [hb0] at h3
          cases h3
          exact absurd rfl hro
        · exact k.ro j sb' (by omega) h2 h3 h4 h5
    have main : sb ≠ .hole → sb ≠ .dead → md ≠ .ro → (match backOne H vs f bs0.length q (vat vs j0) e with
        | some (some x) => consO x (backD H vs f bs0.length q bs L (j0 + 1))
        | some none => backD H vs f bs0.length q bs L (j0 + 1)
        | none => none) = some D → BackOk H vs f bs0.length q bs0 L0 j0 D := by
      intro hn1 hn2 hro h
      cases hb1 : backOne H vs f bs0.length q (vat vs j0) e with
      | none => rw [hb1] at h; cases h
      | some o =>
        rw [hb1] at h
        unfold backOne at hb1
        split at hb1
        · cases hb1
        · rename_i hv
          cases hb1
          exact skip D (next D h) (fun _ _ _ v hv' => by rw [hv] at hv'; cases hv'; rfl) (fun _ _ h => absurd h hro)
        · rename_i b hv
          split at hb1
          · cases hb1
            obtain ⟨D', h1, rfl⟩ := consO_some h
            exact add _ D' (.fullDead j0 b sb md hj0 hb0 hn1 hn2 hro hv he) hro (fun v b' hv' hb' => by rw [hv] at hv'; cases hv'; cases hb'; rfl) (next D' h1)
          · rename_i lb mdl
            split at hb1
            · rename_i gb md0 hg
              cases hb1
              obtain ⟨D', h1, rfl⟩ := consO_some h
              exact add _ D' (.full j0 b sb md mdl md0 lb gb hj0 hb0 hn1 hn2 hro hv he hg) hro (fun v b' hv' hb' => by rw [hv] at hv'; cases hv'; cases hb'; rfl) (next D' h1)
            · cases hb1
          · cases hb1
        · rename_i b off len hv
          split at hb1
          · rename_i lb mdl
            split at hb1
            · rename_i gb md0 hg
              split at hb1
              · rename_i nb hp
                cases hb1
                obtain ⟨D', h1, rfl⟩ := consO_some h
                exact add _ D' (.sub j0 b off len sb md mdl md0 lb gb nb hj0 hb0 hn1 hn2 hro hv he hg hp) hro (fun v b' hv' hb' => by rw [hv] at hv'; cases hv'; cases hb'; rfl) (next D' h1)
              · cases hb1
            · cases hb1
          · cases hb1
        · rename_i b i fo n hv
          split at hb1
          · rename_i n' l mdl
            split at hb1
            · rename_i gb md0 hg
              split at hb1
              · rename_i nb hp
                cases hb1
                obtain ⟨D', h1, rfl⟩ := consO_some h
                exact add _ D' (.el j0 b i fo n n' sb md mdl md0 l gb nb hj0 hb0 hn1 hn2 hro hv he hg hp) hro (fun v b' hv' hb' => by rw [hv] at hv'; cases hv'; cases hb'; rfl) (next D' h1)
              · cases hb1
            · cases hb1
          · cases hb1
    have roCase : sb ≠ .hole → sb ≠ .dead → md = .ro → (match isLive e with | true => backD H vs f bs0.length q bs L (j0 + 1) | false => none) = some D → BackOk H vs f bs0.length q bs0 L0 j0 D := by
      intro _ _ hro h
      cases hl : isLive e with
      | false => rw [hl] at h; cases h
      | true =>
        rw [hl] at h
        refine skip D (next D h) (fun _ _ h' => absurd hro h') (fun _ _ _ => ?_)
        cases e with
        | live lb md => exact ⟨lb, md, rfl⟩
        | dead => cases hl
        | hole => cases hl
    cases sb with
    | hole => simp only [backD] at h; exact skip D (next D h) (fun h => absurd rfl h) (fun h => absurd rfl h)
    | dead => simp only [backD] at h; exact skip D (next D h) (fun _ h => absurd rfl h) (fun _ h => absurd rfl h)
    | ints k =>
      cases md with
      | ro => exact roCase (by simp) (by simp) rfl h
      | rw => exact main (by simp) (by simp) (by simp) h
      | own => exact main (by simp) (by simp) (by simp) h
    | recs k =>
      cases md with
      | ro => exact roCase (by simp) (by simp) rfl h
      | rw => exact main (by simp) (by simp) (by simp) h
      | own => exact main (by simp) (by simp) (by simp) h
    | vals k l =>
      cases md with
      | ro => exact roCase (by simp) (by simp) rfl h
      | rw => exact main (by simp) (by simp) (by simp) h
      | own => exact main (by simp) (by simp) (by simp) h

end Go.Ab
end

section
/- What a call turned in its small heap stands in the great one, too. No condition. -/
namespace Go.Ab
open Go

theorem dlook_mem {D : Delta} {b : Nat} {e : Ent} (h : dlook D b = some e) : (b, e) ∈ D := by
  induction D with
  | nil => cases h
  | cons d D ih =>
    obtain ⟨c, e'⟩ := d
    simp only [dlook] at h
    split at h
    · rename_i x hx
      cases h
      exact List.mem_cons_of_mem _ (ih hx)
    · split at h
      · rename_i hc; cases h; subst hc; exact List.mem_cons_self
      · cases h

theorem dlook_of_mem {D : Delta} {b : Nat} {e : Ent} (h : (b, e) ∈ D) : ∃ e', dlook D b = some e' := by
  cases hd : dlook D b with
  | some e' => exact ⟨e', rfl⟩
  | none => exact absurd (List.mem_map_of_mem (f := (·.1)) h) ((dlook_none D b).1 hd)

theorem hat_of_hget {H : Heap} {b : Nat} {bk : Blk} {md : Md} (h : hget H b = some (bk, md)) : hat H b = .live bk md := by
  unfold hget at h
  split at h
  · rename_i e; cases h; exact e
  · cases h

theorem hget_of_live {H : Heap} {b : Nat} {bk : Blk} {md : Md} (h : hat H b = .live bk md) : hget H b = some (bk, md) := by unfold hget; rw [h]

/-- a block of which a part was turned through a view -/
theorem BR.patch {m m' ml' : Map} {H H' L' : Heap} {w w' : World} {vs : Vs} {f : Nat → Bool} {nL q : Nat} {gb nb lb : Blk} {md0 md : Md} {p pv : Nat × Nat × Nat} (old : BR m H gb md0 p w) (loc : BR ml' L' lb md pv w') (hn : nb.num = gb.num) (hs : nb.str = gb.str) (hok : nb.ok)
    (hext : ∀ x v, VR m H x v → VR m' H' x v) (hloc : ∀ x v, VR ml' L' x v → VR m' H' (gV vs f nL q x) v) (hp1 : pv.1 = p.1)
    (hfr : 0 < p.2.2 → ∃ c c' e fr, w.heap[p.1]? = some (.cells c e fr) ∧ w'.heap[p.1]? = some (.cells c' e fr) ∧ c'.size = c.size ∧ ∀ o, p.2.1 ≤ o → o < p.2.1 + p.2.2 → ¬ (pv.2.1 ≤ o ∧ o < pv.2.1 + pv.2.2) → c'[o]? = c[o]?)
    (hld : ∀ i fo, i < gb.num → fo < gb.str → (∃ i' fo', i' < lb.num ∧ fo' < lb.str ∧ p.2.1 + (i * gb.str + fo) = pv.2.1 + (i' * lb.str + fo') ∧ nb.ld i fo = (gB vs f nL q lb).ld i' fo') ∨
      (¬ (pv.2.1 ≤ p.2.1 + (i * gb.str + fo) ∧ p.2.1 + (i * gb.str + fo) < pv.2.1 + pv.2.2) ∧ nb.ld i fo = gb.ld i fo)) : BR m' H' nb md0 p w' := by
  obtain ⟨o1, o2, o3, o4⟩ := old
  obtain ⟨l1, l2, l3, l4⟩ := loc
  refine ⟨hok, by rw [hn, hs]; exact o2, fun h => by rw [hn, hs]; exact o3 h, fun hp => ?_⟩
  obtain ⟨c, c', e, fr, f1, f2, f3, f4⟩ := hfr hp
  obtain ⟨c0, e0, fr0, g1, g2, g3, g4, g5⟩ := o4 hp
  rw [f1] at g1
  cases g1
  have locc : ∀ o, pv.2.1 ≤ o → o < pv.2.1 + pv.2.2 → (∀ v, c'[o]? = some v → v.oneCell' = true) := by
    intro o a1 a2
    obtain ⟨c1, e1, fr1, k1, k2, k3, k4, k5⟩ := l4 (by omega)
    rw [hp1, f2] at k1
    cases k1
    exact k4 o a1 a2
  refine ⟨c', e, fr, f2, by omega, fun h j a1 a2 => by rw [frozen_eq (.inr ⟨c, c', e, fr, f1, f2⟩)]; exact g3 h j a1 a2, fun j a1 a2 v hv => ?_, fun i fo hi hf => ?_⟩
  · by_cases hin : pv.2.1 ≤ j ∧ j < pv.2.1 + pv.2.2
    · exact locc j hin.1 hin.2 v hv
    · rw [f4 j a1 a2 hin] at hv
      exact g4 j a1 a2 v hv
  · rw [hn] at hi
    rw [hs] at hf ⊢
    rcases hld i fo hi hf with ⟨i', fo', h1, h2, h3, h4⟩ | ⟨h1, h2⟩
    · have hcell := cell_in h1 h2
      obtain ⟨c1, e1, fr1, k1, k2, k3, k4, k5⟩ := l4 (by omega)
      rw [hp1, f2] at k1
      cases k1
      obtain ⟨x, v, r1, r2, r3⟩ := k5 i' fo' h1 h2
      exact ⟨gV vs f nL q x, v, by rw [h4]; exact gB_ld vs f nL q r1, by rw [h3]; exact r2, hloc x v r3⟩
    · obtain ⟨x, v, r1, r2, r3⟩ := g5 i fo hi hf
      have hcell := cell_in hi hf
      exact ⟨x, v, by rw [h2]; exact r1, by rw [f4 _ (by omega) (by omega) h1]; exact r2, hext x v r3⟩

section
variable {m ml ml' : Map} {H L L' : Heap} {w w' : World} {vs : Vs} {q : Nat} {bs : List (SB × Md)} {D : Delta}

/-- all that a call's end knows -/
structure Ret (m ml ml' : Map) (H L L' : Heap) (w w' : World) (vs : Vs) (q : Nat) (bs : List (SB × Md)) (D : Delta) : Prop where
  hs : Sim m H w
  sm : Small m H ml L (vat vs)
  len : L.length = bs.length
  vlen : vs.length = bs.length
  live : ∀ (j : Nat) (sb : SB) (md : Md), bs[j]? = some (sb, md) → sb ≠ .hole ∧ sb ≠ .dead
  ent : ∀ (j : Nat) (sb : SB) (md : Md), bs[j]? = some (sb, md) → ∃ lb v, hat L j = .live lb md ∧ vat vs j = some v ∧ Seen m H (vat vs) lb md v
  hs' : Sim ml' L' w'
  tr : Tr ml L w ml' L' w'
  back : BackOk H vs (slOk H vs bs) bs.length q bs L' 0 D
  fresh : ∀ d ∈ D, q ≤ d.1 → hkn H d.1 = false
  nosub : ∀ (j b off len : Nat), vat vs j = some (.sub b off len) → ∀ sb, bs[j]? ≠ some (sb, .own)

def mBack (m ml' : Map) (nL nL' q : Nat) : Map := fun b => if q ≤ b ∧ b - q < nL' - nL then ml' (nL + (b - q)) else m b

theorem Ret.known (h : Ret m ml ml' H L L' w w' vs q bs D) {j b : Nat} {v : View} (hj : j < bs.length) (hv : vat vs j = some v) (hb : vId v = some b) : ∃ gb md0 sb md lb, hget H b = some (gb, md0) ∧ bs[j]? = some (sb, md) ∧ hat L j = .live lb md ∧ Seen m H (vat vs) lb md v ∧ ml j = vP m H (isOwn md) v := by
  have hbs : bs[j]? = some bs[j] := by simp [hj]
  generalize hbe : bs[j] = x at hbs
  obtain ⟨sb, md⟩ := x
  obtain ⟨lb, v', e1, e2, e3⟩ := h.ent j sb md hbs
  rw [hv] at e2
  cases e2
  have hne : v ≠ .ph := by rintro rfl; cases hb
  obtain ⟨gb, md0, k1, k2, k3⟩ := e3.at_ hne
  obtain ⟨b', bk, i1, i2⟩ := vB_id k1
  rw [hb] at i1
  cases i1
  obtain ⟨v2, g1, g2, g3⟩ := h.sm.seen j lb md (hget_of_live e1)
  rw [hv] at g1
  cases g1
  exact ⟨bk, md0, sb, md, lb, i2, hbs, e1, e3, g3⟩

theorem Ret.viewed (h : Ret m ml ml' H L L' w w' vs q bs D) {j b : Nat} {e : Ent} (hb : Back H vs (slOk H vs bs) bs.length q bs L' j b e) (hj : j < bs.length) : ∃ v sb md, bs[j]? = some (sb, md) ∧ md ≠ .ro ∧ vat vs j = some v ∧ vId v = some b ∧ b < q ∧ hkn H b = true := by
  have main : ∃ v sb md, bs[j]? = some (sb, md) ∧ sb ≠ .hole ∧ sb ≠ .dead ∧ md ≠ .ro ∧ vat vs j = some v ∧ vId v = some b := by
    cases hb with
    | new lb h1 => omega
    | newDead h1 => omega
    | full b sb md mdl md0 lb gb h1 h2 h3 h4 h5 h6 => exact ⟨_, sb, md, h2, h3, h4, h5, h6, rfl⟩
    | fullDead b sb md h1 h2 h3 h4 h5 h6 => exact ⟨_, sb, md, h2, h3, h4, h5, h6, rfl⟩
    | sub b off len sb md mdl md0 lb gb nb h1 h2 h3 h4 h5 h6 => exact ⟨_, sb, md, h2, h3, h4, h5, h6, rfl⟩
    | el b i fo n n' sb md mdl md0 l gb nb h1 h2 h3 h4 h5 h6 => exact ⟨_, sb, md, h2, h3, h4, h5, h6, rfl⟩
  obtain ⟨v, sb, md, h1, h2, h3, h4, h5, h6⟩ := main
  obtain ⟨gb, md0, sb', md', lb, k1, _⟩ := h.known hj h5 h6
  have hk := hget_kn k1
  refine ⟨v, sb, md, h1, h4, h5, h6, ?_, hk⟩
  apply Classical.byContradiction
  intro hn
  obtain ⟨e', he'⟩ := h.back.old j sb md b v (Nat.zero_le _) hj h1 h2 h3 h4 h5 h6
  have := h.fresh _ he' (by omega)
  rw [hk] at this
  cases this

theorem Ret.one (h : Ret m ml ml' H L L' w w' vs q bs D) {j j' b : Nat} {e e' : Ent} (hb : Back H vs (slOk H vs bs) bs.length q bs L' j b e) (hb' : Back H vs (slOk H vs bs) bs.length q bs L' j' b e') : j = j' ∧ e = e' := by
  have hjj : j = j' := by
    by_cases c : j < bs.length
    · obtain ⟨v, sb, md, h1, h2, h3, h4, h5, _⟩ := h.viewed hb c
      by_cases c' : j' < bs.length
      · obtain ⟨v', sb', md', h1', h2', h3', h4', h5', _⟩ := h.viewed hb' c'
        apply Classical.byContradiction
        intro hne
        obtain ⟨lb, u, e1, e2, e3⟩ := h.ent j sb md h1
        obtain ⟨lb', u', e1', e2', e3'⟩ := h.ent j' sb' md' h1'
        exact h2 (h.sm.apart j j' lb md lb' md' v v' b (hget_of_live e1) (hget_of_live e1') hne h3 h3' h4 h4').1
      · cases hb' with
        | new => omega
        | newDead => omega
        | full _ _ _ _ _ _ _ h1 => omega
        | fullDead _ _ _ h1 => omega
        | sub _ _ _ _ _ _ _ _ _ _ h1 => omega
        | el _ _ _ _ _ _ _ _ _ _ _ _ h1 => omega
    · by_cases c' : j' < bs.length
      · obtain ⟨v', sb', md', h1', h2', h3', h4', h5', _⟩ := h.viewed hb' c'
        cases hb with
        | new => omega
        | newDead => omega
        | full _ _ _ _ _ _ _ h1 => omega
        | fullDead _ _ _ h1 => omega
        | sub _ _ _ _ _ _ _ _ _ _ h1 => omega
        | el _ _ _ _ _ _ _ _ _ _ _ _ h1 => omega
      · have e1 : b = q + (j - bs.length) := by
          cases hb with
          | new => rfl
          | newDead => rfl
          | full _ _ _ _ _ _ _ h1 => omega
          | fullDead _ _ _ h1 => omega
          | sub _ _ _ _ _ _ _ _ _ _ h1 => omega
          | el _ _ _ _ _ _ _ _ _ _ _ _ h1 => omega
        have e2 : b = q + (j' - bs.length) := by
          cases hb' with
          | new => rfl
          | newDead => rfl
          | full _ _ _ _ _ _ _ h1 => omega
          | fullDead _ _ _ h1 => omega
          | sub _ _ _ _ _ _ _ _ _ _ h1 => omega
          | el _ _ _ _ _ _ _ _ _ _ _ _ h1 => omega
        omega
  subst hjj
  refine ⟨rfl, ?_⟩
  cases hb with
  | new lb h1 h2 => cases hb' with
    | new lb' _ h2' => rw [h2] at h2'; cases h2'; rfl
    | newDead _ h2' => rw [h2] at h2'; cases h2'
    | full => omega
    | fullDead => omega
    | sub => omega
    | el => omega
  | newDead h1 h2 => cases hb' with
    | new lb' _ h2' => rw [h2] at h2'; cases h2'
    | newDead _ h2' => rfl
    | full => omega
    | fullDead => omega
    | sub => omega
    | el => omega
  | full _ sb md mdl md0 lb gb h1 h2 h3 h4 h5 h6 h7 h8 => cases hb' with
    | new => omega
    | newDead => omega
    | full _ sb' md' mdl' md0' lb' gb' h1' h2' h3' h4' h5' h6' h7' h8' => rw [h7] at h7'; cases h7'; rw [h8] at h8'; cases h8'; rfl
    | fullDead _ sb' md' h1' h2' h3' h4' h5' h6' h7' => rw [h7] at h7'; cases h7'
    | sub _ _ _ _ _ _ _ _ _ _ _ _ _ _ _ h6' => rw [h6] at h6'; cases h6'
    | el _ _ _ _ _ _ _ _ _ _ _ _ _ _ _ _ _ h6' => rw [h6] at h6'; cases h6'
  | fullDead _ sb md h1 h2 h3 h4 h5 h6 h7 => cases hb' with
    | new => omega
    | newDead => omega
    | full _ sb' md' mdl' md0' lb' gb' h1' h2' h3' h4' h5' h6' h7' h8' => rw [h7] at h7'; cases h7'
    | fullDead => rfl
    | sub _ _ _ _ _ _ _ _ _ _ _ _ _ _ _ h6' => rw [h6] at h6'; cases h6'
    | el _ _ _ _ _ _ _ _ _ _ _ _ _ _ _ _ _ h6' => rw [h6] at h6'; cases h6'
  | sub _ off len sb md mdl md0 lb gb nb h1 h2 h3 h4 h5 h6 h7 h8 h9 => cases hb' with
    | new => omega
    | newDead => omega
    | full _ _ _ _ _ _ _ _ _ _ _ _ h6' => rw [h6] at h6'; cases h6'
    | fullDead _ _ _ _ _ _ _ _ h6' => rw [h6] at h6'; cases h6'
    | sub _ _ _ _ _ _ _ _ _ _ h1' h2' h3' h4' h5' h6' h7' h8' h9' => rw [h6] at h6'; cases h6'; rw [h7] at h7'; cases h7'; rw [h8] at h8'; cases h8'; rw [h9] at h9'; cases h9'; rfl
    | el _ _ _ _ _ _ _ _ _ _ _ _ _ _ _ _ _ h6' => rw [h6] at h6'; cases h6'
  | el _ i fo n n' sb md mdl md0 l gb nb h1 h2 h3 h4 h5 h6 h7 h8 h9 => cases hb' with
    | new => omega
    | newDead => omega
    | full _ _ _ _ _ _ _ _ _ _ _ _ h6' => rw [h6] at h6'; cases h6'
    | fullDead _ _ _ _ _ _ _ _ h6' => rw [h6] at h6'; cases h6'
    | sub _ _ _ _ _ _ _ _ _ _ _ _ _ _ _ h6' => rw [h6] at h6'; cases h6'
    | el _ _ _ _ _ _ _ _ _ _ _ _ h1' h2' h3' h4' h5' h6' h7' h8' h9' => rw [h6] at h6'; cases h6'; rw [h7] at h7'; cases h7'; rw [h8] at h8'; cases h8'; rw [h9] at h9'; cases h9'; rfl

/-- what the great heap says behind it -/
theorem Ret.hat_in (h : Ret m ml ml' H L L' w w' vs q bs D) {b : Nat} {e : Ent} (hm : (b, e) ∈ D) : ∃ j e', Back H vs (slOk H vs bs) bs.length q bs L' j b e' ∧ hat (hput H D) b = e' := by
  obtain ⟨e', he'⟩ := dlook_of_mem hm
  obtain ⟨j, _, hb⟩ := h.back.mem b e' (dlook_mem he')
  exact ⟨j, e', hb, by rw [hat_hput, he']; rfl⟩

theorem Ret.hat_out (_h : Ret m ml ml' H L L' w w' vs q bs D) {b : Nat} (hm : ∀ e, (b, e) ∉ D) : hat (hput H D) b = hat H b := by
  have : dlook D b = none := by
    rw [dlook_none]
    intro hc
    obtain ⟨d, hd, rfl⟩ := List.mem_map.1 hc
    exact hm d.2 hd
  rw [hat_hput, this]; rfl

theorem Ret.map_old (h : Ret m ml ml' H L L' w w' vs q bs D) {b : Nat} (hk : hkn H b = true) : mBack m ml' bs.length L'.length q b = m b := by
  unfold mBack
  rw [if_neg]
  rintro ⟨h1, h2⟩
  obtain ⟨e, he⟩ := h.back.new (bs.length + (b - q)) (Nat.zero_le _) (by omega) (by omega)
  have := h.fresh _ he (by simp only; omega)
  simp only at this
  rw [show q + (bs.length + (b - q) - bs.length) = b by omega, hk] at this
  cases this

theorem Ret.map_new (_h : Ret m ml ml' H L L' w w' vs q bs D) {j : Nat} (h1 : bs.length ≤ j) (h2 : j < L'.length) : mBack m ml' bs.length L'.length q (q + (j - bs.length)) = ml' j := by
  unfold mBack
  rw [if_pos (by omega)]
  congr 1
  omega

/-- what a place under a view has become -/
theorem Ret.stay (h : Ret m ml ml' H L L' w w' vs q bs D) {j : Nat} {lb lb' : Blk} {md md' : Md} (h1 : hat L j = .live lb md) (h2 : hget L' j = some (lb', md')) : md' = md ∧ lb'.num = lb.num ∧ lb'.str = lb.str ∧ ml' j = ml j := by
  obtain ⟨bk, k1, k2, k3, k4⟩ := h.tr.le.at_ j lb' md' (hget_kn (hget_of_live h1)) h2
  rw [hget_of_live h1] at k1
  cases k1
  exact ⟨rfl, k2.symm, k3.symm, k4⟩

/-- one that turned through a view: its shape is the same -/
theorem Ret.shape (h : Ret m ml ml' H L L' w w' vs q bs D) {j b : Nat} {nb gb : Blk} {md md0 : Md} (hb : Back H vs (slOk H vs bs) bs.length q bs L' j b (.live nb md)) (hj : j < bs.length) (hg : hget H b = some (gb, md0)) : md = md0 ∧ nb.num = gb.num ∧ nb.str = gb.str ∧ nb.ok ∧
    ∃ lb mdl, hget L' j = some (lb, mdl) ∧ (ml' j).1 = (m b).1 ∧ ∀ i fo, i < gb.num → fo < gb.str → (∃ i' fo', i' < lb.num ∧ fo' < lb.str ∧ (m b).2.1 + (i * gb.str + fo) = (ml' j).2.1 + (i' * lb.str + fo') ∧ nb.ld i fo = (gB vs (slOk H vs bs) bs.length q lb).ld i' fo') ∨
      (¬ ((ml' j).2.1 ≤ (m b).2.1 + (i * gb.str + fo) ∧ (m b).2.1 + (i * gb.str + fo) < (ml' j).2.1 + (ml' j).2.2) ∧ nb.ld i fo = gb.ld i fo) := by
  cases hb with
  | new => omega
  | full _ sb md1 mdl md0' lb gb' h1 h2 h3 h4 h5 h6 h7 h8 =>
    rw [hg] at h8
    cases h8
    obtain ⟨gb1, md1', sb', md', lb0, k1, k2, k3, k4, k5⟩ := h.known hj h6 rfl
    obtain ⟨s1, s2, s3, s4⟩ := h.stay k3 (hget_of_live h7)
    obtain ⟨gb2, md2, r1, r2, r3⟩ := k4.at_ (by simp)
    have r1' : hget H b = some (gb2, md2) := r1
    rw [hg] at r1'
    cases r1'
    obtain ⟨n1, n2⟩ := r3.num
    obtain ⟨g1, g2⟩ := gB_num vs (slOk H vs bs) bs.length q lb
    have hlok := (h.hs'.blk j lb mdl (hget_of_live h7)).1
    refine ⟨rfl, by omega, by omega, gB_ok _ _ _ _ hlok, lb, mdl, hget_of_live h7, ?_, fun i fo hi hf => .inl ⟨i, fo, by omega, by omega, ?_, rfl⟩⟩
    · rw [s4, k5]; simp [vP, hg]
    · rw [s4, k5, s3, n2]; simp [vP, hg]
  | sub _ off len sb md1 mdl md0' lb gb' nb' h1 h2 h3 h4 h5 h6 h7 h8 h9 =>
    rw [hg] at h8
    cases h8
    obtain ⟨gb1, md1', sb', md', lb0, k1, k2, k3, k4, k5⟩ := h.known hj h6 rfl
    obtain ⟨s1, s2, s3, s4⟩ := h.stay k3 (hget_of_live h7)
    obtain ⟨gb2, md2, r1, r2, r3⟩ := k4.at_ (by simp)
    have hgok := (h.hs.blk b gb _ hg).1
    have hlok := (h.hs'.blk j lb mdl (hget_of_live h7)).1
    simp only [vB, hg] at r1
    cases r1
    obtain ⟨val, hval⟩ := k4.ok
    have hle : off + len ≤ gb.num := by
      cases hval with
      | part _ _ _ a n cap hk hh => exact (hh _ _ hg).1
    obtain ⟨t0, t1, t2, t3⟩ := sub_ld hle rfl hgok
    obtain ⟨n1, n2⟩ := r3.num
    obtain ⟨g1, g2⟩ := gB_num vs (slOk H vs bs) bs.length q lb
    obtain ⟨p1, p2, p3, p4, p5⟩ := putSub_spec h9 (by omega) hgok (gB_ok _ _ _ _ hlok)
    have hno : isOwn md' = false := by cases md' <;> first | rfl | exact absurd k2 (h.nosub j b off len h6 sb')
    have hplace : ml' j = ((m b).1, (m b).2.1 + off * gb.str, len * gb.str) := by rw [s4, k5]; simp only [vP, hg, hno]
    refine ⟨rfl, p1, p2, p4, lb, mdl, hget_of_live h7, by rw [hplace], fun i fo hi hf => ?_⟩
    rw [p5 i fo hi hf, hplace]
    by_cases hc : off ≤ i ∧ i < off + (gB vs (slOk H vs bs) bs.length q lb).num
    · left
      rw [if_pos hc]
      refine ⟨i - off, fo, by omega, by omega, ?_, rfl⟩
      have e1 : i * gb.str = off * gb.str + (i - off) * gb.str := by rw [← Nat.add_mul]; congr 1; omega
      have e2 : lb.str = gb.str := by omega
      rw [e2]
      simp only
      omega
    · right
      rw [if_neg hc]
      refine ⟨?_, rfl⟩
      simp only
      rintro ⟨c1, c2⟩
      apply hc
      constructor
      · apply Classical.byContradiction
        intro hlt
        have : (i + 1) * gb.str ≤ off * gb.str := Nat.mul_le_mul_right _ (by omega)
        rw [Nat.add_mul] at this
        omega
      · apply Classical.byContradiction
        intro hge
        have : (off + len) * gb.str ≤ i * gb.str := Nat.mul_le_mul_right _ (by omega)
        rw [Nat.add_mul] at this
        omega
  | el _ i0 f0 n n' sb md1 mdl md0' l gb' nb' h1 h2 h3 h4 h5 h6 h7 h8 h9 =>
    rw [hg] at h8
    cases h8
    obtain ⟨gb1, md1', sb', md', lb0, k1, k2, k3, k4, k5⟩ := h.known hj h6 rfl
    obtain ⟨s1, s2, s3, s4⟩ := h.stay k3 (hget_of_live h7)
    obtain ⟨gb2, md2, r1, r2, r3⟩ := k4.at_ (by simp)
    have hgok := (h.hs.blk b gb _ hg).1
    have hlok := (h.hs'.blk j _ mdl (hget_of_live h7)).1
    simp only [vB, hg] at r1
    split at r1
    · rename_i hcond
      split at r1
      · rename_i l0 hl0
        cases r1
        obtain ⟨val, hval⟩ := k4.ok
        have hi0 : i0 < gb.num ∧ f0 < gb.str := by
          cases hval with
          | ptr _ _ _ a hk hh => exact ⟨(hh _ _ hg).1, (hh _ _ hg).2.1⟩
        obtain ⟨cs, e1, e2, e3, e4⟩ := ldn_sound h.hs hg hi0.1 n f0 l0 hcond.2 hl0
        obtain ⟨n1, n2⟩ := r3.num
        have hn : n' = n := by
          have : (Blk.vals n' l).str = (Blk.vals n l0).str := by omega
          exact this
        subst hn
        have hnum0 : (Blk.vals n' l0).num = 1 := by simp only [Blk.num, e2]; exact Nat.div_self hcond.1
        have hlen : l.length = n' := by
          have h1' : (Blk.vals n' l).num = 1 := by omega
          have hd : n' * (l.length / n') = l.length := Nat.mul_div_cancel' (Nat.dvd_of_mod_eq_zero hlok.2)
          simp only [Blk.num] at h1'
          rw [h1', Nat.mul_one] at hd
          exact hd.symm
        have hgl := gVL_length vs (slOk H vs bs) bs.length q l
        obtain ⟨p1, p2, p3, p4, p5⟩ := stn_sound _ _ h9 hgok hi0.1 (by omega)
        have hplace : ml' j = ((m b).1, (m b).2.1 + (i0 * gb.str + f0), n') := by rw [s4, k5]; simp only [vP, hg]
        refine ⟨rfl, p1, p2, p3, _, mdl, hget_of_live h7, by rw [hplace], fun i fo hi hf => ?_⟩
        rw [p5 i fo hi hf, hplace]
        by_cases hc : i = i0 ∧ f0 ≤ fo ∧ fo < f0 + (gVL vs (slOk H vs bs) bs.length q l).length
        · left
          rw [if_pos hc]
          obtain ⟨rfl, c1, c2⟩ := hc
          refine ⟨0, fo - f0, by omega, ?_, ?_, ?_⟩
          · show fo - f0 < n'
            omega
          · simp only [Nat.zero_mul, Nat.zero_add]
            omega
          · simp only [gB, Blk.ld, Nat.zero_mul, Nat.zero_add]
        · right
          rw [if_neg hc]
          refine ⟨?_, rfl⟩
          simp only
          rintro ⟨c1, c2⟩
          apply hc
          have e1 : i * gb.str + fo = i0 * gb.str + (i * gb.str + fo - i0 * gb.str) := by omega
          obtain ⟨q1, q2⟩ := pair_eq hf (show i * gb.str + fo - i0 * gb.str < gb.str by omega) e1
          subst q1
          exact ⟨rfl, by omega, by omega⟩
      · cases r1
    · cases r1

end
end Go.Ab
end

section
/- Behind a call: memory, and what it answers. No condition. -/
namespace Go.Ab
open Go

section
variable {m ml ml' : Map} {H L L' : Heap} {w w' : World} {vs : Vs} {q : Nat} {bs : List (SB × Md)} {D : Delta}

theorem Ret.old_known (h : Ret m ml ml' H L L' w w' vs q bs D) {b : Nat} (hk : hkn H b = true) : hkn (hput H D) b = true := by
  by_cases hm : ∃ e, (b, e) ∈ D
  · obtain ⟨e, hm⟩ := hm
    obtain ⟨j, e', hb, he⟩ := h.hat_in hm
    unfold hkn
    rw [he]
    cases hb <;> rfl
  · rw [hkn_of_hat (h.hat_out fun e he => hm ⟨e, he⟩)]
    exact hk

theorem Ret.le (h : Ret m ml ml' H L L' w w' vs q bs D) : Le m H (mBack m ml' bs.length L'.length q) (hput H D) where
  kn b hk := h.old_known hk
  at_ b bk md hk hg := by
    rw [h.map_old hk]
    have hl := hat_of_hget hg
    by_cases hm : ∃ e, (b, e) ∈ D
    · obtain ⟨e, hm⟩ := hm
      obtain ⟨j, e', hb, he⟩ := h.hat_in hm
      rw [hl] at he
      subst he
      by_cases hj : j < bs.length
      · obtain ⟨v, sb, md1, h1, h2, h3, h4, h5, _⟩ := h.viewed hb hj
        obtain ⟨gb, md0, _, _, _, k1, _⟩ := h.known hj h3 h4
        obtain ⟨s1, s2, s3, s4, _⟩ := h.shape hb hj k1
        subst s1
        exact ⟨gb, k1, s2.symm, s3.symm, rfl⟩
      · exfalso
        cases hb with
        | new lb h1 h2 =>
          obtain ⟨e', he'⟩ := h.back.new j (Nat.zero_le _) (by omega) (by
            apply Classical.byContradiction
            intro hn
            rw [hat_len L' j (by omega)] at h2
            cases h2)
          have := h.fresh _ he' (by simp only; omega)
          simp only at this
          rw [hk] at this
          cases this
        | full => omega
        | sub => omega
        | el => omega
    · rw [hget_of_hat (h.hat_out fun e he => hm ⟨e, he⟩)] at hg
      exact ⟨bk, hg, rfl, rfl, rfl⟩

/-- what a place under a view says behind the call -/
theorem Ret.after (h : Ret m ml ml' H L L' w w' vs q bs D) {j b : Nat} {v : View} (hj : j < bs.length) (hv : vat vs j = some v) (hb : vId v = some b) {bk : Blk} {md : Md} (hg : hget (hput H D) b = some (bk, md)) :
    ∃ gb md0 lb0 lb mdl, hget H b = some (gb, md0) ∧ bk.num = gb.num ∧ bk.str = gb.str ∧ md = md0 ∧ mBack m ml' bs.length L'.length q b = m b ∧ hat L j = .live lb0 mdl ∧ hget L' j = some (lb, mdl) ∧ lb.num = lb0.num ∧ lb.str = lb0.str ∧ ml' j = vP m H (isOwn mdl) v ∧ Seen m H (vat vs) lb0 mdl v := by
  obtain ⟨gb, md0, sb, md1, lb0, k1, k2, k3, k4, k5⟩ := h.known hj hv hb
  obtain ⟨bk0, q1, q2, q3, q4⟩ := h.le.at_ b bk md (hget_kn k1) hg
  rw [k1] at q1
  cases q1
  have hlive : ∃ lb mdl, hat L' j = .live lb mdl := by
    obtain ⟨n1, n2⟩ := h.live j sb md1 k2
    by_cases hro : md1 = .ro
    · subst hro
      exact h.back.ro j sb (Nat.zero_le _) hj k2 n1 n2
    · obtain ⟨e, he⟩ := h.back.old j sb md1 b v (Nat.zero_le _) hj k2 n1 n2 hro hv hb
      obtain ⟨j', e', hbk, hh⟩ := h.hat_in he
      rw [hat_of_hget hg] at hh
      subst hh
      have hj' : j' < bs.length := by
        apply Classical.byContradiction
        intro hn
        cases hbk with
        | new lb h1 h2 =>
          obtain ⟨e', he'⟩ := h.back.new j' (Nat.zero_le _) (by omega) (by
            apply Classical.byContradiction
            intro hn
            rw [hat_len L' j' (by omega)] at h2
            cases h2)
          have := h.fresh _ he' (by simp only; omega)
          simp only at this
          rw [hget_kn k1] at this
          cases this
        | full => omega
        | sub => omega
        | el => omega
      obtain ⟨v', sb', md', r1, r2, r3, r4, _⟩ := h.viewed hbk hj'
      have hjj : j' = j := by
        apply Classical.byContradiction
        intro hne
        obtain ⟨lb', u', e1', e2', e3'⟩ := h.ent j' sb' md' r1
        exact r2 (h.sm.apart j' j lb' md' lb0 md1 v' v b (hget_of_live e1') (hget_of_live k3) hne r3 hv r4 hb).1
      subst hjj
      obtain ⟨_, _, _, _, lb, mdl, s5, _⟩ := h.shape hbk hj' k1
      exact ⟨lb, mdl, hat_of_hget s5⟩
  obtain ⟨lb, mdl, hl⟩ := hlive
  obtain ⟨s1, s2, s3, s4⟩ := h.stay k3 (hget_of_live hl)
  subst s1
  exact ⟨gb, md, lb0, lb, mdl, k1, q2.symm, q3.symm, rfl, q4, k3, hget_of_live hl, s2, s3, by rw [s4, k5], k4⟩

theorem Ret.new_known (h : Ret m ml ml' H L L' w w' vs q bs D) {j : Nat} (h1 : bs.length ≤ j) (hk : hkn L' j = true) : hkn (hput H D) (q + (j - bs.length)) = true ∧ mBack m ml' bs.length L'.length q (q + (j - bs.length)) = ml' j ∧
    ∀ bk md, hget (hput H D) (q + (j - bs.length)) = some (bk, md) → ∃ lb, hget L' j = some (lb, md) ∧ bk = gB vs (slOk H vs bs) bs.length q lb ∧ md = .own := by
  have hj : j < L'.length := by
    apply Classical.byContradiction
    intro hn
    rw [fresh_ge (by omega)] at hk
    cases hk
  obtain ⟨e, he⟩ := h.back.new j (Nat.zero_le _) h1 hj
  obtain ⟨j', e', hb, hh⟩ := h.hat_in he
  have hj' : ¬ j' < bs.length := by
    intro hlt
    obtain ⟨_, _, _, _, _, _, _, hlt2, _⟩ := h.viewed hb hlt
    omega
  have hjj : j' = j := by
    generalize hx : q + (j - bs.length) = x at hb
    cases hb with
    | new => omega
    | newDead => omega
    | full => omega
    | fullDead => omega
    | sub => omega
    | el => omega
  subst hjj
  refine ⟨?_, h.map_new h1 hj, fun bk md hg => ?_⟩
  · unfold hkn
    rw [hh]
    generalize hx : q + (j' - bs.length) = x at hb
    cases hb <;> rfl
  · rw [hat_of_hget hg] at hh
    subst hh
    generalize hx : q + (j' - bs.length) = x at hb
    cases hb with
    | new lb h1 h2 => exact ⟨lb, hget_of_live h2, rfl, rfl⟩
    | full => omega
    | sub => omega
    | el => omega

theorem blt_t {a b : Nat} (h : a < b) : Nat.blt a b = true := by simpa using h
theorem blt_f {a b : Nat} (h : ¬ a < b) : Nat.blt a b = false := by
  cases hb : Nat.blt a b with
  | false => rfl
  | true => exact absurd (by simpa using hb) h

theorem Ret.vr (h : Ret m ml ml' H L L' w w' vs q bs D) {x : AV} {v : Value} (hx : VR ml' L' x v) : VR (mBack m ml' bs.length L'.length q) (hput H D) (gV vs (slOk H vs bs) bs.length q x) v := by
  induction hx with
  | undef v => exact .undef v
  | bool b => exact .bool b
  | int k n => exact .int k n
  | str s => exact .str s
  | nilPtr => exact .nilPtr
  | nilSlice => exact .nilSlice
  | nilFunc => exact .nilFunc
  | nilIface => exact .nilIface
  | ptr j i fo a hb hv =>
    simp only [gV]
    by_cases hj : j < bs.length
    · rw [blt_t hj]
      simp only
      split
      · rename_i b hvj
        obtain ⟨gb, md0, _, _, _, k1, _⟩ := h.known hj hvj rfl
        refine .ptr b i fo a (h.old_known (hget_kn k1)) fun bk md hg => ?_
        obtain ⟨gb, md0, lb0, lb, mdl, r1, r2, r3, _, r4, r5, r6, r7, r8, r9, r10⟩ := h.after hj hvj rfl hg
        obtain ⟨e1, e2, rfl⟩ := hv lb mdl r6
        obtain ⟨gb2, md2, s1, s2, s3⟩ := r10.at_ (by simp)
        have s1' : hget H b = some (gb2, md2) := s1
        rw [r1] at s1'
        cases s1'
        obtain ⟨n1, n2⟩ := s3.num
        refine ⟨by omega, by omega, ?_⟩
        rw [r4, r9]
        simp only [vP, r1]
        rw [show bk.str = lb.str by omega]
      · rename_i b off len hvj
        obtain ⟨gb, md0, _, _, _, k1, _⟩ := h.known hj hvj rfl
        refine .ptr b (off + i) fo a (h.old_known (hget_kn k1)) fun bk md hg => ?_
        obtain ⟨gb, md0, lb0, lb, mdl, r1, r2, r3, _, r4, r5, r6, r7, r8, r9, r10⟩ := h.after hj hvj rfl hg
        obtain ⟨e1, e2, rfl⟩ := hv lb mdl r6
        obtain ⟨gb2, md2, s1, s2, s3⟩ := r10.at_ (by simp)
        simp only [vB, r1] at s1
        cases s1
        obtain ⟨val, hval⟩ := r10.ok
        have hle : off + len ≤ gb.num := by
          cases hval with
          | part _ _ _ a n cap hk hh => exact (hh _ _ r1).1
        obtain ⟨t0, t1, t2, t3⟩ := sub_ld hle rfl (h.hs.blk b gb _ r1).1
        obtain ⟨n1, n2⟩ := s3.num
        refine ⟨by omega, by omega, ?_⟩
        rw [r4, r9]
        simp only [vP, r1]
        rw [show lb.str = gb.str by omega, r3, Nat.add_mul]
        congr 1
        omega
      · rename_i b i0 f0 n hvj
        obtain ⟨gb, md0, _, _, _, k1, _⟩ := h.known hj hvj rfl
        refine .ptr b i0 (f0 + fo) a (h.old_known (hget_kn k1)) fun bk md hg => ?_
        obtain ⟨gb, md0, lb0, lb, mdl, r1, r2, r3, _, r4, r5, r6, r7, r8, r9, r10⟩ := h.after hj hvj rfl hg
        obtain ⟨e1, e2, rfl⟩ := hv lb mdl r6
        obtain ⟨gb2, md2, s1, s2, s3⟩ := r10.at_ (by simp)
        simp only [vB, r1] at s1
        split at s1
        · rename_i hcond
          split at s1
          · rename_i l0 hl0
            cases s1
            obtain ⟨val, hval⟩ := r10.ok
            have hi0 : i0 < gb.num ∧ f0 < gb.str := by
              cases hval with
              | ptr _ _ _ a hk hh => exact ⟨(hh _ _ r1).1, (hh _ _ r1).2.1⟩
            obtain ⟨cs, f1, f2, f3, f4⟩ := ldn_sound h.hs r1 hi0.1 n f0 l0 hcond.2 hl0
            obtain ⟨n1, n2⟩ := s3.num
            have hnum0 : (Blk.vals n l0).num = 1 := by simp only [Blk.num, f2]; exact Nat.div_self hcond.1
            have hstr0 : (Blk.vals n l0).str = n := rfl
            obtain rfl : i = 0 := by omega
            refine ⟨by omega, by omega, ?_⟩
            rw [r4, r9]
            simp only [vP, r1]
            rw [r3]
            congr 1
            omega
          · cases s1
        · cases s1
      · exact .undef _
    · rw [blt_f hj]
      simp only
      obtain ⟨c1, c2, c3⟩ := h.new_known (by omega) hb
      refine .ptr _ i fo a c1 fun bk md hg => ?_
      obtain ⟨lb, d1, rfl, d2⟩ := c3 bk md hg
      obtain ⟨e1, e2, e3⟩ := hv lb md d1
      obtain ⟨g1, g2⟩ := gB_num vs (slOk H vs bs) bs.length q lb
      rw [c2]
      exact ⟨by omega, by omega, by rw [g2]; exact e3⟩
  | whole j a n cap hb hv =>
    simp only [gV]
    by_cases hj : j < bs.length
    · rw [blt_t hj]
      simp only
      split
      · rename_i b hsl hvj
        obtain ⟨gb, md0, _, _, _, k1, _⟩ := h.known hj hvj rfl
        refine .whole b a n cap (h.old_known (hget_kn k1)) fun bk md hg => ?_
        obtain ⟨gb, md0, lb0, lb, mdl, r1, r2, r3, r3', r4, r5, r6, r7, r8, r9, r10⟩ := h.after hj hvj rfl hg
        obtain ⟨e1, e2, e3, e4⟩ := hv lb mdl r6
        obtain ⟨gb2, md2, s1, s2, s3⟩ := r10.at_ (by simp)
        have s1' : hget H b = some (gb2, md2) := s1
        rw [r1] at s1'
        cases s1'
        obtain ⟨n1, n2⟩ := s3.num
        have hcap : md = .own → mdl = .own := by
          intro e
          subst e
          have hbs : bs[j]? = some bs[j] := by simp [hj]
          generalize hbe : bs[j] = z at hbs
          obtain ⟨sb, md9⟩ := z
          obtain ⟨lb9, v9, f1, f2, f3⟩ := h.ent j sb md9 hbs
          rw [r5] at f1
          cases f1
          simp only [slOk, hvj, hbs, vId, r1, ← r3'] at hsl
          cases mdl <;> simp [isOwn] at hsl ⊢
        refine ⟨by omega, by omega, fun hm => ?_, fun hc => ?_⟩
        · have := e3 (hcap hm)
          rw [r9, hcap hm] at this
          simp only [vP, r1, isOwn] at this
          rw [r4, r3, show gb.str = lb.str by omega]
          exact this
        · rw [e4 hc, r9, r4]; simp [vP, r1]
      · rename_i b off len hsl hvj
        obtain ⟨gb, md0, _, _, _, k1, _⟩ := h.known hj hvj rfl
        refine .part b off len a n cap (h.old_known (hget_kn k1)) fun bk md hg => ?_
        obtain ⟨gb, md0, lb0, lb, mdl, r1, r2, r3, r3', r4, r5, r6, r7, r8, r9, r10⟩ := h.after hj hvj rfl hg
        obtain ⟨e1, e2, e3, e4⟩ := hv lb mdl r6
        obtain ⟨gb2, md2, s1, s2, s3⟩ := r10.at_ (by simp)
        simp only [vB, r1] at s1
        cases s1
        obtain ⟨val, hval⟩ := r10.ok
        have hle : off + len ≤ gb.num := by
          cases hval with
          | part _ _ _ a n cap hk hh => exact (hh _ _ r1).1
        obtain ⟨t0, t1, t2, t3⟩ := sub_ld hle rfl (h.hs.blk b gb _ r1).1
        obtain ⟨n1, n2⟩ := s3.num
        have hcap : md = .own → mdl = .own := by
          intro e
          subst e
          have hbs : bs[j]? = some bs[j] := by simp [hj]
          generalize hbe : bs[j] = z at hbs
          obtain ⟨sb, md9⟩ := z
          obtain ⟨lb9, v9, f1, f2, f3⟩ := h.ent j sb md9 hbs
          rw [r5] at f1
          cases f1
          simp only [slOk, hvj, hbs, vId, r1, ← r3'] at hsl
          cases mdl <;> simp [isOwn] at hsl ⊢
        refine ⟨by omega, by omega, by omega, fun hm => ?_, fun hc => ?_⟩
        · have hown := hcap hm
          subst hown
          have hbs : bs[j]? = some bs[j] := by simp [hj]
          generalize hbe : bs[j] = z at hbs
          obtain ⟨sb, md9⟩ := z
          obtain ⟨lb9, v9, f1, f2, f3⟩ := h.ent j sb md9 hbs
          rw [r5] at f1
          cases f1
          exact absurd hbs (h.nosub j b off len hvj sb)
        · rw [e4 hc, r9, r4, r3]; simp [vP, r1]
      · exact .undef _
    · rw [blt_f hj]
      simp only
      obtain ⟨c1, c2, c3⟩ := h.new_known (by omega) hb
      refine .whole _ a n cap c1 fun bk md hg => ?_
      obtain ⟨lb, d1, rfl, d2⟩ := c3 bk md hg
      obtain ⟨e1, e2⟩ := hv lb md d1
      obtain ⟨g1, g2⟩ := gB_num vs (slOk H vs bs) bs.length q lb
      refine ⟨by omega, ?_⟩
      unfold SlAt at e2 ⊢
      rw [c2, g1, g2]
      exact e2
  | seg b i fo len a n cap hb hv => exact .undef _
  | part j o l a n cap hb hv =>
    simp only [gV]
    by_cases hj : j < bs.length
    · rw [blt_t hj]
      simp only
      split
      · rename_i b hsl hvj
        obtain ⟨gb, md0, _, _, _, k1, _⟩ := h.known hj hvj rfl
        refine .part b o l a n cap (h.old_known (hget_kn k1)) fun bk md hg => ?_
        obtain ⟨gb, md0, lb0, lb, mdl, r1, r2, r3, r3', r4, r5, r6, r7, r8, r9, r10⟩ := h.after hj hvj rfl hg
        obtain ⟨e0, e1, e2, e3, e4⟩ := hv lb mdl r6
        obtain ⟨gb2, md2, s1, s2, s3⟩ := r10.at_ (by simp)
        have s1' : hget H b = some (gb2, md2) := s1
        rw [r1] at s1'
        cases s1'
        obtain ⟨n1, n2⟩ := s3.num
        have hcap : md = .own → mdl = .own := by
          intro e
          subst e
          have hbs : bs[j]? = some bs[j] := by simp [hj]
          generalize hbe : bs[j] = z at hbs
          obtain ⟨sb, md9⟩ := z
          obtain ⟨lb9, v9, f1, f2, f3⟩ := h.ent j sb md9 hbs
          rw [r5] at f1
          cases f1
          simp only [slOk, hvj, hbs, vId, r1, ← r3'] at hsl
          cases mdl <;> simp [isOwn] at hsl ⊢
        refine ⟨by omega, e1, e2, fun hm => ?_, fun hc => ?_⟩
        · have := e3 (hcap hm)
          rw [r9, hcap hm] at this
          simp only [vP, r1, isOwn] at this
          rw [r4, r3, show gb.str = lb.str by omega]
          exact this
        · rw [e4 hc, r9, r4, r3, show gb.str = lb.str by omega]; simp [vP, r1]
      · rename_i b off len hsl hvj
        obtain ⟨gb, md0, _, _, _, k1, _⟩ := h.known hj hvj rfl
        refine .part b (off + o) l a n cap (h.old_known (hget_kn k1)) fun bk md hg => ?_
        obtain ⟨gb, md0, lb0, lb, mdl, r1, r2, r3, r3', r4, r5, r6, r7, r8, r9, r10⟩ := h.after hj hvj rfl hg
        obtain ⟨e0, e1, e2, e3, e4⟩ := hv lb mdl r6
        obtain ⟨gb2, md2, s1, s2, s3⟩ := r10.at_ (by simp)
        simp only [vB, r1] at s1
        cases s1
        obtain ⟨val, hval⟩ := r10.ok
        have hle : off + len ≤ gb.num := by
          cases hval with
          | part _ _ _ a n cap hk hh => exact (hh _ _ r1).1
        obtain ⟨t0, t1, t2, t3⟩ := sub_ld hle rfl (h.hs.blk b gb _ r1).1
        obtain ⟨n1, n2⟩ := s3.num
        have hcap : md = .own → mdl = .own := by
          intro e
          subst e
          have hbs : bs[j]? = some bs[j] := by simp [hj]
          generalize hbe : bs[j] = z at hbs
          obtain ⟨sb, md9⟩ := z
          obtain ⟨lb9, v9, f1, f2, f3⟩ := h.ent j sb md9 hbs
          rw [r5] at f1
          cases f1
          simp only [slOk, hvj, hbs, vId, r1, ← r3'] at hsl
          cases mdl <;> simp [isOwn] at hsl ⊢
        refine ⟨by omega, e1, e2, fun hm => ?_, fun hc => ?_⟩
        · have hown := hcap hm
          subst hown
          have hbs : bs[j]? = some bs[j] := by simp [hj]
          generalize hbe : bs[j] = z at hbs
          obtain ⟨sb, md9⟩ := z
          obtain ⟨lb9, v9, f1, f2, f3⟩ := h.ent j sb md9 hbs
          rw [r5] at f1
          cases f1
          exact absurd hbs (h.nosub j b off len hvj sb)
        · rw [e4 hc, r9, r4, r3, show lb.str = gb.str by omega]
          simp [vP, r1, Nat.add_mul, Nat.add_assoc]
      · exact .undef _
    · rw [blt_f hj]
      simp only
      obtain ⟨c1, c2, c3⟩ := h.new_known (by omega) hb
      refine .part _ o l a n cap c1 fun bk md hg => ?_
      obtain ⟨lb, d1, rfl, d2⟩ := c3 bk md hg
      obtain ⟨e1, e2, e3⟩ := hv lb md d1
      obtain ⟨g1, g2⟩ := gB_num vs (slOk H vs bs) bs.length q lb
      refine ⟨by omega, e2, ?_⟩
      unfold SlAt at e3 ⊢
      rw [c2, g2]
      exact e3
  | func fn f c f' c' h1 h2 _ _ ih1 ih2 =>
    simp only [gV]
    refine .func fn _ _ f' c' (by rw [gVL_length]; exact h1) (by rw [gVL_length]; exact h2) (fun j x y hx hy => ?_) (fun j x y hx hy => ?_)
    · rw [gVL_at, Option.map_eq_some_iff] at hx
      obtain ⟨x', hx', rfl⟩ := hx
      exact ih1 j x' y hx' hy
    · rw [gVL_at, Option.map_eq_some_iff] at hx
      obtain ⟨x', hx', rfl⟩ := hx
      exact ih2 j x' y hx' hy
  | iface t x v _ ih => exact .iface t _ v ih
  | agg l cs h1 _ ih =>
    simp only [gV]
    refine .agg _ cs (by rw [gVL_length]; exact h1) fun j x y hx hy => ?_
    rw [gVL_at, Option.map_eq_some_iff] at hx
    obtain ⟨x', hx', rfl⟩ := hx
    exact ih j x' y hx' hy
  | tuple l cs h1 _ ih =>
    simp only [gV]
    refine .tuple _ cs (by rw [gVL_length]; exact h1) fun j x y hx hy => ?_
    rw [gVL_at, Option.map_eq_some_iff] at hx
    obtain ⟨x', hx', rfl⟩ := hx
    exact ih j x' y hx' hy

end
end Go.Ab
end

section
/- Behind a call: memory. No condition. -/
namespace Go.Ab
open Go

section
variable {m ml ml' : Map} {H L L' : Heap} {w w' : World} {vs : Vs} {q : Nat} {bs : List (SB × Md)} {D : Delta}

/-- a cell of ours that the call may write lies under a view of that block -/
theorem Ret.wr (h : Ret m ml ml' H L L' w w' vs q bs D) {x o : Nat} (hw : Wr ml L x o) : ∃ j v sb md lb b gb md0, bs[j]? = some (sb, md) ∧ md ≠ .ro ∧ vat vs j = some v ∧ vId v = some b ∧ hget H b = some (gb, md0) ∧ md0 ≠ .ro ∧ hat L j = .live lb md ∧ ml j = vP m H (isOwn md) v ∧
    (m b).1 = x ∧ (ml j).1 = x ∧ (ml j).2.1 ≤ o ∧ o < (ml j).2.1 + (ml j).2.2 ∧ (m b).2.1 ≤ (ml j).2.1 ∧ (ml j).2.1 + (ml j).2.2 ≤ (m b).2.1 + (m b).2.2 := by
  obtain ⟨j, lb, md, g1, g2, g3, g4, g5⟩ := hw
  have hj : j < bs.length := by
    apply Classical.byContradiction
    intro hn
    have := hat_of_hget g1
    rw [hat_len L j (by rw [h.len]; omega)] at this
    cases this
  have hbs : bs[j]? = some bs[j] := by simp [hj]
  generalize hbe : bs[j] = z at hbs
  obtain ⟨sb, md1⟩ := z
  obtain ⟨lb1, v, e1, e2, e3⟩ := h.ent j sb md1 hbs
  rw [hat_of_hget g1] at e1
  cases e1
  obtain ⟨v2, f1, f2, f3⟩ := h.sm.seen j lb md g1
  rw [e2] at f1
  cases f1
  by_cases hph : v = .ph
  · subst hph
    rw [f3] at g4 g5
    simp [vP] at g4 g5
  · obtain ⟨gb, md0, k1, k2, k3⟩ := e3.at_ hph
    obtain ⟨b, bk, i1, i2, i3, i4, i5⟩ := vP_in (md := md) h.hs k1 e3.ok
    rw [← f3] at i3 i4 i5
    exact ⟨j, v, sb, md, lb, b, bk, md0, hbs, g2, e2, i1, i2, mdFits_ro k2 g2, hat_of_hget g1, f3, by omega, g3, g4, g5, i4, i5⟩

theorem Ret.lt_len (h : Ret m ml ml' H L L' w w' vs q bs D) {j : Nat} {lb : Blk} {md : Md} (hl : hat L' j = .live lb md) : j < L'.length := by
  apply Classical.byContradiction
  intro hn
  rw [hat_len L' j (by omega)] at hl
  cases hl

/-- what the great heap's places are behind the call -/
theorem Ret.kinds (h : Ret m ml ml' H L L' w w' vs q bs D) {b : Nat} {bk : Blk} {md : Md} (hg : hget (hput H D) b = some (bk, md)) :
    (∃ j lb, bs.length ≤ j ∧ j < L'.length ∧ b = q + (j - bs.length) ∧ hat L' j = .live lb .own ∧ bk = gB vs (slOk H vs bs) bs.length q lb ∧ md = .own ∧ mBack m ml' bs.length L'.length q b = ml' j) ∨
    (∃ j gb, j < bs.length ∧ Back H vs (slOk H vs bs) bs.length q bs L' j b (.live bk md) ∧ hget H b = some (gb, md) ∧ mBack m ml' bs.length L'.length q b = m b) ∨
    ((∀ e, (b, e) ∉ D) ∧ hget H b = some (bk, md) ∧ mBack m ml' bs.length L'.length q b = m b) := by
  by_cases hm : ∃ e, (b, e) ∈ D
  · obtain ⟨e, hm⟩ := hm
    obtain ⟨j, e', hb, hh⟩ := h.hat_in hm
    rw [hat_of_hget hg] at hh
    subst hh
    by_cases hj : j < bs.length
    · right; left
      obtain ⟨v, sb, md1, h1, h2, h3, h4, h5, h6⟩ := h.viewed hb hj
      obtain ⟨gb, md0, _, _, _, k1, _⟩ := h.known hj h3 h4
      obtain ⟨s1, _⟩ := h.shape hb hj k1
      subst s1
      exact ⟨j, gb, hj, hb, k1, h.map_old h6⟩
    · left
      cases hb with
      | new lb h1 h2 =>
        have hlt := h.lt_len h2
        exact ⟨j, lb, h1, hlt, rfl, h2, rfl, rfl, h.map_new h1 hlt⟩
      | full => omega
      | sub => omega
      | el => omega
  · have ho := fun e he => hm ⟨e, he⟩
    rw [hget_of_hat (h.hat_out ho)] at hg
    exact .inr (.inr ⟨ho, hg, h.map_old (hget_kn hg)⟩)

/-- memory of a block: what stays of it -/
theorem Ret.cells (h : Ret m ml ml' H L L' w w' vs q bs D) {b : Nat} {gb : Blk} {md : Md} (hg : hget H b = some (gb, md)) (hp : 0 < (m b).2.2) :
    ∃ c c' e fr, w.heap[(m b).1]? = some (.cells c e fr) ∧ w'.heap[(m b).1]? = some (.cells c' e fr) ∧ c'.size = c.size ∧ ∀ o, ¬ Wr ml L (m b).1 o → c'[o]? = c[o]? := by
  obtain ⟨c, e, fr, g1, _⟩ := (h.hs.blk b gb md hg).2.2.2 hp
  rcases h.tr.frame (m b).1 (h.hs.lt hg hp) with hf | ⟨c1, c', e1, fr1, f1, f2, f3, f4⟩
  · exact ⟨c, c, e, fr, g1, by rw [hf]; exact g1, rfl, fun _ _ => rfl⟩
  · rw [g1] at f1
    cases f1
    exact ⟨c, c', e, fr, g1, f2, f3, f4⟩

theorem apart_of {p r : Nat × Nat × Nat} (h : ∀ o, p.1 = r.1 → p.2.1 ≤ o → o < p.2.1 + p.2.2 → r.2.1 ≤ o → o < r.2.1 + r.2.2 → False) : Ab.apart p r := by
  unfold Ab.apart
  by_cases h0 : p.2.2 = 0
  · exact .inl h0
  · by_cases h1 : r.2.2 = 0
    · exact .inr (.inl h1)
    · by_cases h2 : p.1 = r.1
      · right; right; right
        apply Classical.byContradiction
        intro hc
        by_cases h3 : p.2.1 ≤ r.2.1
        · exact h r.2.1 h2 h3 (by omega) (by omega) (by omega)
        · exact h p.2.1 h2 (by omega) (by omega) (by omega) (by omega)
      · exact .inr (.inr (.inl h2))

theorem Ret.sim (h : Ret m ml ml' H L L' w w' vs q bs D) : Sim (mBack m ml' bs.length L'.length q) (hput H D) w' where
  blk b bk md hg := by
    rcases h.kinds hg with ⟨j, lb, h1, h2, h3, h4, rfl, rfl, h5⟩ | ⟨j, gb, hj, hb, h3, h4⟩ | ⟨h1, h2, h3⟩
    · rw [h5]
      have hbr := h.hs'.blk j lb .own (hget_of_live h4)
      refine hbr.ren (gB_num _ _ _ _ _).1 (gB_num _ _ _ _ _).2 (gB_ok _ _ _ _ hbr.1) fun i fo x _ _ hx => ⟨_, gB_ld _ _ _ _ hx, fun v hv => h.vr hv⟩
    · rw [h4]
      obtain ⟨_, s2, s3, s4, lb, mdl, s5, s6, s7⟩ := h.shape hb hj h3
      obtain ⟨v, sb, md1, k1, k2, k3, k4, k5, k6⟩ := h.viewed hb hj
      refine (h.hs.blk b gb md h3).patch (h.hs'.blk j lb mdl s5) s2 s3 s4 (fun x v hx => hx.mono h.le) (fun x v hx => h.vr hx) s6 (fun hp => ?_) s7
      obtain ⟨c, c', e, fr, f1, f2, f3, f4⟩ := h.cells h3 hp
      refine ⟨c, c', e, fr, f1, f2, f3, fun o o1 o2 hn => f4 o fun hw => hn ?_⟩
      obtain ⟨j', v', sb', md', lb', b', gb', md0', r1, r2, r3, r4, r5, r6, r7, r8, r9, r10, r11, r12, r13, r14⟩ := h.wr hw
      have hbb : b' = b := by
        apply Classical.byContradiction
        intro hne
        have := h.hs.dis b' b _ _ _ _ r5 h3 hne (.inl r6)
        unfold Ab.apart at this
        omega
      subst hbb
      have hjj : j' = j := by
        apply Classical.byContradiction
        intro hne
        obtain ⟨lb2, u, e1, e2, e3⟩ := h.ent j sb md1 k1
        exact r2 (h.sm.apart j' j lb' md' lb2 md1 v' v b' (hget_of_live r7) (hget_of_live e1) hne r3 k3 r4 k4).1
      subst hjj
      obtain ⟨_, _, _, t4⟩ := h.stay r7 s5
      rw [t4]
      exact ⟨r11, r12⟩
    · rw [h3]
      refine (h.hs.blk b bk md h2).far (fun x v hx => hx.mono h.le) fun hp => ?_
      obtain ⟨c, c', e, fr, f1, f2, f3, f4⟩ := h.cells h2 hp
      refine .inr ⟨c, c', e, fr, f1, f2, f3, fun o o1 o2 => f4 o fun hw => ?_⟩
      obtain ⟨j', v', sb', md', lb', b', gb', md0', r1, r2, r3, r4, r5, r6, r7, r8, r9, r10, r11, r12, r13, r14⟩ := h.wr hw
      by_cases hne : b' = b
      · subst hne
        obtain ⟨n1, n2⟩ := h.live j' sb' md' r1
        obtain ⟨e, he⟩ := h.back.old j' sb' md' b' v' (Nat.zero_le _) (List.getElem?_eq_some_iff.1 r1).1 r1 n1 n2 r2 r3 r4
        exact h1 e he
      · have := h.hs.dis b' b _ _ _ _ r5 h2 hne (.inl r6)
        unfold Ab.apart at this
        omega
  dis b b' bk md bk' md' hg hg' hne hmm := by
    -- a new place and an old one
    have mixed : ∀ {b b' : Nat} {bk' : Blk} {md' : Md} {j : Nat} {lb : Blk}, bs.length ≤ j → hat L' j = .live lb .own → hget H b' = some (bk', md') → hget (hput H D) b' ≠ none → apart (ml' j) (m b') := by
      intro _ b' bk' md' j lb hj hl hg' hne'
      apply apart_of
      intro o e1 o1 o2 o3 o4
      have hw : Wr ml' L' (m b').1 o := ⟨j, lb, .own, hget_of_live hl, by simp, e1, o1, o2⟩
      rcases h.tr.own _ _ hw with hnew | hold
      · have := h.hs.lt hg' (by omega)
        omega
      · obtain ⟨j', v', sb', md2, lb', b2, gb', md0', r1, r2, r3, r4, r5, r6, r7, r8, r9, r10, r11, r12, r13, r14⟩ := h.wr hold
        have hj' := (List.getElem?_eq_some_iff.1 r1).1
        by_cases hbb : b2 = b'
        · subst hbb
          cases hgg : hget (hput H D) b2 with
          | none => exact hne' hgg
          | some z =>
            obtain ⟨nb, nmd⟩ := z
            obtain ⟨gb, md0, lb0, lb1, mdl, q1, q2, q3, _, q4, q5, q6, q7, q8, q9, q10⟩ := h.after hj' r3 r4 hgg
            have hd := h.hs'.dis j j' lb .own lb1 mdl (hget_of_live hl) q6 (by omega) (.inl (by simp))
            rw [r7] at q5
            cases q5
            rw [q9, ← r8] at hd
            unfold Ab.apart at hd
            omega
        · have := h.hs.dis b2 b' _ _ _ _ r5 hg' hbb (.inl r6)
          unfold Ab.apart at this
          omega
    rcases h.kinds hg with ⟨j, lb, h1, h2, h3, h4, rfl, rfl, h5⟩ | ⟨j, gb, hj, hb, h3, h4⟩ | ⟨h1, h2, h3⟩ <;>
      rcases h.kinds hg' with ⟨j', lb', h1', h2', h3', h4', rfl, rfl, h5'⟩ | ⟨j', gb', hj', hb', h3', h4'⟩ | ⟨h1', h2', h3'⟩
    · rw [h5, h5']
      exact h.hs'.dis j j' lb .own lb' .own (hget_of_live h4) (hget_of_live h4') (by omega) hmm
    · rw [h5, h4']
      exact mixed (b := b) h1 h4 h3' (by rw [hg']; simp)
    · rw [h5, h3']
      exact mixed (b := b) h1 h4 h2' (by rw [hg']; simp)
    · rw [h4, h5']
      exact (mixed (b := b') h1' h4' h3 (by rw [hg]; simp)).symm
    · rw [h4, h4']
      exact h.hs.dis b b' _ _ _ _ h3 h3' hne hmm
    · rw [h4, h3']
      exact h.hs.dis b b' _ _ _ _ h3 h2' hne hmm
    · rw [h3, h5']
      exact (mixed (b := b') h1' h4' h2 (by rw [hg]; simp)).symm
    · rw [h3, h4']
      exact h.hs.dis b b' _ _ _ _ h2 h3' hne hmm
    · rw [h3, h3']
      exact h.hs.dis b b' _ _ _ _ h2 h2' hne hmm

theorem Ret.trans (h : Ret m ml ml' H L L' w w' vs q bs D) : Tr m H w (mBack m ml' bs.length L'.length q) (hput H D) w' where
  le := h.le
  os := h.tr.os
  tape := h.tr.tape
  output := h.tr.output
  drawn := h.tr.drawn
  size := h.tr.size
  frame b hb := by
    rcases h.tr.frame b hb with hf | ⟨c, c', e, fr, f1, f2, f3, f4⟩
    · exact .inl hf
    · refine .inr ⟨c, c', e, fr, f1, f2, f3, fun o ho => f4 o fun hw => ho ?_⟩
      obtain ⟨j', v', sb', md', lb', b', gb', md0', r1, r2, r3, r4, r5, r6, r7, r8, r9, r10, r11, r12, r13, r14⟩ := h.wr hw
      exact ⟨b', gb', md0', r5, r6, r9, by omega, by omega⟩
  own x o hw := by
    obtain ⟨b, bk, md, g1, g2, g3, g4, g5⟩ := hw
    rcases h.kinds g1 with ⟨j, lb, h1, h2, h3, h4, rfl, rfl, h5⟩ | ⟨j, gb, hj, hb, h3, h4⟩ | ⟨h1, h2, h3⟩
    · rw [h5] at g3 g4 g5
      rcases h.tr.own x o ⟨j, lb, .own, hget_of_live h4, by simp, g3, g4, g5⟩ with k | k
      · exact .inl k
      · obtain ⟨j', v', sb', md', lb', b', gb', md0', r1, r2, r3, r4, r5, r6, r7, r8, r9, r10, r11, r12, r13, r14⟩ := h.wr k
        exact .inr ⟨b', gb', md0', r5, r6, r9, by omega, by omega⟩
    · rw [h4] at g3 g4 g5
      exact .inr ⟨b, gb, md, h3, g2, g3, g4, g5⟩
    · rw [h3] at g3 g4 g5
      exact .inr ⟨b, bk, md, h2, g2, g3, g4, g5⟩

end
end Go.Ab
end

section
/- A function by a plain function: calls of it. No condition. -/
namespace Go.Ab
open Go

def resA (P : Program) (s : St) : ResultVar → Option AV
  | .tmp t => some (tget s.tmps t)
  | .cell a t => match tget s.tmps a with
    | .ptr b i fo => match hget s.heap b, isAggT P t with
      | some (bk, _), some false => bk.ld i fo
      | some (bk, _), some true => match sizeT P t with
        | some n => if fo + n ≤ bk.str then (match ldn bk i fo n with | some l => some (.agg l) | none => none) else none
        | none => none
      | _, _ => none
    | _ => none

def resL (P : Program) (s : St) : List ResultVar → Option (List AV)
  | [] => some []
  | r :: rs => match resA P s r with
    | some x => (match resL P s rs with | some xs => some (x :: xs) | none => none)
    | none => none

def resS (P : Program) (rs : List ResultVar) (s : St) : Option AV :=
  match resL P s rs with
  | some [x] => some x
  | some l => some (.tuple l)
  | none => none

def resM (a : Act) : ResultVar → Sem Value
  | .tmp t => pure (a.tmps.getD t Go.undef)
  | .cell b t => do loadVar t (← asAddr (a.tmps.getD b Go.undef))

theorem results_eq (fn : Func) (a : Act) : results fn a.tmps = (do let vs ← fn.results.mapM (resM a); pure (if h : vs.size = 1 then vs[0] else .tuple vs)) := by
  unfold results
  congr 1

theorem resA_sound {P : Program} {m : Map} {s : St} {a : Act} {w : World} (h : At m s a w) {r : ResultVar} {x : AV} (hr : resA P s r = some x) :
    ∃ v, VR m s.heap x v ∧ (resM a r).run P w = .ok v w := by
  cases r with
  | tmp t =>
    simp only [resA, Option.some.injEq] at hr
    subst hr
    exact ⟨_, h.tr.at_ t, rfl⟩
  | cell b t =>
    simp only [resA] at hr
    split at hr
    · rename_i c i fo hc
      have hv := h.tr.at_ b
      rw [hc] at hv
      generalize ha : a.tmps.getD b Go.undef = va at hv
      split at hr
      · rename_i bk md hb hagg
        obtain ⟨v, g1, g2⟩ := (load_sound (P := P) h.sim hv hb).1 _ hagg hr
        refine ⟨v, g1, ?_⟩
        cases hv
        simp only [resM, ha, Sem.run_bind, asAddr, Sem.run_pure, Result.andThen_ok]
        simpa [Instr.loadAt, Instr.sureAddr, Sem.run_bind] using g2
      · rename_i bk md hb hagg
        split at hr
        · rename_i n hn
          split at hr
          · rename_i hle
            split at hr
            · rename_i l hl
              cases hr
              obtain ⟨cs, g1, g2, g3⟩ := (load_sound (P := P) h.sim hv hb).2 n l hagg hn hle hl
              refine ⟨.agg cs, .agg _ _ g1 g2, ?_⟩
              cases hv
              simp only [resM, ha, Sem.run_bind, asAddr, Sem.run_pure, Result.andThen_ok]
              simpa [Instr.loadAt, Instr.sureAddr, Sem.run_bind] using g3
            · cases hr
          · cases hr
        · cases hr
      · cases hr
    · cases hr

theorem resL_sound {P : Program} {m : Map} {s : St} {a : Act} {w : World} (h : At m s a w) : ∀ (rs : List ResultVar) (l : List AV), resL P s rs = some l →
    ∃ vs : List Value, l.length = vs.length ∧ (∀ (j : Nat) (x : AV) (v : Value), l[j]? = some x → vs[j]? = some v → VR m s.heap x v) ∧
      (rs.mapM (resM a)).run P w = .ok vs w
  | [], l, hr => by
    simp only [resL, Option.some.injEq] at hr
    subst hr
    exact ⟨[], rfl, fun j x v hx => by simp at hx, rfl⟩
  | r :: rs, l, hr => by
    simp only [resL] at hr
    split at hr
    · rename_i x hx
      split at hr
      · rename_i xs hxs
        cases hr
        obtain ⟨v, g1, g2⟩ := resA_sound h hx
        obtain ⟨vs, k1, k2, k3⟩ := resL_sound h rs xs hxs
        refine ⟨v :: vs, by simp [k1], fun j y u hy hu => ?_, ?_⟩
        · cases j with
          | zero => simp at hy hu; subst hy hu; exact g1
          | succ j => simp at hy hu; exact k2 j y u hy hu
        · rw [List.mapM_cons]
          simp only [Sem.run_bind, g2, Result.andThen_ok, k3, Sem.run_pure]
      · cases hr
    · cases hr

theorem resS_sound {P : Program} {m : Map} {s : St} {a : Act} {w : World} (h : At m s a w) {fn : Func} {x : AV} (hr : resS P fn.results.toList s = some x) : ∃ v, VR m s.heap x v ∧ (results fn a.tmps).run P w = .ok v w := by
  unfold resS at hr
  cases hl : resL P s fn.results.toList with
  | none => rw [hl] at hr; cases hr
  | some l =>
    obtain ⟨vs, k1, k2, k3⟩ := resL_sound h _ l hl
    have hrun : (results fn a.tmps).run P w = .ok (if h : vs.toArray.size = 1 then vs.toArray[0] else .tuple vs.toArray) w := by
      have hm : (fn.results.mapM (resM a)).run P w = .ok vs.toArray w := by
        rw [Array.mapM_eq_mapM_toList]
        rw [Sem.run_map, k3]
        rfl
      rw [results_eq]
      simp only [Sem.run_bind, hm, Result.andThen_ok, Sem.run_pure]
    rw [hl] at hr
    refine ⟨_, ?_, hrun⟩
    match l, vs, k1, k2, hr with
    | [y], [v], _, k2, hr =>
      simp only [Option.some.injEq] at hr
      subst hr
      exact k2 0 y v rfl rfl
    | [], [], _, k2, hr =>
      simp only [Option.some.injEq] at hr
      subst hr
      exact .tuple [] _ rfl fun j y u hy => by simp at hy
    | y :: y' :: l, v :: v' :: vs, k1, k2, hr =>
      simp only [Option.some.injEq] at hr
      subst hr
      have h1 : ¬ (v :: v' :: vs).toArray.size = 1 := by simp
      rw [dif_neg h1]
      exact .tuple _ _ (by simpa using k1) fun j y u hy hu => k2 j y u hy (by simpa using hu)

end Go.Ab
end

