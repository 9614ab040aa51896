/- Concrete runs: heaps that say the same of every cell. No condition. -/
import Derived.Test.YtnhbohcjmdfmiaaGreatC2
set_option linter.unusedVariables false
set_option linter.unusedSimpArgs false
namespace Go.Ab
open Go

def Blk.eqv (a b : Blk) : Prop := a.num = b.num ∧ a.str = b.str ∧ (a.ok → b.ok) ∧ ∀ i fo, i < a.num → fo < a.str → a.ld i fo = b.ld i fo
def Ent.eqv : Ent → Ent → Prop
  | .hole, .hole => True
  | .dead, .dead => True
  | .live a md, .live b md' => md = md' ∧ a.eqv b
  | _, _ => False

theorem Blk.eqv.refl (a : Blk) : a.eqv a := ⟨rfl, rfl, id, fun _ _ _ _ => rfl⟩
theorem Ent.eqv.refl (e : Ent) : e.eqv e := by cases e <;> first | trivial | exact ⟨rfl, .refl _⟩

def Heap.eqv (H K : Heap) : Prop := ∀ b, (hat H b).eqv (hat K b)

theorem Heap.eqv.get {H K : Heap} (h : H.eqv K) {b : Nat} {bk : Blk} {md : Md} (hg : hget K b = some (bk, md)) : ∃ bk0, hget H b = some (bk0, md) ∧ bk0.eqv bk := by
  have := h b
  unfold hget at hg ⊢
  generalize hat H b = x at this
  generalize hat K b = y at this hg
  cases y with
  | hole => cases hg
  | dead => cases hg
  | live bk' md' =>
    cases hg
    cases x with
    | hole => exact this.elim
    | dead => exact this.elim
    | live a md0 => exact ⟨a, by rw [this.1], this.2⟩

theorem Heap.eqv.kn {H K : Heap} (h : H.eqv K) (b : Nat) : hkn H b = hkn K b := by
  have := h b
  unfold hkn
  generalize hat H b = x at this
  generalize hat K b = y at this
  cases x <;> cases y <;> first | rfl | exact this.elim

theorem Le.eqv {m : Map} {H K : Heap} (h : H.eqv K) : Le m H m K :=
  ⟨fun b hb => by rw [← h.kn b]; exact hb, fun b bk' md' _ hg => by
    obtain ⟨bk, h1, h2⟩ := h.get hg
    exact ⟨bk, h1, h2.1, h2.2.1, rfl⟩⟩

theorem BR.eqv {m : Map} {H K : Heap} {w : World} (h : H.eqv K) {a b : Blk} (hab : a.eqv b) {md : Md} {p : Nat × Nat × Nat} (hb : BR m H a md p w) : BR m K b md p w := by
  obtain ⟨h1, h2, h3, h4⟩ := hb
  obtain ⟨e1, e2, e3, e4⟩ := hab
  refine ⟨e3 h1, by rw [← e1, ← e2]; exact h2, by rw [← e1, ← e2]; exact h3, fun hp => ?_⟩
  obtain ⟨c, e, fr, g1, g2, g3, g4, g5⟩ := h4 hp
  refine ⟨c, e, fr, g1, g2, g3, g4, fun i fo hi hf => ?_⟩
  rw [← e1] at hi
  rw [← e2] at hf
  obtain ⟨x, v, k1, k2, k3⟩ := g5 i fo hi hf
  exact ⟨x, v, by rw [← e4 i fo hi hf]; exact k1, by rw [← e2]; exact k2, k3.mono (Le.eqv h)⟩

theorem Sim.eqv {m : Map} {H K : Heap} {w : World} (h : H.eqv K) (hs : Sim m H w) : Sim m K w where
  blk b bk md hg := by
    obtain ⟨bk0, h1, h2⟩ := h.get hg
    exact (hs.blk b bk0 md h1).eqv h h2
  dis b b' bk md bk' md' hg hg' hne hmd := by
    obtain ⟨bk0, h1, _⟩ := h.get hg
    obtain ⟨bk1, h2, _⟩ := h.get hg'
    exact hs.dis b b' bk0 md bk1 md' h1 h2 hne hmd

theorem VR.eqv {m : Map} {H K : Heap} (h : H.eqv K) {x : AV} {v : Value} (hx : VR m H x v) : VR m K x v := hx.mono (Le.eqv h)

theorem Wr.eqv {m : Map} {H K : Heap} (h : H.eqv K) {x o : Nat} (hw : Wr m K x o) : Wr m H x o := by
  obtain ⟨b, bk, md, hg, q⟩ := hw
  obtain ⟨bk0, h1, _⟩ := h.get hg
  exact ⟨b, bk0, md, h1, q⟩

theorem Tr.eqv {m0 m : Map} {H0 H K : Heap} {w0 w : World} (h : H.eqv K) (ht : Tr m0 H0 w0 m H w) : Tr m0 H0 w0 m K w where
  le := ht.le.trans (Le.eqv h)
  os := ht.os
  tape := ht.tape
  output := ht.output
  drawn := ht.drawn
  size := ht.size
  frame := ht.frame
  own b o hw := ht.own b o (hw.eqv h)

/-- what a place of a concrete heap says -/
noncomputable def cellsBlk (w num d : Nat) (c : QT CV d) : Blk := .vals w ((List.range (num * w)).map fun j => (QT.get d j c).av)
noncomputable def intsBlk (k : IntKind) (num a : Nat) : Blk := .ints k ((List.range num).map fun i => dDec (dGet a i))
noncomputable def HE.ent : HE → Ent
  | .hole => .hole
  | .dead => .dead
  | .cells w num d c md _ => .live (cellsBlk w num d c) md
  | .ints k num a md _ => .live (intsBlk k num a) md
theorem hat_eq (H : Heap) (b : Nat) : hat H b = H[b]?.getD .hole := by
  induction H generalizing b with
  | nil => simp [hat]
  | cons x xs ih => cases b with
    | zero => simp [hat]
    | succ n => simp [hat, ih]
theorem absH_ex (T : HT) : ∃ H : Heap, ∀ b, hat H b = if b < 65536 then (QT.get 8 b T).ent else .hole := by
  refine ⟨(List.range 65536).map fun b => (QT.get 8 b T).ent, fun b => ?_⟩
  rw [hat_eq]
  by_cases h : b < 65536
  · rw [if_pos h]; simp [h]
  · rw [if_neg h, List.getElem?_eq_none (by simp; omega)]; rfl
noncomputable def absH (T : HT) : Heap := Classical.choose (absH_ex T)
theorem hat_abs (T : HT) (b : Nat) : hat (absH T) b = if b < 65536 then (QT.get 8 b T).ent else .hole := Classical.choose_spec (absH_ex T) b
theorem hat_set (T : HT) (b c : Nat) (x : HE) (hb : b < 65536) : hat (absH (runS (setC 8 b) x T)) c = hat (hfill (absH T) b x.ent) c := by
  rw [hat_fill, hat_abs, hat_abs, setC_run]
  by_cases h : c < 65536
  · rw [if_pos h, if_pos h, QT.get_set 8 c b x T (by omega) (by omega)]
    by_cases e : c = b
    · rw [if_pos e, if_pos e]
    · rw [if_neg e, if_neg e]
  · rw [if_neg h, if_neg h, if_neg (by omega)]

theorem hget_abs (T : HT) {b : Nat} (hb : b < 65536) : hget (absH T) b = (QT.get 8 b T).ent.get := by
  unfold hget
  rw [hat_abs, if_pos hb]
  cases QT.get 8 b T <;> rfl
theorem hget_abs_lt {T : HT} {b : Nat} {x : Blk × Md} (h : hget (absH T) b = some x) : b < 65536 := by
  apply Classical.byContradiction
  intro hb
  unfold hget at h
  rw [hat_abs, if_neg hb] at h
  cases h
theorem hkn_abs (T : HT) (b : Nat) : hkn (absH T) b = if b < 65536 then (QT.get 8 b T).ent.known else false := by
  unfold hkn
  rw [hat_abs]
  by_cases hb : b < 65536
  · rw [if_pos hb, if_pos hb]; cases QT.get 8 b T <;> rfl
  · rw [if_neg hb, if_neg hb]
end Go.Ab
