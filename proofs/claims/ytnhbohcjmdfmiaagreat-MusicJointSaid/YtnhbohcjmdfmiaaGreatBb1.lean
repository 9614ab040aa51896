/- An evaluator for the model's code over typed, abstract blocks, with its soundness, part 1 of 6: laws of any program; their conditions stand in each. -/
import Derived.WalkKit
import Derived.Calls
import Derived.Orders
import Derived.Below
import Derived.LoopN
import Derived.Laws.MakeOwn
import Derived.Laws.AppendOwn
import Derived.Laws.OwnMore
import Derived.Laws.Slices
import Derived.Laws.IdiomCopy
import Derived.Laws.Rows
import Derived.Laws.Build
import Derived.Laws.Tables
import Derived.KernelRfl
import Derived.Laws.StructEq
set_option linter.unusedVariables false
set_option linter.unusedSimpArgs false
section
/- Abstract values, blocks and heaps for the walk by reflection; how they stand for the model's values and memory (VR, Sim, Tr), and that this is kept. No condition. -/
namespace Go.Ab
open Go

/-- abstract values; 'undef' stands for whatever value -/
inductive AV where
  | undef
  | bool (b : Bool)
  | int (k : IntKind) (n : Int)
  | str (s : ByteArray)
  | nilPtr
  | nilSlice
  | nilFunc
  | nilIface
  | ptr (b i fo : Nat)
  | whole (b : Nat)
  | part (b off len : Nat)
  | seg (b i fo len : Nat)
  | acc (b : Nat)      -- a slice over all of b, or nothing where b is empty
  | func (fn : Fn) (first cap : List AV)
  | iface (t : TypeId) (v : AV)
  | agg (l : List AV)
  | tuple (l : List AV)

/-- what a block holds: whole numbers of one kind; records of whole numbers; any cells, n an element -/
inductive Blk where
  | ints (k : IntKind) (l : List Int)
  | recs (ks : List IntKind) (l : List (List Int))
  | vals (n : Nat) (l : List AV)

/-- what may be done: read; written; appended to as well -/
inductive Md where | ro | rw | own
  deriving DecidableEq

/-- a place of the abstract heap: nothing yet; what is no more; a block -/
inductive Ent where
  | hole
  | dead
  | live (bk : Blk) (md : Md)

abbrev Heap := List Ent

structure St where
  tmps : List AV
  heap : Heap

def Blk.str : Blk → Nat
  | .ints .. => 1
  | .recs ks _ => ks.length
  | .vals n _ => n

def Blk.num : Blk → Nat
  | .ints _ l => l.length
  | .recs _ l => l.length
  | .vals n l => l.length / n

/-- the cell fo of element i -/
def Blk.ld : Blk → Nat → Nat → Option AV
  | .ints k l, i, fo => match fo with | 0 => some (.int k (l.getD i 0)) | _ + 1 => none
  | .recs ks l, i, fo => match ks[fo]? with | some k => some (.int k ((l.getD i []).getD fo 0)) | none => none
  | .vals n l, i, fo => l[i * n + fo]?

def Blk.ok : Blk → Prop
  | .ints .. => True
  | .recs ks l => 0 < ks.length ∧ ∀ x ∈ l, x.length = ks.length
  | .vals n l => 0 < n ∧ l.length % n = 0

theorem Blk.ok.pos {bk : Blk} (h : bk.ok) : 0 < bk.str := by
  cases bk with
  | ints => exact Nat.one_pos
  | recs => exact h.1
  | vals => exact h.1

def Ent.get : Ent → Option (Blk × Md)
  | .live bk md => some (bk, md)
  | _ => none

def Ent.known : Ent → Bool
  | .hole => false
  | _ => true

def hat : Heap → Nat → Ent
  | [], _ => .hole
  | x :: _, 0 => x
  | _ :: xs, n + 1 => hat xs n

def hget (H : Heap) (b : Nat) : Option (Blk × Md) := match hat H b with | .live bk md => some (bk, md) | _ => none
def hkn (H : Heap) (b : Nat) : Bool := match hat H b with | .hole => false | _ => true

/-- the place b holds e from now on -/
def hfill : Heap → Nat → Ent → Heap
  | [], 0, e => [e]
  | [], n + 1, e => .hole :: hfill [] n e
  | _ :: xs, 0, e => e :: xs
  | x :: xs, n + 1, e => x :: hfill xs n e

theorem hat_fill (H : Heap) (b c : Nat) (e : Ent) : hat (hfill H b e) c = if c = b then e else hat H c := by
  induction H generalizing b c with
  | nil =>
    induction b generalizing c with
    | zero => cases c <;> simp [hfill, hat]
    | succ n ih => cases c with
      | zero => simp [hfill, hat]
      | succ c => simp only [hfill, hat, ih c]; simp
  | cons x xs ih =>
    cases b with
    | zero => cases c <;> simp [hfill, hat]
    | succ n => cases c with
      | zero => simp [hfill, hat]
      | succ c => simp [hfill, hat, ih]

theorem hget_fill {H : Heap} {b c : Nat} {e : Ent} : hget (hfill H b e) c = if c = b then e.get else hget H c := by
  unfold hget
  rw [hat_fill]
  by_cases h : c = b
  · rw [if_pos h, if_pos h]; cases e <;> rfl
  · rw [if_neg h, if_neg h]

theorem hkn_fill {H : Heap} {b c : Nat} {e : Ent} : hkn (hfill H b e) c = if c = b then e.known else hkn H c := by
  unfold hkn
  rw [hat_fill]
  by_cases h : c = b
  · rw [if_pos h, if_pos h]; cases e <;> rfl
  · rw [if_neg h, if_neg h]

theorem hget_kn {H : Heap} {b : Nat} {x : Blk × Md} (h : hget H b = some x) : hkn H b = true := by
  unfold hget at h
  unfold hkn
  split at h
  · rename_i e; rw [e]
  · cases h

theorem hat_len (H : Heap) (b : Nat) (h : H.length ≤ b) : hat H b = .hole := by
  induction H generalizing b with
  | nil => rfl
  | cons x xs ih => cases b with
    | zero => simp at h
    | succ n => exact ih n (by simpa using h)

theorem hkn_len (H : Heap) : hkn H H.length = false := by unfold hkn; rw [hat_len H _ (Nat.le_refl _)]

theorem hfill_len (H : Heap) (e : Ent) : hfill H H.length e = H ++ [e] := by
  induction H with
  | nil => rfl
  | cons x xs ih => simp [hfill, ih]

/-- where abstract blocks lie: the block, its first cell, how many cells -/
abbrev Map := Nat → Nat × Nat × Nat

/-- a slice value over block b: from element off on, len elements -/
def SlAt (m : Map) (b : Nat) (bk : Blk) (md : Md) (off len : Nat) (a : Option Addr) (cap : Nat) : Prop :=
  len ≤ cap ∧ (md = .own → (off + cap) * bk.str ≤ (m b).2.2 ∧ a ≠ none) ∧ (0 < cap → a = some ⟨(m b).1, (m b).2.1 + off * bk.str, none⟩)

/-- an abstract value stands for a value -/
inductive VR (m : Map) (H : Heap) : AV → Value → Prop
  | undef (v : Value) : VR m H .undef v
  | bool (b : Bool) : VR m H (.bool b) (.bool b)
  | int (k : IntKind) (n : Int) : VR m H (.int k n) (.int k n)
  | str (s : ByteArray) : VR m H (.str s) (.string s)
  | nilPtr : VR m H .nilPtr (.pointer none)
  | nilSlice : VR m H .nilSlice (.slice none 0 0)
  | nilFunc : VR m H .nilFunc .nilFunc
  | nilIface : VR m H .nilIface .nilIface
  | ptr (b i fo : Nat) (a : Addr) : hkn H b = true → (∀ bk md, hget H b = some (bk, md) → i < bk.num ∧ fo < bk.str ∧ a = ⟨(m b).1, (m b).2.1 + (i * bk.str + fo), none⟩) → VR m H (.ptr b i fo) (.pointer (some a))
  | whole (b : Nat) (a : Option Addr) (n cap : Nat) : hkn H b = true → (∀ bk md, hget H b = some (bk, md) → n = bk.num ∧ SlAt m b bk md 0 bk.num a cap) → VR m H (.whole b) (.slice a n cap)
  | part (b off len : Nat) (a : Option Addr) (n cap : Nat) : hkn H b = true → (∀ bk md, hget H b = some (bk, md) → off + len ≤ bk.num ∧ n = len ∧ SlAt m b bk md off len a cap) → VR m H (.part b off len) (.slice a n cap)
  | seg (b i fo len : Nat) (a : Option Addr) (n cap : Nat) : hkn H b = true → (∀ bk md, hget H b = some (bk, md) → i < bk.num ∧ fo + len ≤ bk.str ∧ n = len ∧ len ≤ cap ∧ (0 < cap → a = some ⟨(m b).1, (m b).2.1 + (i * bk.str + fo), none⟩)) → VR m H (.seg b i fo len) (.slice a n cap)
  | acc (b : Nat) (a : Option Addr) (n cap : Nat) : hkn H b = true → (∀ bk md, hget H b = some (bk, md) → n = bk.num ∧ n ≤ cap ∧ (md = .own → cap * bk.str ≤ (m b).2.2) ∧ (0 < cap → a = some ⟨(m b).1, (m b).2.1, none⟩)) → VR m H (.acc b) (.slice a n cap)
  | func (fn : Fn) (first cap : List AV) (first' cap' : Array Value) : first.length = first'.size → cap.length = cap'.size →
      (∀ (j : Nat) (x : AV) (y : Value), first[j]? = some x → first'[j]? = some y → VR m H x y) → (∀ (j : Nat) (x : AV) (y : Value), cap[j]? = some x → cap'[j]? = some y → VR m H x y) → VR m H (.func fn first cap) (.func fn first' cap')
  | iface (t : TypeId) (x : AV) (v : Value) : VR m H x v → VR m H (.iface t x) (.iface t v)
  | agg (l : List AV) (cs : Array Value) : l.length = cs.size → (∀ (j : Nat) (x : AV) (y : Value), l[j]? = some x → cs[j]? = some y → VR m H x y) → VR m H (.agg l) (.agg cs)
  | tuple (l : List AV) (cs : Array Value) : l.length = cs.size → (∀ (j : Nat) (x : AV) (y : Value), l[j]? = some x → cs[j]? = some y → VR m H x y) → VR m H (.tuple l) (.tuple cs)

/-- block b lies where the map says -/
def BR (m : Map) (H : Heap) (bk : Blk) (md : Md) (p : Nat × Nat × Nat) (w : World) : Prop :=
  bk.ok ∧ bk.num * bk.str ≤ p.2.2 ∧ (md ≠ .own → p.2.2 = bk.num * bk.str) ∧
  (0 < p.2.2 → ∃ c e fr, w.heap[p.1]? = some (.cells c e fr) ∧ p.2.1 + p.2.2 ≤ c.size ∧
    (md ≠ .ro → ∀ j, p.2.1 ≤ j → j < p.2.1 + p.2.2 → w.frozen? ⟨p.1, j, none⟩ = false) ∧
    (∀ j, p.2.1 ≤ j → j < p.2.1 + p.2.2 → ∀ v, c[j]? = some v → v.oneCell' = true) ∧
    ∀ i fo, i < bk.num → fo < bk.str → ∃ x v, bk.ld i fo = some x ∧ c[p.2.1 + (i * bk.str + fo)]? = some v ∧ VR m H x v)

def apart (p q : Nat × Nat × Nat) : Prop := p.2.2 = 0 ∨ q.2.2 = 0 ∨ p.1 ≠ q.1 ∨ p.2.1 + p.2.2 ≤ q.2.1 ∨ q.2.1 + q.2.2 ≤ p.2.1

theorem apart.symm {p q : Nat × Nat × Nat} (h : apart p q) : apart q p := by
  unfold apart at *
  rcases h with h | h | h | h | h
  · exact .inr (.inl h)
  · exact .inl h
  · exact .inr (.inr (.inl fun e => h e.symm))
  · exact .inr (.inr (.inr (.inr h)))
  · exact .inr (.inr (.inr (.inl h)))

structure Sim (m : Map) (H : Heap) (w : World) : Prop where
  blk : ∀ b bk md, hget H b = some (bk, md) → BR m H bk md (m b) w
  dis : ∀ b b' bk md bk' md', hget H b = some (bk, md) → hget H b' = some (bk', md') → b ≠ b' → (md ≠ .ro ∨ md' ≠ .ro) → apart (m b) (m b')

/-- is the place one that may be written? -/
def Wr (m : Map) (H : Heap) (blk off : Nat) : Prop :=
  ∃ b bk md, hget H b = some (bk, md) ∧ md ≠ .ro ∧ (m b).1 = blk ∧ (m b).2.1 ≤ off ∧ off < (m b).2.1 + (m b).2.2

/-- shapes that stay: what VR asks of a later heap -/
structure Le (m : Map) (H : Heap) (m' : Map) (H' : Heap) : Prop where
  kn : ∀ b, hkn H b = true → hkn H' b = true
  at_ : ∀ b bk' md', hkn H b = true → hget H' b = some (bk', md') → ∃ bk, hget H b = some (bk, md') ∧ bk.num = bk'.num ∧ bk.str = bk'.str ∧ m' b = m b

theorem VR.mono {m m' : Map} {H H' : Heap} (h : Le m H m' H') {x : AV} {v : Value} (hx : VR m H x v) : VR m' H' x v := by
  induction hx with
  | undef v => exact .undef v
  | bool b => exact .bool b
  | int k n => exact .int k n
  | str s => exact .str s
  | nilPtr => exact .nilPtr
  | nilSlice => exact .nilSlice
  | nilFunc => exact .nilFunc
  | nilIface => exact .nilIface
  | ptr b i fo a hb hv =>
    refine .ptr b i fo a (h.kn _ hb) fun bk' md' hg => ?_
    obtain ⟨bk, hg0, hn, hs, hm⟩ := h.at_ b bk' md' hb hg
    obtain ⟨h1, h2, h3⟩ := hv bk md' hg0
    rw [hn] at h1
    rw [hs] at h2 h3
    rw [hm]
    exact ⟨h1, h2, h3⟩
  | whole b a n cap hb hv =>
    refine .whole b a n cap (h.kn _ hb) fun bk' md' hg => ?_
    obtain ⟨bk, hg0, hn, hs, hm⟩ := h.at_ b bk' md' hb hg
    obtain ⟨h1, h2⟩ := hv bk md' hg0
    refine ⟨by rw [← hn]; exact h1, ?_⟩
    unfold SlAt at h2 ⊢
    rw [hm, ← hn, ← hs]
    exact h2
  | part b off len a n cap hb hv =>
    refine .part b off len a n cap (h.kn _ hb) fun bk' md' hg => ?_
    obtain ⟨bk, hg0, hn, hs, hm⟩ := h.at_ b bk' md' hb hg
    obtain ⟨h0, h1, h2⟩ := hv bk md' hg0
    refine ⟨by rw [← hn]; exact h0, h1, ?_⟩
    unfold SlAt at h2 ⊢
    rw [hm, ← hs]
    exact h2
  | seg b i fo len a n cap hb hv =>
    refine .seg b i fo len a n cap (h.kn _ hb) fun bk' md' hg => ?_
    obtain ⟨bk, hg0, hn, hs, hm⟩ := h.at_ b bk' md' hb hg
    obtain ⟨h0, h1, h2, h3, h4⟩ := hv bk md' hg0
    rw [hm, ← hs, ← hn]
    exact ⟨h0, h1, h2, h3, h4⟩
  | acc b a n cap hb hv =>
    refine .acc b a n cap (h.kn _ hb) fun bk' md' hg => ?_
    obtain ⟨bk, hg0, hn, hs, hm⟩ := h.at_ b bk' md' hb hg
    obtain ⟨h0, h1, h2, h3⟩ := hv bk md' hg0
    rw [hm, ← hs, ← hn]
    exact ⟨h0, h1, h2, h3⟩
  | func fn first cap first' cap' h1 h2 _ _ ih1 ih2 => exact .func fn first cap first' cap' h1 h2 ih1 ih2
  | iface t x v _ ih => exact .iface t x v ih
  | agg l cs hl _ ih => exact .agg l cs hl ih
  | tuple l cs hl _ ih => exact .tuple l cs hl ih

theorem Le.refl (m : Map) (H : Heap) : Le m H m H := ⟨fun _ h => h, fun _ bk _ _ hg => ⟨bk, hg, rfl, rfl, rfl⟩⟩

theorem Le.trans {m0 m1 m2 : Map} {H0 H1 H2 : Heap} (h : Le m0 H0 m1 H1) (k : Le m1 H1 m2 H2) : Le m0 H0 m2 H2 where
  kn b hb := k.kn b (h.kn b hb)
  at_ b bk md hb hg := by
    obtain ⟨bk1, g1, g2, g3, g4⟩ := k.at_ b bk md (h.kn b hb) hg
    obtain ⟨bk0, f1, f2, f3, f4⟩ := h.at_ b bk1 md hb g1
    exact ⟨bk0, f1, f2.trans g2, f3.trans g3, g4.trans f4⟩

/-- from one state to a later one -/
structure Tr (m0 : Map) (H0 : Heap) (w0 : World) (m : Map) (H : Heap) (w : World) : Prop where
  le : Le m0 H0 m H
  os : w.os = w0.os
  tape : w.tape = w0.tape
  output : w.output = w0.output
  drawn : True
  size : w0.heap.size ≤ w.heap.size
  frame : ∀ b, b < w0.heap.size → w.heap[b]? = w0.heap[b]? ∨
    ∃ c c' e fr, w0.heap[b]? = some (.cells c e fr) ∧ w.heap[b]? = some (.cells c' e fr) ∧ c'.size = c.size ∧ ∀ o, ¬ Wr m0 H0 b o → c'[o]? = c[o]?
  own : ∀ b o, Wr m H b o → w0.heap.size ≤ b ∨ Wr m0 H0 b o

theorem Tr.ext {m0 m : Map} {H0 H : Heap} {w0 w : World} (h : Tr m0 H0 w0 m H w) (x : AV) (v : Value) (hx : VR m0 H0 x v) : VR m H x v := hx.mono h.le

theorem Tr.refl (m : Map) (H : Heap) (w : World) : Tr m H w m H w :=
  ⟨Le.refl _ _, rfl, rfl, rfl, trivial, Nat.le_refl _, fun _ _ => .inl rfl, fun _ _ h => .inr h⟩

theorem Tr.trans {m0 m1 m2 : Map} {H0 H1 H2 : Heap} {w0 w1 w2 : World} (h : Tr m0 H0 w0 m1 H1 w1) (k : Tr m1 H1 w1 m2 H2 w2) : Tr m0 H0 w0 m2 H2 w2 where
  le := h.le.trans k.le
  os := k.os.trans h.os
  tape := k.tape.trans h.tape
  output := k.output.trans h.output
  drawn := trivial
  size := Nat.le_trans h.size k.size
  frame b hb := by
    have hb1 : b < w1.heap.size := Nat.lt_of_lt_of_le hb h.size
    rcases h.frame b hb with e | ⟨c, c', e, fr, e0, e1, hs, hc⟩ <;> rcases k.frame b hb1 with e' | ⟨d, d', e2, fr2, f0, f1, hs2, hd⟩
    · exact .inl (e'.trans e)
    · refine .inr ⟨d, d', e2, fr2, e ▸ f0, f1, hs2, fun o ho => hd o fun hw => ?_⟩
      rcases h.own b o hw with h1 | h1
      · omega
      · exact ho h1
    · exact .inr ⟨c, c', e, fr, e0, e'.trans e1, hs, hc⟩
    · rw [e1] at f0
      injection f0 with f0
      injection f0 with q1 q2 q3
      subst q1 q2 q3
      refine .inr ⟨c, d', e, fr, e0, f1, hs2.trans hs, fun o ho => (hd o fun hw => ?_).trans (hc o ho)⟩
      rcases h.own b o hw with h1 | h1
      · omega
      · exact ho h1
  own b o ho := by
    rcases k.own b o ho with h1 | h1
    · exact .inl (Nat.le_trans h.size h1)
    · exact h.own b o h1

end Go.Ab
end

section
/- The evaluator: the model's code over abstract values, in continuation form. No condition. -/
namespace Go.Ab
open Go

def need {X : Type} (p : Prop) [Decidable p] (t : Option X) : Option X := if p then t else none
def br {X : Type} (b : Bool) (t e : Option X) : Option X := match b with | true => t | false => e

def cv1 : Value → AV
  | .bool b => .bool b
  | .int k n => .int k n
  | .string s => .str s
  | .pointer none => .nilPtr
  | .slice none 0 0 => .nilSlice
  | .nilFunc => .nilFunc
  | .nilIface => .nilIface
  | .func fn ⟨[]⟩ ⟨[]⟩ => .func fn [] []
  | _ => .undef

def cv : Value → AV
  | .agg cs => .agg (cs.toList.map cv1)
  | .tuple ⟨[]⟩ => .tuple []
  | .iface t v => .iface t (cv1 v)
  | v => cv1 v

def tget : List AV → Nat → AV
  | [], _ => .undef
  | x :: _, 0 => x
  | _ :: xs, n + 1 => tget xs n

def tset : List AV → Nat → AV → List AV
  | [], _, _ => []
  | _ :: xs, 0, y => y :: xs
  | x :: xs, n + 1, y => x :: tset xs n y

def tput (l : List AV) (d : Option Nat) (v : AV) : List AV := match d with | some t => tset l t v | none => l

def ev (tm : List AV) : Operand → AV
  | .tmp t => tget tm t
  | .const v => cv v
  | .global _ => .undef
  | .func f => .func (.func f) [] []

/-- may it lie in one cell? -/
def isCell : AV → Bool
  | .undef | .agg _ | .tuple _ => false
  | _ => true

def isAggT (P : Program) (t : TypeId) : Option Bool := match P.underlying t with | some (.struct _) => some true | some (.array _ _) => some true | some _ => some false | none => none

def sizeT (P : Program) (t : TypeId) : Option Nat := match P.info? t with | some i => some i.size | none => none

def ldn (bk : Blk) (i : Nat) : Nat → Nat → Option (List AV)
  | _, 0 => some []
  | fo, n + 1 => match bk.ld i fo with
    | some x => match ldn bk i (fo + 1) n with
      | some l => some (x :: l)
      | none => none
    | none => none

def stx : Blk → Nat → Nat → AV → Option Blk
  | .ints k l, i, 0, .int k' n => if k = k' then some (.ints k (l.set i n)) else none
  | .recs ks l, i, fo, .int k n => if ks[fo]? = some k then some (.recs ks (l.set i ((l.getD i []).set fo n))) else none
  | .vals n l, i, fo, v => if isCell v then some (.vals n (l.set (i * n + fo) v)) else none
  | _, _, _, _ => none

def stn (i : Nat) : List AV → Nat → Blk → Option Blk
  | [], _, bk => some bk
  | v :: vs, fo, bk => match stx bk i fo v with
    | some bk' => stn i vs (fo + 1) bk'
    | none => none

/-- a whole record -/
def rowOf : List IntKind → List AV → Option (List Int)
  | [], [] => some []
  | k :: ks, .int k' n :: vs => if k = k' then (match rowOf ks vs with | some ns => some (n :: ns) | none => none) else none
  | _, _ => none

def stA (i : Nat) (vs : List AV) (fo : Nat) (bk : Blk) : Option Blk :=
  match bk, fo with
  | .recs ks l, 0 => (match rowOf ks vs with
    | some ns => some (.recs ks (l.set i ns))
    | none => stn i vs 0 (.recs ks l))
  | bk, fo => stn i vs fo bk

def cellsOf : AV → List AV
  | .agg l => l
  | v => [v]

/-- the same two, for cells that lie one behind the other -/
def ldF (bk : Blk) (i fo n : Nat) : Option (List AV) :=
  match bk with
  | .vals m l => if ((l.drop (i * m + fo)).take n).length = n then some ((l.drop (i * m + fo)).take n) else none
  | bk => ldn bk i fo n
def spliceF {α : Type} (l : List α) (off : Nat) (xs : List α) : List α := l.take off ++ xs ++ l.drop (off + xs.length)
def stF (i : Nat) (vs : List AV) (fo : Nat) (bk : Blk) : Option Blk :=
  match bk with
  | .vals m l => if i * m + fo + vs.length ≤ l.length ∧ vs.all isCell = true then some (.vals m (spliceF l (i * m + fo) vs)) else stn i vs fo (.vals m l)
  | bk => stn i vs fo bk
def stAF (i : Nat) (vs : List AV) (fo : Nat) (bk : Blk) : Option Blk :=
  match bk with
  | .vals m l => stF i vs fo (.vals m l)
  | bk => stA i vs fo bk
theorem ldF_eq (bk : Blk) (i : Nat) : ∀ (n fo : Nat), ldF bk i fo n = ldn bk i fo n := by
  cases bk with
  | ints k l => intro n fo; rfl
  | recs k l => intro n fo; rfl
  | vals m l =>
    intro n
    induction n with
    | zero => intro fo; simp [ldF, ldn]
    | succ n ih =>
      intro fo
      have ih' := ih (fo + 1)
      simp only [ldF, ldn, Blk.ld] at ih' ⊢
      rw [← ih']
      cases hx : l[i * m + fo]? with
      | none =>
        have : l.drop (i * m + fo) = [] := List.drop_eq_nil_of_le (by simpa using hx)
        simp [this]
      | some x =>
        have hd : l.drop (i * m + fo) = x :: l.drop (i * m + (fo + 1)) := by
          have hlt := (List.getElem?_eq_some_iff.1 hx).1
          rw [List.drop_eq_getElem_cons hlt, (List.getElem?_eq_some_iff.1 hx).2, Nat.add_assoc]
        rw [hd]
        simp only [List.take_succ_cons, List.length_cons, Nat.succ.injEq]
        by_cases e : ((l.drop (i * m + (fo + 1))).take n).length = n
        · rw [if_pos (by omega), if_pos e]
        · rw [if_neg (by omega), if_neg e]
theorem stn_vals {w i : Nat} : ∀ (vs : List AV) (fo : Nat) (A B C : List AV), (∀ v ∈ vs, isCell v = true) → A.length = i * w + fo → B.length = vs.length → stn i vs fo (.vals w (A ++ B ++ C)) = some (.vals w (A ++ vs ++ C))
  | [], fo, A, B, C, _, _, hB => by
    cases B with
    | nil => rfl
    | cons b B => simp at hB
  | v :: vs, fo, A, B, C, hv, hA, hB => by
    cases B with
    | nil => simp at hB
    | cons b B =>
      have e1 : stx (.vals w (A ++ (b :: B) ++ C)) i fo v = some (.vals w ((A ++ [v]) ++ B ++ C)) := by
        simp only [stx, hv v (by simp), if_true]
        congr 2
        rw [← hA, List.append_assoc, List.set_append_right _ _ (Nat.le_refl _), Nat.sub_self]
        simp
      show (match stx (.vals w (A ++ (b :: B) ++ C)) i fo v with | some bk' => stn i vs (fo + 1) bk' | none => none) = _
      rw [e1]
      simp only
      rw [stn_vals vs (fo + 1) (A ++ [v]) B C (fun x hx => hv x (by simp [hx])) (by simp; omega) (by simpa using hB)]
      simp
theorem stF_eq (i : Nat) (vs : List AV) (fo : Nat) (bk : Blk) : stF i vs fo bk = stn i vs fo bk := by
  cases bk with
  | ints k l => rfl
  | recs k l => rfl
  | vals m l =>
    simp only [stF]
    split
    · rename_i h
      obtain ⟨h1, h2⟩ := h
      have e : l = l.take (i * m + fo) ++ (l.drop (i * m + fo)).take vs.length ++ l.drop (i * m + fo + vs.length) := by
        rw [List.append_assoc, show l.drop (i * m + fo + vs.length) = (l.drop (i * m + fo)).drop vs.length from (List.drop_drop ..).symm, List.take_append_drop, List.take_append_drop]
      have := stn_vals (w := m) (i := i) vs fo (l.take (i * m + fo)) ((l.drop (i * m + fo)).take vs.length) (l.drop (i * m + fo + vs.length)) (fun v hv => List.all_eq_true.1 h2 v hv) (by simp; omega) (by simp; omega)
      rw [← e] at this
      rw [this]; rfl
    · rfl
theorem stAF_eq (i : Nat) (vs : List AV) (fo : Nat) (bk : Blk) : stAF i vs fo bk = stA i vs fo bk := by
  cases bk with
  | ints k l => rfl
  | recs k l => rfl
  | vals m l => simp only [stAF, stF_eq]; cases fo <;> rfl

/-- what an element's zero is -/
inductive ZK where
  | ints (k : IntKind)
  | recs (ks : List IntKind)
  | vals (zs : List AV)

def intZeros : List Value → Option (List IntKind)
  | [] => some []
  | .int k 0 :: vs => match intZeros vs with | some ks => some (k :: ks) | none => none
  | _ => none

def zerosOf (P : Program) (e : TypeId) : Option (List Value) :=
  match P.info? e with
  | some i => match i.zero with
    | some z => if z.cells.size = i.size then (if 0 < i.size then (if z.cells.toList.all (·.oneCell') then some z.cells.toList else none) else none) else none
    | none => none
  | none => none

def zk (P : Program) (e : TypeId) : Option ZK :=
  match zerosOf P e with
  | some vs => match intZeros vs with
    | some ks => match isAggT P e, ks with
      | some false, [k] => some (.ints k)
      | some true, _ => some (.recs ks)
      | _, _ => none
    | none => if (vs.map cv1).all isCell then some (.vals (vs.map cv1)) else none
  | none => none

def newB : ZK → Nat → Blk
  | .ints k, n => .ints k (List.replicate n 0)
  | .recs ks, n => .recs ks (List.replicate n (ks.map fun _ => 0))
  | .vals zs, n => .vals zs.length (List.replicate n zs).flatten

def wholeLen (H : Heap) : AV → Option Nat
  | .whole b => match hget H b with | some (bk, _) => some bk.num | none => none
  | .acc b => match hget H b with | some (bk, _) => some bk.num | none => none
  | .part b _ len => match hget H b with | some _ => some len | none => none
  | .nilSlice => some 0
  | .str s => some s.size
  | _ => none

/-- what turns in a heap -/
abbrev Delta := List (Nat × Ent)

/-- whole numbers of one kind -/
def intsOf : List AV → Option (IntKind × List Int)
  | [.int k n] => some (k, [n])
  | .int k n :: l => match intsOf l with | some (k', zs) => if k = k' then some (k, n :: zs) else none | none => none
  | _ => none

def hput : Heap → Delta → Heap
  | H, [] => H
  | H, (b, e) :: D => hput (hfill H b e) D

def fieldsOf (P : Program) (s : TypeId) : Option (Array Field) := match P.underlying s with | some (.struct fs) => some fs | _ => none

/-- are two cells of a type the same? -/
def eqC (P : Program) (t : TypeId) : AV → AV → Option Bool
  | .int ka a, .int kb b => match P.underlying t with | some (.int _) => if ka = kb then some (decide (a = b)) else none | _ => none
  | .bool a, .bool b => match P.underlying t with | some .bool => some (a == b) | _ => none
  | _, _ => none

def eqFs (P : Program) (xs ys : List AV) : List Field → Option Bool
  | [] => some true
  | f :: fs => if f.name = "_" then none else match xs[f.offset]?, ys[f.offset]? with
    | some x, some y => match eqC P f.type x y with
      | some a => match fs with
        | [] => some a
        | fs => (match eqFs P xs ys fs with
          | some r => some (a && r)
          | none => none)
      | none => none
    | _, _ => none

/-- are two structs the same? -/
def eqS (P : Program) (t : TypeId) (xs ys : List AV) : Option Bool :=
  match fieldsOf P t with
  | some fs => if P.stoodInHeld t = false ∧ P.eqGuardType P.depth t = false then eqFs P xs ys fs.toList else none
  | none => none

section
variable {X : Type}

def bin (P : Program) (t : TypeId) (op : BinOp) (H : Heap) (x y : AV) (k : AV → Option X) : Option X :=
  match x, y with
  | .int ka a, .int kb b =>
    match op with
    | .shl => need (0 ≤ b) (k (.int ka (ka.wrap (a * 2 ^ (min b.toNat ka.bits)))))
    | .shr => need (0 ≤ b) (k (.int ka (a.fdiv (2 ^ (min b.toNat ka.bits)))))
    | _ => if ka = kb then
      match op with
      | .add => k (.int ka (ka.wrap (a + b)))
      | .sub => k (.int ka (ka.wrap (a - b)))
      | .mul => k (.int ka (ka.wrap (a * b)))
      | .quo => need (b ≠ 0) (k (.int ka (ka.wrap (a.tdiv b))))
      | .rem => need (b ≠ 0) (k (.int ka (a.tmod b)))
      | .and => k (.int ka (ka.wrap (BitVec.ofInt ka.bits a &&& BitVec.ofInt ka.bits b).toNat))
      | .or => k (.int ka (ka.wrap (BitVec.ofInt ka.bits a ||| BitVec.ofInt ka.bits b).toNat))
      | .xor => k (.int ka (ka.wrap (BitVec.ofInt ka.bits a ^^^ BitVec.ofInt ka.bits b).toNat))
      | .andNot => k (.int ka (ka.wrap (BitVec.ofInt ka.bits a &&& ~~~BitVec.ofInt ka.bits b).toNat))
      | .eql => k (.bool (decide (a = b)))
      | .neq => k (.bool (!decide (a = b)))
      | .lss => k (.bool (decide (a < b)))
      | .leq => k (.bool (decide (a ≤ b)))
      | .gtr => k (.bool (decide (b < a)))
      | .geq => k (.bool (decide (b ≤ a)))
      | _ => none
      else none
  | .bool a, .bool b => match P.underlying t, op with
    | some .bool, .eql => k (.bool (a == b))
    | some .bool, .neq => k (.bool (!(a == b)))
    | _, _ => none
  | .nilPtr, .nilPtr => match P.underlying t, op with
    | some (.pointer _), .eql => k (.bool true)
    | some (.pointer _), .neq => k (.bool false)
    | _, _ => none
  | .ptr b _ _, .nilPtr => match hget H b, P.underlying t, op with
    | some _, some (.pointer _), .eql => k (.bool false)
    | some _, some (.pointer _), .neq => k (.bool true)
    | _, _, _ => none
  | .nilSlice, .nilSlice => match P.underlying t, op with
    | some (.slice _), .eql => k (.bool true)
    | some (.slice _), .neq => k (.bool false)
    | _, _ => none
  | .whole b, .nilSlice => match hget H b, P.underlying t, op with
    | some (bk, md), some (.slice _), .eql => need (0 < bk.num ∨ md = .own) (k (.bool false))
    | some (bk, md), some (.slice _), .neq => need (0 < bk.num ∨ md = .own) (k (.bool true))
    | _, _, _ => none
  | .part b _ len, .nilSlice => match hget H b, P.underlying t, op with
    | some (_, md), some (.slice _), .eql => need (0 < len ∨ md = .own) (k (.bool false))
    | some (_, md), some (.slice _), .neq => need (0 < len ∨ md = .own) (k (.bool true))
    | _, _, _ => none
  | .agg xs, .agg ys => match eqS P t xs ys, op with
    | some b, .eql => k (.bool b)
    | some b, .neq => k (.bool (!b))
    | _, _ => none
  | _, _ => none

def un (op : UnOp) (x : AV) (k : AV → Option X) : Option X :=
  match op, x with
  | .not, .bool b => k (.bool (!b))
  | .neg, .int ki n => k (.int ki (ki.wrap (0 - n)))
  | _, _ => none

def min2 : AV → AV → Option AV
  | .int k x, .int k' y => if k = k' then some (.int k (if y < x then y else x)) else none
  | _, _ => none
def max2 : AV → AV → Option AV
  | .int k x, .int k' y => if k = k' then some (.int k (if y > x then y else x)) else none
  | _, _ => none
def fold2 (f : AV → AV → Option AV) : AV → List AV → Option AV
  | x, [] => some x
  | x, y :: ys => match f x y with | some z => fold2 f z ys | none => none

def Blk.sub (off len : Nat) : Blk → Blk
  | .ints k l => .ints k ((l.drop off).take len)
  | .recs ks l => .recs ks ((l.drop off).take len)
  | .vals n l => .vals n ((l.drop (off * n)).take (len * n))

/-- what a slice value holds -/
def content (H : Heap) : AV → Option (Option Blk)
  | .nilSlice => some none
  | .whole b => match hget H b with | some (bk, _) => some (some bk) | none => none
  | .acc b => match hget H b with | some (bk, _) => some (some bk) | none => none
  | .part b off len => match hget H b with | some (bk, _) => some (some (bk.sub off len)) | none => none
  | _ => none

def catB : Blk → Blk → Option Blk
  | .ints k l, .ints k' l' => if k = k' then some (.ints k (l ++ l')) else none
  | .recs k l, .recs k' l' => if k = k' then some (.recs k (l ++ l')) else none
  | .vals k l, .vals k' l' => if k = k' then some (.vals k (l ++ l')) else none
  | _, _ => none

def joinB : Option Blk → Option Blk → Option Blk
  | none, b => b
  | some b, none => some b
  | some b, some b' => catB b b'

def strIs (H : Heap) (x : AV) (n : Nat) : Bool := match content H x with | some (some bk) => bk.str == n | some none => true | none => false

/-- what turns when the block that s lies over ends: only one that may be appended to -/
def killed (H : Heap) : AV → Option Delta
  | .nilSlice => some []
  | .whole b => match hget H b with | some (_, .own) => some [(b, .dead)] | _ => none
  | .acc b => match hget H b with | some (_, .own) => some [(b, .dead)] | _ => none
  | .part b _ _ => match hget H b with | some (_, .own) => some [(b, .dead)] | _ => none
  | _ => none

def maxAppend : Nat := 17592186044416   -- elements of 8 bytes that 2^47 bytes bear

def isAcc : AV → Bool
  | .acc _ => true
  | _ => false
/-- a slice over a block -/
def Over (s : AV) (b : Nat) : Prop := s = .whole b ∨ s = .acc b ∨ ∃ off len, s = .part b off len
def app (H : Heap) (bytes : Nat) (s x : AV) (q : Nat) (k : AV → Delta → Option X) : Option X :=
  match content H s, content H x with
  | some none, some none => k .nilSlice []
  | some cs, some cx => match joinB cs cx, killed H s with
    | some bk, some D => match isAcc s with
      | true => need (bk.num * bytes ≤ 140737488355328) (k (.acc q) (D ++ [(q, .live bk .own)]))
      | false => need (bk.num * bytes ≤ 140737488355328 ∧ (cs.isNone = true → 0 < bk.num)) (k (.whole q) (D ++ [(q, .live bk .own)]))
    | _, _ => none
  | _, _ => none

def splice {α : Type} (l : List α) (off : Nat) (xs : List α) : List α := l.take off ++ xs ++ l.drop (off + xs.length)

def spliceB : Blk → Nat → Nat → Blk → Option Blk      -- n elements of the second, from off on
  | .ints k l, off, n, .ints k' l' => if k = k' then some (.ints k (splice l off (l'.take n))) else none
  | _, _, _, _ => none

/-- n elements of the second, from sy on, come into the first, from sx on -/
def copyB : Blk → Nat → Blk → Nat → Nat → Option Blk
  | .ints k l, sx, .ints k' l', sy, n => if k = k' then some (.ints k (splice l sx ((l'.drop sy).take n))) else none
  | _, _, _, _, _ => none

/-- where a slice lies: from which cell on, how many (its elements are of one cell) -/
def Lin (H : Heap) : AV → Option (Nat × Nat × Nat)
  | .whole b => match hget H b with | some (bk, _) => if bk.str = 1 then some (b, 0, bk.num) else none | none => none
  | .part b off len => match hget H b with | some (bk, _) => if bk.str = 1 then some (b, off, len) else none | none => none
  | .seg b i fo len => match hget H b with | some (bk, _) => some (b, i * bk.str + fo, len) | none => none
  | _ => none

/-- the bounds of a slice expression: from l to h, within n -/
def bnd (n : Nat) (lo hi : Option AV) (k : Int → Int → Option X) : Option X :=
  match lo, hi with
  | none, none => k 0 n
  | some (.int _ l), none => need (0 ≤ l ∧ l ≤ n) (k l n)
  | none, some (.int _ h) => need (0 ≤ h ∧ h ≤ n) (k 0 h)
  | some (.int _ l), some (.int _ h) => need (0 ≤ l ∧ l ≤ h ∧ h ≤ n) (k l h)
  | _, _ => none

def sliceOp (H : Heap) (x : AV) (lo hi : Option AV) (k : AV → Option X) : Option X :=
  match x with
  | .nilSlice => bnd 0 lo hi fun _ _ => k .nilSlice
  | .whole b => match hget H b with
    | some (bk, _) => match lo, hi with
      | none, none => k (.whole b)
      | lo, hi => bnd bk.num lo hi fun l h => k (.part b l.toNat (h - l).toNat)
    | none => none
  | .part b off len => match hget H b with
    | some _ => bnd len lo hi fun l h => k (.part b (off + l.toNat) (h - l).toNat)
    | none => none
  | .str s => bnd s.size lo hi fun l h => k (.str (s.extract l.toNat h.toNat))
  | _ => none

/-- an address plus so many cells, within its element -/
def fillAgg (sz : Nat → Option (Nat × Nat)) : List (Nat × AV) → List AV → Option (List AV)
  | [], cs => some cs
  | (i, v) :: rest, cs => match sz i with
    | some (off, size) => if (cellsOf v).length = size ∧ off + size ≤ cs.length ∧ (cellsOf v).all isCell then fillAgg sz rest (splice cs off (cellsOf v)) else none
    | none => none

def placesOf (P : Program) (t : TypeId) : Option (Nat → Option (Nat × Nat)) :=
  match P.underlying t with
  | some (.struct fs) => match fs.toList.mapM (fun f => (P.info? f.type).map fun i => (f.offset, i.size)) with
    | some places => some fun i => places[i]?
    | none => none
  | some (.array _ e) => match P.info? e with | some ie => some fun i => some (i * ie.size, ie.size) | none => none
  | _ => none

def fillB (parts : List (Nat × AV)) (bk : Blk) : Option Blk :=
  match parts with
  | [] => some bk
  | (i, v) :: rest => if i < bk.num ∧ (cellsOf v).length = bk.str then (match stA i (cellsOf v) 0 bk with
    | some bk' => fillB rest bk'
    | none => none) else none

/-- an index of few: one case for each -/
def forkN {X : Type} : Nat → Int → (Nat → Option X) → Option X
  | 0, _, k => k 0
  | n + 1, i, k => br (decide (i = n + 1)) (k (n + 1)) (forkN n i k)
def forkI {X : Type} (len : Nat) (i : Int) (k : Nat → Option X) : Option X :=
  match Nat.ble len 4 with
  | true => forkN (len - 1) i k
  | false => k i.toNat
theorem forkN_some {X : Type} {k : Nat → Option X} {r : X} {i : Int} (h0 : 0 ≤ i) : ∀ n : Nat, i ≤ n → forkN n i k = some r → k i.toNat = some r
  | 0, h1, h => by have : i = 0 := by omega
                   subst this; exact h
  | n + 1, h1, h => by
    unfold forkN at h
    by_cases e : i = n + 1
    · rw [show decide (i = (n : Int) + 1) = true from decide_eq_true e] at h
      subst e
      exact h
    · rw [show decide (i = (n : Int) + 1) = false from decide_eq_false e] at h
      exact forkN_some h0 n (by omega) h
theorem forkI_some {X : Type} {k : Nat → Option X} {r : X} {i : Int} {len : Nat} (h0 : 0 ≤ i ∧ i < len) (h : forkI len i k = some r) : k i.toNat = some r := by
  unfold forkI at h
  split at h
  · exact forkN_some h0.1 _ (by omega) h
  · exact h

structure Ctx (X : Type) where
  P : Program
  call : FuncId → List AV → Heap → Nat → (AV → Delta → Option X) → Option X
  blk : Nat → Option ((Exit → St → Option X) → St → Option X)
  cut : Nat → Option ((Exit → St → Option X) → St → Option X)

/-- the function that a method call comes to, and its receiver -/
def methodOf (P : Program) (H : Heap) (t : TypeId) (v : AV) (name : String) : Option (FuncId × AV) :=
  match P.info? t with
  | some i => match i.methods.find? (·.name == name) with
    | some m => if m.path.isEmpty then
      match m.func with
      | some (f, true) => match P.underlying t with
        | some (.pointer _) => some (f, v)
        | _ => none
      | some (f, false) => match P.underlying t with
        | some (.pointer e) => match v with
          | .ptr b i fo => match hget H b, sizeT P e with
            | some (bk, _), some n => match isAggT P e with
              | some false => match bk.ld i fo with | some x => some (f, x) | none => none
              | some true => if fo + n ≤ bk.str then (match ldn bk i fo n with | some l => some (f, .agg l) | none => none) else none
              | none => none
            | _, _ => none
          | _ => none
        | some _ => some (f, v)
        | none => none
      | none => none
      else none
    | none => none
  | none => none

def opX (c : Ctx X) (o : Op) (e : Operand → AV) (H : Heap) (q : Nat) (k : AV → Delta → Option X) : Option X :=
  match o with
  | .move x => k (e x) []
  | .assign x => k (e x) []
  | .pick b x y => match e b with | .bool t => br t (k (e x) []) (k (e y) []) | _ => none
  | .binOp op t x y _ => bin c.P t op H (e x) (e y) fun v => k v []
  | .unOp op _ x => un op (e x) fun v => k v []
  | .convert src dst x => match c.P.underlying src, c.P.underlying dst, e x with
    | some (.int _), some (.int kd), .int _ n => k (.int kd (kd.wrap n)) []
    | _, _, _ => none
  | .extract x i => match e x with | .tuple l => (match l[i]? with | some v => k v [] | none => none) | _ => none
  | .nilCheck x => match e x with | .ptr b i fo => (match hget H b with | some _ => k (.ptr b i fo) [] | none => none) | _ => none
  | .load t a => match e a with
    | .ptr b i fo => match hget H b, isAggT c.P t with
      | some (bk, _), some false => match bk.ld i fo with | some v => k v [] | none => none
      | some (bk, _), some true => match sizeT c.P t with
        | some n => if fo + n ≤ bk.str then (match ldF bk i fo n with | some l => k (.agg l) [] | none => none) else none
        | none => none
      | _, _ => none
    | _ => none
  | .store t a x => match e a, sizeT c.P t with
    | .ptr b i fo, some n => match hget H b with
      | some (bk, md) => if md ≠ .ro ∧ (cellsOf (e x)).length = n ∧ fo + n ≤ bk.str then
          match stAF i (cellsOf (e x)) fo bk with
          | some bk' => k (.tuple []) [(b, .live bk' md)]
          | none => none
        else none
      | none => none
    | _, _ => none
  | .fieldAddr s a f => match fieldsOf c.P s, e a with
    | some fs, .ptr b i fo => match fs[f]?, hget H b with
      | some fd, some (bk, _) => match sizeT c.P fd.type with
        | some (_ + 1) => if fo + fd.offset < bk.str then k (.ptr b i (fo + fd.offset)) [] else none
        | _ => none
      | _, _ => none
    | _, _ => none
  | .field s a f => match fieldsOf c.P s, e a with
    | some fs, .agg l => match fs[f]? with
      | some fd => match isAggT c.P fd.type, sizeT c.P fd.type with
        | some false, _ => match l[fd.offset]? with | some v => k v [] | none => none
        | some true, some n => if fd.offset + n ≤ l.length then k (.agg ((l.drop fd.offset).take n)) [] else none
        | _, _ => none
      | none => none
    | _, _ => none
  | .indexAddr t x ix => match c.P.underlying t, e ix with
    | some (.slice el), .int _ i => match e x, sizeT c.P el with
      | .whole b, some n => match hget H b with
        | some (bk, _) => if n = bk.str then need (0 ≤ i ∧ i < bk.num) (k (.ptr b i.toNat 0) []) else none
        | none => none
      | .acc b, some n => match hget H b with
        | some (bk, _) => if n = bk.str then need (0 ≤ i ∧ i < bk.num) (k (.ptr b i.toNat 0) []) else none
        | none => none
      | .part b off len, some n => match hget H b with
        | some (bk, _) => if n = bk.str then need (0 ≤ i ∧ i < len) (k (.ptr b (off + i.toNat) 0) []) else none
        | none => none
      | _, _ => none
    | some (.array len el), .int _ i => match e x, sizeT c.P el with
      | .ptr b j fo, some n => match hget H b with
        | some (bk, _) => if 1 < len ∧ 0 < n ∧ fo + len * n ≤ bk.str then need (0 ≤ i ∧ i < len) (forkI len i fun z => k (.ptr b j (fo + z * n)) []) else none
        | none => none
      | _, _ => none
    | _, _ => none
  | .index t x ix => match c.P.underlying t, e x, e ix with
    | some .string, .str s, .int _ i => need (0 ≤ i ∧ i < s.size) (k (.int .u8 (s.data.getD i.toNat 0).toNat) [])
    | some (.array N el), .agg l, .int _ i => match isAggT c.P el, sizeT c.P el, intsOf l with
      | some false, some 1, some (kd, zs) => if N ≤ zs.length then need (0 ≤ i ∧ i < N) (k (.int kd (zs.getD i.toNat 0)) []) else none
      | _, _, _ => none
    | _, _, _ => none
  | .alloc t => match zerosOf c.P t with
    | some vs => if (vs.map cv1).all isCell then k (.ptr q 0 0) [(q, .live (.vals vs.length (vs.map cv1)) .own)] else none
    | none => none
  | .box _ x => if (cellsOf (e x)).all isCell ∧ 0 < (cellsOf (e x)).length then k (.ptr q 0 0) [(q, .live (.vals (cellsOf (e x)).length (cellsOf (e x))) .own)] else none
  | .build t parts => match zerosOf c.P t, placesOf c.P t with
    | some vs, some pl => match fillAgg pl (parts.toList.map fun p => (p.1, e p.2)) (vs.map cv1) with
      | some l => k (.agg l) []
      | none => none
    | _, _ => none
  | .buildSlice t len parts => match c.P.underlying t with
    | some (.slice el) => match zk c.P el with
      | some z => if len * (newB z 0).str ≤ 16777216 then (match fillB (parts.toList.map fun p => (p.1, e p.2)) (newB z len) with
        | some bk => k (.whole q) [(q, .live (bk) .own)]
        | none => none) else none
      | none => none
    | _ => none
  | .makeSlice t len cap => match c.P.underlying t, e len, e cap with
    | some (.slice el), .int _ n, .int _ n' => match zk c.P el, c.P.info? el with
      | some z, some i => need (0 ≤ n ∧ n = n' ∧ i.bytes * n ≤ 281474976710656 ∧ n ≤ 9223372036854775807) (k (.whole q) [(q, .live (newB z n.toNat) .own)])
      | _, _ => none
    | _, _, _ => none
  | .slice t x lo hi none => match c.P.underlying t with
    | some (.slice el) => match sizeT c.P el with
      | some n => if strIs H (e x) n then sliceOp H (e x) (lo.map e) (hi.map e) fun v => k v [] else none
      | none => none
    | some .string => match e x with | .str s => sliceOp H (.str s) (lo.map e) (hi.map e) fun v => k v [] | _ => none
    | _ => none
  | .makeInterface t x => match c.P.underlying t with
    | some (.interface _) => none
    | some _ => k (.iface t (e x)) []
    | none => none
  | .typeAssert x _ t ok => match c.P.underlying t, e x with
    | some (.interface _), _ => none
    | some _, .iface t' v => if t' = t then k (if ok then .tuple [v, .bool true] else v) [] else none
    | _, _ => none
  | .makeFunc fn first cap => k (.func fn (first.toList.map e) (cap.toList.map e)) []
  | .call cl => match cl.callee, cl.args.toList.map e with
    | .builtin .len, [x] => match cl.argTypes[0]? with
      | some t => match c.P.underlying t with
        | some (.slice _) => match x with
          | .str _ => none
          | x => match wholeLen H x with | some n => k (.int .i64 n) [] | none => none
        | some .string => match x with | .str s => k (.int .i64 s.size) [] | _ => none
        | _ => none
      | none => none
    | .builtin .append, [s, x] => match cl.argTypes[0]?, cl.argTypes[1]? with
      | some t, some t' => match c.P.underlying t, c.P.underlying t' with
        | some (.slice el), some (.slice _) => match c.P.info? el, zerosOf c.P el with
          | some i, some _ => if 0 < i.bytes ∧ strIs H x i.size ∧ strIs H s i.size ∧ cl.argTypes.size = 2 then app H i.bytes s x q k else none
          | _, _ => none
        | _, _ => none
      | _, _ => none
    | .builtin .copy, [x, y] => match cl.argTypes[0]? with
      | some t => match c.P.underlying t with
        | some (.slice el) => match sizeT c.P el, Lin H x, Lin H y with
          | some 1, some (bx, sx, lx), some (by_, sy, ly) => match hget H bx, hget H by_ with
            | some (bkx, mdx), some (bky, _) => if mdx ≠ .ro then (match copyB bkx sx bky sy (min ly lx) with
              | some bk2 => k (.int .i64 ((min ly lx : Nat) : Int)) [(bx, .live bk2 mdx)]
              | none => none) else none
            | _, _ => none
          | _, _, _ => none
        | _ => none
      | none => none
    | .builtin .min, x :: xs => match fold2 min2 x xs with | some v => k v [] | none => none
    | .builtin .max, x :: xs => match fold2 max2 x xs with | some v => k v [] | none => none
    | .value f, args => match e f with
      | .func (.func f) first cap => c.call f (first ++ args ++ cap) H q k
      | _ => none
    | .invoke r name, args => match e r with
      | .iface t v => match methodOf c.P H t v name with
        | some (f, x) => c.call f (x :: args) H q k
        | none => none
      | _ => none
    | _, _ => none
  | _ => none

end
end Go.Ab
end

section
/- The evaluator's operations tell what the model's operations do: those that touch no memory. No condition. -/
namespace Go.Ab
open Go

theorem need_some {X : Type} {p : Prop} [Decidable p] {t : Option X} {x : X} (h : need p t = some x) : p ∧ t = some x := by
  unfold need at h
  split at h
  · exact ⟨by assumption, h⟩
  · cases h

theorem VR.cv1 (m : Map) (H : Heap) (v : Value) : VR m H (cv1 v) v := by
  unfold Ab.cv1
  split
  all_goals first
    | (refine .func _ _ _ _ _ rfl rfl ?_ ?_ <;> (intro j x y h; simp at h); done)
    | constructor

theorem VR.cv (m : Map) (H : Heap) (v : Value) : VR m H (cv v) v := by
  unfold Ab.cv
  split
  · rename_i cs
    refine .agg _ _ (by simp) fun j x y hx hy => ?_
    simp only [List.getElem?_map] at hx
    rw [Array.getElem?_toList, hy] at hx
    simp at hx
    subst hx
    exact VR.cv1 m H y
  · exact .tuple _ _ rfl fun j x y hx => by simp at hx
  · exact .iface _ _ _ (VR.cv1 m H _)
  · exact VR.cv1 m H _

theorem tget_eq (l : List AV) (t : Nat) : tget l t = l.getD t .undef := by
  induction l generalizing t with
  | nil => simp [tget]
  | cons x xs ih => cases t with
    | zero => simp [tget]
    | succ n => simp [tget, ih]

theorem tset_length (l : List AV) (t : Nat) (v : AV) : (tset l t v).length = l.length := by
  induction l generalizing t with
  | nil => rfl
  | cons x xs ih => cases t <;> simp [tset, ih]

theorem tget_tset (l : List AV) (t u : Nat) (v : AV) : tget (tset l t v) u = if u = t then (if t < l.length then v else .undef) else tget l u := by
  induction l generalizing t u with
  | nil => simp [tset, tget]
  | cons x xs ih =>
    cases t with
    | zero => cases u <;> simp [tset, tget]
    | succ n => cases u with
      | zero => simp [tset, tget]
      | succ k => simp [tset, tget, ih]

/-- temporaries stand for temporaries -/
structure TR (m : Map) (H : Heap) (tm : List AV) (a : Act) : Prop where
  len : tm.length ≤ a.tmps.size
  at_ : ∀ t, VR m H (tget tm t) (a.tmps.getD t undef)

theorem TR.ev {m : Map} {H : Heap} {tm : List AV} {a : Act} (h : TR m H tm a) (x : Operand) : VR m H (ev tm x) (a.eval x) := by
  cases x with
  | tmp t => exact h.at_ t
  | const v => exact VR.cv m H v
  | global g => exact .undef _
  | func f => exact .func _ _ _ _ _ rfl rfl (fun j x y h => by simp at h) (fun j x y h => by simp at h)

theorem TR.put {m : Map} {H : Heap} {tm : List AV} {a : Act} (h : TR m H tm a) (d : Option Nat) {x : AV} {v : Value} (hv : VR m H x v) : TR m H (tput tm d x) (a.put d v) := by
  cases d with
  | none => exact h
  | some t =>
    refine ⟨by simp only [tput, tset_length, Act.put, Array.size_setIfInBounds]; exact h.len, fun u => ?_⟩
    simp only [tput, tget_tset, Act.put]
    by_cases e : u = t
    · subst e
      rw [if_pos rfl]
      by_cases hl : u < tm.length
      · rw [if_pos hl]
        have : u < a.tmps.size := Nat.lt_of_lt_of_le hl h.len
        simp [Array.getD, this]
        exact hv
      · rw [if_neg hl]
        exact .undef _
    · rw [if_neg e]
      have hg : (a.tmps.setIfInBounds t v).getD u undef = a.tmps.getD u undef := by
        simp only [Array.getD_eq_getD_getElem?, Array.getElem?_setIfInBounds]
        rw [if_neg (fun h => e h.symm)]
      rw [hg]
      exact h.at_ u

theorem TR.mono {m m' : Map} {H H' : Heap} {tm : List AV} {a : Act} (h : TR m H tm a) (hle : ∀ x v, VR m H x v → VR m' H' x v) : TR m' H' tm a := ⟨h.len, fun t => hle _ _ (h.at_ t)⟩

theorem eqIn_ptr {P : Program} {t e : TypeId} (d : Nat) (a : Option Addr) (w : World) (h : P.underlying t = some (.pointer e)) : (Op.equalIn (d + 1) t (.pointer a) (.pointer none)).run P w = .ok a.isNone w := by
  cases a <;> simp [Op.equalIn, run_underlying h]
theorem eqIn_slice {P : Program} {t e : TypeId} (d : Nat) (a : Option Addr) (l c : Nat) (w : World) (h : P.underlying t = some (.slice e)) : (Op.equalIn (d + 1) t (.slice a l c) (.slice none 0 0)).run P w = .ok a.isNone w := by
  cases a <;> simp [Op.equalIn, run_underlying h]
theorem eqIn_bool {P : Program} {t : TypeId} (d : Nat) (a b : Bool) (w : World) (h : P.underlying t = some .bool) : (Op.equalIn (d + 1) t (.bool a) (.bool b)).run P w = .ok (a == b) w := by
  simp [Op.equalIn, run_underlying h]

theorem eqX {P : Program} {op : BinOp} {t : TypeId} {a b : Value} {c : Bool} {w : World} (ho : op = .eql ∨ op = .neq) (ha : ∀ k n, a ≠ .int k n) (ha2 : ∀ k n, a ≠ .float k n) (ha3 : ∀ k n l, a ≠ .complex k n l) (ha4 : ∀ n, a ≠ .string n)
    (h : (Op.equalIn (9999 + 1) t a b).run P w = .ok c w) : (binOp op t a b).run P w = .ok (.bool (if op = .eql then c else !c)) w := by
  have h' : (Op.equal t a b).run P w = .ok c w := h
  rcases ho with rfl | rfl
  · cases a <;> simp_all [binOp]
  · cases a <;> simp_all [binOp]

theorem eqC_sound {P : Program} {t : TypeId} {m : Map} {H : Heap} {x y : AV} {x' y' : Value} {b : Bool} (w : World) (d : Nat) (h : eqC P t x y = some b) (hx : VR m H x x') (hy : VR m H y y') :
    (Op.equalIn (d + 1) t x' y').run P w = .ok b w ∧ (isAgg t).run P w = .ok false w := by
  unfold eqC at h
  split at h
  · split at h
    · rename_i hu
      split at h
      · rename_i hk
        subst hk
        cases hx; cases hy
        injection h with h
        subst h
        exact ⟨by rw [run_equalIn_int w d t _ _ _ _ hu]; rfl, by simp [isAgg, run_underlying hu]⟩
      · cases h
    · cases h
  · split at h
    · rename_i hu
      cases hx; cases hy
      injection h with h
      subst h
      exact ⟨run_equalIn_bool' w d t _ _ hu, by simp [isAgg, run_underlying hu]⟩
    · cases h
  · cases h

theorem eqFs_sound {P : Program} {m : Map} {H : Heap} {xs ys : List AV} {xs' ys' : Array Value} (w : World) (d : Nat) (hxl : xs.length = xs'.size) (hyl : ys.length = ys'.size)
    (hx : ∀ (j : Nat) (x : AV) (y : Value), xs[j]? = some x → xs'[j]? = some y → VR m H x y) (hy : ∀ (j : Nat) (x : AV) (y : Value), ys[j]? = some x → ys'[j]? = some y → VR m H x y) :
    ∀ (fs : List Field) (b : Bool), eqFs P xs ys fs = some b → (Op.eqFields (d + 1) xs' ys' fs).run P w = .ok b w := by
  intro fs
  induction fs with
  | nil => intro b h; simp only [eqFs] at h; cases h; rfl
  | cons f fs ih =>
    intro b h
    simp only [eqFs] at h
    split at h
    · cases h
    · rename_i hn
      split at h
      · rename_i x y h1 h2
        split at h
        · rename_i a ha
          have l1 : f.offset < xs'.size := by rw [← hxl]; exact (List.getElem?_eq_some_iff.1 h1).1
          have l2 : f.offset < ys'.size := by rw [← hyl]; exact (List.getElem?_eq_some_iff.1 h2).1
          have v1 := hx f.offset x xs'[f.offset] h1 (by simp [l1])
          have v2 := hy f.offset y ys'[f.offset] h2 (by simp [l2])
          obtain ⟨e1, e2⟩ := eqC_sound w d ha v1 v2
          have p1 : (part f.type xs' f.offset).run P w = .ok xs'[f.offset] w := by unfold part; simp [e2, l1]
          have p2 : (part f.type ys' f.offset).run P w = .ok ys'[f.offset] w := by unfold part; simp [e2, l2]
          have hr : ∃ r, eqFs P xs ys fs = some r ∧ b = (a && r) := by
            cases fs with
            | nil => simp only at h; injection h with h; exact ⟨true, rfl, by rw [h]; simp⟩
            | cons g gs =>
              simp only at h
              split at h
              · rename_i r hr; injection h with h; exact ⟨r, hr, h.symm⟩
              · cases h
          obtain ⟨r, hr, rfl⟩ := hr
          have e3 := ih r hr
          simp only [Op.eqFields, Sem.run_ite, if_pos (show f.name ≠ "_" from hn), Sem.run_bind, p1, p2, e1, Result.andThen_ok]
          cases a
          · simp
          · simp [e3]
        · cases h
      · cases h

theorem eqS_sound {P : Program} {t : TypeId} {m : Map} {H : Heap} {xs ys : List AV} {x' y' : Value} {b : Bool} {op : BinOp} (w : World) (X0 Y0 : Operand) (ho : op = .eql ∨ op = .neq) (h : eqS P t xs ys = some b) (hx : VR m H (.agg xs) x') (hy : VR m H (.agg ys) y') :
    (do eqGuard op t X0 Y0 x' y'; binOp op t x' y' : Sem Value).run P w = .ok (.bool (if op = .eql then b else !b)) w := by
  unfold eqS at h
  split at h
  · rename_i fs hf
    split at h
    · rename_i hs
      unfold Ab.fieldsOf at hf
      split at hf
      · rename_i fs' hu
        injection hf with hf
        subst hf
        cases hx with
        | agg _ cs hl hv =>
          cases hy with
          | agg _ cs' hl' hv' =>
            have hfo : P.fieldsOf t = fs' := by unfold Program.fieldsOf; rw [hu]
            have e := run_equalIn_agg (P := P) w 9999 t cs cs' (by rw [hfo]; exact hu) hs.1
            rw [hfo] at e
            have e2 := eqFs_sound w 9998 hl hl' hv hv' fs'.toList b h
            rw [Sem.run_bind, run_eqGuard_agg w op t X0 Y0 cs cs' hs.2, Result.andThen_ok]
            rcases ho with rfl | rfl
            · rw [run_eql_struct, show (10000 : Nat) = 9999 + 1 from rfl, e, e2]; rfl
            · rw [run_neq_struct, show (10000 : Nat) = 9999 + 1 from rfl, e, e2]; rfl
      · cases hf
    · cases h
  · cases h

/-- binary operations -/
theorem bin_sound {X : Type} {P : Program} {t : TypeId} {op : BinOp} {H : Heap} {m : Map} {x y : AV} {x' y' : Value} {k : AV → Option X} {z : X} (w : World) (X0 Y0 : Operand)
    (hx : VR m H x x') (hy : VR m H y y') (h : bin P t op H x y k = some z) :
    ∃ v v', k v = some z ∧ VR m H v v' ∧ (do eqGuard op t X0 Y0 x' y'; binOp op t x' y' : Sem Value).run P w = .ok v' w := by
  have eg : ∀ (a b : Value), (∀ c, a ≠ .agg c) → a ≠ .nilIface → (eqGuard op t X0 Y0 a b).run P w = .ok () w := by
    intro a b h1 h2
    unfold eqGuard
    cases op <;> simp <;> cases a <;> simp_all
  unfold bin at h
  split at h
  · rename_i ka a kb b
    cases hx; cases hy
    simp only [Sem.run_bind, eg (.int ka a) (.int kb b) (by simp) (by simp), Result.andThen_ok]
    cases op <;> simp only at h
    case shl =>
      obtain ⟨h0, h1⟩ := need_some h
      exact ⟨_, _, h1, .int _ _, by simp [binOp, Op.shift, Int.not_lt.2 h0]⟩
    case shr =>
      obtain ⟨h0, h1⟩ := need_some h
      exact ⟨_, _, h1, .int _ _, by simp [binOp, Op.shift, Int.not_lt.2 h0]⟩
    all_goals
      split at h
      · rename_i hk
        subst hk
        first
        | cases h
        | (obtain ⟨h0, h1⟩ := need_some h
           exact ⟨_, _, h1, .int _ _, by simp [binOp, Op.intDiv, h0]⟩)
        | exact ⟨_, _, h, .int _ _, by simp [binOp, Op.intArith, Op.intBits]⟩
        | (refine ⟨_, _, h, .bool _, ?_⟩
           simp [binOp, Op.intCmp]
           try (rw [Bool.eq_iff_iff]; simp; try omega))
      · cases h
  · cases hx; cases hy
    rename_i a b
    simp only [Sem.run_bind, eg (.bool a) (.bool b) (by simp) (by simp), Result.andThen_ok]
    split at h
    · rename_i hu; exact ⟨_, _, h, .bool _, eqX (.inl rfl) (by simp) (by simp) (by simp) (by simp) (eqIn_bool _ _ _ _ hu)⟩
    · rename_i hu; exact ⟨_, _, h, .bool _, eqX (.inr rfl) (by simp) (by simp) (by simp) (by simp) (eqIn_bool _ _ _ _ hu)⟩
    · cases h
  · cases hx; cases hy
    simp only [Sem.run_bind, eg (.pointer none) (.pointer none) (by simp) (by simp), Result.andThen_ok]
    split at h
    · rename_i hu; exact ⟨_, _, h, .bool _, eqX (.inl rfl) (by simp) (by simp) (by simp) (by simp) (eqIn_ptr _ _ _ hu)⟩
    · rename_i hu; exact ⟨_, _, h, .bool _, eqX (.inr rfl) (by simp) (by simp) (by simp) (by simp) (eqIn_ptr _ _ _ hu)⟩
    · cases h
  · cases hy
    rename_i b i fo
    cases hx with
    | ptr _ _ _ a hb hv =>
      split at h
      · rename_i bk el hh hu
        rw [Sem.run_bind, eg _ _ (by simp) (by simp), Result.andThen_ok]
        exact ⟨_, _, h, .bool _, eqX (.inl rfl) (by simp) (by simp) (by simp) (by simp) (eqIn_ptr _ _ _ hu)⟩
      · rename_i bk el hh hu
        rw [Sem.run_bind, eg _ _ (by simp) (by simp), Result.andThen_ok]
        exact ⟨_, _, h, .bool _, eqX (.inr rfl) (by simp) (by simp) (by simp) (by simp) (eqIn_ptr _ _ _ hu)⟩
      · cases h
  · cases hx; cases hy
    simp only [Sem.run_bind, eg (.slice none 0 0) (.slice none 0 0) (by simp) (by simp), Result.andThen_ok]
    split at h
    · rename_i hu; exact ⟨_, _, h, .bool _, eqX (.inl rfl) (by simp) (by simp) (by simp) (by simp) (eqIn_slice _ _ _ _ _ hu)⟩
    · rename_i hu; exact ⟨_, _, h, .bool _, eqX (.inr rfl) (by simp) (by simp) (by simp) (by simp) (eqIn_slice _ _ _ _ _ hu)⟩
    · cases h
  · cases hy
    cases hx with
    | whole _ a n cap hb hv =>
      split at h
      · rename_i bk md el hh hu
        obtain ⟨h0, h1⟩ := need_some h
        obtain ⟨_, s1, s2, s3⟩ := hv bk _ hh
        have ha : a ≠ none := by
          rcases h0 with h0 | h0
          · rw [s3 (by omega)]; simp
          · exact (s2 h0).2
        obtain ⟨ad, rfl⟩ := Option.ne_none_iff_exists'.1 ha
        rw [Sem.run_bind, eg _ _ (by simp) (by simp), Result.andThen_ok]
        exact ⟨_, _, h1, .bool _, eqX (.inl rfl) (by simp) (by simp) (by simp) (by simp) (eqIn_slice _ _ _ _ _ hu)⟩
      · rename_i bk md el hh hu
        obtain ⟨h0, h1⟩ := need_some h
        obtain ⟨_, s1, s2, s3⟩ := hv bk _ hh
        have ha : a ≠ none := by
          rcases h0 with h0 | h0
          · rw [s3 (by omega)]; simp
          · exact (s2 h0).2
        obtain ⟨ad, rfl⟩ := Option.ne_none_iff_exists'.1 ha
        rw [Sem.run_bind, eg _ _ (by simp) (by simp), Result.andThen_ok]
        exact ⟨_, _, h1, .bool _, eqX (.inr rfl) (by simp) (by simp) (by simp) (by simp) (eqIn_slice _ _ _ _ _ hu)⟩
      · cases h
  · cases hy
    cases hx with
    | part _ _ _ a n cap hb hv =>
      split at h
      · rename_i bk md el hh hu
        obtain ⟨h0, h1⟩ := need_some h
        obtain ⟨_, _, s1, s2, s3⟩ := hv _ _ hh
        have ha : a ≠ none := by
          rcases h0 with h0 | h0
          · rw [s3 (by omega)]; simp
          · exact (s2 h0).2
        obtain ⟨ad, rfl⟩ := Option.ne_none_iff_exists'.1 ha
        rw [Sem.run_bind, eg _ _ (by simp) (by simp), Result.andThen_ok]
        exact ⟨_, _, h1, .bool _, eqX (.inl rfl) (by simp) (by simp) (by simp) (by simp) (eqIn_slice _ _ _ _ _ hu)⟩
      · rename_i bk md el hh hu
        obtain ⟨h0, h1⟩ := need_some h
        obtain ⟨_, _, s1, s2, s3⟩ := hv _ _ hh
        have ha : a ≠ none := by
          rcases h0 with h0 | h0
          · rw [s3 (by omega)]; simp
          · exact (s2 h0).2
        obtain ⟨ad, rfl⟩ := Option.ne_none_iff_exists'.1 ha
        rw [Sem.run_bind, eg _ _ (by simp) (by simp), Result.andThen_ok]
        exact ⟨_, _, h1, .bool _, eqX (.inr rfl) (by simp) (by simp) (by simp) (by simp) (eqIn_slice _ _ _ _ _ hu)⟩
      · cases h
  · split at h
    · rename_i b hb; exact ⟨_, _, h, .bool _, eqS_sound w X0 Y0 (.inl rfl) hb hx hy⟩
    · rename_i b hb; exact ⟨_, _, h, .bool _, eqS_sound w X0 Y0 (.inr rfl) hb hx hy⟩
    · cases h
  · cases h

theorem un_sound {X : Type} {P : Program} {op : UnOp} {H : Heap} {m : Map} {x : AV} {x' : Value} {k : AV → Option X} {z : X} (w : World) (hx : VR m H x x') (h : un op x k = some z) :
    ∃ v v', k v = some z ∧ VR m H v v' ∧ (Op.unary op x').run P w = .ok v' w := by
  unfold un at h
  split at h
  · cases hx; exact ⟨_, _, h, .bool _, by simp [Op.unary]⟩
  · cases hx; exact ⟨_, _, h, .int _ _, by simp [Op.unary, Op.intArith]⟩
  · cases h

end Go.Ab
end

section
/- Cells are read and written as the abstract heap says. No condition. -/
namespace Go.Ab
open Go

theorem addr_add (b o n : Nat) : (⟨b, o, none⟩ : Addr).add n = ⟨b, o + n, none⟩ := by
  unfold Addr.add
  split
  · rename_i h; subst h; rfl
  · rfl

theorem run_isAgg' {P : Program} {t : TypeId} {b : Bool} (h : isAggT P t = some b) (w : World) : (isAgg t).run P w = .ok b w := by
  unfold isAggT at h
  split at h
  · rename_i hu; cases h; simp [isAgg, run_underlying hu]
  · rename_i hu; cases h; simp [isAgg, run_underlying hu]
  · rename_i d h1 h2 hu
    cases h
    simp [isAgg, run_underlying hu]
  · cases h

theorem run_sizeOf' {P : Program} {t : TypeId} {n : Nat} (h : sizeT P t = some n) (w : World) : (sizeOf t).run P w = .ok n w := by
  unfold sizeT at h
  split at h
  · rename_i i hi; cases h; simp [sizeOf, typeInfo, hi]
  · cases h

/-- a block's cell, and what it holds -/
theorem Sim.cell {m : Map} {H : Heap} {w : World} (h : Sim m H w) {b : Nat} {bk : Blk} {md : Md} (hb : hget H b = some (bk, md)) {i fo : Nat} (hi : i < bk.num) (hf : fo < bk.str) :
    ∃ x v, bk.ld i fo = some x ∧ w.cell? ⟨(m b).1, (m b).2.1 + (i * bk.str + fo), none⟩ = some v ∧ VR m H x v ∧ v.oneCell' = true := by
  obtain ⟨h1, h2, h3, h5⟩ := h.blk b bk md hb
  have hlt : i * bk.str + fo < bk.num * bk.str := by
    have : (i + 1) * bk.str ≤ bk.num * bk.str := Nat.mul_le_mul_right _ hi
    rw [Nat.add_mul] at this
    omega
  obtain ⟨c, e, fr, g1, g2, g3, g4, g5⟩ := h5 (by omega)
  obtain ⟨x, v, k1, k2, k3⟩ := g5 i fo hi hf
  refine ⟨x, v, k1, ?_, k3, g4 _ (by omega) (by omega) v k2⟩
  simp [World.cell?, g1, k2]

theorem ldn_sound {m : Map} {H : Heap} {w : World} (h : Sim m H w) {b : Nat} {bk : Blk} {md : Md} (hb : hget H b = some (bk, md)) {i : Nat} (hi : i < bk.num) :
    ∀ (n fo : Nat) (l : List AV), fo + n ≤ bk.str → ldn bk i fo n = some l →
      ∃ cs : List Value, cs.length = n ∧ l.length = n ∧ (∀ j v, cs[j]? = some v → w.cell? ⟨(m b).1, (m b).2.1 + (i * bk.str + fo) + j, none⟩ = some v) ∧ ∀ (j : Nat) (x : AV) (v : Value), l[j]? = some x → cs[j]? = some v → VR m H x v
  | 0, fo, l, _, hl => by
    simp only [ldn, Option.some.injEq] at hl
    subst hl
    exact ⟨[], rfl, rfl, fun j v h => by simp at h, fun j x v h => by simp at h⟩
  | n + 1, fo, l, hf, hl => by
    obtain ⟨x, v, k1, k2, k3, _⟩ := h.cell hb hi (show fo < bk.str by omega)
    simp only [ldn, k1] at hl
    split at hl
    · rename_i l' hl'
      cases hl
      obtain ⟨cs, e1, e2, e3, e4⟩ := ldn_sound h hb hi n (fo + 1) l' (by omega) hl'
      refine ⟨v :: cs, by simp [e1], by simp [e2], fun j u hj => ?_, fun j y u hy hu => ?_⟩
      · cases j with
        | zero => simp at hj; subst hj; exact k2
        | succ j =>
          simp at hj
          have := e3 j u hj
          rw [show (m b).2.1 + (i * bk.str + fo) + (j + 1) = (m b).2.1 + (i * bk.str + (fo + 1)) + j by omega]
          exact this
      · cases j with
        | zero => simp at hy hu; subst hy hu; exact k3
        | succ j => simp at hy hu; exact e4 j y u hy hu
    · cases hl

theorem ldF_sound {m : Map} {H : Heap} {w : World} (h : Sim m H w) {b : Nat} {bk : Blk} {md : Md} (hb : hget H b = some (bk, md)) {i : Nat} (hi : i < bk.num) (n fo : Nat) (l : List AV) (h1 : fo + n ≤ bk.str) (h2 : ldF bk i fo n = some l) :
      ∃ cs : List Value, cs.length = n ∧ l.length = n ∧ (∀ j v, cs[j]? = some v → w.cell? ⟨(m b).1, (m b).2.1 + (i * bk.str + fo) + j, none⟩ = some v) ∧ ∀ (j : Nat) (x : AV) (v : Value), l[j]? = some x → cs[j]? = some v → VR m H x v :=
  ldn_sound h hb hi n fo l h1 (by rw [← ldF_eq]; exact h2)

theorem load_sound {P : Program} {m : Map} {H : Heap} {w : World} (h : Sim m H w) {t : TypeId} {b i fo : Nat} {bk : Blk} {md : Md} {p : Value} (hp : VR m H (.ptr b i fo) p) (hb : hget H b = some (bk, md)) :
    (∀ x, isAggT P t = some false → bk.ld i fo = some x → ∃ v, VR m H x v ∧ (Instr.loadAt t p).run P w = .ok v w) ∧
    (∀ n l, isAggT P t = some true → sizeT P t = some n → fo + n ≤ bk.str → ldn bk i fo n = some l → ∃ cs : Array Value, l.length = cs.size ∧ (∀ (j : Nat) (x : AV) (y : Value), l[j]? = some x → cs[j]? = some y → VR m H x y) ∧ (Instr.loadAt t p).run P w = .ok (.agg cs) w) := by
  cases hp with
  | ptr _ _ _ _ _ hv =>
    obtain ⟨hi, hf, rfl⟩ := hv bk md hb
    refine ⟨fun x ha hx => ?_, fun n l ha hn hle hl => ?_⟩
    · obtain ⟨y, v, k1, k2, k3, _⟩ := h.cell hb hi hf
      rw [hx] at k1
      cases k1
      exact ⟨v, k3, by simp [Instr.loadAt, Instr.sureAddr, loadVar, run_isAgg' ha, k2]⟩
    · obtain ⟨cs, e1, e2, e3, e4⟩ := ldn_sound h hb hi n fo l hle hl
      refine ⟨cs.toArray, by simp [e1, e2], fun j x y hx hy => e4 j x y hx (by simpa using hy), ?_⟩
      have hl := run_loadCells_list (P := P) w ⟨(m b).1, (m b).2.1 + (i * bk.str + fo), none⟩ cs (fun j v hj => by rw [addr_add]; exact e3 j v hj)
      rw [e1] at hl
      simp [Instr.loadAt, Instr.sureAddr, loadVar, run_isAgg' ha, run_sizeOf' hn, hl]

/-- cells of one block were written, all else is as it was -/
structure Writes (w w' : World) (b o : Nat) (vs : List Value) : Prop where
  os : w'.os = w.os
  tape : w'.tape = w.tape
  output : w'.output = w.output
  drawn : w'.drawn = w.drawn
  size : w'.heap.size = w.heap.size
  stay : vs = [] → w'.heap = w.heap
  other : ∀ k, k ≠ b → w'.heap[k]? = w.heap[k]?
  here : ∀ c e fr, w.heap[b]? = some (.cells c e fr) → ∃ c', w'.heap[b]? = some (.cells c' e fr) ∧ c'.size = c.size ∧ ∀ j, c'[j]? = if o ≤ j ∧ j < o + vs.length ∧ j < c.size then vs[j - o]? else c[j]?

theorem Writes.setCells (b : Nat) : ∀ (vs : List Value) (o : Nat) (w : World), Writes w (w.setCells b o vs) b o vs
  | [], o, w => ⟨rfl, rfl, rfl, rfl, rfl, fun _ => rfl, fun _ _ => rfl, fun c e fr h => ⟨c, h, rfl, fun j => by rw [if_neg (by simp; omega)]⟩⟩
  | v :: vs, o, w => by
    have ih := Writes.setCells b vs (o + 1) (w.setCell ⟨b, o, none⟩ v)
    refine ⟨ih.os, ih.tape, ih.output, ih.drawn, by rw [World.setCells, ih.size]; simp [World.setCell], fun h => (by cases h), fun k hk => ?_, fun c e fr hc => ?_⟩
    · rw [World.setCells, ih.other k hk]
      simp only [World.setCell, Array.getElem?_modify]
      rw [if_neg (fun e => hk e.symm)]
    · have h1 : (w.setCell ⟨b, o, none⟩ v).heap[b]? = some (.cells (c.setIfInBounds o v) e fr) := by
        simp [World.setCell, Array.getElem?_modify, hc]
      obtain ⟨c', e1, e2, e3⟩ := ih.here _ e fr h1
      refine ⟨c', e1, by rw [e2]; simp, fun j => ?_⟩
      rw [e3 j]
      simp only [List.length_cons, Array.size_setIfInBounds, Array.getElem?_setIfInBounds]
      by_cases hj : j = o
      · subst hj
        rw [if_neg (by omega)]
        by_cases hlt : j < c.size
        · rw [if_pos rfl, if_pos hlt, if_pos (by omega)]; simp
        · rw [if_pos rfl, if_neg hlt, if_neg (by omega)]
          rw [Array.getElem?_eq_none (by omega)]
      · by_cases hc2 : o + 1 ≤ j ∧ j < o + 1 + vs.length ∧ j < c.size
        · rw [if_pos hc2, if_pos (by omega), show j - o = j - (o + 1) + 1 by omega]; simp
        · rw [if_neg hc2, if_neg (fun e => hj e.symm), if_neg (by omega)]

theorem Writes.drew {w w' : World} {b o : Nat} {vs : List Value} (h : Writes w w' b o vs) : Writes w w' b o vs := h

theorem Le.fill {m : Map} {H : Heap} {b : Nat} {bk bk' : Blk} {md : Md} (hb : hget H b = some (bk, md)) (hn : bk'.num = bk.num) (hs : bk'.str = bk.str) : Le m H m (hfill H b (.live bk' md)) where
  kn c hc := by
    rw [hkn_fill]
    split
    · rfl
    · exact hc
  at_ c ck cd _ hg := by
    rw [hget_fill] at hg
    by_cases e : c = b
    · subst e
      rw [if_pos rfl] at hg
      cases hg
      exact ⟨bk, hb, hn.symm, hs.symm, rfl⟩
    · rw [if_neg e] at hg
      exact ⟨ck, hg, rfl, rfl, rfl⟩

theorem cell_in {bk : Blk} {i fo : Nat} (hi : i < bk.num) (hf : fo < bk.str) : i * bk.str + fo < bk.num * bk.str := by
  have : (i + 1) * bk.str ≤ bk.num * bk.str := Nat.mul_le_mul_right _ hi
  rw [Nat.add_mul] at this
  omega

theorem frozen_eq {w w' : World} {k j : Nat} (h : w'.heap[k]? = w.heap[k]? ∨ ∃ c c' e fr, w.heap[k]? = some (.cells c e fr) ∧ w'.heap[k]? = some (.cells c' e fr)) : w'.frozen? ⟨k, j, none⟩ = w.frozen? ⟨k, j, none⟩ := by
  unfold World.frozen?
  rcases h with h | ⟨c, c', e, fr, h1, h2⟩
  · simp only [h]
  · simp only [h1, h2]

/-- a block that another write does not touch -/
theorem BR.far {m m' : Map} {H H' : Heap} {w w' : World} {bk : Blk} {md : Md} {p : Nat × Nat × Nat} (h : BR m H bk md p w) (hle : ∀ x v, VR m H x v → VR m' H' x v)
    (hh : 0 < p.2.2 → w'.heap[p.1]? = w.heap[p.1]? ∨ ∃ c c' e fr, w.heap[p.1]? = some (.cells c e fr) ∧ w'.heap[p.1]? = some (.cells c' e fr) ∧ c'.size = c.size ∧ ∀ j, p.2.1 ≤ j → j < p.2.1 + p.2.2 → c'[j]? = c[j]?) : BR m' H' bk md p w' := by
  obtain ⟨h1, h2, h3, h5⟩ := h
  refine ⟨h1, h2, h3, fun hp => ?_⟩
  obtain ⟨c, e, fr, g1, g2, g3, g4, g5⟩ := h5 hp
  rcases hh hp with hs | ⟨c0, c', e0, fr0, q1, q2, q3, q4⟩
  · refine ⟨c, e, fr, hs ▸ g1, g2, fun a j b d => by rw [frozen_eq (.inl hs)]; exact g3 a j b d, g4, fun i fo hi hf => ?_⟩
    obtain ⟨x, v, k1, k2, k3⟩ := g5 i fo hi hf
    exact ⟨x, v, k1, k2, hle _ _ k3⟩
  · rw [g1] at q1
    cases q1
    refine ⟨c', e, fr, q2, by omega, fun a j b d => by rw [frozen_eq (.inr ⟨c, c', e, fr, g1, q2⟩)]; exact g3 a j b d, fun j a b v hv => g4 j a b v (by rw [← q4 j a b]; exact hv), fun i fo hi hf => ?_⟩
    obtain ⟨x, v, k1, k2, k3⟩ := g5 i fo hi hf
    have := cell_in hi hf
    exact ⟨x, v, k1, by rw [q4 _ (by omega) (by omega)]; exact k2, hle _ _ k3⟩

/-- a block of ours is written: the heap says so, too -/
theorem Sim.write {m : Map} {H : Heap} {w w' : World} (h : Sim m H w) {b : Nat} {bk bk' : Blk} {md : Md} (hb : hget H b = some (bk, md)) (hmd : md ≠ .ro) (hn : bk'.num = bk.num) (hs : bk'.str = bk.str) (hok : bk'.ok)
    {o : Nat} {vs : List Value} (hw : Writes w w' (m b).1 o vs) (ho : (m b).2.1 ≤ o) (ho2 : o + vs.length ≤ (m b).2.1 + (m b).2.2) (h1 : ∀ v ∈ vs, v.oneCell' = true)
    (hc : ∀ c c' : Array Value, (∀ i fo, i < bk.num → fo < bk.str → ∃ x v, bk.ld i fo = some x ∧ c[(m b).2.1 + (i * bk.str + fo)]? = some v ∧ VR m H x v) →
      (∀ j, j < (m b).2.1 + (m b).2.2 → c'[j]? = if o ≤ j ∧ j < o + vs.length then vs[j - o]? else c[j]?) →
      ∀ i fo, i < bk.num → fo < bk.str → ∃ x v, bk'.ld i fo = some x ∧ c'[(m b).2.1 + (i * bk.str + fo)]? = some v ∧ VR m H x v) :
    Sim m (hfill H b (.live bk' md)) w' ∧ Tr m H w m (hfill H b (.live bk' md)) w' := by
  have hle := Le.fill (m := m) hb hn hs
  have hext : ∀ x v, VR m H x v → VR m (hfill H b (.live bk' md)) x v := fun x v hx => hx.mono hle
  have hB := h.blk b bk md hb
  have hcell : 0 < (m b).2.2 → ∃ c c' e fr, w.heap[(m b).1]? = some (.cells c e fr) ∧ w'.heap[(m b).1]? = some (.cells c' e fr) ∧ c'.size = c.size ∧
      ∀ j, c'[j]? = if o ≤ j ∧ j < o + vs.length ∧ j < c.size then vs[j - o]? else c[j]? := by
    intro hp
    obtain ⟨c, e, fr, g1, _⟩ := hB.2.2.2 hp
    obtain ⟨c', q1, q2, q3⟩ := hw.here c e fr g1
    exact ⟨c, c', e, fr, g1, q1, q2, q3⟩
  have hstay : ¬ 0 < (m b).2.2 → w'.heap = w.heap := fun hp => hw.stay (List.eq_nil_of_length_eq_zero (by omega))
  have hget' : ∀ c ck cd, hget (hfill H b (.live bk' md)) c = some (ck, cd) → (c = b ∧ ck = bk' ∧ cd = md) ∨ (c ≠ b ∧ hget H c = some (ck, cd)) := by
    intro c ck cd hg
    rw [hget_fill] at hg
    by_cases e : c = b
    · rw [if_pos e] at hg
      cases hg
      exact .inl ⟨e, rfl, rfl⟩
    · rw [if_neg e] at hg
      exact .inr ⟨e, hg⟩
  refine ⟨⟨fun c ck cd hg => ?_, fun c c2 ck cd ck2 cd2 hg hg2 hne hmm => ?_⟩, ?_⟩
  · rcases hget' c ck cd hg with ⟨rfl, rfl, rfl⟩ | ⟨hne, hg0⟩
    · obtain ⟨b1, b2, b3, b5⟩ := hB
      refine ⟨hok, by rw [hn, hs]; exact b2, fun hq => by rw [hn, hs]; exact b3 hq, fun hp => ?_⟩
      obtain ⟨c0, c', e, fr, g1, q1, q2, q3⟩ := hcell hp
      obtain ⟨c1, e1, fr1, g1', g2, g3, g4, g5⟩ := b5 hp
      rw [g1] at g1'
      cases g1'
      refine ⟨c', e, fr, q1, by omega, fun a j x y => by rw [frozen_eq (.inr ⟨c0, c', e, fr, g1, q1⟩)]; exact g3 a j x y, fun j x y v hv => ?_, fun i fo hi hf => ?_⟩
      · rw [q3] at hv
        split at hv
        · exact h1 v (List.mem_of_getElem? hv)
        · exact g4 j x y v hv
      · rw [hn] at hi
        rw [hs] at hf ⊢
        obtain ⟨x, v, k1, k2, k3⟩ := hc c0 c' g5 (fun j hj => by
          rw [q3 j]
          by_cases hq : o ≤ j ∧ j < o + vs.length
          · rw [if_pos hq, if_pos ⟨hq.1, hq.2, by omega⟩]
          · rw [if_neg hq, if_neg (fun hh => hq ⟨hh.1, hh.2.1⟩)]) i fo hi hf
        exact ⟨x, v, k1, k2, hext _ _ k3⟩
    · refine (h.blk c ck cd hg0).far hext fun hp => ?_
      by_cases hz : 0 < (m b).2.2
      · by_cases he : (m c).1 = (m b).1
        · right
          obtain ⟨c0, c', e, fr, g1, q1, q2, q3⟩ := hcell hz
          refine ⟨c0, c', e, fr, he ▸ g1, he ▸ q1, q2, fun j x y => ?_⟩
          rw [q3 j, if_neg]
          intro hh
          rcases h.dis c b ck cd bk md hg0 hb hne (.inr hmd) with ha | ha | ha | ha | ha
          · omega
          · omega
          · exact ha he
          · omega
          · omega
        · exact .inl (hw.other _ he)
      · rw [hstay hz]; exact .inl rfl
  · have key : ∀ c ck cd, hget (hfill H b (.live bk' md)) c = some (ck, cd) → ∃ ck0, hget H c = some (ck0, cd) := by
      intro c ck cd hg
      rcases hget' c ck cd hg with ⟨rfl, rfl, rfl⟩ | ⟨_, hg0⟩
      · exact ⟨bk, hb⟩
      · exact ⟨ck, hg0⟩
    obtain ⟨_, k1⟩ := key c ck cd hg
    obtain ⟨_, k2⟩ := key c2 ck2 cd2 hg2
    exact h.dis c c2 _ cd _ cd2 k1 k2 hne hmm
  · refine ⟨hle, hw.os, hw.tape, hw.output, trivial, by rw [hw.size]; exact Nat.le_refl _, fun k hk => ?_, fun k j hj => ?_⟩
    · by_cases he : k = (m b).1
      · subst he
        by_cases hz : 0 < (m b).2.2
        · obtain ⟨c0, c', e, fr, g1, q1, q2, q3⟩ := hcell hz
          refine .inr ⟨c0, c', e, fr, g1, q1, q2, fun j hj => ?_⟩
          rw [q3 j, if_neg]
          intro hh
          exact hj ⟨b, bk, md, hb, hmd, rfl, by omega, by omega⟩
        · rw [hstay hz]; exact .inl rfl
      · exact .inl (hw.other _ he)
    · obtain ⟨c, ck, cd, hg, hq, hr⟩ := hj
      rcases hget' c ck cd hg with ⟨rfl, rfl, rfl⟩ | ⟨_, hg0⟩
      · exact .inr ⟨c, bk, cd, hb, hq, hr⟩
      · exact .inr ⟨c, ck, cd, hg0, hq, hr⟩

end Go.Ab
end

section
/- Stores; new blocks. No condition. -/
namespace Go.Ab
open Go

theorem div_at {n i fo : Nat} (hf : fo < n) {L : Nat} (hi : i < L / n) : i * n + fo < L := by
  have h1 : (i + 1) * n ≤ L / n * n := Nat.mul_le_mul_right _ hi
  have h2 : L / n * n ≤ L := Nat.div_mul_le_self L n
  rw [Nat.add_mul] at h1
  omega

theorem pair_eq {n i fo i' fo' : Nat} (hf : fo < n) (hf' : fo' < n) (h : i * n + fo = i' * n + fo') : i = i' ∧ fo = fo' := by
  have hi : i = i' := by
    have e1 : (i * n + fo) / n = i := by
      rw [Nat.mul_comm, Nat.mul_add_div (by omega), Nat.div_eq_of_lt hf]; rfl
    have e2 : (i' * n + fo') / n = i' := by
      rw [Nat.mul_comm, Nat.mul_add_div (by omega), Nat.div_eq_of_lt hf']; rfl
    rw [← e1, h, e2]
  subst hi
  exact ⟨rfl, by omega⟩

theorem stx_sound {bk bk' : Blk} {i fo : Nat} {v : AV} (h : stx bk i fo v = some bk') (hok : bk.ok) (hi : i < bk.num) (hf : fo < bk.str) :
    bk'.num = bk.num ∧ bk'.str = bk.str ∧ bk'.ok ∧ isCell v = true ∧ ∀ i' fo', i' < bk.num → fo' < bk.str → bk'.ld i' fo' = if i' = i ∧ fo' = fo then some v else bk.ld i' fo' := by
  unfold stx at h
  split at h
  · rename_i k l k' n
    split at h
    · rename_i hk
      subst hk
      cases h
      refine ⟨by simp [Blk.num], rfl, trivial, rfl, fun i' fo' hi' hf' => ?_⟩
      simp only [Blk.str] at hf'
      obtain rfl : fo' = 0 := by omega
      simp only [Blk.ld, and_true]
      simp only [Blk.num] at hi hi'
      by_cases e : i' = i
      · subst e; simp [hi]
      · rw [if_neg e]
        simp only [List.getD_eq_getElem?_getD, List.getElem?_set]
        rw [if_neg (fun h => e h.symm)]
    · cases h
  · rename_i ks l k n
    split at h
    · rename_i hk
      cases h
      simp only [Blk.num, Blk.str] at hi hf
      have hx : (l.getD i []).length = ks.length := hok.2 _ (by simp [hi])
      refine ⟨by simp [Blk.num], rfl, ⟨hok.1, fun x hx' => ?_⟩, rfl, fun i' fo' hi' hf' => ?_⟩
      · rcases List.mem_or_eq_of_mem_set hx' with h1 | h1
        · exact hok.2 x h1
        · rw [h1, List.length_set]; exact hx
      · simp only [Blk.str] at hf'
        simp only [Blk.num] at hi'
        simp only [Blk.ld]
        by_cases e : i' = i
        · subst e
          by_cases e2 : fo' = fo
          · subst e2
            rw [hk, if_pos ⟨rfl, rfl⟩]
            simp only [List.getD_eq_getElem?_getD] at hx ⊢
            simp [hi'] at hx
            simp [hi', hx, hf']
          · rw [if_neg (fun h => e2 h.2)]
            have hne : ¬ fo = fo' := fun h => e2 h.symm
            simp [hi', hne]
        · rw [if_neg (fun h => e h.1)]
          have hne : ¬ i = i' := fun h => e h.symm
          simp [hne]
    · cases h
  · rename_i n l v _ _
    split at h
    · rename_i hc
      cases h
      refine ⟨by simp [Blk.num], rfl, ⟨hok.1, by rw [List.length_set]; exact hok.2⟩, hc, fun i' fo' hi' hf' => ?_⟩
      simp only [Blk.num, Blk.str] at hi hf hi' hf'
      simp only [Blk.ld, List.getElem?_set]
      have hlt := div_at hf hi
      by_cases e : i' = i ∧ fo' = fo
      · obtain ⟨rfl, rfl⟩ := e
        simp [hlt]
      · rw [if_neg e, if_neg]
        intro he
        obtain ⟨e1, e2⟩ := pair_eq hf hf' he
        exact e ⟨e1.symm, e2.symm⟩
    · cases h
  · cases h

theorem stn_sound {i : Nat} : ∀ (vs : List AV) (fo : Nat) {bk bk' : Blk}, stn i vs fo bk = some bk' → bk.ok → i < bk.num → fo + vs.length ≤ bk.str →
    bk'.num = bk.num ∧ bk'.str = bk.str ∧ bk'.ok ∧ (∀ v ∈ vs, isCell v = true) ∧ ∀ i' fo', i' < bk.num → fo' < bk.str → bk'.ld i' fo' = if i' = i ∧ fo ≤ fo' ∧ fo' < fo + vs.length then vs[fo' - fo]? else bk.ld i' fo'
  | [], fo, bk, bk', h, hok, hi, hf => by
    simp only [stn, Option.some.injEq] at h
    subst h
    refine ⟨rfl, rfl, hok, by simp, fun i' fo' _ _ => ?_⟩
    rw [if_neg (by simp only [List.length_nil]; omega)]
  | v :: vs, fo, bk, bk', h, hok, hi, hf => by
    simp only [stn] at h
    simp only [List.length_cons] at hf
    split at h
    · rename_i bk1 h1
      obtain ⟨a1, a2, a3, a4, a5⟩ := stx_sound h1 hok hi (by omega)
      obtain ⟨b1, b2, b3, b4, b5⟩ := stn_sound vs (fo + 1) h a3 (by omega) (by omega)
      refine ⟨by omega, by omega, b3, ?_, fun i' fo' hi' hf' => ?_⟩
      · intro u hu
        rcases List.mem_cons.1 hu with rfl | hu
        · exact a4
        · exact b4 u hu
      · rw [b5 i' fo' (by omega) (by omega)]
        by_cases c1 : i' = i ∧ fo + 1 ≤ fo' ∧ fo' < fo + 1 + vs.length
        · rw [if_pos c1, if_pos (by simp only [List.length_cons]; omega), show fo' - fo = fo' - (fo + 1) + 1 by omega, List.getElem?_cons_succ]
        · rw [if_neg c1, a5 i' fo' hi' hf']
          by_cases c2 : i' = i ∧ fo' = fo
          · rw [if_pos c2, if_pos (by simp only [List.length_cons]; omega)]
            simp [c2.2]
          · rw [if_neg c2, if_neg (by simp only [List.length_cons]; omega)]
    · cases h

theorem rowOf_spec : ∀ (ks : List IntKind) (vs : List AV) (ns : List Int), rowOf ks vs = some ns → vs.length = ks.length ∧ ns.length = ks.length ∧ (∀ v ∈ vs, isCell v = true) ∧ ∀ j, j < ks.length → ∃ k, ks[j]? = some k ∧ vs[j]? = some (.int k (ns.getD j 0))
  | [], [], ns, h => by simp only [rowOf, Option.some.injEq] at h; subst h; exact ⟨rfl, rfl, by simp, fun j hj => by simp at hj⟩
  | k :: ks, v :: vs, ns, h => by
    unfold rowOf at h
    split at h
    · rename_i e1 e2; cases e1
    · rename_i k1 ks1 k' n vs1 e1 e2
      cases e1; cases e2
      split at h
      · rename_i hk
        subst hk
        split at h
        · rename_i ns1 h1
          cases h
          obtain ⟨a1, a2, a3, a4⟩ := rowOf_spec _ _ _ h1
          refine ⟨by simp [a1], by simp [a2], fun v hv => ?_, fun j hj => ?_⟩
          · rcases List.mem_cons.1 hv with rfl | hv
            · rfl
            · exact a3 v hv
          · cases j with
            | zero => exact ⟨_, rfl, rfl⟩
            | succ j => simpa using a4 j (by simpa using hj)
        · cases h
      · cases h
    · cases h
  | [], _ :: _, ns, h => by simp [rowOf] at h
  | _ :: _, [], ns, h => by simp [rowOf] at h

theorem stA_sound {i : Nat} {vs : List AV} {fo : Nat} {bk bk' : Blk} (h : stA i vs fo bk = some bk') (hok : bk.ok) (hi : i < bk.num) (hf : fo + vs.length ≤ bk.str) :
    bk'.num = bk.num ∧ bk'.str = bk.str ∧ bk'.ok ∧ (∀ v ∈ vs, isCell v = true) ∧ ∀ i' fo', i' < bk.num → fo' < bk.str → bk'.ld i' fo' = if i' = i ∧ fo ≤ fo' ∧ fo' < fo + vs.length then vs[fo' - fo]? else bk.ld i' fo' := by
  unfold stA at h
  split at h
  · rename_i ks l
    split at h
    · rename_i ns hns
      cases h
      obtain ⟨a1, a2, a3, a4⟩ := rowOf_spec _ _ _ hns
      refine ⟨by simp [Blk.num], rfl, ⟨hok.1, fun x hx => ?_⟩, a3, fun i' fo' hi' hf' => ?_⟩
      · rcases List.mem_or_eq_of_mem_set hx with h1 | h1
        · exact hok.2 x h1
        · rw [h1]; exact a2
      · simp only [Blk.str] at hf'
        simp only [Blk.num] at hi hi'
        obtain ⟨k, e1, e2⟩ := a4 fo' hf'
        by_cases e : i' = i
        · subst e
          rw [if_pos ⟨rfl, by omega, by omega⟩, Nat.sub_zero, e2]
          simp only [Blk.ld, e1]
          simp [hi']
        · rw [if_neg (fun h => e h.1)]
          have hne : ¬ i = i' := fun h => e h.symm
          simp only [Blk.ld]
          simp [hne]
    · exact stn_sound _ _ h hok hi hf
  · exact stn_sound _ _ h hok hi hf

theorem VR.one {m : Map} {H : Heap} {x : AV} {v : Value} (h : VR m H x v) (hc : isCell x = true) : v.oneCell' = true := by
  cases h <;> first | rfl | (simp [isCell] at hc)

/-- the values that a value's cells are -/
theorem VR.cells {m : Map} {H : Heap} {x : AV} {v : Value} (h : VR m H x v) (hc : (cellsOf x).all isCell = true) : (cellsOf x).length = v.cells.size ∧ ∀ (j : Nat) (y : AV) (u : Value), (cellsOf x)[j]? = some y → v.cells[j]? = some u → VR m H y u := by
  have one : ∀ {x : AV} {v : Value}, VR m H x v → v.cells = #[v] → cellsOf x = [x] → (cellsOf x).length = v.cells.size ∧ ∀ (j : Nat) (y : AV) (u : Value), (cellsOf x)[j]? = some y → v.cells[j]? = some u → VR m H y u := by
    intro x v h hcs hx
    rw [hx, hcs]
    refine ⟨rfl, fun j y u hy hu => ?_⟩
    cases j with
    | zero => simp at hy hu; subst hy hu; exact h
    | succ j => simp at hy
  cases h with
  | undef => simp [cellsOf, isCell] at hc
  | agg l cs hl hv => exact ⟨hl, fun j y u hy hu => hv j y u hy hu⟩
  | tuple => simp [cellsOf, isCell] at hc
  | ptr b i fo a hb hv => exact one (.ptr b i fo a hb hv) rfl rfl
  | whole b a n cap hb hv => exact one (.whole b a n cap hb hv) rfl rfl
  | part b off len a n cap hb hv => exact one (.part b off len a n cap hb hv) rfl rfl
  | seg b i fo len a n cap hb hv => exact one (.seg b i fo len a n cap hb hv) rfl rfl
  | acc b a n cap hb hv => exact one (.acc b a n cap hb hv) rfl rfl
  | func fn first cap f' c' h1 h2 h3 h4 => exact one (.func fn first cap f' c' h1 h2 h3 h4) rfl rfl
  | iface t x v hv => exact one (.iface t x v hv) rfl rfl
  | bool => exact one (.bool _) rfl rfl
  | int => exact one (.int _ _) rfl rfl
  | str => exact one (.str _) rfl rfl
  | nilPtr => exact one .nilPtr rfl rfl
  | nilSlice => exact one .nilSlice rfl rfl
  | nilFunc => exact one .nilFunc rfl rfl
  | nilIface => exact one .nilIface rfl rfl

theorem VR.cells_one {m : Map} {H : Heap} {x : AV} {v : Value} (h : VR m H x v) (hc : (cellsOf x).all isCell = true) : ∀ u ∈ v.cells.toList, u.oneCell' = true := by
  obtain ⟨h1, h2⟩ := h.cells hc
  intro u hu
  obtain ⟨j, hj⟩ := List.mem_iff_getElem?.1 hu
  have hj' : v.cells[j]? = some u := by simpa using hj
  have hlt : j < (cellsOf x).length := by
    rw [h1]
    exact (Array.getElem?_eq_some_iff.1 hj').1
  have hx := List.getElem?_eq_getElem hlt
  exact (h2 j _ u hx hj').one (List.all_eq_true.1 hc _ (List.getElem_mem hlt))

/-- a store -/
theorem store_sound {P : Program} {m : Map} {H : Heap} {w : World} (h : Sim m H w) {t : TypeId} {n : Nat} {b i fo : Nat} {bk bk' : Blk} {md : Md} {p v : Value} {x : AV} (hp : VR m H (.ptr b i fo) p) (hx : VR m H x v) (hb : hget H b = some (bk, md)) (hmd : md ≠ .ro)
    (hn : sizeT P t = some n) (hl : (cellsOf x).length = n) (hle : fo + n ≤ bk.str) (hst : stA i (cellsOf x) fo bk = some bk') :
    ∃ w', (Instr.storeAt t p v).run P w = .ok () w' ∧ Sim m (hfill H b (.live bk' md)) w' ∧ Tr m H w m (hfill H b (.live bk' md)) w' := by
  cases hp with
  | ptr _ _ _ a hbl hv =>
    obtain ⟨hi, hf, rfl⟩ := hv bk md hb
    obtain ⟨B1, B2, B3, B5⟩ := h.blk b bk md hb
    obtain ⟨s1, s2, s3, s4, s5⟩ := stA_sound hst B1 hi (by rw [hl]; exact hle)
    have hcell : (cellsOf x).all isCell = true := List.all_eq_true.2 s4
    obtain ⟨c1, c2⟩ := hx.cells hcell
    have c3 := hx.cells_one hcell
    have hin := cell_in hi hf
    have hin2 : i * bk.str + (fo + n) ≤ bk.num * bk.str := by
      have : (i + 1) * bk.str ≤ bk.num * bk.str := Nat.mul_le_mul_right _ hi
      rw [Nat.add_mul] at this
      omega
    obtain ⟨c, e, fr, g1, g2, g3, g4, g5⟩ := B5 (by omega)
    have hsz : v.cells.size = n := by omega
    have hlen : v.cells.toList.length = n := by simp [hsz]
    have hrun := run_storeCells_cells (P := P) (m b).1 ((m b).2.1 + (i * bk.str + fo)) v.cells.toList 0 w
      (fun j hj => by
        simp only [Nat.add_zero, World.cell?, g1]
        simp
        omega)
      (fun j hj => by
        simp only [Nat.add_zero]
        exact g3 hmd _ (by omega) (by omega)) c3
    refine ⟨w.setCells (m b).1 ((m b).2.1 + (i * bk.str + fo)) v.cells.toList, ?_, ?_⟩
    · simp only [Nat.add_zero] at hrun
      simp [Instr.storeAt, Instr.sureAddr, storeVar, run_sizeOf' hn, hsz, hrun]
    · refine h.write hb hmd s1 s2 s3 (Writes.setCells _ _ _ _) (by omega) (by omega) c3 fun c0 c' g5' hc' i' fo' hi' hf' => ?_
      have hin' := cell_in hi' hf'
      rw [s5 i' fo' hi' hf', hc' _ (by omega)]
      by_cases hq : i' = i ∧ fo ≤ fo' ∧ fo' < fo + (cellsOf x).length
      · obtain ⟨rfl, q1, q2⟩ := hq
        rw [if_pos ⟨rfl, q1, q2⟩, if_pos ⟨by omega, by omega⟩]
        rw [show (m b).2.1 + (i' * bk.str + fo') - ((m b).2.1 + (i' * bk.str + fo)) = fo' - fo by omega]
        have h1 : fo' - fo < (cellsOf x).length := by omega
        have h2 : fo' - fo < v.cells.toList.length := by omega
        exact ⟨_, _, List.getElem?_eq_getElem h1, List.getElem?_eq_getElem h2, c2 _ _ _ (List.getElem?_eq_getElem h1) (by simp)⟩
      · rw [if_neg hq, if_neg]
        · exact g5' i' fo' hi' hf'
        · intro hh
          apply hq
          -- the places lie in one element
          have e1 : i' * bk.str + fo' = i * bk.str + (i' * bk.str + fo' - i * bk.str) := by omega
          obtain ⟨p1, p2⟩ := pair_eq hf' (show i' * bk.str + fo' - i * bk.str < bk.str by omega) e1
          subst p1
          exact ⟨rfl, by omega, by omega⟩

def upd (m : Map) (b : Nat) (p : Nat × Nat × Nat) : Map := fun c => if c = b then p else m c

theorem Le.new {m : Map} {H : Heap} {n : Nat} (hn : hkn H n = false) {e : Ent} {p : Nat × Nat × Nat} : Le m H (upd m n p) (hfill H n e) where
  kn b hb := by
    rw [hkn_fill, if_neg]
    · exact hb
    · rintro rfl
      rw [hn] at hb
      cases hb
  at_ b bk' md' hb hg := by
    have hne : b ≠ n := by
      rintro rfl
      rw [hn] at hb
      cases hb
    rw [hget_fill, if_neg hne] at hg
    exact ⟨bk', hg, rfl, rfl, by unfold upd; rw [if_neg hne]⟩

theorem Sim.lt {m : Map} {H : Heap} {w : World} (h : Sim m H w) {b : Nat} {bk : Blk} {md : Md} (hb : hget H b = some (bk, md)) (hp : 0 < (m b).2.2) : (m b).1 < w.heap.size := by
  obtain ⟨c, e, fr, g1, _⟩ := (h.blk b bk md hb).2.2.2 hp
  exact (Array.getElem?_eq_some_iff.1 g1).1

/-- a new block -/
theorem Sim.new {m : Map} {H : Heap} {w w' : World} (h : Sim m H w) {n : Nat} (hn : hkn H n = false) {bk : Blk} {c : Array Value} {e : TypeId} (hok : bk.ok) (hsz : bk.num * bk.str ≤ c.size)
    (hh : w'.heap = w.heap.push (.cells c e (0, 0))) (hos : w'.os = w.os) (htape : w'.tape = w.tape) (hout : w'.output = w.output) (hdr : w.drawn ≤ w'.drawn)
    (h1 : ∀ (j : Nat) (v : Value), c[j]? = some v → v.oneCell' = true)
    (hc : ∀ i fo, i < bk.num → fo < bk.str → ∃ x v, bk.ld i fo = some x ∧ c[i * bk.str + fo]? = some v ∧ VR m H x v) :
    Sim (upd m n (if c.size = 0 then (0, 0, 0) else (w.heap.size, 0, c.size))) (hfill H n (.live bk .own)) w' ∧
    Tr m H w (upd m n (if c.size = 0 then (0, 0, 0) else (w.heap.size, 0, c.size))) (hfill H n (.live bk .own)) w' := by
  have hle := Le.new (m := m) hn (e := .live bk .own) (p := if c.size = 0 then (0, 0, 0) else (w.heap.size, 0, c.size))
  have hext : ∀ x v, VR m H x v → VR (upd m n (if c.size = 0 then (0, 0, 0) else (w.heap.size, 0, c.size))) (hfill H n (.live bk .own)) x v := fun x v hx => hx.mono hle
  have hold : ∀ k, k < w.heap.size → w'.heap[k]? = w.heap[k]? := fun k hk => by rw [hh, Array.getElem?_push, if_neg (by omega)]
  have hget' : ∀ b bk2 md2, hget (hfill H n (.live bk .own)) b = some (bk2, md2) → (b = n ∧ bk2 = bk ∧ md2 = .own) ∨ (b ≠ n ∧ hget H b = some (bk2, md2)) := by
    intro b bk2 md2 hg
    rw [hget_fill] at hg
    split at hg
    · rename_i e; cases hg; exact .inl ⟨e, rfl, rfl⟩
    · rename_i e; exact .inr ⟨e, hg⟩
  have hmo : ∀ b, b ≠ n → upd m n (if c.size = 0 then (0, 0, 0) else (w.heap.size, 0, c.size)) b = m b := fun b hb => by unfold upd; rw [if_neg hb]
  have hmn : upd m n (if c.size = 0 then (0, 0, 0) else (w.heap.size, 0, c.size)) n = if c.size = 0 then (0, 0, 0) else (w.heap.size, 0, c.size) := by unfold upd; rw [if_pos rfl]
  have hpos := hok.pos
  refine ⟨⟨fun b bk2 md2 hg => ?_, fun b b' bk2 md2 bk3 md3 hg hg' hne hmm => ?_⟩, ?_⟩
  · rcases hget' b bk2 md2 hg with ⟨rfl, rfl, rfl⟩ | ⟨hb, hg0⟩
    · rw [hmn]
      by_cases hz : c.size = 0
      · rw [if_pos hz]
        exact ⟨hok, by rw [hz] at hsz; exact hsz, fun hq => absurd rfl hq, fun hp => absurd hp (by simp)⟩
      · rw [if_neg hz] at hext ⊢
        refine ⟨hok, hsz, fun hq => absurd rfl hq, fun _ => ⟨c, e, (0, 0), by rw [hh]; simp, by simp, fun _ j _ _ => ?_, fun j _ _ v hv => h1 j v hv, fun i fo hi hf => ?_⟩⟩
        · simp [World.frozen?, hh]
        · obtain ⟨x, v, k1, k2, k3⟩ := hc i fo hi hf
          exact ⟨x, v, k1, by simpa using k2, hext _ _ k3⟩
    · rw [hmo b hb]
      refine (h.blk b bk2 md2 hg0).far hext fun hp => .inl (hold _ (h.lt hg0 hp))
  · have key : ∀ b bk2 md2, b ≠ n → hget H b = some (bk2, md2) → apart (m b) (if c.size = 0 then (0, 0, 0) else (w.heap.size, 0, c.size)) := by
      intro b bk2 md2 _ hg0
      by_cases hz : c.size = 0
      · rw [if_pos hz]; unfold apart; simp
      · rw [if_neg hz]
        by_cases hp : 0 < (m b).2.2
        · have := h.lt hg0 hp
          right; right; left
          show (m b).1 ≠ w.heap.size
          omega
        · left; omega
    rcases hget' b bk2 md2 hg with ⟨rfl, rfl, rfl⟩ | ⟨hb, hg0⟩ <;> rcases hget' b' bk3 md3 hg' with ⟨rfl, rfl, rfl⟩ | ⟨hb', hg0'⟩
    · exact absurd rfl hne
    · rw [hmn, hmo b' hb']
      exact (key b' bk3 md3 hb' hg0').symm
    · rw [hmn, hmo b hb]; exact key b bk2 md2 hb hg0
    · rw [hmo b hb, hmo b' hb']; exact h.dis b b' _ _ _ _ hg0 hg0' hne hmm
  · refine ⟨hle, hos, htape, hout, trivial, by rw [hh]; simp, fun k hk => .inl (hold k hk), fun k j hj => ?_⟩
    obtain ⟨b, bk2, md2, hg, hq, hr1, hr2, hr3⟩ := hj
    rcases hget' b bk2 md2 hg with ⟨rfl, rfl, rfl⟩ | ⟨hb, hg0⟩
    · rw [hmn] at hr1 hr2 hr3
      by_cases hz : c.size = 0
      · rw [if_pos hz] at hr2 hr3; simp at hr3
      · rw [if_neg hz] at hr1; left; simp at hr1; omega
    · rw [hmo b hb] at hr1 hr2 hr3
      exact .inr ⟨b, bk2, md2, hg0, hq, hr1, hr2, hr3⟩

theorem VR.newPtr {m : Map} {H : Heap} {bk : Blk} {n g : Nat} {s : Nat} (hn : 0 < bk.num) (hok : bk.ok) (hs : 0 < s) : VR (upd m n (if s = 0 then (0, 0, 0) else (g, 0, s))) (hfill H n (.live bk .own)) (.ptr n 0 0) (.pointer (some ⟨g, 0, none⟩)) :=
  .ptr _ _ _ _ (by rw [hkn_fill, if_pos rfl]; rfl) fun bk2 md2 hg => by
    rw [hget_fill, if_pos rfl] at hg
    cases hg
    refine ⟨hn, hok.pos, ?_⟩
    simp [upd, show ¬ s = 0 by omega]

theorem VR.newWhole {m : Map} {H : Heap} {bk : Blk} {n g s cap : Nat} {a : Option Addr} (hcap : bk.num ≤ cap) (hs : cap * bk.str = s) (hok : bk.ok) (ha : 0 < cap → a = some ⟨g, 0, none⟩) (hnn : a ≠ none) : VR (upd m n (if s = 0 then (0, 0, 0) else (g, 0, s))) (hfill H n (.live bk .own)) (.whole n) (.slice a bk.num cap) :=
  .whole _ _ _ _ (by rw [hkn_fill, if_pos rfl]; rfl) fun bk2 md2 hg => by
    rw [hget_fill, if_pos rfl] at hg
    cases hg
    refine ⟨rfl, hcap, fun _ => ⟨?_, hnn⟩, fun hc => ?_⟩
    · simp only [upd, if_true, Nat.zero_add]
      by_cases hz : s = 0
      · rw [if_pos hz]; simp; omega
      · rw [if_neg hz]; simp; omega
    · have hz : ¬ s = 0 := by
        have := Nat.mul_pos hc hok.pos
        omega
      rw [ha hc]
      simp [upd, hz]
theorem VR.newAcc {m : Map} {H : Heap} {bk : Blk} {n g s cap : Nat} {a : Option Addr} (hcap : bk.num ≤ cap) (hs : cap * bk.str = s) (hok : bk.ok) (ha : 0 < cap → a = some ⟨g, 0, none⟩) : VR (upd m n (if s = 0 then (0, 0, 0) else (g, 0, s))) (hfill H n (.live bk .own)) (.acc n) (.slice a bk.num cap) :=
  .acc _ _ _ _ (by rw [hkn_fill, if_pos rfl]; rfl) fun bk2 md2 hg => by
    rw [hget_fill, if_pos rfl] at hg
    cases hg
    refine ⟨rfl, hcap, fun _ => ?_, fun hc => ?_⟩
    · simp only [upd, if_true]
      by_cases hz : s = 0
      · rw [if_pos hz]; simp; omega
      · rw [if_neg hz]; simp; omega
    · have hz : ¬ s = 0 := by
        have := Nat.mul_pos hc hok.pos
        omega
      rw [ha hc]
      simp [upd, hz]
theorem VR.acc_whole {m : Map} {H : Heap} {b : Nat} {v : Value} (h : VR m H (.whole b) v) : VR m H (.acc b) v := by
  cases h with
  | whole _ a n cap hb hv =>
    refine .acc b a n cap hb fun bk md hg => ?_
    obtain ⟨h1, h2, h3, h4⟩ := hv bk md hg
    exact ⟨h1, by omega, fun hm => by simpa using (h3 hm).1, fun hc => by simpa using h4 hc⟩

end Go.Ab
end

section
/- New variables and rows, by their zeros; parts of values. No condition. -/
namespace Go.Ab
open Go

theorem zerosOf_sound {P : Program} {e : TypeId} {vs : List Value} (h : zerosOf P e = some vs) :
    ∃ i z, P.info? e = some i ∧ i.zero = some z ∧ z.cells.size = i.size ∧ 0 < i.size ∧ vs = z.cells.toList ∧ ∀ v ∈ vs, v.oneCell' = true := by
  unfold zerosOf at h
  split at h
  · rename_i i hi
    split at h
    · rename_i z hz
      split at h
      · rename_i h1
        split at h
        · rename_i h2
          split at h
          · rename_i h3
            cases h
            exact ⟨i, z, hi, hz, h1, h2, rfl, List.all_eq_true.1 h3⟩
          · cases h
        · cases h
      · cases h
    · cases h
  · cases h

theorem intZeros_sound : ∀ {vs : List Value} {ks : List IntKind}, intZeros vs = some ks → vs = ks.map (fun k => Value.int k 0)
  | [], ks, h => by simp only [intZeros, Option.some.injEq] at h; subst h; rfl
  | v :: vs, ks, h => by
    unfold intZeros at h
    split at h
    · rename_i e; cases e
    · rename_i k vs' e
      cases e
      split at h
      · rename_i ks' hk
        cases h
        rw [intZeros_sound hk]; rfl
      · cases h
    · cases h

theorem flat_rep {α : Type} (zs : List α) (n j fo : Nat) (hf : fo < zs.length) (hj : j < n) : (List.replicate n zs).flatten[j * zs.length + fo]? = zs[fo]? := by
  induction n generalizing j with
  | zero => omega
  | succ n ih =>
    rw [List.replicate_succ, List.flatten_cons]
    cases j with
    | zero => rw [Nat.zero_mul, Nat.zero_add, List.getElem?_append_left hf]
    | succ j =>
      rw [Nat.succ_mul, List.getElem?_append_right (by omega)]
      rw [show j * zs.length + zs.length + fo - zs.length = j * zs.length + fo by omega]
      exact ih j (by omega)

theorem flat_rep_length {α : Type} (zs : List α) (n : Nat) : (List.replicate n zs).flatten.length = n * zs.length := by
  induction n with
  | zero => simp
  | succ n ih => rw [List.replicate_succ, List.flatten_cons, List.length_append, ih, Nat.succ_mul]; omega

theorem zk_sound {P : Program} {e : TypeId} {z : ZK} (h : zk P e = some z) :
    ∃ vs, zerosOf P e = some vs ∧ ∀ (m : Map) (H : Heap) (n : Nat), (newB z n).ok ∧ (newB z n).num = n ∧ (newB z n).str = vs.length ∧
      ∀ j fo, j < n → fo < vs.length → ∃ x v, (newB z n).ld j fo = some x ∧ vs[fo]? = some v ∧ VR m H x v := by
  unfold zk at h
  split at h
  · rename_i vs hvs
    obtain ⟨i, zv, h1, h2, h3, h4, h5, h6⟩ := zerosOf_sound hvs
    have hpos : 0 < vs.length := by rw [h5]; simp; omega
    refine ⟨vs, hvs, fun m H n => ?_⟩
    split at h
    · rename_i ks hks
      have hv := intZeros_sound hks
      have hlen : ks.length = vs.length := by rw [hv]; simp
      split at h
      · cases h
        refine ⟨trivial, by simp [newB, Blk.num], by rw [← hlen]; rfl, fun j fo hj hf => ?_⟩
        rw [← hlen] at hf
        obtain rfl : fo = 0 := by simp at hf; omega
        exact ⟨_, .int _ 0, rfl, by rw [hv]; rfl, by simp [List.getD, hj]; exact .int _ 0⟩
      · rename_i _ ks _ _ _
        cases h
        refine ⟨⟨by omega, fun x hx => ?_⟩, by simp [newB, Blk.num], hlen, fun j fo hj hf => ?_⟩
        · obtain ⟨_, rfl⟩ := List.mem_replicate.1 hx
          simp
        · have hk : fo < ks.length := by omega
          refine ⟨.int ks[fo] 0, .int ks[fo] 0, ?_, by rw [hv]; simp [hk], .int _ _⟩
          simp [newB, Blk.ld, hk, hj]
      · cases h
    · split at h
      · rename_i hall
        cases h
        have hall' := List.all_eq_true.1 hall
        have hl : (vs.map cv1).length = vs.length := by simp
        refine ⟨⟨by simpa using hpos, by simp only [flat_rep_length]; exact Nat.mul_mod_left _ _⟩, ?_, hl, fun j fo hj hf => ?_⟩
        · simp only [newB, Blk.num, flat_rep_length]
          exact Nat.mul_div_cancel _ (by rw [hl]; exact hpos)
        · refine ⟨cv1 vs[fo], vs[fo], ?_, by simp [hf], VR.cv1 _ _ _⟩
          simp only [newB, Blk.ld]
          rw [flat_rep _ _ _ _ (by rw [hl]; exact hf) hj]
          simp [hf]
      · cases h
  · cases h

theorem madeCells_get (z : Array Value) (n s j fo : Nat) (hz : z.size = s) (hj : j < n) (hf : fo < s) : (madeCells z (n * s))[j * s + fo]? = z[fo]? := by
  have hlt : j * s + fo < n * s := by
    have : (j + 1) * s ≤ n * s := Nat.mul_le_mul_right _ hj
    rw [Nat.add_mul] at this
    omega
  have hm : (j * s + fo) % z.size = fo := by rw [hz, Nat.mul_comm, Nat.mul_add_mod]; exact Nat.mod_eq_of_lt hf
  have hff : fo < z.size := by omega
  simp [madeCells, hlt, hm, hff]

theorem madeCells_one (z : Array Value) (n : Nat) (hz : ∀ v ∈ z.toList, v.oneCell' = true) (hp : 0 < z.size) (j : Nat) (v : Value) (h : (madeCells z n)[j]? = some v) : v.oneCell' = true := by
  simp only [madeCells, Array.getElem?_map, Option.map_eq_some_iff] at h
  obtain ⟨q, _, rfl⟩ := h
  have hlt : q % z.size < z.size := Nat.mod_lt _ hp
  apply hz
  simp [hlt]

/-- make -/
theorem make_sound {P : Program} {m : Map} {H : Heap} {w : World} (h : Sim m H w) {q : Nat} (hq : hkn H q = false) {t el : TypeId} {z : ZK} {i : TypeInfo} {k k' : IntKind} {n : Int} (ht : P.underlying t = some (.slice el)) (hz : zk P el = some z) (hi : P.info? el = some i)
    (h0 : 0 ≤ n) (hb : i.bytes * n ≤ 281474976710656) (h63 : n ≤ 9223372036854775807) :
    ∃ v m' w', (Instr.makeSlice t (.int k n) (.int k' n)).run P w = .ok v w' ∧ Sim m' (hfill H q (.live (newB z n.toNat) .own)) w' ∧ VR m' (hfill H q (.live (newB z n.toNat) .own)) (.whole q) v ∧ Tr m H w m' (hfill H q (.live (newB z n.toNat) .own)) w' := by
  obtain ⟨vs, hvs, hnew⟩ := zk_sound hz
  obtain ⟨i', zv, h1, h2, h3, h4, h5, h6⟩ := zerosOf_sound hvs
  rw [hi] at h1
  cases h1
  obtain ⟨n1, n2, n3, n4⟩ := hnew m H n.toNat
  have hlen : vs.length = i.size := by rw [h5]; simp [h3]
  have hr := run_make (P := P) w t el i zv ht hi h2 k k' n n h0 (Int.le_refl _) hb h63
  have hsz : (madeCells zv.cells (n.toNat * i.size)).size = n.toNat * i.size := size_madeCells _ _
  obtain ⟨s1, s2⟩ := h.new hq (w' := w.alloc (.cells (madeCells zv.cells (n.toNat * i.size)) el)) (bk := newB z n.toNat) (c := madeCells zv.cells (n.toNat * i.size)) (e := el) n1 (by rw [n2, n3, hsz, hlen]; exact Nat.le_refl _) rfl rfl rfl rfl (Nat.le_refl _)
    (fun j v hv => madeCells_one _ _ (by rw [← h5]; exact h6) (by omega) j v hv) (fun j fo hj hf => by
      rw [n2] at hj
      rw [n3] at hf
      obtain ⟨x, v, k1, k2, k3⟩ := n4 j fo hj hf
      refine ⟨x, v, k1, ?_, k3⟩
      rw [n3, hlen, madeCells_get zv.cells n.toNat i.size j fo h3 hj (by omega)]
      rw [h5] at k2
      simpa using k2)
  refine ⟨_, _, _, hr, s1, ?_, s2⟩
  have := VR.newWhole (m := m) (H := H) (n := q) (bk := newB z n.toNat) (g := w.heap.size) (s := (madeCells zv.cells (n.toNat * i.size)).size) (cap := n.toNat) (a := some ⟨w.heap.size, 0, none⟩) (by rw [n2]; exact Nat.le_refl _) (by rw [n3, hsz, hlen]) n1 (fun _ => rfl) (by simp)
  rw [n2] at this
  exact this

/-- new(T), a variable's zero -/
theorem alloc_sound {P : Program} {m : Map} {H : Heap} {w : World} (h : Sim m H w) {q : Nat} (hq : hkn H q = false) {t : TypeId} {vs : List Value} (hvs : zerosOf P t = some vs) (old : Value) :
    ∃ v m' w', (Instr.alloc t true old).run P w = .ok v w' ∧ Sim m' (hfill H q (.live (.vals vs.length (vs.map cv1)) .own)) w' ∧ VR m' (hfill H q (.live (.vals vs.length (vs.map cv1)) .own)) (.ptr q 0 0) v ∧ Tr m H w m' (hfill H q (.live (.vals vs.length (vs.map cv1)) .own)) w' := by
  obtain ⟨i, zv, h1, h2, h3, h4, h5, h6⟩ := zerosOf_sound hvs
  have hlen : vs.length = i.size := by rw [h5]; simp [h3]
  have hnum : (Blk.vals vs.length (vs.map cv1)).num = 1 := by
    simp only [Blk.num, List.length_map]
    exact Nat.div_self (by omega)
  have hok : (Blk.vals vs.length (vs.map cv1)).ok := ⟨by omega, by simp⟩
  obtain ⟨s1, s2⟩ := h.new hq (w' := w.alloc (.cells zv.cells t)) (bk := .vals vs.length (vs.map cv1)) (c := zv.cells) (e := t) hok (by rw [hnum]; simp [Blk.str]; omega) rfl rfl rfl rfl (Nat.le_refl _)
    (fun j v hv => h6 v (by rw [h5]; exact List.mem_of_getElem? (by simpa using hv))) (fun j fo hj hf => by
      rw [hnum] at hj
      obtain rfl : j = 0 := by omega
      simp only [Blk.str] at hf
      refine ⟨cv1 vs[fo], vs[fo], by simp [Blk.ld, hf], ?_, VR.cv1 _ _ _⟩
      simp [Blk.str]
      rw [← Array.getElem?_toList, ← h5]
      simp [hf])
  refine ⟨.pointer (some ⟨w.heap.size, 0, none⟩), _, _, ?_, s1, VR.newPtr (by omega) hok (by omega), s2⟩
  simp [Instr.alloc, zeroValue, typeInfo, h1, h2, newVar, newRow]

theorem box_sound {P : Program} {m : Map} {H : Heap} {w : World} (h : Sim m H w) {q : Nat} (hq : hkn H q = false) {t : TypeId} {x : AV} {v : Value} (hx : VR m H x v) (hall : (cellsOf x).all isCell = true) (hpos : 0 < (cellsOf x).length) :
    ∃ p m' w', (Instr.box t v).run P w = .ok p w' ∧ Sim m' (hfill H q (.live (.vals (cellsOf x).length (cellsOf x)) .own)) w' ∧ VR m' (hfill H q (.live (.vals (cellsOf x).length (cellsOf x)) .own)) (.ptr q 0 0) p ∧ Tr m H w m' (hfill H q (.live (.vals (cellsOf x).length (cellsOf x)) .own)) w' := by
  obtain ⟨c1, c2⟩ := hx.cells hall
  have c3 := hx.cells_one hall
  have hnum : (Blk.vals (cellsOf x).length (cellsOf x)).num = 1 := Nat.div_self hpos
  have hok : (Blk.vals (cellsOf x).length (cellsOf x)).ok := ⟨hpos, Nat.mod_self _⟩
  obtain ⟨s1, s2⟩ := h.new hq (w' := w.alloc (.cells v.cells t)) (bk := .vals (cellsOf x).length (cellsOf x)) (c := v.cells) (e := t) hok (by rw [hnum]; simp [Blk.str]; omega) rfl rfl rfl rfl (Nat.le_refl _)
    (fun j u hu => c3 u (List.mem_of_getElem? (by simpa using hu))) (fun j fo hj hf => by
      rw [hnum] at hj
      obtain rfl : j = 0 := by omega
      simp only [Blk.str] at hf
      have hf' : fo < v.cells.size := by omega
      exact ⟨(cellsOf x)[fo], v.cells[fo], by simp [Blk.ld, hf], by simp [Blk.str, hf'], c2 fo _ _ (by simp [hf]) (by simp [hf'])⟩)
  refine ⟨.pointer (some ⟨w.heap.size, 0, none⟩), _, _, ?_, s1, VR.newPtr (by omega) hok (by omega), s2⟩
  simp [Instr.box, newVar, newRow]

end Go.Ab
end

