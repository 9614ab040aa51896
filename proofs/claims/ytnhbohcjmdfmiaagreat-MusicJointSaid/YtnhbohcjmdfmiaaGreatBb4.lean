/- An evaluator for the model's code over typed, abstract blocks, with its soundness, part 4 of 6: laws of any program; their conditions stand in each. -/
import Derived.Test.YtnhbohcjmdfmiaaGreatBb3
set_option linter.unusedVariables false
set_option linter.unusedSimpArgs false
section
/- A state, or a call's arguments, by a pattern: plain data out of it, and a small heap of its own. No condition. -/
namespace Go.Ab
open Go

/-- where a place of the small heap lies in the great one -/
inductive View where
  | ph (z : Bool)      -- nothing; z: where a slice of our own could stand
  | full (b : Nat)
  | sub (b off len : Nat)
  | el (b i fo n : Nat)

inductive SV where
  | undef
  | int (k : IntKind)
  | intc (k : IntKind) (n : Int)
  | bool
  | str
  | nilPtr
  | nilSlice
  | nilFunc
  | nilIface
  | whole (j : Nat)
  | acc (j : Nat)
  | part (j : Nat)
  | ptr (j fo : Nat)
  | el (j n : Nat)
  | ptr0 (j fo : Nat)
  | func (fn : FuncId) (first cap : List SV)
  | iface (t : TypeId) (v : SV)
  | agg (l : List SV)
  | tuple (l : List SV)

inductive Lf where
  | i (n : Int)
  | b (b : Bool)
  | s (s : ByteArray)
  | n (n : Nat)
  | li (l : List Int)
  | lr (l : List (List Int))

inductive SB where
  | ints (k : IntKind)
  | recs (ks : List IntKind)
  | vals (n : Nat) (l : List SV)
  | dead
  | hole

abbrev Vs := List (Option View)

def vat : Vs → Nat → Option View
  | [], _ => none
  | v :: _, 0 => v
  | _ :: vs, n + 1 => vat vs n

def vset : Vs → Nat → View → Vs
  | [], _, _ => []
  | _ :: vs, 0, v => some v :: vs
  | x :: vs, n + 1, v => x :: vset vs n v

theorem vat_vset (vs : Vs) (j i : Nat) (v : View) : vat (vset vs j v) i = if i = j ∧ j < vs.length then some v else vat vs i := by
  induction vs generalizing j i with
  | nil => simp [vset, vat]
  | cons x xs ih => cases j with
    | zero => cases i <;> simp [vset, vat]
    | succ j => cases i with
      | zero => simp [vset, vat]
      | succ i => simp [vset, vat, ih]

theorem vset_length (vs : Vs) (j : Nat) (v : View) : (vset vs j v).length = vs.length := by
  induction vs generalizing j with
  | nil => rfl
  | cons x xs ih => cases j <;> simp [vset, ih]

def bindV (vs : Vs) (j : Nat) (v : View) : Option Vs := if j < vs.length then some (vset vs j v) else none

/-- a slice at place j -/
def mRef (j : Nat) (x : AV) (vs : Vs) : Option Vs :=
  match vat vs j, x with
  | none, .whole b => bindV vs j (.full b)
  | none, .part b off len => bindV vs j (.sub b off len)
  | none, .nilSlice => bindV vs j (.ph false)
  | some (.full b'), .whole b => if b = b' then some vs else none
  | some (.ph false), .nilSlice => some vs
  | _, _ => none

/-- a slice of our own, or nothing, at place j -/
def mAcc (j : Nat) (x : AV) (vs : Vs) : Option Vs :=
  match vat vs j, x with
  | none, .whole b => bindV vs j (.full b)
  | none, .acc b => bindV vs j (.full b)
  | none, .nilSlice => bindV vs j (.ph true)
  | some (.full b'), .whole b => if b = b' then some vs else none
  | some (.full b'), .acc b => if b = b' then some vs else none
  | some (.ph true), .nilSlice => some vs
  | _, _ => none

def mFull (j b : Nat) (vs : Vs) : Option Vs :=
  match vat vs j with
  | none => bindV vs j (.full b)
  | some (.full b') => if b = b' then some vs else none
  | _ => none

def mFullO (j b : Nat) (vs : Vs) : Option (List Lf × Vs) := match mFull j b vs with | some vs' => some ([], vs') | none => none

mutual
def mV : SV → AV → Vs → Option (List Lf × Vs)
  | .undef, _, vs => some ([], vs)
  | .int k, x, vs => match x with | .int k' n => if k = k' then some ([.i n], vs) else none | _ => none
  | .intc k c, x, vs => match x with | .int k' n => if k = k' ∧ c = n then some ([], vs) else none | _ => none
  | .bool, x, vs => match x with | .bool b => some ([.b b], vs) | _ => none
  | .str, x, vs => match x with | .str b => some ([.s b], vs) | _ => none
  | .nilPtr, x, vs => match x with | .nilPtr => some ([], vs) | _ => none
  | .nilSlice, x, vs => match x with | .nilSlice => some ([], vs) | _ => none
  | .nilFunc, x, vs => match x with | .nilFunc => some ([], vs) | _ => none
  | .nilIface, x, vs => match x with | .nilIface => some ([], vs) | _ => none
  | .whole j, x, vs => match mRef j x vs with | some vs' => some ([], vs') | none => none
  | .acc j, x, vs => match mAcc j x vs with | some vs' => some ([], vs') | none => none
  | .part j, x, vs => match x with | .part b off len => (match mFull j b vs with | some vs' => some ([.n off, .n len], vs') | none => none) | _ => none
  | .ptr j fo, x, vs => match x with | .ptr b i fo' => if fo = fo' then (match mFull j b vs with | some vs' => some ([.n i], vs') | none => none) else none | _ => none
  | .ptr0 j fo, x, vs => match x with | .ptr b 0 fo' => if fo = fo' then mFullO j b vs else none | _ => none
  | .el j n, x, vs => match vat vs j, x with | none, .ptr b i fo => (match bindV vs j (.el b i fo n) with | some vs' => some ([], vs') | none => none) | _, _ => none
  | .func fn f c, x, vs => match x with
    | .func (.func fn') f' c' => if fn = fn' then (match mVL f f' vs with
      | some (l1, vs1) => (match mVL c c' vs1 with | some (l2, vs2) => some (l1 ++ l2, vs2) | none => none)
      | none => none) else none
    | _ => none
  | .iface t v, x, vs => match x with | .iface t' v' => if t = t' then mV v v' vs else none | _ => none
  | .agg l, x, vs => match x with | .agg l' => mVL l l' vs | _ => none
  | .tuple l, x, vs => match x with | .tuple l' => mVL l l' vs | _ => none
def mVL : List SV → List AV → Vs → Option (List Lf × Vs)
  | [], xs, vs => match xs with | [] => some ([], vs) | _ => none
  | p :: ps, xs, vs => match xs with
    | x :: xs => (match mV p x vs with
      | some (l1, vs1) => (match mVL ps xs vs1 with | some (l2, vs2) => some (l1 ++ l2, vs2) | none => none)
      | none => none)
    | _ => none
end

mutual
def fV : SV → List Lf → AV × List Lf
  | .undef, l => (.undef, l)
  | .int k, l => match l with | .i n :: l => (.int k n, l) | l => (.undef, l)
  | .intc k n, l => (.int k n, l)
  | .bool, l => match l with | .b n :: l => (.bool n, l) | l => (.undef, l)
  | .str, l => match l with | .s n :: l => (.str n, l) | l => (.undef, l)
  | .nilPtr, l => (.nilPtr, l)
  | .nilSlice, l => (.nilSlice, l)
  | .nilFunc, l => (.nilFunc, l)
  | .nilIface, l => (.nilIface, l)
  | .whole j, l => (.whole j, l)
  | .acc j, l => (.acc j, l)
  | .part j, l => match l with | .n off :: .n len :: l => (.part j off len, l) | l => (.undef, l)
  | .ptr j fo, l => match l with | .n i :: l => (.ptr j i fo, l) | l => (.undef, l)
  | .ptr0 j fo, l => (.ptr j 0 fo, l)
  | .el j _, l => (.ptr j 0 0, l)
  | .func fn f c, l => match fVL f l with | (f', l1) => match fVL c l1 with | (c', l2) => (.func (.func fn) f' c', l2)
  | .iface t v, l => match fV v l with | (v', l1) => (.iface t v', l1)
  | .agg ps, l => match fVL ps l with | (ps', l1) => (.agg ps', l1)
  | .tuple ps, l => match fVL ps l with | (ps', l1) => (.tuple ps', l1)
def fVL : List SV → List Lf → List AV × List Lf
  | [], l => ([], l)
  | p :: ps, l => match fV p l with | (x, l1) => match fVL ps l1 with | (xs, l2) => (x :: xs, l2)
end

/-- a value of the great heap as one of the small one -/
inductive Loc (ρ : Nat → Option View) : AV → AV → Prop
  | undef (x : AV) : Loc ρ x .undef
  | int (k : IntKind) (n : Int) : Loc ρ (.int k n) (.int k n)
  | bool (b : Bool) : Loc ρ (.bool b) (.bool b)
  | str (s : ByteArray) : Loc ρ (.str s) (.str s)
  | nilPtr : Loc ρ .nilPtr .nilPtr
  | nilSlice : Loc ρ .nilSlice .nilSlice
  | nilFunc : Loc ρ .nilFunc .nilFunc
  | nilIface : Loc ρ .nilIface .nilIface
  | full (j b : Nat) : ρ j = some (.full b) → Loc ρ (.whole b) (.whole j)
  | sub (j b off len : Nat) : ρ j = some (.sub b off len) → Loc ρ (.part b off len) (.whole j)
  | ph (j : Nat) : ρ j = some (.ph false) → Loc ρ .nilSlice (.whole j)
  | accW (j b : Nat) : ρ j = some (.full b) → Loc ρ (.whole b) (.acc j)
  | accA (j b : Nat) : ρ j = some (.full b) → Loc ρ (.acc b) (.acc j)
  | accN (j : Nat) : ρ j = some (.ph true) → Loc ρ .nilSlice (.acc j)
  | part (j b off len : Nat) : ρ j = some (.full b) → Loc ρ (.part b off len) (.part j off len)
  | ptr (j b i fo : Nat) : ρ j = some (.full b) → Loc ρ (.ptr b i fo) (.ptr j i fo)
  | el (j b i fo n : Nat) : ρ j = some (.el b i fo n) → Loc ρ (.ptr b i fo) (.ptr j 0 0)
  | func (fn : Fn) (f c f' c' : List AV) : f.length = f'.length → c.length = c'.length → (∀ (j : Nat) (x y : AV), f[j]? = some x → f'[j]? = some y → Loc ρ x y) → (∀ (j : Nat) (x y : AV), c[j]? = some x → c'[j]? = some y → Loc ρ x y) → Loc ρ (.func fn f c) (.func fn f' c')
  | iface (t : TypeId) (x y : AV) : Loc ρ x y → Loc ρ (.iface t x) (.iface t y)
  | agg (l l' : List AV) : l.length = l'.length → (∀ (j : Nat) (x y : AV), l[j]? = some x → l'[j]? = some y → Loc ρ x y) → Loc ρ (.agg l) (.agg l')
  | tuple (l l' : List AV) : l.length = l'.length → (∀ (j : Nat) (x y : AV), l[j]? = some x → l'[j]? = some y → Loc ρ x y) → Loc ρ (.tuple l) (.tuple l')

theorem Loc.mono {ρ ρ' : Nat → Option View} (h : ∀ j v, ρ j = some v → ρ' j = some v) {x y : AV} (hl : Loc ρ x y) : Loc ρ' x y := by
  induction hl with
  | undef x => exact .undef x
  | int k n => exact .int k n
  | bool b => exact .bool b
  | str s => exact .str s
  | nilPtr => exact .nilPtr
  | nilSlice => exact .nilSlice
  | nilFunc => exact .nilFunc
  | nilIface => exact .nilIface
  | full j b e => exact .full j b (h _ _ e)
  | sub j b off len e => exact .sub j b off len (h _ _ e)
  | ph j e => exact .ph j (h _ _ e)
  | accW j b e => exact .accW j b (h _ _ e)
  | accA j b e => exact .accA j b (h _ _ e)
  | accN j e => exact .accN j (h _ _ e)
  | part j b off len e => exact .part j b off len (h _ _ e)
  | ptr j b i fo e => exact .ptr j b i fo (h _ _ e)
  | el j b i fo n e => exact .el j b i fo n (h _ _ e)
  | func fn f c f' c' h1 h2 _ _ ih1 ih2 => exact .func fn f c f' c' h1 h2 ih1 ih2
  | iface t x y _ ih => exact .iface t x y ih
  | agg l l' h1 _ ih => exact .agg l l' h1 ih
  | tuple l l' h1 _ ih => exact .tuple l l' h1 ih

/-- what is known of a view because a value came through it -/
def VOk (m : Map) (H : Heap) : View → Prop
  | .sub b off len => ∃ v, VR m H (.part b off len) v
  | .el b i fo _ => ∃ v, VR m H (.ptr b i fo) v
  | _ => True

def LeV (vs vs' : Vs) : Prop := vs'.length = vs.length ∧ ∀ j v, vat vs j = some v → vat vs' j = some v

theorem LeV.refl (vs : Vs) : LeV vs vs := ⟨rfl, fun _ _ h => h⟩
theorem LeV.trans {a b c : Vs} (h : LeV a b) (k : LeV b c) : LeV a c := ⟨k.1.trans h.1, fun j v hj => k.2 j v (h.2 j v hj)⟩

theorem bindV_spec {vs vs' : Vs} {j : Nat} {v : View} (h : bindV vs j v = some vs') (hn : vat vs j = none) : LeV vs vs' ∧ vat vs' j = some v ∧ ∀ i u, vat vs' i = some u → vat vs i = some u ∨ u = v := by
  unfold bindV at h
  split at h
  · rename_i hl
    cases h
    refine ⟨⟨vset_length _ _ _, fun i u hi => ?_⟩, by rw [vat_vset, if_pos ⟨rfl, hl⟩], fun i u hi => ?_⟩
    · rw [vat_vset]
      by_cases e : i = j
      · subst e; rw [hn] at hi; cases hi
      · rw [if_neg (fun h => e h.1)]; exact hi
    · rw [vat_vset] at hi
      split at hi
      · cases hi; exact .inr rfl
      · exact .inl hi
  · cases h

theorem mRef_spec {j : Nat} {x : AV} {vs vs' : Vs} (h : mRef j x vs = some vs') : LeV vs vs' ∧ Loc (vat vs') x (.whole j) ∧ ∀ (m : Map) (H : Heap) v, VR m H x v → ∀ i u, vat vs' i = some u → vat vs i = some u ∨ VOk m H u := by
  unfold mRef at h
  split at h
  · rename_i b hv
    obtain ⟨h1, h2, h3⟩ := bindV_spec h hv
    exact ⟨h1, .full _ _ h2, fun m H v _ i u hi => (h3 i u hi).imp id fun e => by rw [e]; trivial⟩
  · rename_i b off len hv
    obtain ⟨h1, h2, h3⟩ := bindV_spec h hv
    exact ⟨h1, .sub _ _ _ _ h2, fun m H v hx i u hi => (h3 i u hi).imp id fun e => by rw [e]; exact ⟨v, hx⟩⟩
  · rename_i hv
    obtain ⟨h1, h2, h3⟩ := bindV_spec h hv
    exact ⟨h1, .ph _ h2, fun m H v _ i u hi => (h3 i u hi).imp id fun e => by rw [e]; trivial⟩
  · rename_i b' b hv
    split at h
    · rename_i e
      cases h
      subst e
      exact ⟨LeV.refl _, .full _ _ hv, fun m H v _ i u hi => .inl hi⟩
    · cases h
  · rename_i hv
    cases h
    exact ⟨LeV.refl _, .ph _ hv, fun m H v _ i u hi => .inl hi⟩
  · cases h

theorem mAcc_spec {j : Nat} {x : AV} {vs vs' : Vs} (h : mAcc j x vs = some vs') : LeV vs vs' ∧ Loc (vat vs') x (.acc j) ∧ ∀ (m : Map) (H : Heap) v, VR m H x v → ∀ i u, vat vs' i = some u → vat vs i = some u ∨ VOk m H u := by
  unfold mAcc at h
  split at h
  · rename_i b hv
    obtain ⟨h1, h2, h3⟩ := bindV_spec h hv
    exact ⟨h1, .accW _ _ h2, fun m H v _ i u hi => (h3 i u hi).imp id fun e => by rw [e]; trivial⟩
  · rename_i b hv
    obtain ⟨h1, h2, h3⟩ := bindV_spec h hv
    exact ⟨h1, .accA _ _ h2, fun m H v _ i u hi => (h3 i u hi).imp id fun e => by rw [e]; trivial⟩
  · rename_i hv
    obtain ⟨h1, h2, h3⟩ := bindV_spec h hv
    exact ⟨h1, .accN _ h2, fun m H v _ i u hi => (h3 i u hi).imp id fun e => by rw [e]; trivial⟩
  · rename_i b' b hv
    split at h
    · rename_i e
      cases h
      subst e
      exact ⟨LeV.refl _, .accW _ _ hv, fun m H v _ i u hi => .inl hi⟩
    · cases h
  · rename_i b' b hv
    split at h
    · rename_i e
      cases h
      subst e
      exact ⟨LeV.refl _, .accA _ _ hv, fun m H v _ i u hi => .inl hi⟩
    · cases h
  · rename_i hv
    cases h
    exact ⟨LeV.refl _, .accN _ hv, fun m H v _ i u hi => .inl hi⟩
  · cases h

theorem mFull_spec {j b : Nat} {vs vs' : Vs} (h : mFull j b vs = some vs') : LeV vs vs' ∧ vat vs' j = some (.full b) ∧ ∀ (m : Map) (H : Heap), ∀ i u, vat vs' i = some u → vat vs i = some u ∨ VOk m H u := by
  unfold mFull at h
  split at h
  · rename_i hv
    obtain ⟨h1, h2, h3⟩ := bindV_spec h hv
    exact ⟨h1, h2, fun m H i u hi => (h3 i u hi).imp id fun e => by rw [e]; trivial⟩
  · rename_i b' hv
    split at h
    · rename_i e
      cases h
      subst e
      exact ⟨LeV.refl _, hv, fun m H i u hi => .inl hi⟩
    · cases h
  · cases h

/-- what a match says -/
structure MOk (p : SV) (x : AV) (vs vs' : Vs) (ls : List Lf) : Prop where
  le : LeV vs vs'
  fill : ∃ y, (∀ rest, fV p (ls ++ rest) = (y, rest)) ∧ Loc (vat vs') x y
  ok : ∀ (m : Map) (H : Heap) v, VR m H x v → ∀ i u, vat vs' i = some u → vat vs i = some u ∨ VOk m H u

structure MOkL (ps : List SV) (xs : List AV) (vs vs' : Vs) (ls : List Lf) : Prop where
  le : LeV vs vs'
  fill : ∃ ys, (∀ rest, fVL ps (ls ++ rest) = (ys, rest)) ∧ xs.length = ys.length ∧ ∀ (j : Nat) (x y : AV), xs[j]? = some x → ys[j]? = some y → Loc (vat vs') x y
  ok : ∀ (m : Map) (H : Heap), (∀ (j : Nat) (x : AV), xs[j]? = some x → ∃ v, VR m H x v) → ∀ i u, vat vs' i = some u → vat vs i = some u ∨ VOk m H u

theorem vr_all {m : Map} {H : Heap} {l : List AV} {cs : Array Value} (hl : l.length = cs.size) (h : ∀ (j : Nat) (x : AV) (y : Value), l[j]? = some x → cs[j]? = some y → VR m H x y) (j : Nat) (x : AV) (hx : l[j]? = some x) : ∃ v, VR m H x v := by
  have hj : j < cs.size := by rw [← hl]; exact (List.getElem?_eq_some_iff.1 hx).1
  exact ⟨cs[j], h j x _ hx (by simp [hj])⟩

mutual
theorem mV_spec : ∀ (p : SV) (x : AV) (vs vs' : Vs) (ls : List Lf), mV p x vs = some (ls, vs') → MOk p x vs vs' ls
  | .undef, x, vs, vs', ls, h => by
    simp only [mV] at h; cases h
    exact ⟨LeV.refl _, ⟨.undef, fun _ => rfl, .undef x⟩, fun _ _ _ _ i u hi => .inl hi⟩
  | .int k, x, vs, vs', ls, h => by
    simp only [mV] at h
    split at h
    · split at h
      · rename_i e; subst e; cases h
        exact ⟨LeV.refl _, ⟨_, fun _ => rfl, .int _ _⟩, fun _ _ _ _ i u hi => .inl hi⟩
      · cases h
    · cases h
  | .intc k c, x, vs, vs', ls, h => by
    simp only [mV] at h
    split at h
    · split at h
      · rename_i e; obtain ⟨rfl, rfl⟩ := e; cases h
        exact ⟨LeV.refl _, ⟨_, fun _ => rfl, .int _ _⟩, fun _ _ _ _ i u hi => .inl hi⟩
      · cases h
    · cases h
  | .bool, x, vs, vs', ls, h => by
    simp only [mV] at h
    split at h
    · cases h; exact ⟨LeV.refl _, ⟨_, fun _ => rfl, .bool _⟩, fun _ _ _ _ i u hi => .inl hi⟩
    · cases h
  | .str, x, vs, vs', ls, h => by
    simp only [mV] at h
    split at h
    · cases h; exact ⟨LeV.refl _, ⟨_, fun _ => rfl, .str _⟩, fun _ _ _ _ i u hi => .inl hi⟩
    · cases h
  | .nilPtr, x, vs, vs', ls, h => by
    simp only [mV] at h
    split at h
    · cases h; exact ⟨LeV.refl _, ⟨_, fun _ => rfl, .nilPtr⟩, fun _ _ _ _ i u hi => .inl hi⟩
    · cases h
  | .nilSlice, x, vs, vs', ls, h => by
    simp only [mV] at h
    split at h
    · cases h; exact ⟨LeV.refl _, ⟨_, fun _ => rfl, .nilSlice⟩, fun _ _ _ _ i u hi => .inl hi⟩
    · cases h
  | .nilFunc, x, vs, vs', ls, h => by
    simp only [mV] at h
    split at h
    · cases h; exact ⟨LeV.refl _, ⟨_, fun _ => rfl, .nilFunc⟩, fun _ _ _ _ i u hi => .inl hi⟩
    · cases h
  | .nilIface, x, vs, vs', ls, h => by
    simp only [mV] at h
    split at h
    · cases h; exact ⟨LeV.refl _, ⟨_, fun _ => rfl, .nilIface⟩, fun _ _ _ _ i u hi => .inl hi⟩
    · cases h
  | .whole j, x, vs, vs', ls, h => by
    simp only [mV] at h
    split at h
    · rename_i vs1 h1
      cases h
      obtain ⟨a, b, c⟩ := mRef_spec h1
      exact ⟨a, ⟨_, fun _ => rfl, b⟩, c⟩
    · cases h
  | .acc j, x, vs, vs', ls, h => by
    simp only [mV] at h
    split at h
    · rename_i vs1 h1
      cases h
      obtain ⟨a, b, c⟩ := mAcc_spec h1
      exact ⟨a, ⟨_, fun _ => rfl, b⟩, c⟩
    · cases h
  | .part j, x, vs, vs', ls, h => by
    simp only [mV] at h
    split at h
    · split at h
      · rename_i vs1 h1
        cases h
        obtain ⟨a, b, c⟩ := mFull_spec h1
        exact ⟨a, ⟨_, fun _ => rfl, .part _ _ _ _ b⟩, fun m H _ _ => c m H⟩
      · cases h
    · cases h
  | .ptr j fo, x, vs, vs', ls, h => by
    simp only [mV] at h
    split at h
    · split at h
      · rename_i e
        subst e
        split at h
        · rename_i vs1 h1
          cases h
          obtain ⟨a, b, c⟩ := mFull_spec h1
          exact ⟨a, ⟨_, fun _ => rfl, .ptr _ _ _ _ b⟩, fun m H _ _ => c m H⟩
        · cases h
      · cases h
    · cases h
  | .ptr0 j fo, x, vs, vs', ls, h => by
    simp only [mV] at h
    split at h
    · split at h
      · rename_i e
        subst e
        unfold mFullO at h
        split at h
        · rename_i vs1 h1
          cases h
          obtain ⟨a, b, c⟩ := mFull_spec h1
          exact ⟨a, ⟨_, fun _ => rfl, .ptr _ _ _ _ b⟩, fun m H _ _ => c m H⟩
        · cases h
      · cases h
    · cases h
  | .el j n, x, vs, vs', ls, h => by
    simp only [mV] at h
    split at h
    · rename_i b i fo hv
      split at h
      · rename_i vs1 h1
        cases h
        obtain ⟨a, b, c⟩ := bindV_spec h1 hv
        exact ⟨a, ⟨_, fun _ => rfl, .el _ _ _ _ _ b⟩, fun m H v hx i u hi => (c i u hi).imp id fun e => by rw [e]; exact ⟨v, hx⟩⟩
      · cases h
    · cases h
  | .func fn f c, x, vs, vs', ls, h => by
    simp only [mV] at h
    split at h
    · split at h
      · rename_i e
        subst e
        split at h
        · rename_i l1 vs1 h1
          split at h
          · rename_i l2 vs2 h2
            cases h
            obtain ⟨a1, ⟨y1, b1, c1, d1⟩, e1⟩ := mVL_spec _ _ _ _ _ h1
            obtain ⟨a2, ⟨y2, b2, c2, d2⟩, e2⟩ := mVL_spec _ _ _ _ _ h2
            refine ⟨a1.trans a2, ⟨_, fun rest => by simp only [fV, List.append_assoc, b1, b2], .func _ _ _ _ _ c1 c2 (fun j x y hx hy => (d1 j x y hx hy).mono a2.2) d2⟩, fun m H v hx i u hi => ?_⟩
            cases hx with
            | func _ _ _ f'' c'' g1 g2 g3 g4 =>
              rcases e2 m H (vr_all g2 g4) i u hi with h | h
              · exact e1 m H (vr_all g1 g3) i u h
              · exact .inr h
          · cases h
        · cases h
      · cases h
    · cases h
  | .iface t v, x, vs, vs', ls, h => by
    simp only [mV] at h
    split at h
    · split at h
      · rename_i e
        subst e
        obtain ⟨a, ⟨y, b, c⟩, d⟩ := mV_spec _ _ _ _ _ h
        refine ⟨a, ⟨_, fun rest => by simp only [fV, b], .iface _ _ _ c⟩, fun m H u hx => ?_⟩
        cases hx with
        | iface _ _ u' hu => exact d m H u' hu
      · cases h
    · cases h
  | .agg l, x, vs, vs', ls, h => by
    simp only [mV] at h
    split at h
    · obtain ⟨a, ⟨y, b, c, d⟩, e⟩ := mVL_spec _ _ _ _ _ h
      refine ⟨a, ⟨_, fun rest => by simp only [fV, b], .agg _ _ c d⟩, fun m H u hx => ?_⟩
      cases hx with
      | agg _ cs g1 g2 => exact e m H (vr_all g1 g2)
    · cases h
  | .tuple l, x, vs, vs', ls, h => by
    simp only [mV] at h
    split at h
    · obtain ⟨a, ⟨y, b, c, d⟩, e⟩ := mVL_spec _ _ _ _ _ h
      refine ⟨a, ⟨_, fun rest => by simp only [fV, b], .tuple _ _ c d⟩, fun m H u hx => ?_⟩
      cases hx with
      | tuple _ cs g1 g2 => exact e m H (vr_all g1 g2)
    · cases h
theorem mVL_spec : ∀ (ps : List SV) (xs : List AV) (vs vs' : Vs) (ls : List Lf), mVL ps xs vs = some (ls, vs') → MOkL ps xs vs vs' ls
  | [], xs, vs, vs', ls, h => by
    simp only [mVL] at h
    split at h
    · cases h; exact ⟨LeV.refl _, ⟨[], fun _ => rfl, rfl, fun j x y hx => by simp at hx⟩, fun _ _ _ i u hi => .inl hi⟩
    · cases h
  | p :: ps, xs, vs, vs', ls, h => by
    simp only [mVL] at h
    split at h
    · rename_i x xs
      split at h
      · rename_i l1 vs1 h1
        split at h
        · rename_i l2 vs2 h2
          cases h
          obtain ⟨a1, ⟨y1, b1, c1⟩, e1⟩ := mV_spec _ _ _ _ _ h1
          obtain ⟨a2, ⟨y2, b2, c2, d2⟩, e2⟩ := mVL_spec _ _ _ _ _ h2
          refine ⟨a1.trans a2, ⟨y1 :: y2, fun rest => by simp only [fVL, List.append_assoc, b1, b2], by simp [c2], fun j x y hx hy => ?_⟩, fun m H hx i u hi => ?_⟩
          · cases j with
            | zero => simp at hx hy; subst hx hy; exact c1.mono a2.2
            | succ j => exact d2 j x y (by simpa using hx) (by simpa using hy)
          · rcases e2 m H (fun j x hj => hx (j + 1) x (by simpa using hj)) i u hi with h | h
            · obtain ⟨v, hv⟩ := hx 0 x rfl
              exact e1 m H v hv i u h
            · exact .inr h
        · cases h
      · cases h
    · cases h
end

end Go.Ab
end

section
/- The small heap stands for the memory, too. No condition. -/
namespace Go.Ab
open Go

def vB (H : Heap) : View → Option (Blk × Md)
  | .ph _ => none
  | .full b => hget H b
  | .sub b off len => match hget H b with | some (bk, md) => some (bk.sub off len, md) | none => none
  | .el b i fo n => match hget H b with
    | some (bk, md) => if 0 < n ∧ fo + n ≤ bk.str then (match ldF bk i fo n with | some l => some (.vals n l, md) | none => none) else none
    | none => none

def isOwn : Md → Bool
  | .own => true
  | _ => false

/-- where it lies -/
def vP (m : Map) (H : Heap) (own : Bool) : View → Nat × Nat × Nat
  | .ph _ => (0, 0, 0)
  | .full b => match hget H b with | some (bk, _) => ((m b).1, (m b).2.1, match own with | true => (m b).2.2 | false => bk.num * bk.str) | none => (0, 0, 0)
  | .sub b off len => match hget H b with | some (bk, _) => ((m b).1, (m b).2.1 + off * bk.str, match own with | true => (m b).2.2 - off * bk.str | false => len * bk.str) | none => (0, 0, 0)
  | .el b i fo n => match hget H b with | some (bk, _) => ((m b).1, (m b).2.1 + (i * bk.str + fo), n) | none => (0, 0, 0)

/-- may what lies under a view be used so? -/
def mdFits : View → Md → Md → Bool
  | _, _, .ro => true
  | _, .ro, .rw => false
  | _, _, .rw => true
  | .full _, .own, .own => true
  | .sub _ _ _, .own, .own => true
  | _, _, .own => false

def vId : View → Option Nat
  | .ph _ => none
  | .full b => some b
  | .sub b _ _ => some b
  | .el b _ _ _ => some b

theorem vB_id {H : Heap} {v : View} {gb : Blk} {md : Md} (h : vB H v = some (gb, md)) : ∃ b bk, vId v = some b ∧ hget H b = some (bk, md) := by
  cases v with
  | ph => cases h
  | full b => exact ⟨b, gb, rfl, h⟩
  | sub b off len =>
    simp only [vB] at h
    split at h
    · rename_i hg; cases h; exact ⟨b, _, rfl, hg⟩
    · cases h
  | el b i fo n =>
    simp only [vB] at h
    split at h
    · rename_i hg
      split at h
      · split at h
        · cases h; exact ⟨b, _, rfl, hg⟩
        · cases h
      · cases h
    · cases h

/-- what lies under a view is a block, too -/
theorem view_BR {m : Map} {H : Heap} {w : World} (hs : Sim m H w) {v : View} {gb : Blk} {md0 md : Md} (hv : vB H v = some (gb, md0)) (hok : VOk m H v) (hmd : mdFits v md0 md = true) : BR m H gb md (vP m H (isOwn md) v) w := by
  have hro : md ≠ .ro → md0 ≠ .ro := by
    intro h e
    subst e
    cases md <;> cases v <;> simp [mdFits] at hmd <;> exact h rfl
  cases v with
  | ph => cases hv
  | full b =>
    have hv' : hget H b = some (gb, md0) := hv
    obtain ⟨b1, b2, b3, b4⟩ := hs.blk b gb md0 hv'
    simp only [vP, hv']
    cases md with
    | own =>
      have : md0 = .own := by cases md0 <;> simp [mdFits] at hmd ⊢
      subst this
      exact ⟨b1, b2, b3, b4⟩
    | ro =>
      simp only [isOwn]
      refine ⟨b1, Nat.le_refl _, fun _ => rfl, fun hp => ?_⟩
      simp only at hp
      obtain ⟨c, e, fr, g1, g2, g3, g4, g5⟩ := b4 (by omega)
      exact ⟨c, e, fr, g1, by simp only; omega, fun h => absurd rfl h, fun j x y => g4 j x (by simp only at y; omega), g5⟩
    | rw =>
      simp only [isOwn]
      refine ⟨b1, Nat.le_refl _, fun _ => rfl, fun hp => ?_⟩
      simp only at hp
      obtain ⟨c, e, fr, g1, g2, g3, g4, g5⟩ := b4 (by omega)
      exact ⟨c, e, fr, g1, by simp only; omega, fun _ j x y => g3 (hro (by simp)) j x (by simp only at y; omega), fun j x y => g4 j x (by simp only at y; omega), g5⟩
  | sub b off len =>
    simp only [vB] at hv
    split at hv
    · rename_i bk md1 hg
      cases hv
      obtain ⟨val, hval⟩ := hok
      have hle : off + len ≤ bk.num := by
        cases hval with
        | part _ _ _ a n cap hk hh => exact (hh _ _ hg).1
      obtain ⟨s3, s1, s2, s4⟩ := sub_ld hle rfl (hs.blk b bk _ hg).1
      obtain ⟨b1, b2, b3, b4⟩ := hs.blk b bk _ hg
      have hpos := b1.pos
      have hmul : (off + len) * bk.str ≤ bk.num * bk.str := Nat.mul_le_mul_right _ hle
      rw [Nat.add_mul] at hmul
      simp only [vP, hg]
      have hx : (len * bk.str ≤ (match isOwn md with | true => (m b).2.2 - off * bk.str | false => len * bk.str)) ∧ off * bk.str + (match isOwn md with | true => (m b).2.2 - off * bk.str | false => len * bk.str) ≤ (m b).2.2 := by
        cases isOwn md <;> simp only <;> omega
      generalize hx0 : (match isOwn md with | true => (m b).2.2 - off * bk.str | false => len * bk.str) = ex at hx
      refine ⟨s3, by rw [s1, s2]; exact hx.1, fun hno => ?_, fun hp => ?_⟩
      · cases md with
        | own => exact absurd rfl hno
        | ro => simp only [isOwn] at hx0; rw [s1, s2, hx0]
        | rw => simp only [isOwn] at hx0; rw [s1, s2, hx0]
      simp only at hp ⊢
      obtain ⟨c, e, fr, g1, g2, g3, g4, g5⟩ := b4 (by omega)
      refine ⟨c, e, fr, g1, by omega, fun h j x y => g3 (hro h) j (by omega) (by omega), fun j x y => g4 j (by omega) (by omega), fun i fo hi hf => ?_⟩
      rw [s1] at hi
      rw [s2] at hf
      obtain ⟨x, u, k1, k2, k3⟩ := g5 (off + i) fo (by omega) hf
      refine ⟨x, u, by rw [s4 i fo hi hf]; exact k1, ?_, k3⟩
      rw [← k2, s2, Nat.add_mul]
      congr 1
      omega
    · cases hv
  | el b i fo n =>
    simp only [vB] at hv
    split at hv
    · rename_i bk md1 hg
      split at hv
      · rename_i hcond
        split at hv
        · rename_i l hl
          cases hv
          obtain ⟨val, hval⟩ := hok
          have hi : i < bk.num ∧ fo < bk.str := by
            cases hval with
            | ptr _ _ _ a hk hh => exact ⟨(hh _ _ hg).1, (hh _ _ hg).2.1⟩
          obtain ⟨cs, e1, e2, e3, e4⟩ := ldF_sound hs hg hi.1 n fo l hcond.2 hl
          obtain ⟨b1, b2, b3, b4⟩ := hs.blk b bk _ hg
          have hin := cell_in hi.1 (show fo + n - 1 < bk.str by omega)
          have hno : md ≠ .own := by rintro rfl; cases md0 <;> simp [mdFits] at hmd
          have hnum : (Blk.vals n l).num = 1 := by simp only [Blk.num, e2]; exact Nat.div_self hcond.1
          simp only [vP, hg]
          refine ⟨⟨hcond.1, by rw [e2]; exact Nat.mod_self _⟩, by rw [hnum]; simp [Blk.str], fun _ => by rw [hnum]; simp [Blk.str], fun hp => ?_⟩
          simp only at hp ⊢
          obtain ⟨c, e, fr, g1, g2, g3, g4, g5⟩ := b4 (by omega)
          refine ⟨c, e, fr, g1, by omega, fun h j x y => g3 (hro h) j (by omega) (by omega), fun j x y => g4 j (by omega) (by omega), fun i' fo' hi' hf' => ?_⟩
          rw [hnum] at hi'
          obtain rfl : i' = 0 := by omega
          have hf' : fo' < n := hf'
          have h1 : fo' < l.length := by omega
          have h2 : fo' < cs.length := by omega
          refine ⟨l[fo'], cs[fo'], by simp [Blk.ld, h1], ?_, e4 fo' _ _ (by simp [h1]) (by simp [h2])⟩
          have := e3 fo' cs[fo'] (by simp [h2])
          simp only [World.cell?, g1] at this
          rw [Nat.zero_mul, Nat.zero_add]
          simpa using this
        · cases hv
      · cases hv
    · cases hv

/-- what a view holds, in the small heap's words -/
inductive Cont (ρ : Nat → Option View) : Blk → Blk → Prop
  | ints (k : IntKind) (l : List Int) : Cont ρ (.ints k l) (.ints k l)
  | recs (ks : List IntKind) (l : List (List Int)) : Cont ρ (.recs ks l) (.recs ks l)
  | vals (n : Nat) (l l' : List AV) : l.length = l'.length → (∀ (j : Nat) (x y : AV), l[j]? = some x → l'[j]? = some y → Loc ρ x y) → Cont ρ (.vals n l) (.vals n l')

theorem Cont.num {ρ : Nat → Option View} {a b : Blk} (h : Cont ρ a b) : b.num = a.num ∧ b.str = a.str := by
  cases h with
  | ints => exact ⟨rfl, rfl⟩
  | recs => exact ⟨rfl, rfl⟩
  | vals n l l' h1 => exact ⟨by simp only [Blk.num, h1], rfl⟩

theorem Cont.ok {ρ : Nat → Option View} {a b : Blk} (h : Cont ρ a b) (ha : a.ok) : b.ok := by
  cases h with
  | ints => exact ha
  | recs => exact ha
  | vals n l l' h1 => exact ⟨ha.1, by rw [← h1]; exact ha.2⟩

theorem Cont.mono {ρ ρ' : Nat → Option View} (h : ∀ j v, ρ j = some v → ρ' j = some v) {a b : Blk} (hc : Cont ρ a b) : Cont ρ' a b := by
  cases hc with
  | ints k l => exact .ints k l
  | recs k l => exact .recs k l
  | vals n l l' h1 h2 => exact .vals n l l' h1 fun j x y hx hy => (h2 j x y hx hy).mono h

/-- a view and what the small heap says there -/
structure Seen (m : Map) (H : Heap) (ρ : Nat → Option View) (lb : Blk) (md : Md) (v : View) : Prop where
  ok : VOk m H v
  ph : ∀ z, v = .ph z → lb.num = 0 ∧ lb.ok ∧ (z = false → md ≠ .own)
  at_ : (∀ z, v ≠ .ph z) → ∃ gb md0, vB H v = some (gb, md0) ∧ mdFits v md0 md = true ∧ Cont ρ gb lb

/-- the small heap through its views -/
structure Small (m : Map) (H : Heap) (ml : Map) (L : Heap) (ρ : Nat → Option View) : Prop where
  kn : ∀ j v, ρ j = some v → hkn L j = true
  seen : ∀ j lb md, hget L j = some (lb, md) → ∃ v, ρ j = some v ∧ Seen m H ρ lb md v ∧ ml j = vP m H (isOwn md) v
  apart : ∀ j j' lb md lb' md' v v' b, hget L j = some (lb, md) → hget L j' = some (lb', md') → j ≠ j' → ρ j = some v → ρ j' = some v' → vId v = some b → vId v' = some b → md = .ro ∧ md' = .ro

theorem Loc.vr {m ml : Map} {H L : Heap} {w : World} {ρ : Nat → Option View} (hs : Sim m H w) (h : Small m H ml L ρ) {x y : AV} (hl : Loc ρ x y) : ∀ v, VR m H x v → VR ml L y v := by
  have get : ∀ j v, ρ j = some v → ∀ lb md, hget L j = some (lb, md) → Seen m H ρ lb md v ∧ ml j = vP m H (isOwn md) v := by
    intro j v hj lb md hg
    obtain ⟨v', h1, h2, h3⟩ := h.seen j lb md hg
    rw [hj] at h1
    cases h1
    exact ⟨h2, h3⟩
  induction hl with
  | undef x => exact fun v _ => .undef v
  | int k n => intro v hv; cases hv; exact .int k n
  | bool b => intro v hv; cases hv; exact .bool b
  | str s => intro v hv; cases hv; exact .str s
  | nilPtr => intro v hv; cases hv; exact .nilPtr
  | nilSlice => intro v hv; cases hv; exact .nilSlice
  | nilFunc => intro v hv; cases hv; exact .nilFunc
  | nilIface => intro v hv; cases hv; exact .nilIface
  | full j b e =>
    intro v hv
    cases hv with
    | whole _ a n cap hb hh =>
      refine .whole j a n cap (h.kn j _ e) fun lb md hg => ?_
      obtain ⟨s1, s2⟩ := get j _ e lb md hg
      obtain ⟨gb, md0, k1, k2, k3⟩ := s1.at_ (by simp)
      obtain ⟨rfl, q1, q2, q3⟩ := hh gb md0 k1
      obtain ⟨n1, n2⟩ := k3.num
      have hb' : hget H b = some (gb, md0) := k1
      simp only [vP, hb'] at s2
      refine ⟨n1.symm, by omega, fun hmd => ?_, fun hc => ?_⟩
      · subst hmd
        have : md0 = .own := by cases md0 <;> simp [mdFits] at k2 ⊢
        rw [s2, n2]
        exact q2 this
      · rw [q3 hc, s2]; simp
  | sub j b off len e =>
    intro v hv
    cases hv with
    | part _ _ _ a n cap hb hh =>
      refine .whole j a n cap (h.kn j _ e) fun lb md hg => ?_
      obtain ⟨s1, s2⟩ := get j _ e lb md hg
      obtain ⟨gb, md0, k1, k2, k3⟩ := s1.at_ (by simp)
      obtain ⟨n1, n2⟩ := k3.num
      simp only [vB] at k1
      split at k1
      · rename_i bk md1 hg'
        cases k1
        obtain ⟨q0, rfl, q1, q2, q3⟩ := hh bk _ hg'
        obtain ⟨_, t1, t2, _⟩ := sub_ld q0 rfl (hs.blk b bk _ hg').1
        simp only [vP, hg'] at s2
        refine ⟨by omega, by omega, fun hmd => ?_, fun hc => ?_⟩
        · subst hmd
          have : md0 = .own := by cases md0 <;> simp [mdFits] at k2 ⊢
          obtain ⟨hq, hnn⟩ := q2 this
          refine ⟨?_, hnn⟩
          rw [Nat.add_mul] at hq
          rw [s2, n2, t2]
          simp only [isOwn]
          rw [Nat.zero_add]
          omega
        · rw [q3 hc, s2]; simp
      · cases k1
  | ph j e =>
    intro v hv
    cases hv
    refine .whole j _ _ _ (h.kn j _ e) fun lb md hg => ?_
    obtain ⟨s1, s2⟩ := get j _ e lb md hg
    obtain ⟨p1, p2, p3⟩ := s1.ph _ rfl
    refine ⟨p1.symm, by omega, fun hmd => absurd hmd (p3 rfl), fun hc => absurd hc (by omega)⟩
  | accW j b e =>
    intro v hv
    cases hv with
    | whole _ a n cap hb hh =>
      refine .acc j a n cap (h.kn j _ e) fun lb md hg => ?_
      obtain ⟨s1, s2⟩ := get j _ e lb md hg
      obtain ⟨gb, md0, k1, k2, k3⟩ := s1.at_ (by simp)
      obtain ⟨rfl, q1, q2, q3⟩ := hh gb md0 k1
      obtain ⟨n1, n2⟩ := k3.num
      have hb' : hget H b = some (gb, md0) := k1
      simp only [vP, hb'] at s2
      refine ⟨n1.symm, by omega, fun hmd => ?_, fun hc => ?_⟩
      · subst hmd
        have : md0 = .own := by cases md0 <;> simp [mdFits] at k2 ⊢
        rw [s2, n2]
        have := (q2 this).1
        simpa [isOwn] using this
      · rw [q3 hc, s2]; simp
  | accA j b e =>
    intro v hv
    cases hv with
    | acc _ a n cap hb hh =>
      refine .acc j a n cap (h.kn j _ e) fun lb md hg => ?_
      obtain ⟨s1, s2⟩ := get j _ e lb md hg
      obtain ⟨gb, md0, k1, k2, k3⟩ := s1.at_ (by simp)
      obtain ⟨rfl, q1, q2, q3⟩ := hh gb md0 k1
      obtain ⟨n1, n2⟩ := k3.num
      have hb' : hget H b = some (gb, md0) := k1
      simp only [vP, hb'] at s2
      refine ⟨n1.symm, by omega, fun hmd => ?_, fun hc => ?_⟩
      · subst hmd
        have : md0 = .own := by cases md0 <;> simp [mdFits] at k2 ⊢
        rw [s2, n2]
        have := q2 this
        simpa [isOwn] using this
      · rw [q3 hc, s2]
  | accN j e =>
    intro v hv
    cases hv
    refine .acc j _ _ _ (h.kn j _ e) fun lb md hg => ?_
    obtain ⟨s1, s2⟩ := get j _ e lb md hg
    obtain ⟨p1, p2, p3⟩ := s1.ph _ rfl
    refine ⟨p1.symm, by omega, fun _ => by simp, fun hc => absurd hc (by omega)⟩
  | part j b off len e =>
    intro v hv
    cases hv with
    | part _ _ _ a n cap hb hh =>
      refine .part j off len a n cap (h.kn j _ e) fun lb md hg => ?_
      obtain ⟨s1, s2⟩ := get j _ e lb md hg
      obtain ⟨gb, md0, k1, k2, k3⟩ := s1.at_ (by simp)
      obtain ⟨n1, n2⟩ := k3.num
      have hb' : hget H b = some (gb, md0) := k1
      obtain ⟨q0, rfl, q1, q2, q3⟩ := hh gb _ hb'
      simp only [vP, hb'] at s2
      refine ⟨by omega, rfl, q1, fun hmd => ?_, fun hc => ?_⟩
      · subst hmd
        have : md0 = .own := by cases md0 <;> simp [mdFits] at k2 ⊢
        rw [s2, n2]
        exact q2 this
      · rw [q3 hc, s2, n2]
  | ptr j b i fo e =>
    intro v hv
    cases hv with
    | ptr _ _ _ a hb hh =>
      refine .ptr j i fo a (h.kn j _ e) fun lb md hg => ?_
      obtain ⟨s1, s2⟩ := get j _ e lb md hg
      obtain ⟨gb, md0, k1, k2, k3⟩ := s1.at_ (by simp)
      obtain ⟨n1, n2⟩ := k3.num
      have hb' : hget H b = some (gb, md0) := k1
      obtain ⟨q0, q1, rfl⟩ := hh gb _ hb'
      simp only [vP, hb'] at s2
      exact ⟨by omega, by omega, by rw [s2, n2]⟩
  | el j b i fo n e =>
    intro v hv
    cases hv with
    | ptr _ _ _ a hb hh =>
      refine .ptr j 0 0 a (h.kn j _ e) fun lb md hg => ?_
      obtain ⟨s1, s2⟩ := get j _ e lb md hg
      obtain ⟨gb, md0, k1, k2, k3⟩ := s1.at_ (by simp)
      obtain ⟨n1, n2⟩ := k3.num
      simp only [vB] at k1
      split at k1
      · rename_i bk md1 hg'
        split at k1
        · rename_i hcond
          split at k1
          · rename_i l hl
            cases k1
            obtain ⟨q0, q1, rfl⟩ := hh bk _ hg'
            obtain ⟨cs, e1, e2, e3, e4⟩ := ldF_sound hs hg' q0 n fo l hcond.2 hl
            simp only [vP, hg'] at s2
            have hnum : (Blk.vals n l).num = 1 := by simp only [Blk.num, e2]; exact Nat.div_self hcond.1
            refine ⟨by omega, by rw [n2]; exact hcond.1, by rw [s2]; simp⟩
          · cases k1
        · cases k1
      · cases k1
  | func fn f c f' c' h1 h2 _ _ ih1 ih2 =>
    intro v hv
    cases hv with
    | func _ _ _ g d g1 g2 g3 g4 =>
      refine .func fn f' c' g d (by omega) (by omega) (fun j x y hx hy => ?_) (fun j x y hx hy => ?_)
      · have hj : j < f.length := by rw [h1]; exact (List.getElem?_eq_some_iff.1 hx).1
        exact ih1 j f[j] x (by simp [hj]) hx y (g3 j _ y (by simp [hj]) hy)
      · have hj : j < c.length := by rw [h2]; exact (List.getElem?_eq_some_iff.1 hx).1
        exact ih2 j c[j] x (by simp [hj]) hx y (g4 j _ y (by simp [hj]) hy)
  | iface t x y _ ih =>
    intro v hv
    cases hv with
    | iface _ _ u hu => exact .iface t y u (ih u hu)
  | agg l l' h1 _ ih =>
    intro v hv
    cases hv with
    | agg _ cs g1 g2 =>
      refine .agg l' cs (by omega) fun j x y hx hy => ?_
      have hj : j < l.length := by rw [h1]; exact (List.getElem?_eq_some_iff.1 hx).1
      exact ih j l[j] x (by simp [hj]) hx y (g2 j _ y (by simp [hj]) hy)
  | tuple l l' h1 _ ih =>
    intro v hv
    cases hv with
    | tuple _ cs g1 g2 =>
      refine .tuple l' cs (by omega) fun j x y hx hy => ?_
      have hj : j < l.length := by rw [h1]; exact (List.getElem?_eq_some_iff.1 hx).1
      exact ih j l[j] x (by simp [hj]) hx y (g2 j _ y (by simp [hj]) hy)

theorem Cont.ld {m ml : Map} {H L : Heap} {w : World} {ρ : Nat → Option View} (hs : Sim m H w) (h : Small m H ml L ρ) {gb lb : Blk} (hc : Cont ρ gb lb) {i fo : Nat} {x : AV} (hx : gb.ld i fo = some x) : ∃ y, lb.ld i fo = some y ∧ ∀ v, VR m H x v → VR ml L y v := by
  cases hc with
  | ints k l =>
    refine ⟨x, hx, fun v hv => ?_⟩
    cases fo with
    | zero => simp only [Blk.ld] at hx; cases hx; cases hv; exact .int _ _
    | succ n => simp [Blk.ld] at hx
  | recs ks l =>
    refine ⟨x, hx, fun v hv => ?_⟩
    simp only [Blk.ld] at hx
    split at hx
    · cases hx; cases hv; exact .int _ _
    · cases hx
  | vals n l l' h1 h2 =>
    simp only [Blk.ld] at hx ⊢
    have hj : i * n + fo < l'.length := by rw [← h1]; exact (List.getElem?_eq_some_iff.1 hx).1
    exact ⟨l'[i * n + fo], by simp [hj], (h2 _ x _ hx (by simp [hj])).vr hs h⟩

theorem BR.ren {m m' : Map} {H H' : Heap} {bk bk' : Blk} {md : Md} {p : Nat × Nat × Nat} {w : World} (h : BR m H bk md p w) (hn : bk'.num = bk.num) (hs : bk'.str = bk.str) (hok : bk'.ok)
    (hl : ∀ i fo x, i < bk.num → fo < bk.str → bk.ld i fo = some x → ∃ y, bk'.ld i fo = some y ∧ ∀ v, VR m H x v → VR m' H' y v) : BR m' H' bk' md p w := by
  obtain ⟨h1, h2, h3, h4⟩ := h
  refine ⟨hok, by rw [hn, hs]; exact h2, fun hm => by rw [hn, hs]; exact h3 hm, fun hp => ?_⟩
  obtain ⟨c, e, fr, g1, g2, g3, g4, g5⟩ := h4 hp
  refine ⟨c, e, fr, g1, g2, g3, g4, fun i fo hi hf => ?_⟩
  rw [hn] at hi
  rw [hs] at hf ⊢
  obtain ⟨x, v, k1, k2, k3⟩ := g5 i fo hi hf
  obtain ⟨y, k4, k5⟩ := hl i fo x hi hf k1
  exact ⟨y, v, k4, k2, k5 v k3⟩

/-- a view's range lies within its block's -/
theorem vP_in {m : Map} {H : Heap} {w : World} (hs : Sim m H w) {v : View} {gb : Blk} {md0 md : Md} (hv : vB H v = some (gb, md0)) (hok : VOk m H v) : ∃ b bk, vId v = some b ∧ hget H b = some (bk, md0) ∧ (vP m H (isOwn md) v).1 = (m b).1 ∧ (m b).2.1 ≤ (vP m H (isOwn md) v).2.1 ∧
    (vP m H (isOwn md) v).2.1 + (vP m H (isOwn md) v).2.2 ≤ (m b).2.1 + (m b).2.2 := by
  cases v with
  | ph => cases hv
  | full b =>
    have hv' : hget H b = some (gb, md0) := hv
    refine ⟨b, gb, rfl, hv', ?_⟩
    have := (hs.blk b gb md0 hv').2.1
    simp only [vP, hv']
    refine ⟨trivial, Nat.le_refl _, ?_⟩
    cases isOwn md
    · simp only; omega
    · simp only; omega
  | sub b off len =>
    simp only [vB] at hv
    split at hv
    · rename_i bk md1 hg
      cases hv
      obtain ⟨val, hval⟩ := hok
      have hle : off + len ≤ bk.num := by
        cases hval with
        | part _ _ _ a n cap hk hh => exact (hh _ _ hg).1
      have hmul : (off + len) * bk.str ≤ bk.num * bk.str := Nat.mul_le_mul_right _ hle
      rw [Nat.add_mul] at hmul
      have := (hs.blk b bk _ hg).2.1
      refine ⟨b, bk, rfl, hg, ?_⟩
      simp only [vP, hg]
      refine ⟨trivial, by omega, ?_⟩
      cases isOwn md <;> simp only <;> omega
    · cases hv
  | el b i fo n =>
    simp only [vB] at hv
    split at hv
    · rename_i bk md1 hg
      split at hv
      · rename_i hcond
        split at hv
        · rename_i l hl
          cases hv
          obtain ⟨val, hval⟩ := hok
          have hi : i < bk.num ∧ fo < bk.str := by
            cases hval with
            | ptr _ _ _ a hk hh => exact ⟨(hh _ _ hg).1, (hh _ _ hg).2.1⟩
          have hin := cell_in hi.1 (show fo + n - 1 < bk.str by omega)
          have := (hs.blk b bk _ hg).2.1
          refine ⟨b, bk, rfl, hg, ?_⟩
          simp only [vP, hg]
          exact ⟨trivial, by omega, by omega⟩
        · cases hv
      · cases hv
    · cases hv

theorem mdFits_ro {v : View} {md0 md : Md} (h : mdFits v md0 md = true) (hm : md ≠ .ro) : md0 ≠ .ro := by
  rintro rfl
  cases md <;> cases v <;> simp [mdFits] at h <;> exact hm rfl

theorem Small.sim {m ml : Map} {H L : Heap} {w : World} {ρ : Nat → Option View} (hs : Sim m H w) (h : Small m H ml L ρ) : Sim ml L w where
  blk j lb md hg := by
    obtain ⟨v, h1, h2, h3⟩ := h.seen j lb md hg
    rw [h3]
    by_cases e : ∃ z, v = .ph z
    · obtain ⟨z, e⟩ := e
      obtain ⟨p1, p2, _⟩ := h2.ph z e
      subst e
      simp only [vP]
      exact ⟨p2, by rw [p1]; simp, fun _ => by rw [p1]; simp, fun hp => absurd hp (by simp)⟩
    · obtain ⟨gb, md0, k1, k2, k3⟩ := h2.at_ (fun z h => e ⟨z, h⟩)
      have := view_BR hs k1 h2.ok k2
      exact this.ren k3.num.1 k3.num.2 (k3.ok this.1) fun i fo x _ _ hx => k3.ld hs h hx
  dis j j' lb md lb' md' hg hg' hne hmm := by
    obtain ⟨v, h1, h2, h3⟩ := h.seen j lb md hg
    obtain ⟨v', h1', h2', h3'⟩ := h.seen j' lb' md' hg'
    rw [h3, h3']
    by_cases e : ∃ z, v = .ph z
    · obtain ⟨z, e⟩ := e; subst e; exact .inl rfl
    · by_cases e' : ∃ z, v' = .ph z
      · obtain ⟨z, e'⟩ := e'; subst e'; exact .inr (.inl rfl)
      · obtain ⟨gb, md0, k1, k2, _⟩ := h2.at_ (fun z h => e ⟨z, h⟩)
        obtain ⟨gb', md0', k1', k2', _⟩ := h2'.at_ (fun z h => e' ⟨z, h⟩)
        obtain ⟨b, bk, i1, i2, i3, i4, i5⟩ := vP_in (md := md) hs k1 h2.ok
        obtain ⟨b', bk', i1', i2', i3', i4', i5'⟩ := vP_in (md := md') hs k1' h2'.ok
        have hb : b ≠ b' := by
          rintro rfl
          obtain ⟨r1, r2⟩ := h.apart j j' lb md lb' md' v v' b hg hg' hne h1 h1' i1 i1'
          rcases hmm with q | q
          · exact q r1
          · exact q r2
        have := hs.dis b b' _ _ _ _ i2 i2' hb (hmm.imp (mdFits_ro k2) (mdFits_ro k2'))
        unfold Ab.apart at this ⊢
        rw [i3, i3']
        omega

end Go.Ab
end

section
/- States by patterns: what a loop's head keeps. No condition. -/
namespace Go.Ab
open Go

def mPh (sb : SB) (vs : Vs) : Option (List Lf × Vs) :=
  match sb with
  | .ints _ => some ([.li []], vs)
  | .recs ks => if 0 < ks.length then some ([.lr []], vs) else none
  | .vals n [] => if 0 < n then some ([], vs) else none
  | _ => none

def mBk (sb : SB) (bk : Blk) (vs : Vs) : Option (List Lf × Vs) :=
  match sb, bk with
  | .ints k, .ints k' l => if k = k' then some ([.li l], vs) else none
  | .recs ks, .recs ks' l => if ks = ks' then some ([.lr l], vs) else none
  | .vals n ps, .vals n' l => if n = n' then mVL ps l vs else none
  | _, _ => none

def mB1 (H : Heap) (sb : SB) (md : Md) (v : View) (vs : Vs) : Option (List Lf × Vs) :=
  match vB H v with
  | some (bk, md0) => match mdFits v md0 md with
    | true => mBk sb bk vs
    | false => none
  | none => none

def mB (H : Heap) (sb : SB) (md : Md) (v : View) (vs : Vs) : Option (List Lf × Vs) :=
  match v with
  | .ph z => match z, md with | false, .own => none | _, _ => mPh sb vs
  | v => mB1 H sb md v vs

def fB : SB → List Lf → Blk × List Lf
  | .ints k, l => match l with | .li x :: r => (.ints k x, r) | r => (.ints k [], r)
  | .recs ks, l => match l with | .lr x :: r => (.recs ks x, r) | r => (.recs ks [], r)
  | .vals n ps, l => match fVL ps l with | (x, r) => (.vals n x, r)
  | _, r => (.ints .i64 [], r)

def mH (H : Heap) : List (SB × Md) → Nat → Vs → Option (List Lf × Vs)
  | [], _, vs => some ([], vs)
  | (.hole, _) :: r, j, vs => mH H r (j + 1) vs
  | (.dead, _) :: r, j, vs => mH H r (j + 1) vs
  | (sb, md) :: r, j, vs => match vat vs j with
    | some v => match mB H sb md v vs with
      | some (l1, vs1) => match mH H r (j + 1) vs1 with
        | some (l2, vs2) => some (l1 ++ l2, vs2)
        | none => none
      | none => none
    | none => none

def fH : List (SB × Md) → List Lf → Heap × List Lf
  | [], l => ([], l)
  | (.hole, _) :: r, l => match fH r l with | (L, l) => (.hole :: L, l)
  | (.dead, _) :: r, l => match fH r l with | (L, l) => (.dead :: L, l)
  | (sb, md) :: r, l => match fB sb l with | (bk, l) => match fH r l with | (L, l) => (.live bk md :: L, l)

theorem BR.cellsVR {m : Map} {H : Heap} {n : Nat} {l : List AV} {md : Md} {p : Nat × Nat × Nat} {w : World} (h : BR m H (.vals n l) md p w) (j : Nat) (x : AV) (hx : l[j]? = some x) : ∃ v, VR m H x v := by
  obtain ⟨h1, h2, h3, h4⟩ := h
  have hj : j < l.length := (List.getElem?_eq_some_iff.1 hx).1
  have hn : 0 < n := h1.1
  have hm : l.length % n = 0 := h1.2
  have hd : n * (l.length / n) = l.length := Nat.mul_div_cancel' (Nat.dvd_of_mod_eq_zero hm)
  have hlt : j / n < l.length / n := by
    rw [Nat.div_lt_iff_lt_mul hn, Nat.mul_comm]
    omega
  have hp : 0 < p.2.2 := by
    have : 0 < (Blk.vals n l).num * (Blk.vals n l).str := Nat.mul_pos (Nat.lt_of_le_of_lt (Nat.zero_le _) hlt) hn
    omega
  obtain ⟨c, e, fr, _, _, _, _, g5⟩ := h4 hp
  obtain ⟨y, v, k1, _, k3⟩ := g5 (j / n) (j % n) hlt (Nat.mod_lt _ hn)
  simp only [Blk.ld] at k1
  rw [show j / n * n + j % n = j by rw [Nat.mul_comm]; exact Nat.div_add_mod j n, hx] at k1
  cases k1
  exact ⟨v, k3⟩

theorem Seen.mono {m : Map} {H : Heap} {ρ ρ' : Nat → Option View} (h : ∀ j v, ρ j = some v → ρ' j = some v) {lb : Blk} {md : Md} {v : View} (hs : Seen m H ρ lb md v) : Seen m H ρ' lb md v :=
  ⟨hs.ok, hs.ph, fun e => by obtain ⟨gb, md0, k1, k2, k3⟩ := hs.at_ e; exact ⟨gb, md0, k1, k2, k3.mono h⟩⟩

theorem mB_spec {m : Map} {H : Heap} {w : World} (hs : Sim m H w) {sb : SB} {md : Md} {v : View} {vs vs' : Vs} {ls : List Lf} (hv : VOk m H v) (hV : ∀ i u, vat vs i = some u → VOk m H u) (h : mB H sb md v vs = some (ls, vs')) :
    LeV vs vs' ∧ (∀ i u, vat vs' i = some u → VOk m H u) ∧ ∃ lb, (∀ rest, fB sb (ls ++ rest) = (lb, rest)) ∧ Seen m H (vat vs') lb md v := by
  by_cases e : ∃ z, v = .ph z
  · obtain ⟨z, e⟩ := e
    subst e
    have hmd : z = false → md ≠ .own := by rintro rfl rfl; cases h
    have h : mPh sb vs = some (ls, vs') := by cases z <;> cases md <;> first | exact h | exact absurd rfl (hmd rfl)
    have ph_inj : ∀ z', View.ph z = .ph z' → z' = false → md ≠ .own := fun z' e => by cases e; exact hmd
    simp only [mPh] at h
    split at h
    · cases h; exact ⟨LeV.refl _, hV, _, fun _ => rfl, trivial, fun z' e => ⟨rfl, trivial, ph_inj z' e⟩, fun h => absurd rfl (h z)⟩
    · split at h
      · rename_i hk
        cases h
        exact ⟨LeV.refl _, hV, _, fun _ => rfl, trivial, fun z' e => ⟨rfl, ⟨hk, fun x hx => by simp at hx⟩, ph_inj z' e⟩, fun h => absurd rfl (h z)⟩
      · cases h
    · split at h
      · rename_i hk
        cases h
        exact ⟨LeV.refl _, hV, _, fun _ => rfl, trivial, fun z' e => ⟨by simp [Blk.num], ⟨hk, by simp⟩, ph_inj z' e⟩, fun h => absurd rfl (h z)⟩
      · cases h
    · cases h
  · have h' : mB1 H sb md v vs = some (ls, vs') := by
      cases v with
      | ph z => exact absurd ⟨z, rfl⟩ e
      | full b => exact h
      | sub b off len => exact h
      | el b i fo n => exact h
    clear h
    unfold mB1 at h'
    split at h'
    · rename_i bk md0 hb
      split at h'
      · rename_i hmd
        unfold mBk at h'
        split at h'
        · rename_i k k' l
          split at h'
          · rename_i hk
            subst hk
            cases h'
            exact ⟨LeV.refl _, hV, _, fun _ => rfl, hv, fun z h => absurd ⟨z, h⟩ e, fun _ => ⟨_, _, hb, hmd, .ints _ _⟩⟩
          · cases h'
        · split at h'
          · rename_i hk
            subst hk
            cases h'
            exact ⟨LeV.refl _, hV, _, fun _ => rfl, hv, fun z h => absurd ⟨z, h⟩ e, fun _ => ⟨_, _, hb, hmd, .recs _ _⟩⟩
          · cases h'
        · rename_i n ps n' l
          split at h'
          · rename_i hk
            subst hk
            obtain ⟨a, ⟨ys, b, c, d⟩, f⟩ := mVL_spec _ _ _ _ _ h'
            have hbr := view_BR hs hb hv hmd
            refine ⟨a, fun i u hi => ?_, .vals n ys, fun rest => by simp only [fB, b], hv, fun z h => absurd ⟨z, h⟩ e, fun _ => ⟨_, _, hb, hmd, .vals _ _ _ c d⟩⟩
            rcases f m H (fun j x hx => hbr.cellsVR j x hx) i u hi with q | q
            · exact hV i u q
            · exact q
          · cases h'
        · cases h'
      · cases h'
    · cases h'

def EntOk (m : Map) (H : Heap) (vs : Vs) (j : Nat) (sb : SB) (md : Md) (e : Ent) : Prop :=
  match sb with
  | .hole => e = .hole
  | .dead => e = .dead
  | _ => ∃ lb v, e = .live lb md ∧ vat vs j = some v ∧ Seen m H (vat vs) lb md v

theorem EntOk.mono {m : Map} {H : Heap} {vs vs' : Vs} (h : LeV vs vs') {j : Nat} {sb : SB} {md : Md} {e : Ent} (he : EntOk m H vs j sb md e) : EntOk m H vs' j sb md e := by
  cases sb <;> simp only [EntOk] at he ⊢ <;> first
    | exact he
    | (obtain ⟨lb, v, h1, h2, h3⟩ := he; exact ⟨lb, v, h1, h.2 _ _ h2, h3.mono h.2⟩)

theorem mH_spec {m : Map} {H : Heap} {w : World} (hs : Sim m H w) : ∀ (bs : List (SB × Md)) (j : Nat) (vs vs' : Vs) (ls : List Lf), (∀ i u, vat vs i = some u → VOk m H u) → mH H bs j vs = some (ls, vs') →
    LeV vs vs' ∧ (∀ i u, vat vs' i = some u → VOk m H u) ∧ ∃ L, (∀ rest, fH bs (ls ++ rest) = (L, rest)) ∧ L.length = bs.length ∧ ∀ i sb md, bs[i]? = some (sb, md) → EntOk m H vs' (j + i) sb md (hat L i)
  | [], j, vs, vs', ls, hV, h => by
    simp only [mH] at h
    cases h
    exact ⟨LeV.refl _, hV, [], fun _ => rfl, rfl, fun i sb md hi => by simp at hi⟩
  | (sb, md) :: r, j, vs, vs', ls, hV, h => by
    have next : ∀ vs1 l2, (∀ i u, vat vs1 i = some u → VOk m H u) → mH H r (j + 1) vs1 = some (l2, vs') → LeV vs1 vs' ∧ (∀ i u, vat vs' i = some u → VOk m H u) ∧ ∃ L, (∀ rest, fH r (l2 ++ rest) = (L, rest)) ∧ L.length = r.length ∧ ∀ i sb md, r[i]? = some (sb, md) → EntOk m H vs' (j + (i + 1)) sb md (hat L i) := by
      intro vs1 l2 hV1 h1
      obtain ⟨a, b, L, c, d, e⟩ := mH_spec hs r (j + 1) vs1 vs' l2 hV1 h1
      exact ⟨a, b, L, c, d, fun i sb md hi => by have := e i sb md hi; rwa [show j + 1 + i = j + (i + 1) by omega] at this⟩
    have live : ∀ (_ : (match vat vs j with
        | some v => match mB H sb md v vs with
          | some (l1, vs1) => match mH H r (j + 1) vs1 with
            | some (l2, vs2) => some (l1 ++ l2, vs2)
            | none => none
          | none => none
        | none => none) = some (ls, vs')) (_ : ∀ l, fH ((sb, md) :: r) l = match fB sb l with | (bk, l) => match fH r l with | (L, l) => (.live bk md :: L, l)) (_ : ∀ e, (∃ lb v, e = Ent.live lb md ∧ vat vs' j = some v ∧ Seen m H (vat vs') lb md v) → EntOk m H vs' j sb md e),
        LeV vs vs' ∧ (∀ i u, vat vs' i = some u → VOk m H u) ∧ ∃ L, (∀ rest, fH ((sb, md) :: r) (ls ++ rest) = (L, rest)) ∧ L.length = ((sb, md) :: r).length ∧ ∀ i sb' md', ((sb, md) :: r)[i]? = some (sb', md') → EntOk m H vs' (j + i) sb' md' (hat L i) := by
      intro h hf he
      split at h
      · rename_i v hv
        split at h
        · rename_i l1 vs1 h1
          split at h
          · rename_i l2 vs2 h2
            cases h
            obtain ⟨a1, b1, lb, c1, d1⟩ := mB_spec hs (hV j v hv) hV h1
            obtain ⟨a2, b2, L, c2, d2, e2⟩ := next vs1 l2 b1 h2
            refine ⟨a1.trans a2, b2, .live lb md :: L, fun rest => by rw [hf, List.append_assoc, c1]; simp only [c2], by simp [d2], fun i sb' md' hi => ?_⟩
            cases i with
            | zero => simp at hi; obtain ⟨rfl, rfl⟩ := hi; exact he _ ⟨lb, v, rfl, (a1.trans a2).2 _ _ hv, d1.mono a2.2⟩
            | succ i => exact e2 i sb' md' (by simpa using hi)
          · cases h
        · cases h
      · cases h
    cases sb with
    | hole =>
      simp only [mH] at h
      obtain ⟨a, b, L, c, d, e⟩ := next vs ls hV h
      refine ⟨a, b, .hole :: L, fun rest => by simp only [fH, c], by simp [d], fun i sb' md' hi => ?_⟩
      cases i with
      | zero => simp at hi; obtain ⟨rfl, rfl⟩ := hi; exact rfl
      | succ i => exact e i sb' md' (by simpa using hi)
    | dead =>
      simp only [mH] at h
      obtain ⟨a, b, L, c, d, e⟩ := next vs ls hV h
      refine ⟨a, b, .dead :: L, fun rest => by simp only [fH, c], by simp [d], fun i sb' md' hi => ?_⟩
      cases i with
      | zero => simp at hi; obtain ⟨rfl, rfl⟩ := hi; exact rfl
      | succ i => exact e i sb' md' (by simpa using hi)
    | ints k => exact live h (fun _ => rfl) fun e he => he
    | recs ks => exact live h (fun _ => rfl) fun e he => he
    | vals n ps => exact live h (fun _ => rfl) fun e he => he

/-- no place lies under two views, but where all are but read -/
def compat (x y : Option Nat × Md) : Bool :=
  match x, y with
  | (some b, md), (some b', md') => match Nat.beq b b' with
    | true => match md, md' with | .ro, .ro => true | _, _ => false
    | false => true
  | _, _ => true

def apartOk : List (Option Nat × Md) → Bool
  | [] => true
  | x :: xs => xs.all (compat x) && apartOk xs

def idsOf : List (SB × Md) → Nat → Vs → List (Option Nat × Md)
  | [], _, _ => []
  | (sb, md) :: r, j, vs => ((match sb with | .hole => none | .dead => none | _ => match vat vs j with | some v => vId v | none => none), md) :: idsOf r (j + 1) vs

def holesOk : List (SB × Md) → Nat → Vs → Bool
  | [], _, _ => true
  | (.hole, _) :: r, j, vs => (match vat vs j with | none => true | some _ => false) && holesOk r (j + 1) vs
  | _ :: r, j, vs => holesOk r (j + 1) vs

theorem compat_spec {b : Nat} {md md' : Md} (h : compat (some b, md) (some b, md') = true) : md = .ro ∧ md' = .ro := by
  simp only [compat] at h
  rw [show Nat.beq b b = true by simp] at h
  cases md <;> cases md' <;> simp at h ⊢

theorem apartOk_spec : ∀ (l : List (Option Nat × Md)) (i j : Nat) (b : Nat) (md md' : Md), apartOk l = true → i < j → l[i]? = some (some b, md) → l[j]? = some (some b, md') → md = .ro ∧ md' = .ro
  | [], i, j, b, md, md', _, _, hi, _ => by simp at hi
  | x :: xs, i, j, b, md, md', h, hlt, hi, hj => by
    simp only [apartOk, Bool.and_eq_true] at h
    cases j with
    | zero => omega
    | succ j =>
      cases i with
      | zero =>
        simp at hi hj
        subst hi
        exact compat_spec (List.all_eq_true.1 h.1 _ (List.mem_of_getElem? hj))
      | succ i => exact apartOk_spec xs i j b md md' h.2 (by omega) (by simpa using hi) (by simpa using hj)

theorem idsOf_at : ∀ (bs : List (SB × Md)) (j : Nat) (vs : Vs) (i : Nat) (sb : SB) (md : Md) (v : View), bs[i]? = some (sb, md) → sb ≠ .hole → sb ≠ .dead → vat vs (j + i) = some v → (idsOf bs j vs)[i]? = some (vId v, md)
  | [], j, vs, i, sb, md, v, h, _, _, _ => by simp at h
  | (sb0, md0) :: r, j, vs, i, sb, md, v, h, h1, h2, hv => by
    cases i with
    | zero =>
      simp at h
      obtain ⟨rfl, rfl⟩ := h
      rw [Nat.add_zero] at hv
      cases sb0 <;> simp [idsOf, hv] at h1 h2 ⊢
    | succ i =>
      simp only [idsOf, List.getElem?_cons_succ]
      exact idsOf_at r (j + 1) vs i sb md v (by simpa using h) h1 h2 (by rw [show j + 1 + i = j + (i + 1) by omega]; exact hv)

theorem holesOk_spec : ∀ (bs : List (SB × Md)) (j : Nat) (vs : Vs) (i : Nat) (md : Md), holesOk bs j vs = true → bs[i]? = some (.hole, md) → vat vs (j + i) = none
  | [], j, vs, i, md, _, h => by simp at h
  | (sb0, md0) :: r, j, vs, i, md, hh, h => by
    cases i with
    | zero =>
      simp at h
      obtain ⟨rfl, rfl⟩ := h
      simp only [holesOk, Bool.and_eq_true] at hh
      rw [Nat.add_zero]
      have := hh.1
      split at this
      · assumption
      · cases this
    | succ i =>
      have h' : holesOk r (j + 1) vs = true := by
        cases sb0 <;> simp only [holesOk, Bool.and_eq_true] at hh <;> first | exact hh.2 | exact hh
      rw [show j + (i + 1) = j + 1 + i by omega]
      exact holesOk_spec r (j + 1) vs i md h' (by simpa using h)

/-- the small heap's map -/
def mlOf (m : Map) (H : Heap) (vs : Vs) (bs : List (SB × Md)) : Map := fun j =>
  match vat vs j with
  | some v => vP m H (match bs[j]? with | some (_, md) => isOwn md | none => false) v
  | none => (0, 0, 0)

/-- a match that went through: the small heap -/
theorem small_of {m : Map} {H : Heap} {w : World} (_hs : Sim m H w) {bs : List (SB × Md)} {vs : Vs} {L : Heap} (hlen : vs.length = bs.length) (hL : L.length = bs.length) (hE : ∀ i sb md, bs[i]? = some (sb, md) → EntOk m H vs i sb md (hat L i)) (ha : apartOk (idsOf bs 0 vs) = true) (hh : holesOk bs 0 vs = true) :
    Small m H (mlOf m H vs bs) L (vat vs) := by
  have hvat : ∀ (vs : Vs) j v, vat vs j = some v → j < vs.length := by
    intro vs
    induction vs with
    | nil => intro j v h; simp [vat] at h
    | cons x xs ih => intro j v h; cases j with
      | zero => simp
      | succ j => have := ih j v h; simp; omega
  have get : ∀ j lb md, hget L j = some (lb, md) → ∃ sb v, bs[j]? = some (sb, md) ∧ sb ≠ .hole ∧ sb ≠ .dead ∧ vat vs j = some v ∧ Seen m H (vat vs) lb md v := by
    intro j lb md hg
    have hat' : hat L j = .live lb md := by
      unfold hget at hg
      split at hg
      · rename_i e; cases hg; exact e
      · cases hg
    have hj : j < bs.length := by
      apply Classical.byContradiction
      intro hn
      rw [hat_len L j (by omega)] at hat'
      cases hat'
    have hb : bs[j]? = some bs[j] := by simp [hj]
    generalize hbe : bs[j] = x at hb
    obtain ⟨sb, md1⟩ := x
    have := hE j sb md1 hb
    cases sb with
    | hole => simp only [EntOk] at this; rw [hat'] at this; cases this
    | dead => simp only [EntOk] at this; rw [hat'] at this; cases this
    | ints k => obtain ⟨lb1, v, e1, e2, e3⟩ := this; rw [hat'] at e1; cases e1; exact ⟨_, v, hb, by simp, by simp, e2, e3⟩
    | recs k => obtain ⟨lb1, v, e1, e2, e3⟩ := this; rw [hat'] at e1; cases e1; exact ⟨_, v, hb, by simp, by simp, e2, e3⟩
    | vals n k => obtain ⟨lb1, v, e1, e2, e3⟩ := this; rw [hat'] at e1; cases e1; exact ⟨_, v, hb, by simp, by simp, e2, e3⟩
  refine ⟨fun j v hv => ?_, fun j lb md hg => ?_, fun j j' lb md lb' md' v v' b hg hg' hne hv hv' hi hi' => ?_⟩
  · have hj : j < bs.length := by have := hvat vs j v hv; omega
    have hb : bs[j]? = some bs[j] := by simp [hj]
    generalize hbe : bs[j] = x at hb
    obtain ⟨sb, md1⟩ := x
    have := hE j sb md1 hb
    unfold hkn
    cases sb with
    | hole =>
      have hn := holesOk_spec bs 0 vs j md1 hh hb
      rw [Nat.zero_add, hv] at hn
      cases hn
    | dead => simp only [EntOk] at this; rw [this]
    | ints k => obtain ⟨lb1, v, e1, e2, e3⟩ := this; rw [e1]
    | recs k => obtain ⟨lb1, v, e1, e2, e3⟩ := this; rw [e1]
    | vals n k => obtain ⟨lb1, v, e1, e2, e3⟩ := this; rw [e1]
  · obtain ⟨sb, v, h1, h2, h3, h4, h5⟩ := get j lb md hg
    exact ⟨v, h4, h5, by simp only [mlOf, h4, h1]⟩
  · obtain ⟨sb, u, h1, h2, h3, h4, h5⟩ := get j lb md hg
    obtain ⟨sb', u', h1', h2', h3', h4', h5'⟩ := get j' lb' md' hg'
    have a1 := idsOf_at bs 0 vs j sb md v h1 h2 h3 (by rw [Nat.zero_add]; exact hv)
    have a2 := idsOf_at bs 0 vs j' sb' md' v' h1' h2' h3' (by rw [Nat.zero_add]; exact hv')
    rw [hi] at a1
    rw [hi'] at a2
    rcases Nat.lt_or_gt_of_ne hne with hlt | hlt
    · exact apartOk_spec _ j j' b md md' ha hlt a1 a2
    · obtain ⟨q1, q2⟩ := apartOk_spec _ j' j b md' md ha hlt a2 a1
      exact ⟨q2, q1⟩

end Go.Ab
end

section
/- States by patterns: the small state says no more than the great one. No condition. -/
namespace Go.Ab
open Go

/-- a state's pattern: how many temporaries; how many places stay where they are; temporaries that are kept; places -/
structure Sk where
  nt : Nat
  n0 : Nat
  slots : List (Nat × SV)
  blocks : List (SB × Md)

def vsI (n0 : Nat) : List (SB × Md) → Nat → Vs
  | [], _ => []
  | _ :: r, j => (match Nat.blt j n0 with | true => some (.full j) | false => none) :: vsI n0 r (j + 1)

theorem vsI_length (n0 : Nat) : ∀ (bs : List (SB × Md)) (j : Nat), (vsI n0 bs j).length = bs.length
  | [], _ => rfl
  | _ :: r, j => by simp [vsI, vsI_length n0 r]

theorem vsI_at (n0 : Nat) : ∀ (bs : List (SB × Md)) (j i : Nat), vat (vsI n0 bs j) i = if j + i < n0 ∧ i < bs.length then some (.full (j + i)) else none
  | [], j, i => by simp [vsI, vat]
  | x :: r, j, i => by
    cases i with
    | zero =>
      simp only [vsI, vat, Nat.add_zero, List.length_cons]
      by_cases h : j < n0
      · have : Nat.blt j n0 = true := by simpa using h
        rw [this, if_pos ⟨h, by omega⟩]
      · have : Nat.blt j n0 = false := by
          cases hb : Nat.blt j n0 with
          | false => rfl
          | true => exact absurd (by simpa using hb) h
        rw [this, if_neg (fun q => h q.1)]
    | succ i =>
      simp only [vsI, vat, vsI_at n0 r, List.length_cons]
      rw [show j + 1 + i = j + (i + 1) by omega]
      by_cases h : j + (i + 1) < n0 ∧ i < r.length
      · rw [if_pos h, if_pos ⟨h.1, by omega⟩]
      · rw [if_neg h, if_neg (fun q => h ⟨q.1, by omega⟩)]

def mdEq : Md → Md → Bool
  | .ro, .ro => true
  | .rw, .rw => true
  | .own, .own => true
  | _, _ => false

theorem mdEq_spec {a b : Md} (h : mdEq a b = true) : a = b := by cases a <;> cases b <;> simp [mdEq] at h ⊢

/-- the first places stay what they are -/
def firstOk (H : Heap) : Nat → List (SB × Md) → Nat → Bool
  | 0, _, _ => true
  | _ + 1, [], _ => false
  | n + 1, (sb, md) :: r, j => (match sb, hat H j with
    | .dead, .dead => true
    | .hole, _ => false
    | .dead, .live _ _ => true
    | .dead, _ => false
    | _, .live _ md' => mdEq md md'
    | _, _ => false) && firstOk H n r (j + 1)

def putAll : List (Nat × SV) → List AV → List AV → List AV
  | [], _, T => T
  | (t, _) :: r, ys, T => match ys with | y :: ys => putAll r ys (tset T t y) | [] => T

def rdS (sk : Sk) (s : St) : Option (List Lf) :=
  match Nat.beq s.tmps.length sk.nt with
  | true => match mVL (sk.slots.map (·.2)) (sk.slots.map fun p => tget s.tmps p.1) (vsI sk.n0 sk.blocks 0) with
    | some (l1, vs1) => match mH s.heap sk.blocks 0 vs1 with
      | some (l2, vs2) => match apartOk (idsOf sk.blocks 0 vs2) && (holesOk sk.blocks 0 vs2 && firstOk s.heap sk.n0 sk.blocks 0) with
        | true => some (l1 ++ l2)
        | false => none
      | none => none
    | none => none
  | false => none

def fiS (sk : Sk) (d : List Lf) : St :=
  match fVL (sk.slots.map (·.2)) d with
  | (ys, d) => ⟨putAll sk.slots ys (List.replicate sk.nt .undef), (fH sk.blocks d).1⟩

theorem putAll_length : ∀ (sl : List (Nat × SV)) (ys T : List AV), (putAll sl ys T).length = T.length
  | [], _, _ => rfl
  | (t, p) :: r, ys, T => by
    cases ys with
    | nil => rfl
    | cons y ys => simp only [putAll, putAll_length r]; exact tset_length _ _ _

theorem putAll_at : ∀ (sl : List (Nat × SV)) (ys T : List AV) (t : Nat), tget (putAll sl ys T) t = tget T t ∨ tget (putAll sl ys T) t = .undef ∨ ∃ (i : Nat) (p : SV) (y : AV), sl[i]? = some (t, p) ∧ ys[i]? = some y ∧ tget (putAll sl ys T) t = y
  | [], _, _, _ => .inl rfl
  | (u, p) :: r, ys, T, t => by
    cases ys with
    | nil => exact .inl rfl
    | cons y ys =>
      simp only [putAll]
      rcases putAll_at r ys (tset T u y) t with h | h | ⟨i, q, z, h1, h2, h3⟩
      · rw [h, tget_tset]
        by_cases e : t = u
        · subst e
          rw [if_pos rfl]
          by_cases hl : t < T.length
          · rw [if_pos hl]; exact .inr (.inr ⟨0, p, y, rfl, rfl, rfl⟩)
          · rw [if_neg hl]; exact .inr (.inl rfl)
        · rw [if_neg e]; exact .inl rfl
      · exact .inr (.inl h)
      · exact .inr (.inr ⟨i + 1, q, z, by simpa using h1, by simpa using h2, h3⟩)

theorem firstOk_spec (H : Heap) : ∀ (n : Nat) (bs : List (SB × Md)) (j i : Nat), firstOk H n bs j = true → i < n → ∃ sb md, bs[i]? = some (sb, md) ∧ ((sb = .dead ∧ hat H (j + i) ≠ .hole) ∨ (sb ≠ .dead ∧ sb ≠ .hole ∧ ∃ bk, hat H (j + i) = .live bk md))
  | 0, bs, j, i, _, hi => by omega
  | n + 1, [], j, i, h, _ => by simp [firstOk] at h
  | n + 1, (sb, md) :: r, j, i, h, hi => by
    simp only [firstOk, Bool.and_eq_true] at h
    cases i with
    | zero =>
      refine ⟨sb, md, rfl, ?_⟩
      have h1 := h.1
      rw [Nat.add_zero]
      cases sb with
      | dead => left; refine ⟨rfl, ?_⟩; cases e : hat H j <;> simp [e] at h1 ⊢
      | hole => simp at h1
      | ints k => right; cases e : hat H j <;> simp [e] at h1; have := mdEq_spec h1; subst this; exact ⟨by simp, by simp, _, rfl⟩
      | recs k => right; cases e : hat H j <;> simp [e] at h1; have := mdEq_spec h1; subst this; exact ⟨by simp, by simp, _, rfl⟩
      | vals k l => right; cases e : hat H j <;> simp [e] at h1; have := mdEq_spec h1; subst this; exact ⟨by simp, by simp, _, rfl⟩
    | succ i =>
      have := firstOk_spec H n r (j + 1) i h.2 (by omega)
      rw [show j + 1 + i = j + (i + 1) by omega] at this
      simpa using this

theorem hat_of_hget' {H : Heap} {b : Nat} {bk : Blk} {md : Md} (h : hget H b = some (bk, md)) : hat H b = .live bk md := by
  unfold hget at h
  split at h
  · rename_i e; cases h; exact e
  · cases h

theorem rdS_gen {sk : Sk} {s : St} {d : List Lf} (h : rdS sk s = some d) : Gen sk.n0 s (fiS sk d) := by
  unfold rdS at h
  split at h
  · rename_i hlen
    split at h
    · rename_i l1 vs1 h1
      split at h
      · rename_i l2 vs2 h2
        split at h
        · rename_i hck
          cases h
          simp only [Bool.and_eq_true] at hck
          obtain ⟨ha, hh, hf⟩ := hck
          intro B m a w hn hon
          have hs := hon.at_.sim
          obtain ⟨a1, ⟨ys, b1, c1, d1⟩, e1⟩ := mVL_spec _ _ _ _ _ h1
          have hV0 : ∀ i u, vat (vsI sk.n0 sk.blocks 0) i = some u → VOk m s.heap u := by
            intro i u hi
            rw [vsI_at] at hi
            split at hi
            · cases hi; trivial
            · cases hi
          have hV1 : ∀ i u, vat vs1 i = some u → VOk m s.heap u := by
            intro i u hi
            rcases e1 m s.heap (fun j x hx => by
              simp only [List.getElem?_map, Option.map_eq_some_iff] at hx
              obtain ⟨p, _, rfl⟩ := hx
              exact ⟨_, hon.at_.tr.at_ p.1⟩) i u hi with q | q
            · exact hV0 i u q
            · exact q
          obtain ⟨a2, b2, L, c2, d2, e2⟩ := mH_spec hs sk.blocks 0 vs1 vs2 l2 hV1 h2
          have hvl : vs2.length = sk.blocks.length := by rw [a2.1, a1.1, vsI_length]
          have hE : ∀ i sb md, sk.blocks[i]? = some (sb, md) → EntOk m s.heap vs2 i sb md (hat L i) := fun i sb md hi => by have := e2 i sb md hi; rwa [Nat.zero_add] at this
          have hsm := small_of hs hvl d2 hE ha hh
          have hfi : fiS sk (l1 ++ l2) = ⟨putAll sk.slots ys (List.replicate sk.nt .undef), L⟩ := by
            unfold fiS
            rw [b1]
            simp only
            have := c2 []
            rw [List.append_nil] at this
            rw [this]
          rw [hfi]
          have hv0 : ∀ j, j < sk.n0 → j < sk.blocks.length → vat vs2 j = some (.full j) := by
            intro j hj hb
            refine a2.2 _ _ (a1.2 _ _ ?_)
            rw [vsI_at, if_pos ⟨by omega, hb⟩, Nat.zero_add]
          refine ⟨mlOf m s.heap vs2 sk.blocks, ⟨⟨hsm.sim hs, ⟨?_, fun t => ?_⟩⟩, ?_, hon.defers⟩⟩
          · simp only [putAll_length, List.length_replicate]
            have h3 := hon.at_.tr.len
            have : s.tmps.length = sk.nt := by simpa using hlen
            omega
          · rcases putAll_at sk.slots ys (List.replicate sk.nt .undef) t with q | q | ⟨i, p, y, q1, q2, q3⟩
            · have : tget (List.replicate sk.nt AV.undef) t = .undef := by
                rw [tget_eq]
                simp only [List.getD_eq_getElem?_getD, List.getElem?_replicate]
                split <;> rfl
              simp only [q, this]
              exact .undef _
            · simp only [q]; exact .undef _
            · simp only [q3]
              have hl := d1 i (tget s.tmps t) y (by simp [q1]) q2
              exact (hl.mono a2.2).vr hs hsm _ (hon.at_.tr.at_ t)
          · -- from the base
            have hfirst : ∀ b, b < sk.n0 → ∃ sb md, sk.blocks[b]? = some (sb, md) ∧ ((sb = .dead ∧ hat s.heap b ≠ .hole) ∨ (sb ≠ .dead ∧ sb ≠ .hole ∧ ∃ bk, hat s.heap b = .live bk md)) := fun b hb => by
              have := firstOk_spec s.heap sk.n0 sk.blocks 0 b hf hb
              rwa [Nat.zero_add] at this
            have hltn : ∀ b, hkn B.H b = true → b < sk.n0 := by
              intro b hb
              apply Classical.byContradiction
              intro hnn
              rw [fresh_ge (by omega)] at hb
              cases hb
            have hle : Le m B.H m B.H := Le.refl _ _
            refine ⟨⟨fun b hb => ?_, fun b bk' md' hb hg => ?_⟩, hon.tr.os, hon.tr.tape, hon.tr.output, hon.tr.drawn, hon.tr.size, hon.tr.frame, fun x o hw => ?_⟩
            · obtain ⟨sb, md, k1, k2⟩ := hfirst b (hltn b hb)
              have hlt : b < sk.blocks.length := (List.getElem?_eq_some_iff.1 k1).1
              exact hsm.kn b _ (hv0 b (hltn b hb) hlt)
            · obtain ⟨sb, md, k1, k2⟩ := hfirst b (hltn b hb)
              have hlt : b < sk.blocks.length := (List.getElem?_eq_some_iff.1 k1).1
              obtain ⟨v, g1, g2, g3⟩ := hsm.seen b bk' md' hg
              rw [hv0 b (hltn b hb) hlt] at g1
              cases g1
              obtain ⟨gb, md0, f1, f2, f3⟩ := g2.at_ (by simp)
              have hent := hE b sb md k1
              have hmd : md' = md := by
                have hat' : hat L b = .live bk' md' := by
                  unfold hget at hg
                  split at hg
                  · rename_i e; cases hg; exact e
                  · cases hg
                cases sb with
                | hole => simp only [EntOk] at hent; rw [hat'] at hent; cases hent
                | dead => simp only [EntOk] at hent; rw [hat'] at hent; cases hent
                | ints k => obtain ⟨_, _, e1, _⟩ := hent; rw [hat'] at e1; cases e1; rfl
                | recs k => obtain ⟨_, _, e1, _⟩ := hent; rw [hat'] at e1; cases e1; rfl
                | vals n k => obtain ⟨_, _, e1, _⟩ := hent; rw [hat'] at e1; cases e1; rfl
              have hgb : hget s.heap b = some (gb, md0) := f1
              have hmd0 : md0 = md := by
                rcases k2 with ⟨k0, _⟩ | ⟨_, _, bk, k2⟩
                · subst k0
                  simp only [EntOk] at hent
                  rw [hat_of_hget' hg] at hent
                  cases hent
                · unfold hget at hgb; rw [k2] at hgb; cases hgb; rfl
              subst hmd hmd0
              obtain ⟨bk0, q1, q2, q3, q4⟩ := hon.tr.le.at_ b gb md0 hb hgb
              obtain ⟨n1, n2⟩ := f3.num
              refine ⟨bk0, q1, by omega, by omega, ?_⟩
              rw [g3, ← q4]
              simp only [vP, hgb]
              cases md0 with
              | own => rfl
              | ro => have := (hs.blk b gb _ hgb).2.2.1 (by simp); simp only [isOwn]; rw [← this]
              | rw => have := (hs.blk b gb _ hgb).2.2.1 (by simp); simp only [isOwn]; rw [← this]
            · obtain ⟨j, lb, md, g1, g2, g3, g4, g5⟩ := hw
              refine hon.tr.own x o ?_
              obtain ⟨v, r1, r2, r3⟩ := hsm.seen j lb md g1
              rw [r3] at g3 g4 g5
              by_cases e : ∃ z, v = .ph z
              · obtain ⟨z, e⟩ := e; subst e; simp [vP] at g4 g5
              · obtain ⟨gb, md0, f1, f2, f3⟩ := r2.at_ (fun z h => e ⟨z, h⟩)
                obtain ⟨b, bk, i1, i2, i3, i4, i5⟩ := vP_in (md := md) hs f1 r2.ok
                exact ⟨b, bk, md0, i2, mdFits_ro f2 g2, by omega, by omega, by omega⟩
        · cases h
      · cases h
    · cases h
  · cases h

end Go.Ab
end

section
/- What a call turned in its small heap, in the great one. No condition. -/
namespace Go.Ab
open Go

mutual
/-- a value of the small heap in the great one's words: nL places were there, those that came begin at q -/
def gV (vs : Vs) (f : Nat → Bool) (nL q : Nat) : AV → AV
  | .ptr j i fo => match Nat.blt j nL with
    | true => match vat vs j with
      | some (.full b) => .ptr b i fo
      | some (.sub b off _) => .ptr b (off + i) fo
      | some (.el b i0 f0 _) => .ptr b i0 (f0 + fo)
      | _ => .undef
    | false => .ptr (q + (j - nL)) i fo
  | .whole j => match Nat.blt j nL with
    | true => match f j, vat vs j with
      | true, some (.full b) => .whole b
      | true, some (.sub b off len) => .part b off len
      | _, _ => .undef
    | false => .whole (q + (j - nL))
  | .part j o l => match Nat.blt j nL with
    | true => match f j, vat vs j with
      | true, some (.full b) => .part b o l
      | true, some (.sub b off _) => .part b (off + o) l
      | _, _ => .undef
    | false => .part (q + (j - nL)) o l
  | .seg .. => .undef
  | .acc j => match Nat.blt j nL with
    | true => match f j, vat vs j with
      | true, some (.full b) => .acc b
      | _, _ => .undef
    | false => .acc (q + (j - nL))
  | .func fn g c => .func fn (gVL vs f nL q g) (gVL vs f nL q c)
  | .iface t v => .iface t (gV vs f nL q v)
  | .agg l => .agg (gVL vs f nL q l)
  | .tuple l => .tuple (gVL vs f nL q l)
  | .undef => .undef
  | .bool b => .bool b
  | .int k n => .int k n
  | .str s => .str s
  | .nilPtr => .nilPtr
  | .nilSlice => .nilSlice
  | .nilFunc => .nilFunc
  | .nilIface => .nilIface
def gVL (vs : Vs) (f : Nat → Bool) (nL q : Nat) : List AV → List AV
  | [] => []
  | x :: xs => gV vs f nL q x :: gVL vs f nL q xs
end

/-- may a slice of the small heap be handed back? -/
def slOk (H : Heap) (vs : Vs) (bs : List (SB × Md)) (j : Nat) : Bool :=
  match vat vs j, bs[j]? with
  | some v, some (_, md) => match vId v with
    | some b => (match hget H b with | some (_, md0) => !isOwn md0 || isOwn md | none => false)
    | none => false
  | _, _ => false

theorem gVL_length (vs : Vs) (f : Nat → Bool) (nL q : Nat) : ∀ l : List AV, (gVL vs f nL q l).length = l.length
  | [] => rfl
  | x :: xs => by simp [gVL, gVL_length vs f nL q xs]

theorem gVL_at (vs : Vs) (f : Nat → Bool) (nL q : Nat) : ∀ (l : List AV) (j : Nat), (gVL vs f nL q l)[j]? = (l[j]?).map (gV vs f nL q)
  | [], j => by simp [gVL]
  | x :: xs, j => by cases j <;> simp [gVL, gVL_at vs f nL q xs]

def gB (vs : Vs) (f : Nat → Bool) (nL q : Nat) : Blk → Blk
  | .vals n l => .vals n (gVL vs f nL q l)
  | .ints k l => .ints k l
  | .recs ks l => .recs ks l

theorem gB_num (vs : Vs) (f : Nat → Bool) (nL q : Nat) (b : Blk) : (gB vs f nL q b).num = b.num ∧ (gB vs f nL q b).str = b.str := by
  cases b <;> simp [gB, Blk.num, Blk.str, gVL_length]

theorem gB_ok (vs : Vs) (f : Nat → Bool) (nL q : Nat) {b : Blk} (h : b.ok) : (gB vs f nL q b).ok := by
  cases b with
  | ints => exact h
  | recs => exact h
  | vals n l => exact ⟨h.1, by rw [gVL_length]; exact h.2⟩

theorem gB_ld (vs : Vs) (f : Nat → Bool) (nL q : Nat) {b : Blk} {i fo : Nat} {x : AV} (h : b.ld i fo = some x) : (gB vs f nL q b).ld i fo = some (gV vs f nL q x) := by
  cases b with
  | ints k l => cases fo with
    | zero => simp only [Blk.ld] at h; cases h; rfl
    | succ n => simp [Blk.ld] at h
  | recs ks l =>
    simp only [gB, Blk.ld] at h ⊢
    split at h
    · rename_i e; cases h; rfl
    · cases h
  | vals n l => simp only [gB, Blk.ld] at h ⊢; rw [gVL_at, h]; rfl

/-- so many elements from off on are others -/
def putSub (gb : Blk) (off : Nat) (lb : Blk) : Option Blk :=
  match gb, lb with
  | .ints k l, .ints k' l' => if k = k' then some (.ints k (splice l off l')) else none
  | .recs k l, .recs k' l' => if k = k' then some (.recs k (splice l off l')) else none
  | .vals n l, .vals n' l' => if n = n' then some (.vals n (splice l (off * n) l')) else none
  | _, _ => none

theorem putSub_spec {gb lb nb : Blk} {off : Nat} (h : putSub gb off lb = some nb) (hle : off + lb.num ≤ gb.num) (hg : gb.ok) (hl : lb.ok) :
    nb.num = gb.num ∧ nb.str = gb.str ∧ lb.str = gb.str ∧ nb.ok ∧ ∀ i fo, i < gb.num → fo < gb.str → nb.ld i fo = if off ≤ i ∧ i < off + lb.num then lb.ld (i - off) fo else gb.ld i fo := by
  unfold putSub at h
  split at h
  · rename_i k l k' l'
    split at h
    · rename_i e
      subst e
      cases h
      simp only [Blk.num] at hle
      refine ⟨by simp only [Blk.num]; exact splice_length _ _ _ hle, rfl, rfl, trivial, fun i fo hi hf => ?_⟩
      simp only [Blk.str] at hf
      obtain rfl : fo = 0 := by omega
      simp only [Blk.ld, Blk.num, List.getD_eq_getElem?_getD, splice_get _ _ _ hle]
      split <;> rfl
    · cases h
  · rename_i k l k' l'
    split at h
    · rename_i e
      subst e
      cases h
      simp only [Blk.num] at hle
      refine ⟨by simp only [Blk.num]; exact splice_length _ _ _ hle, rfl, rfl, ⟨hg.1, fun x hx => ?_⟩, fun i fo hi hf => ?_⟩
      · obtain ⟨j, hj⟩ := List.mem_iff_getElem?.1 hx
        rw [splice_get _ _ _ hle] at hj
        split at hj
        · exact hl.2 x (List.mem_of_getElem? hj)
        · exact hg.2 x (List.mem_of_getElem? hj)
      · simp only [Blk.ld, Blk.num, List.getD_eq_getElem?_getD, splice_get _ _ _ hle]
        split <;> split <;> rfl
    · cases h
  · rename_i n l n' l'
    split at h
    · rename_i e
      subst e
      cases h
      have hn : 0 < n := hg.1
      have hd : n * (l.length / n) = l.length := Nat.mul_div_cancel' (Nat.dvd_of_mod_eq_zero hg.2)
      have hd' : n * (l'.length / n) = l'.length := Nat.mul_div_cancel' (Nat.dvd_of_mod_eq_zero hl.2)
      simp only [Blk.num] at hle
      have hle' : off * n + l'.length ≤ l.length := by
        have : n * (off + l'.length / n) ≤ n * (l.length / n) := Nat.mul_le_mul_left _ hle
        rw [Nat.mul_add, hd, hd', Nat.mul_comm n off] at this
        exact this
      have hlen := splice_length l l' (off * n) hle'
      refine ⟨by simp only [Blk.num, hlen], rfl, rfl, ⟨hn, by rw [hlen]; exact hg.2⟩, fun i fo hi hf => ?_⟩
      simp only [Blk.str] at hf
      have hnl : (Blk.vals n l').num = l'.length / n := rfl
      simp only [Blk.ld]
      rw [splice_get _ _ _ hle']
      by_cases hc : off ≤ i ∧ i < off + (Blk.vals n l').num
      · obtain ⟨c1, c2⟩ := hc
        have e1 : i * n = off * n + (i - off) * n := by rw [← Nat.add_mul]; congr 1; omega
        have e2 : (i - off + 1) * n ≤ l'.length := by
          have : (i - off + 1) * n ≤ (l'.length / n) * n := Nat.mul_le_mul_right _ (by omega)
          rw [Nat.mul_comm (l'.length / n) n, hd'] at this
          exact this
        rw [Nat.add_mul] at e2
        rw [if_pos (show off * n ≤ i * n + fo ∧ i * n + fo < off * n + l'.length by omega), if_pos ⟨c1, c2⟩]
        congr 1
        omega
      · rw [if_neg hc, if_neg]
        rintro ⟨c1, c2⟩
        apply hc
        constructor
        · apply Classical.byContradiction
          intro hlt
          have : (i + 1) * n ≤ off * n := Nat.mul_le_mul_right _ (by omega)
          rw [Nat.add_mul] at this
          omega
        · apply Classical.byContradiction
          intro hge
          have : (off + l'.length / n) * n ≤ i * n := Nat.mul_le_mul_right _ (by omega)
          rw [Nat.add_mul, Nat.mul_comm (l'.length / n) n, hd'] at this
          omega
    · cases h
  · cases h

def consO {α : Type} (x : α) : Option (List α) → Option (List α)
  | some l => some (x :: l)
  | none => none

def isHole : Ent → Bool
  | .hole => true
  | _ => false

/-- the views of what is still there -/
def vsU : Vs → Heap → Vs
  | [], _ => []
  | _ :: vs, [] => none :: vsU vs []
  | v :: vs, e :: L => (match e with | .live _ _ => v | _ => none) :: vsU vs L

theorem vsU_at : ∀ (vs : Vs) (L : Heap) (j : Nat) (v : View), vat (vsU vs L) j = some v → vat vs j = some v ∧ ∃ lb md, hat L j = .live lb md
  | [], _, _, _, h => by cases h
  | _ :: vs, [], j, v, h => by
    cases j with
    | zero => cases h
    | succ j => obtain ⟨_, _, _, h2⟩ := vsU_at vs [] j v h; cases h2
  | x :: vs, e :: L, j, v, h => by
    cases j with
    | zero =>
      simp only [vsU, vat] at h
      split at h
      · exact ⟨h, _, _, rfl⟩
      · cases h
    | succ j => exact vsU_at vs L j v h

def backOne (H : Heap) (vs vu : Vs) (f : Nat → Bool) (nL q : Nat) (v : Option View) (e : Ent) : Option (Option (Nat × Ent)) :=
  match v with
  | none => none
  | some (.ph _) => some none
  | some (.full b) => match e with
    | .dead => some (some (b, .dead))
    | .live lb _ => (match hget H b with
      | some (_, md0) => some (some (b, .live (gB vu f nL q lb) md0))
      | none => none)
    | .hole => none
  | some (.sub b off _) => match e with
    | .live lb _ => (match hget H b with
      | some (gb, md0) => (match putSub gb off (gB vu f nL q lb) with
        | some nb => some (some (b, .live nb md0))
        | none => none)
      | none => none)
    | _ => none
  | some (.el b i fo _) => match e with
    | .live (.vals _ l) _ => (match hget H b with
      | some (gb, md0) => (match stF i (gVL vu f nL q l) fo gb with
        | some nb => some (some (b, .live nb md0))
        | none => none)
      | none => none)
    | _ => none

/-- what turned: first the places that were there, then those that came -/
def backD (H : Heap) (vs vu : Vs) (f : Nat → Bool) (nL q : Nat) : List (SB × Md) → Heap → Nat → Option Delta
  | [], [], _ => some []
  | [], e :: L, j => match e with
    | .live lb .own => consO (q + (j - nL), .live (gB vu f nL q lb) .own) (backD H vs vu f nL q [] L (j + 1))
    | .dead => consO (q + (j - nL), .dead) (backD H vs vu f nL q [] L (j + 1))
    | _ => none
  | _ :: _, [], _ => none
  | (.hole, _) :: bs, _ :: L, j => backD H vs vu f nL q bs L (j + 1)
  | (.dead, _) :: bs, _ :: L, j => backD H vs vu f nL q bs L (j + 1)
  | (_, .ro) :: bs, e :: L, j => match isHole e with
    | false => backD H vs vu f nL q bs L (j + 1)
    | true => none
  | (_, _) :: bs, e :: L, j => match backOne H vs vu f nL q (vat vs j) e with
    | some (some x) => consO x (backD H vs vu f nL q bs L (j + 1))
    | some none => backD H vs vu f nL q bs L (j + 1)
    | none => none

/-- what turned at one place -/
inductive Back (H : Heap) (vs vu : Vs) (f : Nat → Bool) (nL q : Nat) (bs : List (SB × Md)) (L : Heap) : Nat → Nat → Ent → Prop
  | new (j : Nat) (lb : Blk) : nL ≤ j → hat L j = .live lb .own → Back H vs vu f nL q bs L j (q + (j - nL)) (.live (gB vu f nL q lb) .own)
  | newDead (j : Nat) : nL ≤ j → hat L j = .dead → Back H vs vu f nL q bs L j (q + (j - nL)) .dead
  | full (j b : Nat) (sb : SB) (md mdl md0 : Md) (lb gb : Blk) : j < nL → bs[j]? = some (sb, md) → sb ≠ .hole → sb ≠ .dead → md ≠ .ro → vat vs j = some (.full b) → hat L j = .live lb mdl → hget H b = some (gb, md0) → Back H vs vu f nL q bs L j b (.live (gB vu f nL q lb) md0)
  | fullDead (j b : Nat) (sb : SB) (md : Md) : j < nL → bs[j]? = some (sb, md) → sb ≠ .hole → sb ≠ .dead → md ≠ .ro → vat vs j = some (.full b) → hat L j = .dead → Back H vs vu f nL q bs L j b .dead
  | sub (j b off len : Nat) (sb : SB) (md mdl md0 : Md) (lb gb nb : Blk) : j < nL → bs[j]? = some (sb, md) → sb ≠ .hole → sb ≠ .dead → md ≠ .ro → vat vs j = some (.sub b off len) → hat L j = .live lb mdl → hget H b = some (gb, md0) → putSub gb off (gB vu f nL q lb) = some nb → Back H vs vu f nL q bs L j b (.live nb md0)
  | el (j b i fo n n' : Nat) (sb : SB) (md mdl md0 : Md) (l : List AV) (gb nb : Blk) : j < nL → bs[j]? = some (sb, md) → sb ≠ .hole → sb ≠ .dead → md ≠ .ro → vat vs j = some (.el b i fo n) → hat L j = .live (.vals n' l) mdl → hget H b = some (gb, md0) → stn i (gVL vu f nL q l) fo gb = some nb → Back H vs vu f nL q bs L j b (.live nb md0)

theorem consO_some {α : Type} {x : α} {o : Option (List α)} {l : List α} (h : consO x o = some l) : ∃ l', o = some l' ∧ l = x :: l' := by
  cases o with
  | none => cases h
  | some l' => cases h; exact ⟨l', rfl, rfl⟩

structure BackOk (H : Heap) (vs vu : Vs) (f : Nat → Bool) (nL q : Nat) (bs : List (SB × Md)) (L : Heap) (j0 : Nat) (D : Delta) : Prop where
  mem : ∀ b e, (b, e) ∈ D → ∃ j, j0 ≤ j ∧ Back H vs vu f nL q bs L j b e
  new : ∀ j, j0 ≤ j → nL ≤ j → j < L.length → ∃ e, (q + (j - nL), e) ∈ D
  old : ∀ j sb md b v, j0 ≤ j → j < nL → bs[j]? = some (sb, md) → sb ≠ .hole → sb ≠ .dead → md ≠ .ro → vat vs j = some v → vId v = some b → ∃ e, (b, e) ∈ D
  ro : ∀ j sb, j0 ≤ j → j < nL → bs[j]? = some (sb, .ro) → sb ≠ .hole → sb ≠ .dead → hat L j ≠ .hole
  len : nL ≤ L.length

theorem backD_spec {H : Heap} {vs vu : Vs} {f : Nat → Bool} {q : Nat} {bs0 : List (SB × Md)} {L0 : Heap} : ∀ (bs : List (SB × Md)) (L : Heap) (j0 : Nat) (D : Delta), (∀ i, bs[i]? = bs0[j0 + i]?) → (∀ i, hat L i = hat L0 (j0 + i)) → j0 + L.length = L0.length → (j0 ≤ bs0.length ∨ bs = []) →
    backD H vs vu f bs0.length q bs L j0 = some D → BackOk H vs vu f bs0.length q bs0 L0 j0 D
  | [], [], j0, D, hb, hl, hlen, hj, h => by
    simp only [backD] at h
    cases h
    have hj0 : bs0.length ≤ j0 := by
      have := hb 0
      simp at this
      simpa using this
    refine ⟨fun b e hm => by simp at hm, fun j h1 h2 h3 => by simp at hlen; omega, fun j sb md b v h1 h2 => by omega, fun j sb h1 h2 => by omega, by simp at hlen; omega⟩
  | [], e :: L, j0, D, hb, hl, hlen, hj, h => by
    have hj0 : bs0.length ≤ j0 := by
      have := hb 0
      simp at this
      simpa using this
    have he : hat L0 j0 = e := by have := hl 0; rw [Nat.add_zero] at this; exact this.symm
    have next : ∀ D', backD H vs vu f bs0.length q [] L (j0 + 1) = some D' → BackOk H vs vu f bs0.length q bs0 L0 (j0 + 1) D' := fun D' h' =>
      backD_spec [] L (j0 + 1) D' (fun i => by simp; omega) (fun i => by have := hl (i + 1); rw [show j0 + 1 + i = j0 + (i + 1) by omega, ← this]; rfl) (by simp at hlen; omega) (.inr rfl) h'
    have add : ∀ x D', (∃ j, j = j0 ∧ Back H vs vu f bs0.length q bs0 L0 j x.1 x.2) → x.1 = q + (j0 - bs0.length) → BackOk H vs vu f bs0.length q bs0 L0 (j0 + 1) D' → BackOk H vs vu f bs0.length q bs0 L0 j0 (x :: D') := by
      intro x D' hx hx1 k
      refine ⟨fun b e hm => ?_, fun j h1 h2 h3 => ?_, fun j sb md b v h1 h2 => by omega, fun j sb h1 h2 => by omega, k.len⟩
      · rcases List.mem_cons.1 hm with hm | hm
        · subst hm
          obtain ⟨j, rfl, hbk⟩ := hx
          exact ⟨j, Nat.le_refl _, hbk⟩
        · obtain ⟨j, h1, h2⟩ := k.mem b e hm
          exact ⟨j, by omega, h2⟩
      · by_cases e : j = j0
        · subst e
          exact ⟨x.2, List.mem_cons.2 (.inl (by rw [← hx1]))⟩
        · obtain ⟨e', he'⟩ := k.new j (by omega) h2 h3
          exact ⟨e', List.mem_cons_of_mem _ he'⟩
    simp only [backD] at h
    split at h
    · rename_i lb
      obtain ⟨D', h1, rfl⟩ := consO_some h
      exact add _ D' ⟨j0, rfl, .new j0 lb hj0 he⟩ rfl (next D' h1)
    · obtain ⟨D', h1, rfl⟩ := consO_some h
      exact add _ D' ⟨j0, rfl, .newDead j0 hj0 he⟩ rfl (next D' h1)
    · cases h
  | (sb, md) :: bs, [], j0, D, hb, hl, hlen, hj, h => by simp [backD] at h
  | (sb, md) :: bs, e :: L, j0, D, hb, hl, hlen, hj, h => by
    have hb0 : bs0[j0]? = some (sb, md) := by have := hb 0; simpa using this.symm
    have hj0 : j0 < bs0.length := (List.getElem?_eq_some_iff.1 hb0).1
    have he : hat L0 j0 = e := by have := hl 0; rw [Nat.add_zero] at this; exact this.symm
    have next : ∀ D', backD H vs vu f bs0.length q bs L (j0 + 1) = some D' → BackOk H vs vu f bs0.length q bs0 L0 (j0 + 1) D' := fun D' h' =>
      backD_spec bs L (j0 + 1) D' (fun i => by have := hb (i + 1); rw [show j0 + 1 + i = j0 + (i + 1) by omega, ← this]; simp) (fun i => by have := hl (i + 1); rw [show j0 + 1 + i = j0 + (i + 1) by omega, ← this]; rfl) (by simp at hlen; omega) (.inl (by omega)) h'
    have skip : ∀ D', BackOk H vs vu f bs0.length q bs0 L0 (j0 + 1) D' → (sb ≠ .hole → sb ≠ .dead → md ≠ .ro → ∀ v, vat vs j0 = some v → vId v = none) → (sb ≠ .hole → sb ≠ .dead → md = .ro → e ≠ .hole) → BackOk H vs vu f bs0.length q bs0 L0 j0 D' := by
      intro D' k hv hro
      refine ⟨fun b e hm => by obtain ⟨j, h1, h2⟩ := k.mem b e hm; exact ⟨j, by omega, h2⟩, fun j h1 h2 h3 => k.new j (by omega) h2 h3, fun j sb' md' b v h1 h2 h3 h4 h5 h6 h7 h8 => ?_, fun j sb' h1 h2 h3 h4 h5 => ?_, k.len⟩
      · by_cases e : j = j0
        · subst e
          rw [hb0] at h3
          cases h3
          rw [hv h4 h5 h6 v h7] at h8
          cases h8
        · exact k.old j sb' md' b v (by omega) h2 h3 h4 h5 h6 h7 h8
      · by_cases e : j = j0
        · subst e
          rw [hb0] at h3
          cases h3
          rw [he]
          exact hro h4 h5 rfl
        · exact k.ro j sb' (by omega) h2 h3 h4 h5
    have add : ∀ x D', Back H vs vu f bs0.length q bs0 L0 j0 x.1 x.2 → md ≠ .ro → (∀ v b, vat vs j0 = some v → vId v = some b → b = x.1) → BackOk H vs vu f bs0.length q bs0 L0 (j0 + 1) D' → BackOk H vs vu f bs0.length q bs0 L0 j0 (x :: D') := by
      intro x D' hx hro hv k
      refine ⟨fun b e hm => ?_, fun j h1 h2 h3 => ?_, fun j sb' md' b v h1 h2 h3 h4 h5 h6 h7 h8 => ?_, fun j sb' h1 h2 h3 h4 h5 => ?_, k.len⟩
      · rcases List.mem_cons.1 hm with hm | hm
        · subst hm; exact ⟨j0, Nat.le_refl _, hx⟩
        · obtain ⟨j, h1, h2⟩ := k.mem b e hm
          exact ⟨j, by omega, h2⟩
      · obtain ⟨e', he'⟩ := k.new j (by omega) h2 h3
        exact ⟨e', List.mem_cons_of_mem _ he'⟩
      · by_cases e : j = j0
        · subst e
          obtain rfl := hv v b h7 h8
          exact ⟨x.2, List.mem_cons.2 (.inl rfl)⟩
        · obtain ⟨e', he'⟩ := k.old j sb' md' b v (by omega) h2 h3 h4 h5 h6 h7 h8
          exact ⟨e', List.mem_cons_of_mem _ he'⟩
      · by_cases e : j = j0
        · subst e
          rw [hb0] at h3
          cases h3
          exact absurd rfl hro
        · exact k.ro j sb' (by omega) h2 h3 h4 h5
    have main : sb ≠ .hole → sb ≠ .dead → md ≠ .ro → (match backOne H vs vu f bs0.length q (vat vs j0) e with
        | some (some x) => consO x (backD H vs vu f bs0.length q bs L (j0 + 1))
        | some none => backD H vs vu f bs0.length q bs L (j0 + 1)
        | none => none) = some D → BackOk H vs vu f bs0.length q bs0 L0 j0 D := by
      intro hn1 hn2 hro h
      cases hb1 : backOne H vs vu f bs0.length q (vat vs j0) e with
      | none => rw [hb1] at h; cases h
      | some o =>
        rw [hb1] at h
        unfold backOne at hb1
        split at hb1
        · cases hb1
        · rename_i hv
          cases hb1
          exact skip D (next D h) (fun _ _ _ v hv' => by rw [hv] at hv'; cases hv'; rfl) (fun _ _ h => absurd h hro)
        · rename_i b hv
          split at hb1
          · cases hb1
            obtain ⟨D', h1, rfl⟩ := consO_some h
            exact add _ D' (.fullDead j0 b sb md hj0 hb0 hn1 hn2 hro hv he) hro (fun v b' hv' hb' => by rw [hv] at hv'; cases hv'; cases hb'; rfl) (next D' h1)
          · rename_i lb mdl
            split at hb1
            · rename_i gb md0 hg
              cases hb1
              obtain ⟨D', h1, rfl⟩ := consO_some h
              exact add _ D' (.full j0 b sb md mdl md0 lb gb hj0 hb0 hn1 hn2 hro hv he hg) hro (fun v b' hv' hb' => by rw [hv] at hv'; cases hv'; cases hb'; rfl) (next D' h1)
            · cases hb1
          · cases hb1
        · rename_i b off len hv
          split at hb1
          · rename_i lb mdl
            split at hb1
            · rename_i gb md0 hg
              split at hb1
              · rename_i nb hp
                cases hb1
                obtain ⟨D', h1, rfl⟩ := consO_some h
                exact add _ D' (.sub j0 b off len sb md mdl md0 lb gb nb hj0 hb0 hn1 hn2 hro hv he hg hp) hro (fun v b' hv' hb' => by rw [hv] at hv'; cases hv'; cases hb'; rfl) (next D' h1)
              · cases hb1
            · cases hb1
          · cases hb1
        · rename_i b i fo n hv
          split at hb1
          · rename_i n' l mdl
            split at hb1
            · rename_i gb md0 hg
              split at hb1
              · rename_i nb hp
                cases hb1
                obtain ⟨D', h1, rfl⟩ := consO_some h
                exact add _ D' (.el j0 b i fo n n' sb md mdl md0 l gb nb hj0 hb0 hn1 hn2 hro hv he hg (by rw [← stF_eq]; exact hp)) hro (fun v b' hv' hb' => by rw [hv] at hv'; cases hv'; cases hb'; rfl) (next D' h1)
              · cases hb1
            · cases hb1
          · cases hb1
    have roCase : sb ≠ .hole → sb ≠ .dead → md = .ro → (match isHole e with | false => backD H vs vu f bs0.length q bs L (j0 + 1) | true => none) = some D → BackOk H vs vu f bs0.length q bs0 L0 j0 D := by
      intro _ _ hro h
      cases hl : isHole e with
      | true => rw [hl] at h; cases h
      | false =>
        rw [hl] at h
        refine skip D (next D h) (fun _ _ h' => absurd hro h') (fun _ _ _ => ?_)
        rintro rfl
        cases hl
    cases sb with
    | hole => simp only [backD] at h; exact skip D (next D h) (fun h => absurd rfl h) (fun h => absurd rfl h)
    | dead => simp only [backD] at h; exact skip D (next D h) (fun _ h => absurd rfl h) (fun _ h => absurd rfl h)
    | ints k =>
      cases md with
      | ro => exact roCase (by simp) (by simp) rfl h
      | rw => exact main (by simp) (by simp) (by simp) h
      | own => exact main (by simp) (by simp) (by simp) h
    | recs k =>
      cases md with
      | ro => exact roCase (by simp) (by simp) rfl h
      | rw => exact main (by simp) (by simp) (by simp) h
      | own => exact main (by simp) (by simp) (by simp) h
    | vals k l =>
      cases md with
      | ro => exact roCase (by simp) (by simp) rfl h
      | rw => exact main (by simp) (by simp) (by simp) h
      | own => exact main (by simp) (by simp) (by simp) h

end Go.Ab
end

