/- Concrete runs: comparisons, slices, lengths, calls. No condition. -/
import Derived.Test.YtnhbohcjmdfmiaaGreatC8
set_option linter.unusedVariables false
set_option linter.unusedSimpArgs false
namespace Go.Ab
open Go
noncomputable section
variable {e k : Nat} {P : Program} {E : EM} {dst : Option Tmp} {ty : TypeId} {pos : String} {after : Array Edge} {guard : Option (Nat × Bool)}

theorem evs_args (l : List Operand) (st : ST k) (tm : QT CV e) : evs (argsC E k l) st tm = l.map fun x => valO E k st tm x := by
  induction l with
  | nil => rfl
  | cons x l ih =>
    show OpA.rec (motive := fun _ => List CV) (fun f => f st tm :: evs (argsC E k l) st tm) (opA E k x) = _
    rw [ih, List.map_cons]
    unfold valO
    generalize opA (e := e) E k x = X
    cases X; rfl
theorem evs_av (l : List Operand) (st : ST k) (tm : QT CV e) : (evs (argsC E k l) st tm).map CV.av = l.map fun x => (valO E k st tm x).av := by
  rw [evs_args, List.map_map]; rfl

/-- no such block -/
theorem Step.vac {o : Oper} {ev : Operand → AV} {K : Heap} {q b : Nat} {v : AV} {D : Delta} {bk : Blk} {md : Md} (hg : hget K b = some (bk, md)) (h : ¬ bk.ok) : Step P o ev K q v D :=
  fun m H a w' hs _ hsim _ => absurd ((hsim.blk b _ _ (hs _ _ hg)).1) h

theorem good_makeFunc (fn : Fn) (first cap : Array Operand) : OpGood P E k (op_makeFunc (e := e) E k fn first cap) ⟨dst, .makeFunc fn first cap, ty, pos, after, guard⟩ := by
  intro c st tm T n K hc hT h
  refine ⟨_, T, n, [], rfl, Ran.pure (by intro x; simp [clsOf]) fun KH hK => ?_⟩
  have := st_makeFunc (P := P) (e := fun x => (valO E k st tm x).av) (K := KH) (q := n) (dst := dst) (ty := ty) (pos := pos) (after := after) (guard := guard) (fn := fn) (first := first) (cap := cap)
  simp only [CV.av, avs_eq, evs_av]
  exact this

theorem eqBo_inv {x y : CV} {f : Bool → Out e} (h : eqBo x y f ≠ .bad) : ∃ a b, x = .bool a ∧ y = .bool b ∧ eqBo x y f = f (a == b) := by
  rcases onBool_inv h with ⟨h1, h2⟩ | ⟨h1, h2⟩
  · change eqBo x y f = _ at h2
    rw [h2] at h ⊢
    rcases onBool_inv h with ⟨h3, h4⟩ | ⟨h3, h4⟩
    · exact ⟨_, _, h1, h3, h4⟩
    · exact ⟨_, _, h1, h3, h4⟩
  · change eqBo x y f = _ at h2
    rw [h2] at h ⊢
    rcases onBool_inv h with ⟨h3, h4⟩ | ⟨h3, h4⟩
    · exact ⟨_, _, h1, h3, h4⟩
    · exact ⟨_, _, h1, h3, h4⟩
theorem nilP_inv {r : Out e} {v : AV} (h : eqPtr.nilP r v ≠ .bad) : v = .nilPtr ∧ eqPtr.nilP r v = r := by
  cases v <;> first | exact ⟨rfl, rfl⟩ | exact absurd rfl h
theorem eqPtr_inv {x y : CV} {T : HT} {f : Bool → Out e} (h : eqPtr x y T f ≠ .bad) : y.av = .nilPtr ∧ ((x.av = .nilPtr ∧ eqPtr x y T f = f true) ∨ ∃ b i fo, x.av = .ptr b i fo ∧ b < 65536 ∧ (∃ bk md, hget (absH T) b = some (bk, md)) ∧ eqPtr x y T f = f false) := by
  cases x with
  | ptr b i fo =>
    obtain ⟨hb, hg, h1⟩ := liveB_inv h
    change eqPtr (.ptr b i fo) y T f = _ at h1
    rw [h1] at h ⊢
    obtain ⟨z, hz, h2⟩ := onOth_inv h
    rw [h2] at h ⊢
    obtain ⟨h3, h4⟩ := nilP_inv h
    exact ⟨by rw [hz, h3]; rfl, .inr ⟨b, i, fo, rfl, hb, hg, h4⟩⟩
  | oth v =>
    obtain ⟨h3, h4⟩ := nilP_inv (v := v) h
    change eqPtr (.oth v) y T f = _ at h4
    rw [h4] at h ⊢
    obtain ⟨z, hz, h2⟩ := onOth_inv h
    rw [h2] at h ⊢
    obtain ⟨h5, h6⟩ := nilP_inv h
    exact ⟨by rw [hz, h5]; rfl, .inl ⟨by rw [h3]; rfl, h6⟩⟩
  | _ => exact absurd rfl h
theorem nnB_spec {num : Nat} {md : Md} (h : nnB num md = true) : 0 < num ∨ md = .own := by
  unfold nnB at h
  cases hb : Nat.ble 1 num with
  | true => exact .inl (Nat.le_of_ble_eq_true hb)
  | false =>
    rw [hb] at h
    cases md with
    | ro => cases h
    | rw => cases h
    | own => exact .inr rfl
theorem eqSl_inv {x y : CV} {T : HT} {f : Bool → Out e} (h : eqSl x y T f ≠ .bad) : y.av = .nilSlice ∧ ((x.av = .nilSlice ∧ eqSl x y T f = f true) ∨ (eqSl x y T f = f false ∧ ∃ b bk md, b < 65536 ∧ hget (absH T) b = some (bk, md) ∧ ((x.av = .whole b ∧ (bk.ok → 0 < bk.num ∨ md = .own)) ∨ ∃ o l, x.av = .part b o l ∧ (0 < l ∨ md = .own)))) := by
  obtain ⟨z, hz, h2⟩ := onOth_inv h
  change eqSl x y T f = _ at h2
  rw [h2] at h ⊢
  obtain ⟨h3, h4⟩ := othNil_inv h
  rw [h4] at h ⊢
  refine ⟨by rw [hz, h3]; rfl, ?_⟩
  rcases onSlice_inv h with ⟨hx, h6⟩ | ⟨b, hx, h6⟩ | ⟨b, o, l, hx, h6⟩ | ⟨b, j, o, l, hx, h6⟩
  · exact .inl ⟨by rw [hx]; rfl, h6⟩
  · rw [h6] at h ⊢
    obtain ⟨hb, ⟨wd, num, d, cc, md, s, h7, h8⟩ | ⟨kd, num, a, md, s, h7, h8⟩⟩ := atB_inv h
    · rw [h8] at h ⊢
      obtain ⟨h9, h10⟩ := chk_inv h
      refine .inr ⟨h10, b, _, md, hb, blk_old hb h7 rfl, .inl ⟨by rw [hx]; rfl, fun ok => ?_⟩⟩
      rw [cells_num ok.1]; exact nnB_spec h9
    · rw [h8] at h ⊢
      obtain ⟨h9, h10⟩ := chk_inv h
      refine .inr ⟨h10, b, _, md, hb, blk_old hb h7 rfl, .inl ⟨by rw [hx]; rfl, fun ok => ?_⟩⟩
      rw [ints_num]; exact nnB_spec h9
  · rw [h6] at h ⊢
    obtain ⟨hb, ⟨wd, num, d, cc, md, s, h7, h8⟩ | ⟨kd, num, a, md, s, h7, h8⟩⟩ := atB_inv h
    · rw [h8] at h ⊢
      obtain ⟨h9, h10⟩ := chk_inv h
      exact .inr ⟨h10, b, _, md, hb, blk_old hb h7 rfl, .inr ⟨o, l, by rw [hx]; rfl, nnB_spec h9⟩⟩
    · rw [h8] at h ⊢
      obtain ⟨h9, h10⟩ := chk_inv h
      exact .inr ⟨h10, b, _, md, hb, blk_old hb h7 rfl, .inr ⟨o, l, by rw [hx]; rfl, nnB_spec h9⟩⟩
  · rw [h6] at h; exact absurd rfl h
theorem eqB8_eq : ∀ (a b : List UInt8), eqB8 a b = (a == b)
  | [], [] => rfl
  | [], _ :: _ => rfl
  | _ :: _, [] => rfl
  | x :: xs, y :: ys => by
    have e1 : eqB8 (x :: xs) (y :: ys) = Bool.rec false (eqB8 xs ys) (Nat.beq x.toNat y.toNat) := rfl
    rw [e1, eqB8_eq xs ys]
    by_cases h : x = y
    · subst h
      have : Nat.beq x.toNat x.toNat = true := Nat.beq_refl _
      rw [this]; simp
    · have : Nat.beq x.toNat y.toNat = false := by
        cases hb : Nat.beq x.toNat y.toNat with
        | false => rfl
        | true => exact absurd (UInt8.toNat_inj.1 (Nat.eq_of_beq_eq_true hb)) h
      rw [this]; simp [h]
theorem eqStr_inv {x y : CV} {f : Bool → Out e} (h : eqStr x y f ≠ .bad) : ∃ a b, x.av = .str a ∧ y.av = .str b ∧ eqStr x y f = f (a.data.toList == b.data.toList) := by
  obtain ⟨z, hz, h2⟩ := onOth_inv h
  change eqStr x y f = _ at h2
  rw [h2] at h ⊢
  obtain ⟨a, h3, h4⟩ := othStr_inv h
  rw [h4] at h ⊢
  obtain ⟨z', hz', h5⟩ := onOth_inv h
  rw [h5] at h ⊢
  obtain ⟨b, h6, h7⟩ := othStr_inv h
  rw [h7, eqB8_eq]
  exact ⟨a, b, by rw [hz, h3]; rfl, by rw [hz', h6]; rfl, rfl⟩
theorem addStr_inv {x y : CV} {f : CV → Out e} (h : addStr x y f ≠ .bad) : ∃ a b, x.av = .str a ∧ y.av = .str b ∧ a.size + b.size ≤ 9223372036854775807 ∧ addStr x y f = f (.oth (.str (a ++ b))) := by
  obtain ⟨z, hz, h2⟩ := onOth_inv h
  change addStr x y f = _ at h2
  rw [h2] at h ⊢
  obtain ⟨a, h3, h4⟩ := othStr_inv h
  rw [h4] at h ⊢
  obtain ⟨z', hz', h5⟩ := onOth_inv h
  rw [h5] at h ⊢
  obtain ⟨b, h6, h7⟩ := othStr_inv h
  rw [h7] at h ⊢
  obtain ⟨h8, h9⟩ := chk_inv h
  rw [h9]
  have e1 : (⟨(a.data.toList ++ b.data.toList).toArray⟩ : ByteArray) = a ++ b := by
    apply ByteArray.ext
    simp [ByteArray.data_append]
  rw [e1]
  have h8' : a.data.toList.length + b.data.toList.length ≤ 9223372036854775807 := Nat.le_of_ble_eq_true h8
  exact ⟨a, b, by rw [hz, h3]; rfl, by rw [hz', h6]; rfl, (by rw [Array.length_toList, Array.length_toList] at h8'; exact h8'), rfl⟩
theorem eqAg_inv {t : TypeId} {x y : CV} {f : Bool → Out e} (h : eqAg P t x y f ≠ .bad) : ∃ xs ys b, x.av = .agg xs ∧ y.av = .agg ys ∧ eqS2 P t xs ys = some b ∧ eqAg P t x y f = f b := by
  obtain ⟨z, hz, h2⟩ := onOth_inv h
  change eqAg P t x y f = _ at h2
  rw [h2] at h ⊢
  obtain ⟨xs, h3, h4⟩ := othAgg_inv h
  rw [h4] at h ⊢
  obtain ⟨z', hz', h5⟩ := onOth_inv h
  rw [h5] at h ⊢
  obtain ⟨ys, h6, h7⟩ := othAgg_inv h
  rw [h7] at h ⊢
  split at h
  · rename_i b hb
    exact ⟨xs, ys, b, by rw [hz, h3]; rfl, by rw [hz', h6]; rfl, hb, rfl⟩
  · exact absurd rfl h

theorem good_bin (op : BinOp) (t ty' : TypeId) (x y : Operand) : OpGood P E k (op_bin (e := e) P E k op t x y) ⟨dst, .binOp op t x y ty', ty, pos, after, guard⟩ := by
  intro c st tm T n K hc hT h
  generalize hF : op_bin P E k op t x y = F at h ⊢
  have hw : ∀ z, clsOf P (.binOp op t x y ty') ≠ .w z := by
    intro z
    simp only [clsOf]
    split <;> simp
  -- how a comparison ends
  have fin : ∀ (b neg : Bool), op = (if neg then .neq else .eql) → (∀ KH, AgrC (fun x => (valO E k st tm x).av) T KH (clsOf P (.binOp op t x y ty')) → Step P ⟨dst, .binOp op t x y ty', ty, pos, after, guard⟩ (fun x => (valO E k st tm x).av) KH n (.bool (if neg then !b else b)) []) →
      ∃ v T' n' L, eqOp (e := e) neg (fun v => K v T n) b = K v T' n' ∧ Ran P ⟨dst, .binOp op t x y ty', ty, pos, after, guard⟩ (fun x => (valO E k st tm x).av) T n v.av T' n' L := by
    intro b neg _ h1
    rw [eqOp_eq]
    exact ⟨_, T, n, [], rfl, Ran.pure hw h1⟩
  have bo : ∀ (f g : Of e k) (neg : Bool), P.underlying t = some .bool → op = (if neg then .neq else .eql) → opA E k x = .mk f → opA E k y = .mk g → eqBo (f st tm) (g st tm) (eqOp neg fun v => K v T n) ≠ .bad →
      ∃ v T' n' L, eqBo (f st tm) (g st tm) (eqOp neg fun v => K v T n) = K v T' n' ∧ Ran P ⟨dst, .binOp op t x y ty', ty, pos, after, guard⟩ (fun x => (valO E k st tm x).av) T n v.av T' n' L := by
    intro f g neg hu ho h1 h2 h
    obtain ⟨a, b, h3, h4, h5⟩ := eqBo_inv h
    rw [h5]
    refine fin _ neg ho fun KH hK => st_bin fun H hs => ?_
    simp only [valO_of h1, valO_of h2, h3, h4, CV.av, bin]
    cases neg <;> subst ho <;> simp [hu]
  have pt : ∀ (f g : Of e k) (neg : Bool) (el : TypeId), P.underlying t = some (.pointer el) → op = (if neg then .neq else .eql) → opA E k x = .mk f → opA E k y = .mk g → eqPtr (f st tm) (g st tm) T (eqOp neg fun v => K v T n) ≠ .bad →
      ∃ v T' n' L, eqPtr (f st tm) (g st tm) T (eqOp neg fun v => K v T n) = K v T' n' ∧ Ran P ⟨dst, .binOp op t x y ty', ty, pos, after, guard⟩ (fun x => (valO E k st tm x).av) T n v.av T' n' L := by
    intro f g neg el hu ho h1 h2 h
    obtain ⟨h3, ⟨h4, h5⟩ | ⟨b, i, fo, h4, hb, ⟨bk, md, hg⟩, h5⟩⟩ := eqPtr_inv h
    · rw [h5]
      refine fin _ neg ho fun KH hK => st_bin fun H hs => ?_
      simp only [valO_of h1, valO_of h2, h3, h4, bin]
      cases neg <;> subst ho <;> simp [hu]
    · rw [h5]
      refine fin _ neg ho fun KH hK => st_bin fun H hs => ?_
      simp only [clsOf, hu] at hK
      obtain ⟨bk', md', hgk, _⟩ := hK (x, .shape) (by simp) b (by show blkA (valO E k st tm x).av = _; rw [valO_of h1, h4]; rfl) _ _ hg
      have hg' := hs _ _ hgk
      simp only [valO_of h1, valO_of h2, h3, h4, bin, hg']
      cases neg <;> subst ho <;> simp [hu]
  have sl : ∀ (f g : Of e k) (neg : Bool) (el : TypeId), P.underlying t = some (.slice el) → op = (if neg then .neq else .eql) → opA E k x = .mk f → opA E k y = .mk g → eqSl (f st tm) (g st tm) T (eqOp neg fun v => K v T n) ≠ .bad →
      ∃ v T' n' L, eqSl (f st tm) (g st tm) T (eqOp neg fun v => K v T n) = K v T' n' ∧ Ran P ⟨dst, .binOp op t x y ty', ty, pos, after, guard⟩ (fun x => (valO E k st tm x).av) T n v.av T' n' L := by
    intro f g neg el hu ho h1 h2 h
    obtain ⟨h3, ⟨h4, h5⟩ | ⟨h5, b, bk, md, hb, hg, h6⟩⟩ := eqSl_inv h
    · rw [h5]
      refine fin _ neg ho fun KH hK => st_bin fun H hs => ?_
      simp only [valO_of h1, valO_of h2, h3, h4, bin]
      cases neg <;> subst ho <;> simp [hu]
    · rw [h5]
      have hsee : ∀ KH, blkA (f st tm).av = some b → AgrC (fun x => (valO E k st tm x).av) T KH (clsOf P (.binOp op t x y ty')) → ∃ bk' md', hget KH b = some (bk', md') ∧ bk'.num = bk.num ∧ bk'.str = bk.str ∧ md' = md := by
        intro KH hb hK
        simp only [clsOf, hu] at hK
        obtain ⟨bk', md', hgk, q1, q2, q3⟩ := hK (x, .shape) (by simp) b (by show blkA (valO E k st tm x).av = _; rw [valO_of h1, hb]) _ _ hg
        exact ⟨bk', md', hgk, q1, q2, q3⟩
      rcases h6 with ⟨h6, h7⟩ | ⟨o, l, h6, h7⟩
      · refine fin _ neg ho fun KH hK => ?_
        obtain ⟨bk', md', hgK, q1, q2, q3⟩ := hsee KH (by rw [h6]; rfl) hK
        subst q3
        by_cases hok : bk'.ok
        · refine st_bin fun H hs => ?_
          have hpos := h7 (abs_ok hg (by rw [← q2]; exact hok.pos))
          rw [← q1] at hpos
          simp only [valO_of h1, valO_of h2, h3, h6, bin, hs _ _ hgK]
          cases neg <;> subst ho <;> simp [hu, need, hpos]
        · exact Step.vac hgK hok
      · refine fin _ neg ho fun KH hK => ?_
        obtain ⟨bk', md', hgK, q1, q2, q3⟩ := hsee KH (by rw [h6]; rfl) hK
        subst q3
        refine st_bin fun H hs => ?_
        simp only [valO_of h1, valO_of h2, h3, h6, bin, hs _ _ hgK]
        cases neg <;> subst ho <;> simp [hu, need, h7]
  have ag : ∀ (f g : Of e k) (neg : Bool), op = (if neg then .neq else .eql) → opA E k x = .mk f → opA E k y = .mk g → eqAg P t (f st tm) (g st tm) (eqOp neg fun v => K v T n) ≠ .bad →
      ∃ v T' n' L, eqAg P t (f st tm) (g st tm) (eqOp neg fun v => K v T n) = K v T' n' ∧ Ran P ⟨dst, .binOp op t x y ty', ty, pos, after, guard⟩ (fun x => (valO E k st tm x).av) T n v.av T' n' L := by
    intro f g neg ho h1 h2 h
    obtain ⟨xs, ys, b, h3, h4, h5, h6⟩ := eqAg_inv h
    rw [h6]
    refine fin _ neg ho fun KH hK => ?_
    have hs := st_binAgg (P := P) (e := fun x => (valO E k st tm x).av) (K := KH) (q := n) (dst := dst) (ty := ty) (pos := pos) (after := after) (guard := guard) (op := op) (t := t) (ty' := ty') (x := x) (y := y) (xs := xs) (ys := ys) (b := b) (by rw [valO_of h1, h3]) (by rw [valO_of h2, h4]) h5 (by cases neg <;> subst ho <;> simp)
    cases neg <;> subst ho <;> simpa using hs
  have sq : ∀ (f g : Of e k) (neg : Bool), op = (if neg then .neq else .eql) → opA E k x = .mk f → opA E k y = .mk g → eqStr (f st tm) (g st tm) (eqOp neg fun v => K v T n) ≠ .bad →
      ∃ v T' n' L, eqStr (f st tm) (g st tm) (eqOp neg fun v => K v T n) = K v T' n' ∧ Ran P ⟨dst, .binOp op t x y ty', ty, pos, after, guard⟩ (fun x => (valO E k st tm x).av) T n v.av T' n' L := by
    intro f g neg ho h1 h2 h
    obtain ⟨a, b, h3, h4, h6⟩ := eqStr_inv h
    rw [h6]
    refine fin _ neg ho fun KH hK => ?_
    have hs := st_binStr (P := P) (e := fun x => (valO E k st tm x).av) (K := KH) (q := n) (dst := dst) (ty := ty) (pos := pos) (after := after) (guard := guard) (op := op) (t := t) (ty' := ty') (x := x) (y := y) (a := a) (b := b) (by rw [valO_of h1, h3]) (by rw [valO_of h2, h4]) (by cases neg <;> subst ho <;> simp)
    cases neg <;> subst ho <;> simpa using hs
  unfold op_bin at hF
  split at hF
  · rename_i op _ _ _ _ ki f g h1 h2 h3
    split at hF
    rename_i hb h4
    subst hF
    dsimp only [OpC.run] at h ⊢
    have h5 : (intB (e := e) op).run (f st tm) (g st tm) (fun v => K v T n) ≠ .bad := by rw [h4]; exact h
    obtain ⟨v, h6, h7⟩ := intB_ok op _ _ _ h5
    rw [h4] at h6
    refine ⟨v, T, n, [], h6, Ran.pure hw fun KH hK => st_bin fun H hs => ?_⟩
    simp only [valO_of h2, valO_of h3]
    exact h7 t H
  · rename_i f g h1 h2 h3; subst hF; exact bo f g false h1 rfl h2 h3 h
  · rename_i f g h1 h2 h3; subst hF; exact bo f g true h1 rfl h2 h3 h
  · rename_i el f g h1 h2 h3; subst hF; exact pt f g false el h1 rfl h2 h3 h
  · rename_i el f g h1 h2 h3; subst hF; exact pt f g true el h1 rfl h2 h3 h
  · rename_i el f g h1 h2 h3; subst hF; exact sl f g false el h1 rfl h2 h3 h
  · rename_i el f g h1 h2 h3; subst hF; exact sl f g true el h1 rfl h2 h3 h
  · rename_i fs f g h1 h2 h3; subst hF; exact ag f g false rfl h2 h3 h
  · rename_i fs f g h1 h2 h3; subst hF; exact ag f g true rfl h2 h3 h
  · rename_i f g h1 h2 h3; subst hF; exact sq f g false rfl h2 h3 h
  · rename_i f g h1 h2 h3; subst hF; exact sq f g true rfl h2 h3 h
  · rename_i f g h1 h2 h3
    subst hF
    dsimp only [OpC.run] at h ⊢
    obtain ⟨a, b, h4, h5, h6, h7⟩ := addStr_inv h
    rw [h7]
    exact ⟨_, T, n, [], rfl, Ran.pure hw fun KH hK => st_binStrAdd (by rw [valO_of h2, h4]) (by rw [valO_of h3, h5]) h6⟩
  · subst hF; exact absurd rfl h

theorem lenS_inv {T : HT} {x : CV} {f : Nat → Out e} (h : lenS T x f ≠ .bad) : (x = .oth .nilSlice ∧ lenS T x f = f 0) ∨ ∃ b bk md m, b < 65536 ∧ hget (absH T) b = some (bk, md) ∧ lenS T x f = f m ∧
    ((x = .whole b ∧ (bk.ok → bk.num = m)) ∨ (∃ o, x = .sl b o m) ∨ (∃ i o, x = .seg b i o m)) := by
  rcases onSlice_inv h with ⟨hx, h6⟩ | ⟨b, hx, h6⟩ | ⟨b, o, l, hx, h6⟩ | ⟨b, j, o, l, hx, h6⟩
  · exact .inl ⟨hx, h6⟩
  · change lenS T x f = _ at h6
    rw [h6] at h ⊢
    obtain ⟨hb, ⟨wd, num, d, cc, md, s, h7, h8⟩ | ⟨kd, num, a, md, s, h7, h8⟩⟩ := atB_inv h
    · exact .inr ⟨b, _, md, num, hb, blk_old hb h7 rfl, h8, .inl ⟨hx, fun ok => cells_num ok.1⟩⟩
    · exact .inr ⟨b, _, md, num, hb, blk_old hb h7 rfl, h8, .inl ⟨hx, fun ok => ints_num _ _ _⟩⟩
  · change lenS T x f = _ at h6
    rw [h6] at h ⊢
    obtain ⟨hb, ⟨bk, md, hg⟩, h7⟩ := liveB_inv h
    exact .inr ⟨b, bk, md, l, hb, hg, h7, .inr (.inl ⟨o, hx⟩)⟩
  · change lenS T x f = _ at h6
    rw [h6] at h ⊢
    obtain ⟨hb, ⟨bk, md, hg⟩, h7⟩ := liveB_inv h
    exact .inr ⟨b, bk, md, l, hb, hg, h7, .inr (.inr ⟨j, o, hx⟩)⟩

theorem good_len (cl : Call) (hcal : cl.callee = .builtin .len) : OpGood P E k (op_len (e := e) P E k cl) ⟨dst, .call cl, ty, pos, after, guard⟩ := by
  intro c st tm T n K hc hT h
  generalize hF : op_len P E k cl = F at h ⊢
  have hcl : clsOf P (.call cl) = .r (cl.args.toList.map fun x => (x, .shape)) := by simp only [clsOf, hcal]
  have hw : ∀ z, clsOf P (Op.call cl) ≠ .w z := by intro z; rw [hcl]; simp
  unfold op_len at hF
  split at hF
  · rename_i x t ha ht
    split at hF
    · rename_i el f h1 h2
      subst hF
      dsimp only [OpC.run] at h ⊢
      rcases lenS_inv h with ⟨hx, h3⟩ | ⟨b, bk, md, m, hb, hg, h3, h4⟩
      · rw [h3]
        refine ⟨_, T, n, [], rfl, Ran.pure hw fun KH hK => ?_⟩
        exact st_len (n := 0) (x := .nilSlice) hcal (by rw [ha]; simp only [List.map_cons, List.map_nil, valO_of h2, hx, CV.av]) ht h1 rfl (by simp)
      · rw [h3]
        have hsee : ∀ KH, blkA (f st tm).av = some b → AgrC (fun x => (valO E k st tm x).av) T KH (clsOf P (.call cl)) → ∃ bk' md', hget KH b = some (bk', md') ∧ bk'.num = bk.num ∧ bk'.str = bk.str := by
          intro KH hb hK
          rw [hcl] at hK
          obtain ⟨bk', md', hgk, q1, q2, _⟩ := hK (x, .shape) (by rw [ha]; simp) b (by show blkA (valO E k st tm x).av = _; rw [valO_of h2, hb]) _ _ hg
          exact ⟨bk', md', hgk, q1, q2⟩
        refine ⟨_, T, n, [], rfl, Ran.pure hw fun KH hK => ?_⟩
        rcases h4 with ⟨hx, h5⟩ | ⟨o, hx⟩ | ⟨i, o, hx⟩
        · obtain ⟨bk', md', hgK, q1, q2⟩ := hsee KH (by rw [hx]; rfl) hK
          by_cases hok : bk'.ok
          · exact st_len (n := m) (x := .whole b) hcal (by rw [ha]; simp only [List.map_cons, List.map_nil, valO_of h2, hx, CV.av]) ht h1 (by simp only [wholeLen, hgK, q1, h5 (abs_ok hg (by rw [← q2]; exact hok.pos))]) (by simp)
          · exact Step.vac hgK hok
        · obtain ⟨bk', md', hgK, q1, q2⟩ := hsee KH (by rw [hx]; rfl) hK
          exact st_len (n := m) (x := .part b o m) hcal (by rw [ha]; simp only [List.map_cons, List.map_nil, valO_of h2, hx, CV.av]) ht h1 (by simp only [wholeLen, hgK]) (by simp)
        · obtain ⟨bk', md', hgK, q1, q2⟩ := hsee KH (by rw [hx]; rfl) hK
          exact st_lenSeg (n := m) (b := b) (i := i) (fo := o) hcal (by rw [ha]; simp only [List.map_cons, List.map_nil, valO_of h2, hx, CV.av]) ht h1 hgK
    · rename_i f h1 h2
      subst hF
      dsimp only [OpC.run] at h ⊢
      obtain ⟨z, hz, h3⟩ := onOth_inv h
      rw [h3] at h ⊢
      obtain ⟨s, hs, h4⟩ := othStr_inv h
      rw [h4]
      refine ⟨_, T, n, [], rfl, Ran.pure hw fun KH hK => ?_⟩
      exact st_lenStr hcal (by rw [ha]; simp only [List.map_cons, List.map_nil, valO_of h2, hz, hs, CV.av]) ht h1
    · subst hF; exact absurd rfl h
  · subst hF; exact absurd rfl h

theorem good_min (cl : Call) (hcal : cl.callee = .builtin .min) : OpGood P E k (op_min (e := e) E k cl) ⟨dst, .call cl, ty, pos, after, guard⟩ := by
  intro c st tm T n K hc hT h
  generalize hF : op_min E k cl = F at h ⊢
  have hcl : clsOf P (.call cl) = .p := by simp only [clsOf, hcal]
  have hw : ∀ z, clsOf P (Op.call cl) ≠ .w z := by intro z; rw [hcl]; simp
  unfold op_min at hF
  split at hF
  · rename_i x y ha
    split at hF
    rename_i f g h1 h2
    subst hF
    dsimp only [OpC.run] at h ⊢
    obtain ⟨ka, a, b, h3, h4, h5⟩ := two_inv h
    have fin : ∀ v : CV, v.av = .int ka (if b < a then b else a) → Ran P ⟨dst, .call cl, ty, pos, after, guard⟩ (fun x => (valO E k st tm x).av) T n v.av T n [] := by
      intro v hv
      refine Ran.pure hw fun KH hK => ?_
      refine st_min (x := .int ka a) (xs := [.int ka b]) hcal (by rw [ha]; simp only [List.map_cons, List.map_nil, valO_of h1, valO_of h2, h3, h4]) ?_
      rw [hv]; simp [fold2, min2]
    rcases h5 with ⟨h5, h6⟩ | h6
    · rw [h6, ltI_eq]
      by_cases hq : b < a
      · rw [decide_eq_true hq]; exact ⟨_, T, n, [], rfl, fin _ (by rw [if_pos hq, h5]; rfl)⟩
      · rw [decide_eq_false hq]; exact ⟨_, T, n, [], rfl, fin _ (by rw [if_neg hq, h5]; rfl)⟩
    · rw [h6, ltI_eq]
      by_cases hq : b < a
      · rw [decide_eq_true hq]; exact ⟨_, T, n, [], rfl, fin _ (by rw [if_pos hq]; rfl)⟩
      · rw [decide_eq_false hq]; exact ⟨_, T, n, [], rfl, fin _ (by rw [if_neg hq]; rfl)⟩
  · subst hF; exact absurd rfl h
theorem good_max (cl : Call) (hcal : cl.callee = .builtin .max) : OpGood P E k (op_max (e := e) E k cl) ⟨dst, .call cl, ty, pos, after, guard⟩ := by
  intro c st tm T n K hc hT h
  generalize hF : op_max E k cl = F at h ⊢
  have hcl : clsOf P (.call cl) = .p := by simp only [clsOf, hcal]
  have hw : ∀ z, clsOf P (Op.call cl) ≠ .w z := by intro z; rw [hcl]; simp
  unfold op_max at hF
  split at hF
  · rename_i x y ha
    split at hF
    rename_i f g h1 h2
    subst hF
    dsimp only [OpC.run] at h ⊢
    obtain ⟨ka, a, b, h3, h4, h5⟩ := two_inv h
    have fin : ∀ v : CV, v.av = .int ka (if b > a then b else a) → Ran P ⟨dst, .call cl, ty, pos, after, guard⟩ (fun x => (valO E k st tm x).av) T n v.av T n [] := by
      intro v hv
      refine Ran.pure hw fun KH hK => ?_
      refine st_max (x := .int ka a) (xs := [.int ka b]) hcal (by rw [ha]; simp only [List.map_cons, List.map_nil, valO_of h1, valO_of h2, h3, h4]) ?_
      rw [hv]; simp [fold2, max2]
    rcases h5 with ⟨h5, h6⟩ | h6
    · rw [h6, ltI_eq]
      by_cases hq : a < b
      · rw [decide_eq_true hq]; exact ⟨_, T, n, [], rfl, fin _ (by rw [if_pos hq, h5]; rfl)⟩
      · rw [decide_eq_false hq]; exact ⟨_, T, n, [], rfl, fin _ (by rw [if_neg hq, h5]; rfl)⟩
    · rw [h6, ltI_eq]
      by_cases hq : a < b
      · rw [decide_eq_true hq]; exact ⟨_, T, n, [], rfl, fin _ (by rw [if_pos hq]; rfl)⟩
      · rw [decide_eq_false hq]; exact ⟨_, T, n, [], rfl, fin _ (by rw [if_neg hq]; rfl)⟩
  · subst hF; exact absurd rfl h

/-! calls -/
theorem Ran.call {o : Oper} {ev : Operand → AV} {T T' : HT} {n n' : Nat} {v : AV} (hT : TOk T n) (hcls : clsOf P o.op = .x) (hd : Did T n T' n') (h : Step P o ev (absH T) n v (dL (Lof T n T' n') T')) : Ran P o ev T n v T' n' (Lof T n T' n') := by
  refine ⟨hd, fun b hb => (mem_Lof.1 hb).1, fun b hb ho => ?_, fun b hb hn => ?_, by rw [hcls]; trivial, fun b hb => (mem_Lof.1 hb).2.1, fun b hb hlt hm => ?_, (fun l hl => by rw [hcls] at hl; cases hl), fun K hK => ?_⟩
  · obtain ⟨h1, h2, h3⟩ := mem_Lof.1 hb
    have e1 := hd.old b h1 ho
    rcases h3 with h3 | h3
    · rw [e1, hT.top b h1 h3] at ho; exact ho
    · exact h3 e1
  · apply Classical.byContradiction
    intro hne
    refine hn (mem_Lof.2 ⟨hb, ?_, .inr hne⟩)
    apply Classical.byContradiction
    intro hge
    exact hne (by rw [(hd.ok hT).top b hb (by omega), hT.top b hb (by have := hd.le; omega)])
  · obtain ⟨h1, h2, h3⟩ := mem_Lof.1 hb
    rcases h3 with h3 | h3
    · omega
    · exact h3 (hd.gone b h1 hlt hm)
  · rw [hcls] at hK
    exact Step.mono h fun b x hx => by rw [hK b]; exact hx

theorem resK_inv {r : Res} {f : Kf e} (h : resK r f ≠ .bad) : ∃ v T n, r = .ok v T n ∧ resK r f = f v T n := by
  cases r with
  | bad => exact absurd rfl h
  | ok v T n => exact ⟨v, T, n, rfl, rfl⟩

theorem good_callV (cl : Call) (g : Operand) (hcal : cl.callee = .value g) : OpGood P E k (op_callV (e := e) E k cl g) ⟨dst, .call cl, ty, pos, after, guard⟩ := by
  intro c st tm T n K hc hT h
  generalize hF : op_callV E k cl g = F at h ⊢
  have hcl : clsOf P (.call cl) = .x := by simp only [clsOf, hcal]
  unfold op_callV at hF
  split at hF
  rename_i f h1
  subst hF
  dsimp only [OpC.run] at h ⊢
  unfold onFunc at h ⊢
  obtain ⟨z, hz, h3⟩ := onOth_inv h
  rw [h3] at h ⊢
  obtain ⟨gf, first, cap, hs, h4⟩ := othFunc_inv h
  rw [h4] at h ⊢
  obtain ⟨v, T', n', hr, h5⟩ := resK_inv h
  rw [h5]
  obtain ⟨hd, hst⟩ := hc _ _ _ _ _ _ _ hr hT
  have hL := Ran.call (P := P) (o := ⟨dst, .call cl, ty, pos, after, guard⟩) (ev := fun x => (valO E k st tm x).av) (v := v.av) hT hcl hd (by
    have hcs := hst
    rw [List.map_append, List.map_append, cvs_eq, cvs_eq, map_toC, map_toC, evs_av, ← List.append_assoc] at hcs
    exact st_callValue hcal (show (valO E k st tm g).av = .func (.func gf) first cap by rw [valO_of h1, hz, hs]; rfl) hcs)
  exact ⟨v, T', n', _, rfl, hL⟩

theorem good_callF (cl : Call) (gf : FuncId) (hcal : cl.callee = .value (.func gf)) : OpGood P E k (op_callF (e := e) E k cl gf) ⟨dst, .call cl, ty, pos, after, guard⟩ := by
  intro c st tm T n K hc hT h
  have hcl : clsOf P (.call cl) = .x := by simp only [clsOf, hcal]
  obtain ⟨v, T', n', hr, h5⟩ := resK_inv (f := K) (r := c gf (evs (argsC E k cl.args.toList) st tm) T n) h
  obtain ⟨hd, hst⟩ := hc _ _ _ _ _ _ _ hr hT
  have hL := Ran.call (P := P) (o := ⟨dst, .call cl, ty, pos, after, guard⟩) (ev := fun x => (valO E k st tm x).av) (v := v.av) hT hcl hd (by
    have hcs := hst
    rw [evs_av] at hcs
    exact st_callValue (first := []) (cap := []) hcal rfl (by rw [List.nil_append, List.append_nil]; exact hcs))
  exact ⟨v, T', n', _, h5, hL⟩

theorem methC_spec {t : TypeId} {name : String} {g : FuncId} (h : methC P t name = some (g, false)) (H : Heap) (v : AV) : methodOf P H t v name = some (g, v) := by
  unfold methC at h
  unfold methodOf
  split at h
  · rename_i i hi
    split at h
    · rename_i m hm
      split at h
      · rename_i f hp hf
        split at h
        · rename_i hu; cases h; simp only [hi, hm, hp, hf, hu, if_true]
        · cases h
      · rename_i f hp hf
        split at h
        · split at h <;> cases h
        · rename_i d hd hu
          cases h
          simp only [hi, hm, hp, hf, if_true]
          split
          · rename_i el he; rw [he] at hu; cases hu; exact absurd rfl (hd _)
          · rfl
          · rename_i he; rw [he] at hu; cases hu
        · cases h
      · cases h
    · cases h
  · cases h

theorem loadB_inv {T : HT} {p : CV} {f : CV → Out e} (h : loadB T p f ≠ .bad) : ∃ b i fo bk md x, p = .ptr b i fo ∧ hget (absH T) b = some (bk, md) ∧ bk.ld i fo = some (CV.av x) ∧ loadB T p f = f x := by
  obtain ⟨b, i, fo, hy, h3⟩ := onPtr_inv h
  change loadB T p f = _ at h3
  rw [h3] at h ⊢
  obtain ⟨hb, ⟨w, num, d, cc, md, s, h4, h5⟩ | ⟨kd, num, a, md, s, h4, h5⟩⟩ := atB_inv h
  · rw [h5] at h ⊢
    obtain ⟨h6, h7⟩ := chk_inv h
    rw [h7] at h ⊢
    obtain ⟨h8, h9⟩ := chk_inv h
    rw [h9]
    have hi : i < num := Nat.le_of_ble_eq_true h6
    have hf : fo < w := Nat.le_of_ble_eq_true h8
    refine ⟨b, i, fo, _, md, _, hy, blk_old hb h4 rfl, ?_, rfl⟩
    rw [cellG_eq]
    exact (cells_ld (by rw [cells_num (by omega)]; exact hi) hf).2
  · rw [h5] at h; exact absurd rfl h
theorem methC_load {t : TypeId} {name : String} {g : FuncId} (h : methC P t name = some (g, true)) {H : Heap} {b i fo : Nat} {bk : Blk} {md : Md} {x : AV} (hg : hget H b = some (bk, md)) (hx : bk.ld i fo = some x) : methodOf P H t (.ptr b i fo) name = some (g, x) := by
  unfold methC at h
  unfold methodOf
  split at h
  · rename_i i0 hi
    split at h
    · rename_i m hm
      split at h
      · rename_i f hp hf
        split at h
        · cases h
        · cases h
      · rename_i f hp hf
        split at h
        · rename_i el hu
          split at h
          · rename_i sz ha hs
            cases h
            simp only [hi, hm, hp, hf, hu, if_true, hg, hs, ha, hx]
          · cases h
        · cases h
        · cases h
      · cases h
    · cases h
  · cases h

theorem good_invoke (cl : Call) (r : Operand) (name : String) (hcal : cl.callee = .invoke r name) : OpGood P E k (op_invoke (e := e) P E k cl r name) ⟨dst, .call cl, ty, pos, after, guard⟩ := by
  intro c st tm T n K hc hT h
  generalize hF : op_invoke P E k cl r name = F at h ⊢
  have hcl : clsOf P (.call cl) = .x := by simp only [clsOf, hcal]
  unfold op_invoke at hF
  split at hF
  rename_i f h1
  subst hF
  dsimp only [OpC.run] at h ⊢
  obtain ⟨z, hz, h3⟩ := onOth_inv h
  rw [h3] at h ⊢
  obtain ⟨t, u, hs, h4⟩ := othIface_inv h
  rw [h4] at h ⊢
  split at h
  · rename_i g hm
    obtain ⟨v, T', n', hr, h5⟩ := resK_inv h
    obtain ⟨hd, hst⟩ := hc _ _ _ _ _ _ _ hr hT
    have hL := Ran.call (P := P) (o := ⟨dst, .call cl, ty, pos, after, guard⟩) (ev := fun x => (valO E k st tm x).av) (v := v.av) hT hcl hd (by
      have hcs := hst
      rw [List.map_cons, toC_av, evs_av] at hcs
      exact st_invoke hcal (show (valO E k st tm r).av = .iface t u by rw [valO_of h1, hz, hs]; rfl) (methC_spec hm _ _) hcs)
    exact ⟨v, T', n', _, h5, hL⟩
  · rename_i g hm
    obtain ⟨b, i, fo, bk, md, x, q1, q2, q3, q4⟩ := loadB_inv h
    rw [q4] at h ⊢
    obtain ⟨v, T', n', hr, h5⟩ := resK_inv h
    obtain ⟨hd, hst⟩ := hc _ _ _ _ _ _ _ hr hT
    have hu : u = .ptr b i fo := by rw [← toC_av u, q1]; rfl
    have hL := Ran.call (P := P) (o := ⟨dst, .call cl, ty, pos, after, guard⟩) (ev := fun x => (valO E k st tm x).av) (v := v.av) hT hcl hd (by
      have hcs := hst
      rw [List.map_cons, evs_av] at hcs
      exact st_invoke hcal (show (valO E k st tm r).av = .iface t u by rw [valO_of h1, hz, hs]; rfl) (by rw [hu]; exact methC_load hm q2 q3) hcs)
    exact ⟨v, T', n', _, h5, hL⟩
  · exact absurd rfl h
end
end Go.Ab
