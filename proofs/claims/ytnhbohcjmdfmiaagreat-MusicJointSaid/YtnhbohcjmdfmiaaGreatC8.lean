/- Concrete runs: stores, addresses, new blocks. No condition. -/
import Derived.Test.YtnhbohcjmdfmiaaGreatC7
set_option linter.unusedVariables false
set_option linter.unusedSimpArgs false
namespace Go.Ab
open Go
noncomputable section
variable {e k : Nat} {P : Program} {E : EM} {dst : Option Tmp} {ty : TypeId} {pos : String} {after : Array Edge} {guard : Option (Nat × Bool)}

theorem cellsOf_cell {v : AV} (h : isCell v = true) : cellsOf v = [v] := by cases v <;> first | rfl | (simp [isCell] at h)
theorem cellX_av {x : CV} (h : cellX x = true) : isCell x.av = true := by cases x <;> first | rfl | exact h
theorem wrOk_ne {md : Md} (h : wrOk md = true) : md ≠ .ro := by cases md <;> first | (simp [wrOk] at h; done) | (intro q; cases q)

theorem st_tuple0 : (CV.oth (.tuple [])).av = .tuple [] := rfl

theorem set_cells {w num d : Nat} {c : QT CV d} {j : Nat} {x : CV} (hj : j < num * w) (hd : num * w ≤ 4 ^ d) : (((List.range (num * w)).map fun i => (QT.get d i c).av).set j x.av) = (List.range (num * w)).map fun i => (QT.get d i (QT.set d j x c)).av := by
  apply List.ext_getElem?
  intro i
  by_cases hi : i < num * w
  · rw [List.getElem?_set]
    simp only [List.getElem?_map, List.getElem?_range hi, Option.map_some, List.length_map, List.length_range]
    rw [QT.get_set d i j x c (by omega) (by omega)]
    by_cases e : i = j
    · subst e; simp [hi]
    · rw [if_neg (fun q => e q.symm), if_neg e]
  · rw [List.getElem?_eq_none (by simp; omega), List.getElem?_eq_none (by simp; omega)]

theorem set_ints {k : IntKind} {num a i : Nat} {v : Nat} {n : Int} (hv : v < dB ∧ dDec v = n) (hi : i < num) : (((List.range num).map fun j => dDec (dGet a j)).set i n) = (List.range num).map fun j => dDec (dGet (dSet a i v) j) := by
  apply List.ext_getElem?
  intro j
  by_cases hj : j < num
  · rw [List.getElem?_set]
    simp only [List.getElem?_map, List.getElem?_range hj, Option.map_some, List.length_map, List.length_range]
    rw [dGet_set _ _ _ _ hv.1]
    by_cases e : j = i
    · subst e; simp [hi, hv.2]
    · rw [if_neg (fun q => e q.symm), if_neg e]
  · rw [List.getElem?_eq_none (by simp; omega), List.getElem?_eq_none (by simp; omega)]

theorem stn_cells {w num d : Nat} {i : Nat} (hd : num * w ≤ 4 ^ d) (hi : i < num) (hw : 0 < w) : ∀ (l : List CV) (c : QT CV d) (fo : Nat), (∀ x ∈ l, cellX x = true) → fo + l.length ≤ w → stn i (l.map CV.av) fo (cellsBlk w num d c) = some (cellsBlk w num d (putL c (i * w + fo) l))
  | [], c, fo, _, _ => rfl
  | x :: l, c, fo, hx, hl => by
    simp only [List.length_cons] at hl
    have hlt : i * w + fo < num * w := by
      have : (i + 1) * w ≤ num * w := Nat.mul_le_mul_right _ hi
      rw [Nat.add_mul] at this; omega
    rw [List.map_cons, putL_cons]
    show (match stx (cellsBlk w num d c) i fo x.av with | some bk' => stn i (l.map CV.av) (fo + 1) bk' | none => none) = _
    have : stx (cellsBlk w num d c) i fo x.av = some (cellsBlk w num d (QT.set d (i * w + fo) x c)) := by
      unfold cellsBlk stx
      simp only [cellX_av (hx x (by simp)), if_true]
      rw [set_cells hlt hd]
    rw [this]
    simp only
    rw [stn_cells hd hi hw l _ (fo + 1) (fun y hy => hx y (by simp [hy])) (by omega), show i * w + (fo + 1) = i * w + fo + 1 by omega]

theorem stA_cells {w num d i fo : Nat} {c : QT CV d} (vs : List AV) : stA i vs fo (cellsBlk w num d c) = stn i vs fo (cellsBlk w num d c) := by
  unfold stA cellsBlk; rfl

theorem cells_shape (w num d d' : Nat) (c : QT CV d) (c' : QT CV d') : (cellsBlk w num d c).num = (cellsBlk w num d' c').num ∧ (cellsBlk w num d c).str = (cellsBlk w num d' c').str := by
  refine ⟨?_, rfl⟩
  show ((List.range (num * w)).map _).length / w = ((List.range (num * w)).map _).length / w
  rw [List.length_map, List.length_map]
theorem good_store (t : TypeId) (x y : Operand) : OpGood P E k (op_store (e := e) P E k t x y) ⟨dst, .store t x y, ty, pos, after, guard⟩ := by
  intro c st tm T n K hc hT h
  generalize hF : op_store P E k t x y = F at h ⊢
  unfold op_store at hF
  split at hF
  · rename_i f g w h1 h2 h3 h4
    split at hF
    · rename_i hw
      subst hF
      dsimp only [OpC.run] at h ⊢
      obtain ⟨b, i, fo, hy, h5⟩ := onPtr_inv h
      change storeS T n (f st tm) (g st tm) (fun T => K (.oth (.tuple [])) T n) = _ at h5
      rw [h5] at h ⊢
      have hxv : (valO E k st tm x).av = .ptr b i fo := by rw [valO_of h2, hy]; rfl
      have hyv : (valO E k st tm y).av = (g st tm).av := by rw [valO_of h3]
      have hw1 : w = 1 := Nat.eq_of_beq_eq_true hw
      subst hw1
      have hsee : ∀ KH, AgrC (fun x => (valO E k st tm x).av) T KH (clsOf P (.store t x y)) → hget KH b = hget (absH T) b := fun KH hK => hK b (congrArg blkA hxv)
      have hturn : turnsC (fun x => (valO E k st tm x).av) (.tuple []) n (clsOf P (.store t x y)) [b] := fun b' hb' => by
        obtain rfl := List.mem_singleton.1 hb'
        exact congrArg blkA hxv
      obtain ⟨hb, ⟨wd, num, d, cc, md, s, h6, h7⟩ | ⟨kd, num, a, md, s, h6, h7⟩⟩ := atB_inv h
      · rw [h7] at h ⊢
        obtain ⟨h8, h9⟩ := chk_inv h
        rw [h9] at h ⊢
        obtain ⟨h10, h11⟩ := chk_inv h
        rw [h11]
        refine ⟨_, _, n, [b], rfl, Ran.write1 hT hb (md := md) (by rw [h6]; rfl) rfl (Nat.lt_irrefl _) (fun w' num' d' c' md' s' he => by cases he; exact ⟨_, _, h6⟩) (fun bk1 md1 bk2 md2 e1 e2 => by rw [h6] at e1; cases e1; cases e2; exact cells_shape _ _ _ _ _ _) hturn fun KH hK => ?_⟩
        have hg : hget KH b = some (cellsBlk wd num d cc, md) := by rw [hsee KH hK]; exact blk_old hb h6 rfl
        have hcell : cellsOf (valO E k st tm y).av = [(g st tm).av] := by rw [hyv]; exact cellsOf_cell (cellX_av h10)
        refine st_store_b hxv hg (wrOk_ne h8) h4 (by rw [hcell]; rfl) fun hi hf => ?_
        obtain ⟨hw, hi'⟩ := cells_num_le hi
        refine ⟨hf, _, ?_, .refl _⟩
        rw [hcell, stA_cells, cellS_eq]
        have hs := stn_cells (hT.wf b hb _ _ _ _ _ _ h6) hi' hw [g st tm] cc fo (by simp [h10]) (show fo + 1 ≤ wd from hf)
        rw [putL_cons] at hs
        exact hs
      · rw [h7] at h ⊢
        obtain ⟨h8, h9⟩ := chk_inv h
        rw [h9] at h ⊢
        have fin : ∀ (n0 : Int) (v : Nat), (g st tm).av = .int kd n0 → enc? n0 = some v → Ran P ⟨dst, .store t x y, ty, pos, after, guard⟩ (fun x => (valO E k st tm x).av) T n (.tuple []) (runS (setC 8 b) (.ints kd num (dSet a i v) md n) T) n [b] := by
          intro n0 v hgv hev
          refine Ran.write1 hT hb (md := md) (by rw [h6]; rfl) rfl (Nat.lt_irrefl _) (fun w' num' d' c' md' s' he => by cases he) (fun bk1 md1 bk2 md2 e1 e2 => by rw [h6] at e1; cases e1; cases e2; exact ⟨by rw [ints_num, ints_num], rfl⟩) hturn fun KH hK => ?_
          have hg : hget KH b = some (intsBlk kd num a, md) := by rw [hsee KH hK]; exact blk_old hb h6 rfl
          have hcell : cellsOf (valO E k st tm y).av = [.int kd n0] := by rw [hyv, hgv]; rfl
          refine st_store_b hxv hg (wrOk_ne h8) h4 (by rw [hcell]; rfl) fun hi hf => ?_
          have hf1 : fo < 1 := hf
          obtain rfl : fo = 0 := by omega
          rw [ints_num] at hi
          refine ⟨Nat.le_refl _, _, ?_, .refl _⟩
          rw [hcell]
          show stn i [.int kd n0] 0 (intsBlk kd num a) = _
          unfold intsBlk stn stx
          simp only [if_true]
          rw [set_ints (k := kd) (enc_dec hev) hi]
          rfl
        rcases onInt_inv h with ⟨n0, hgv, h10⟩ | ⟨kx, n0, hgv, h10⟩
        · rw [h10] at h ⊢
          obtain ⟨h11, h12⟩ := chk_inv h
          rw [h12] at h ⊢
          obtain ⟨v, h13, h14⟩ := decK_inv h
          rw [h14]
          exact ⟨_, _, n, [b], rfl, fin n0 v (by rw [hgv, kix_0 h11]; rfl) h13⟩
        · rw [h10] at h ⊢
          obtain ⟨h11, h12⟩ := chk_inv h
          rw [h12] at h ⊢
          obtain ⟨v, h13, h14⟩ := decK_inv h
          rw [h14]
          exact ⟨_, _, n, [b], rfl, fin n0 v (by rw [hgv, kix_inj h11]; rfl) h13⟩
    · subst hF; exact absurd rfl h
  · rename_i f g w h1 h2 h3 h4
    subst hF
    dsimp only [OpC.run] at h ⊢
    obtain ⟨y0, hy0, e1⟩ := onOth_inv h
    rw [e1] at h ⊢
    obtain ⟨l, hl, e2⟩ := othAgg_inv h
    rw [e2] at h ⊢
    obtain ⟨b, i, fo, hy, h5⟩ := onPtr_inv h
    change storeA T n (f st tm) w (cvs l) (fun T => K (.oth (.tuple [])) T n) = _ at h5
    rw [h5] at h ⊢
    have hxv : (valO E k st tm x).av = .ptr b i fo := by rw [valO_of h2, hy]; rfl
    have hyv : (valO E k st tm y).av = .agg l := by rw [valO_of h3, hy0, hl]; rfl
    have hsee : ∀ KH, AgrC (fun x => (valO E k st tm x).av) T KH (clsOf P (.store t x y)) → hget KH b = hget (absH T) b := fun KH hK => hK b (congrArg blkA hxv)
    have hturn : turnsC (fun x => (valO E k st tm x).av) (.tuple []) n (clsOf P (.store t x y)) [b] := fun b' hb' => by
      obtain rfl := List.mem_singleton.1 hb'
      exact congrArg blkA hxv
    obtain ⟨hb, ⟨wd, num, d, cc, md, s, h6, h7⟩ | ⟨kd, num, a, md, s, h6, h7⟩⟩ := atB_inv h
    · rw [h7] at h ⊢
      obtain ⟨h8, h9⟩ := chk_inv h
      rw [h9] at h ⊢
      obtain ⟨h10, h11⟩ := chk_inv h
      rw [h11] at h ⊢
      obtain ⟨h12, h13⟩ := chk_inv h
      rw [h13] at h ⊢
      obtain ⟨h14, h15⟩ := chk_inv h
      rw [h15, natK_eq]
      have hlen : (cvs l).length = w := Nat.eq_of_beq_eq_true h12
      have hle : fo + w ≤ wd := Nat.le_of_ble_eq_true h10
      have hall : ∀ x ∈ cvs l, cellX x = true := by
        have key : ∀ l : List CV, allX l = true → ∀ x ∈ l, cellX x = true := by
          intro l
          induction l with
          | nil => intro _ x hx; cases hx
          | cons z l ih =>
            intro hz x hx
            have hz' : (Bool.rec false (allX l) (cellX z) : Bool) = true := hz
            cases hq : cellX z with
            | false => rw [hq] at hz'; cases hz'
            | true =>
              rw [hq] at hz'
              rcases List.mem_cons.1 hx with rfl | hx
              · exact hq
              · exact ih hz' x hx
        exact key _ h14
      refine ⟨_, _, n, [b], rfl, Ran.write1 hT hb (md := md) (by rw [h6]; rfl) rfl (Nat.lt_irrefl _) (fun w' num' d' c' md' s' he => by cases he; exact ⟨_, _, h6⟩) (fun bk1 md1 bk2 md2 e1 e2 => by rw [h6] at e1; cases e1; cases e2; exact cells_shape _ _ _ _ _ _) hturn fun KH hK => ?_⟩
      have hg : hget KH b = some (cellsBlk wd num d cc, md) := by rw [hsee KH hK]; exact blk_old hb h6 rfl
      have hcell : cellsOf (valO E k st tm y).av = (cvs l).map CV.av := by rw [hyv, cvs_eq, map_toC]; rfl
      refine st_store_b hxv hg (wrOk_ne h8) h4 (by rw [hcell, List.length_map, hlen]) fun hi hf => ?_
      obtain ⟨hw, hi'⟩ := cells_num_le hi
      refine ⟨hle, _, ?_, .refl _⟩
      rw [hcell, stA_cells]
      exact stn_cells (hT.wf b hb _ _ _ _ _ _ h6) hi' hw (cvs l) cc fo hall (by omega)
    · rw [h7] at h; exact absurd rfl h
  · subst hF; exact absurd rfl h

theorem allX_spec : ∀ l : List CV, allX l = true → ∀ x ∈ l, cellX x = true := by
  intro l
  induction l with
  | nil => intro _ x hx; cases hx
  | cons z l ih =>
    intro hz x hx
    have hz' : (Bool.rec false (allX l) (cellX z) : Bool) = true := hz
    cases hq : cellX z with
    | false => rw [hq] at hz'; cases hz'
    | true =>
      rw [hq] at hz'
      rcases List.mem_cons.1 hx with rfl | hx
      · exact hq
      · exact ih hz' x hx

theorem good_fieldAddr (s : TypeId) (x : Operand) (i : Nat) : OpGood P E k (op_fieldAddr (e := e) P E k s x i) ⟨dst, .fieldAddr s x i, ty, pos, after, guard⟩ := by
  intro c st tm T n K hc hT h
  generalize hF : op_fieldAddr P E k s x i = F at h ⊢
  unfold op_fieldAddr at hF
  split at hF
  · rename_i fs f h1 h2
    split at hF
    · rename_i fd h3
      split at hF
      · rename_i sz h4
        rw [natK_eq] at hF
        subst hF
        dsimp only [OpC.run] at h ⊢
        obtain ⟨b, j, fo, hy, h5⟩ := onPtr_inv h
        rw [h5] at h ⊢
        have hxv : (valO E k st tm x).av = .ptr b j fo := by rw [valO_of h2, hy]; rfl
        obtain ⟨hb, ⟨wd, num, d, cc, md, s, h6, h7⟩ | ⟨kd, num, a, md, s, h6, h7⟩⟩ := atB_inv h
        · rw [h7] at h ⊢
          obtain ⟨h8, h9⟩ := chk_inv h
          rw [h9]
          refine ⟨_, T, n, [], rfl, Ran.pure (by intro x; simp [clsOf]) fun KH hK => ?_⟩
          obtain ⟨bk', md', hg, q1, q2, _⟩ := hK (x, .shape) (List.mem_singleton.2 rfl) b (congrArg blkA hxv) _ _ (blk_old hb h6 rfl)
          exact st_fieldAddr h1 hxv h3 hg h4 (by rw [q2]; exact Nat.le_of_ble_eq_true h8)
        · rw [h7] at h; exact absurd rfl h
      · subst hF; exact absurd rfl h
    · subst hF; exact absurd rfl h
  · subst hF; exact absurd rfl h

theorem good_indexAddr (t : TypeId) (x ix : Operand) : OpGood P E k (op_indexAddr (e := e) P E k t x ix) ⟨dst, .indexAddr t x ix, ty, pos, after, guard⟩ := by
  intro c st tm T n K hc hT h
  generalize hF : op_indexAddr P E k t x ix = F at h ⊢
  unfold op_indexAddr at hF
  split at hF
  · rename_i el f g h1 h2 h3
    split at hF
    · rename_i w h4
      subst hF
      dsimp only [OpC.run] at h ⊢
      obtain ⟨ki, i, hi, h5⟩ := natI_inv h
      rw [h5] at h ⊢
      have hiv : (valO E k st tm ix).av = .int ki (.ofNat i) := by rw [valO_of h3]; exact hi
      have hsee : ∀ b KH, blkA (f st tm).av = some b → AgrC (fun x => (valO E k st tm x).av) T KH (clsOf P (.indexAddr t x ix)) → AgrS T KH b := fun b KH hb hK bk md hg => by
        obtain ⟨bk', md', q, q1, q2, _⟩ := hK (x, .shape) (List.mem_singleton.2 rfl) b (by show blkA (valO E k st tm x).av = _; rw [valO_of h2]; exact hb) bk md hg
        exact ⟨bk', md', q, q1, q2⟩
      rcases onSlice_inv h with ⟨hx, h6⟩ | ⟨b, hx, h6⟩ | ⟨b, o, l, hx, h6⟩ | ⟨b, j, o, l, hx, h6⟩
      · change indexS w (f st tm) T i (fun v => K v T n) = _ at h6
        rw [h6] at h; exact absurd rfl h
      · change indexS w (f st tm) T i (fun v => K v T n) = _ at h6
        rw [h6] at h ⊢
        have hxv : (valO E k st tm x).av = .whole b := by rw [valO_of h2, hx]; rfl
        obtain ⟨hb, ⟨wd, num, d, cc, md, s, h7, h8⟩ | ⟨kd, num, a, md, s, h7, h8⟩⟩ := atB_inv h
        · rw [h8] at h ⊢
          obtain ⟨h9, h10⟩ := chk_inv h
          rw [h10] at h ⊢
          obtain ⟨h11, h12⟩ := chk_inv h
          rw [h12]
          refine ⟨_, T, n, [], rfl, Ran.pure (by intro x; simp [clsOf]) fun KH hK => ?_⟩
          obtain ⟨bk', md', hg, q1, q2⟩ := hsee b KH (by rw [hx]; rfl) hK _ _ (blk_old hb h7 (bk := cellsBlk wd num d cc) (md := md) rfl)
          have hle : i + 1 ≤ num := Nat.le_of_ble_eq_true h11
          obtain rfl : w = wd := Nat.eq_of_beq_eq_true h9
          by_cases hw : 0 < w
          · exact st_indexAddr h1 hiv hxv h4 hg q2.symm ⟨Int.natCast_nonneg _, by rw [q1, cells_num hw]; exact Int.ofNat_lt.2 hle⟩
          · -- an element of nothing: no such block
            refine fun m H a w' hs _ hsim hxs => absurd ((hsim.blk b _ _ (hs _ _ hg)).1.pos) (by rw [q2]; exact hw)
        · rw [h8] at h ⊢
          obtain ⟨h9, h10⟩ := chk_inv h
          rw [h10] at h ⊢
          obtain ⟨h11, h12⟩ := chk_inv h
          rw [h12]
          refine ⟨_, T, n, [], rfl, Ran.pure (by intro x; simp [clsOf]) fun KH hK => ?_⟩
          obtain ⟨bk', md', hg, q1, q2⟩ := hsee b KH (by rw [hx]; rfl) hK _ _ (blk_old hb h7 (bk := intsBlk kd num a) (md := md) rfl)
          have hle : i + 1 ≤ num := Nat.le_of_ble_eq_true h11
          obtain rfl : w = 1 := Nat.eq_of_beq_eq_true h9
          exact st_indexAddr h1 hiv hxv h4 hg q2.symm ⟨Int.natCast_nonneg _, by rw [q1, ints_num]; exact Int.ofNat_lt.2 hle⟩
      · change indexS w (f st tm) T i (fun v => K v T n) = _ at h6
        rw [h6] at h ⊢
        have hxv : (valO E k st tm x).av = .part b o l := by rw [valO_of h2, hx]; rfl
        obtain ⟨hb, ⟨wd, num, d, cc, md, s, h7, h8⟩ | ⟨kd, num, a, md, s, h7, h8⟩⟩ := atB_inv h
        · rw [h8] at h ⊢
          obtain ⟨h9, h10⟩ := chk_inv h
          rw [h10] at h ⊢
          obtain ⟨h11, h12⟩ := chk_inv h
          rw [h12]
          refine ⟨_, T, n, [], rfl, Ran.pure (by intro x; simp [clsOf]) fun KH hK => ?_⟩
          obtain ⟨bk', md', hg, q1, q2⟩ := hsee b KH (by rw [hx]; rfl) hK _ _ (blk_old hb h7 (bk := cellsBlk wd num d cc) (md := md) rfl)
          have hle : i + 1 ≤ l := Nat.le_of_ble_eq_true h11
          obtain rfl : w = wd := Nat.eq_of_beq_eq_true h9
          exact st_indexAddrP h1 hiv hxv h4 hg q2.symm ⟨Int.natCast_nonneg _, Int.ofNat_lt.2 hle⟩
        · rw [h8] at h ⊢
          obtain ⟨h9, h10⟩ := chk_inv h
          rw [h10] at h ⊢
          obtain ⟨h11, h12⟩ := chk_inv h
          rw [h12]
          refine ⟨_, T, n, [], rfl, Ran.pure (by intro x; simp [clsOf]) fun KH hK => ?_⟩
          obtain ⟨bk', md', hg, q1, q2⟩ := hsee b KH (by rw [hx]; rfl) hK _ _ (blk_old hb h7 (bk := intsBlk kd num a) (md := md) rfl)
          have hle : i + 1 ≤ l := Nat.le_of_ble_eq_true h11
          obtain rfl : w = 1 := Nat.eq_of_beq_eq_true h9
          exact st_indexAddrP h1 hiv hxv h4 hg q2.symm ⟨Int.natCast_nonneg _, Int.ofNat_lt.2 hle⟩
      · change indexS w (f st tm) T i (fun v => K v T n) = _ at h6
        rw [h6] at h ⊢
        have hxv : (valO E k st tm x).av = .seg b j o l := by rw [valO_of h2, hx]; rfl
        obtain ⟨hb, ⟨bk, md, hg0⟩, h8⟩ := liveB_inv h
        rw [h8] at h ⊢
        obtain ⟨h9, h10⟩ := chk_inv h
        rw [h10] at h ⊢
        obtain ⟨h11, h12⟩ := chk_inv h
        rw [h12]
        refine ⟨_, T, n, [], rfl, Ran.pure (by intro x; simp [clsOf]) fun KH hK => ?_⟩
        obtain ⟨bk', md', hg, q1, q2⟩ := hsee b KH (by rw [hx]; rfl) hK _ _ hg0
        have hle : i + 1 ≤ l := Nat.le_of_ble_eq_true h11
        obtain rfl : w = 1 := Nat.eq_of_beq_eq_true h9
        exact st_indexAddrSeg h1 hiv hxv h4 hg ⟨Int.natCast_nonneg _, Int.ofNat_lt.2 hle⟩
    · subst hF; exact absurd rfl h
  · rename_i len el f g h1 h2 h3
    split at hF
    · rename_i w h4 h4'
      rw [natK_eq] at hF
      subst hF
      dsimp only [OpC.run] at h ⊢
      obtain ⟨ki, i, hi, h5⟩ := natI_inv h
      rw [h5] at h ⊢
      have hiv : (valO E k st tm ix).av = .int ki (.ofNat i) := by rw [valO_of h3]; exact hi
      obtain ⟨h6, h7⟩ := chk_inv h
      rw [h7] at h ⊢
      obtain ⟨b, j, fo, hy, h8⟩ := onPtr_inv h
      rw [h8] at h ⊢
      have hxv : (valO E k st tm x).av = .ptr b j fo := by rw [valO_of h2, hy]; rfl
      obtain ⟨hb, ⟨wd, num, d, cc, md, s, h9, h10⟩ | ⟨kd, num, a, md, s, h9, h10⟩⟩ := atB_inv h
      · rw [h10] at h ⊢
        obtain ⟨h11, h12⟩ := chk_inv h
        rw [h12]
        refine ⟨_, T, n, [], rfl, Ran.pure (by intro x; simp [clsOf]) fun KH hK => ?_⟩
        obtain ⟨bk', md', hg, q1, q2, _⟩ := hK (x, .shape) (List.mem_singleton.2 rfl) b (congrArg blkA hxv) _ _ (blk_old hb h9 rfl)
        have hle : i + 1 ≤ len := Nat.le_of_ble_eq_true h6
        exact st_indexAddrA h1 hiv hxv h4 hg ⟨Nat.le_of_ble_eq_true h4', Nat.succ_pos _, by rw [q2]; exact Nat.le_of_ble_eq_true h11⟩ ⟨Int.natCast_nonneg _, Int.ofNat_lt.2 hle⟩
      · rw [h10] at h; exact absurd rfl h
    · subst hF; exact absurd rfl h
  · subst hF; exact absurd rfl h

theorem good_index (t : TypeId) (x ix : Operand) : OpGood P E k (op_index (e := e) P E k t x ix) ⟨dst, .index t x ix, ty, pos, after, guard⟩ := by
  intro c st tm T n K hc hT h
  generalize hF : op_index P E k t x ix = F at h ⊢
  unfold op_index at hF
  split at hF
  · rename_i f g h1 h2 h3
    subst hF
    dsimp only [OpC.run] at h ⊢
    obtain ⟨ki, i, hi, h5⟩ := natI_inv h
    rw [h5] at h ⊢
    obtain ⟨y, hy, h6⟩ := onOth_inv h
    rw [h6] at h ⊢
    obtain ⟨s, hs, h7⟩ := othStr_inv h
    rw [h7] at h ⊢
    split at h
    · rename_i cb hcb
      refine ⟨_, T, n, [], rfl, Ran.pure (by intro x; simp [clsOf]) fun KH hK => ?_⟩
      have hiv : (valO E k st tm ix).av = .int ki (.ofNat i) := by rw [valO_of h3]; exact hi
      have hxv : (valO E k st tm x).av = .str s := by rw [valO_of h2, hy, hs]; rfl
      have hlt : i < s.size := by
        have := (List.getElem?_eq_some_iff.1 hcb).1
        simpa using this
      have := st_indexStr (P := P) (e := fun x => (valO E k st tm x).av) (K := KH) (q := n) (dst := dst) (ty := ty) (pos := pos) (after := after) (guard := guard) h1 hiv hxv ⟨Int.natCast_nonneg _, Int.ofNat_lt.2 hlt⟩
      have e1 : s.data.getD (Int.toNat (.ofNat i)) 0 = cb := by
        rw [Array.getElem?_toList] at hcb
        show s.data.getD i 0 = cb
        rw [Array.getD_eq_getD_getElem?, hcb]; rfl
      rw [e1] at this
      exact this
    · exact absurd rfl h
  · rename_i len el f g h1 h2 h3
    split at hF
    · rename_i h4 h4'
      subst hF
      dsimp only [OpC.run] at h ⊢
      obtain ⟨ki, i, hi, h5⟩ := natI_inv h
      rw [h5] at h ⊢
      have hiv : (valO E k st tm ix).av = .int ki (.ofNat i) := by rw [valO_of h3]; exact hi
      obtain ⟨h6, h7⟩ := chk_inv h
      rw [h7] at h ⊢
      obtain ⟨y, hy, h8⟩ := onOth_inv h
      rw [h8] at h ⊢
      obtain ⟨l, hl, h9⟩ := othAgg_inv h
      rw [h9] at h ⊢
      obtain ⟨v, hv, h10⟩ := nthC_inv _ h
      rw [h10]
      refine ⟨_, T, n, [], rfl, Ran.pure (by intro x; simp [clsOf]) fun KH hK => ?_⟩
      rw [toC_av]
      have hle : i + 1 ≤ len := Nat.le_of_ble_eq_true h6
      exact st_indexArr h1 hiv (show (valO E k st tm x).av = .agg l by rw [valO_of h2, hy, hl]; rfl) h4 h4' ⟨Int.natCast_nonneg _, Int.ofNat_lt.2 hle⟩ hv
    · rename_i w h4 h4'
      subst hF
      dsimp only [OpC.run] at h ⊢
      obtain ⟨ki, i, hi, h5⟩ := natI_inv h
      rw [h5] at h ⊢
      have hiv : (valO E k st tm ix).av = .int ki (.ofNat i) := by rw [valO_of h3]; exact hi
      obtain ⟨h6, h7⟩ := chk_inv h
      rw [h7] at h ⊢
      obtain ⟨y, hy, h8⟩ := onOth_inv h
      rw [h8] at h ⊢
      obtain ⟨l, hl, h9⟩ := othAgg_inv h
      rw [h9] at h ⊢
      simp only [natK_eq] at h ⊢
      obtain ⟨h10, h11⟩ := chk_inv h
      rw [h11]
      have hle : i + 1 ≤ len := Nat.le_of_ble_eq_true h6
      exact ⟨_, T, n, [], rfl, Ran.pure (by intro x; simp [clsOf]) fun KH hK => st_indexArrAgg h1 hiv (show (valO E k st tm x).av = .agg l by rw [valO_of h2, hy, hl]; rfl) h4 h4' ⟨Int.natCast_nonneg _, Int.ofNat_lt.2 hle⟩ (Nat.le_of_ble_eq_true h10)⟩
    · subst hF; exact absurd rfl h
  · subst hF; exact absurd rfl h

theorem good_field (s : TypeId) (x : Operand) (i : Nat) : OpGood P E k (op_field (e := e) P E k s x i) ⟨dst, .field s x i, ty, pos, after, guard⟩ := by
  intro c st tm T n K hc hT h
  generalize hF : op_field P E k s x i = F at h ⊢
  unfold op_field at hF
  split at hF
  · rename_i fs f h1 h2
    split at hF
    · rename_i fd h3
      split at hF
      · rename_i h4
        subst hF
        dsimp only [OpC.run] at h ⊢
        obtain ⟨y, hy, h6⟩ := onOth_inv h
        rw [h6] at h ⊢
        obtain ⟨l, hl, h7⟩ := othAgg_inv h
        rw [h7] at h ⊢
        obtain ⟨v, hv, h8⟩ := nthC_inv _ h
        rw [h8]
        refine ⟨_, T, n, [], rfl, Ran.pure (by intro x; simp [clsOf]) fun KH hK => ?_⟩
        rw [toC_av]
        exact st_field h1 (show (valO E k st tm x).av = .agg l by rw [valO_of h2, hy, hl]; rfl) h3 h4 hv
      · rename_i w h4 h5
        subst hF
        dsimp only [OpC.run] at h ⊢
        obtain ⟨y, hy, h6⟩ := onOth_inv h
        rw [h6] at h ⊢
        obtain ⟨l, hl, h7⟩ := othAgg_inv h
        rw [h7] at h ⊢
        obtain ⟨h8, h9⟩ := chk_inv h
        rw [h9]
        exact ⟨_, T, n, [], rfl, Ran.pure (by intro x; simp [clsOf]) fun KH hK => st_fieldAgg h1 (show (valO E k st tm x).av = .agg l by rw [valO_of h2, hy, hl]; rfl) h3 h4 h5 (Nat.le_of_ble_eq_true h8)⟩
      · subst hF; exact absurd rfl h
    · subst hF; exact absurd rfl h
  · subst hF; exact absurd rfl h

theorem cellsC_av (v : CV) : (cellsC v).map CV.av = cellsOf v.av := by
  cases v with
  | oth x => cases x <;> first | rfl | (show (cvs _).map CV.av = _; rw [cvs_eq, map_toC]; rfl)
  | _ => rfl

theorem all_cells {l : List CV} (h : allX l = true) : (l.map CV.av).all isCell = true := by
  rw [List.all_eq_true]
  intro x hx
  obtain ⟨y, hy, rfl⟩ := List.mem_map.1 hx
  exact cellX_av (allX_spec l h y hy)

theorem good_box (t : TypeId) (x : Operand) : OpGood P E k (op_box (e := e) E k x) ⟨dst, .box t x, ty, pos, after, guard⟩ := by
  intro c st tm T n K hc hT h
  generalize hF : op_box E k x = F at h ⊢
  unfold op_box at hF
  split at hF
  rename_i f h1
  subst hF
  dsimp only [OpC.run] at h ⊢
  rw [natK_eq] at h ⊢
  obtain ⟨h2, h3⟩ := chk_inv h
  rw [h3] at h ⊢
  obtain ⟨h4, h5⟩ := chk_inv h
  rw [h5] at h ⊢
  obtain ⟨hn, hl, d, hd, h6⟩ := newL_inv h
  rw [h6]
  refine ⟨_, _, _, [n], rfl, Ran.new1 hn rfl (Nat.lt_irrefl _) (fun w num d' c' md s he => by cases he; exact hd) (fun b hb => by obtain rfl := List.mem_singleton.1 hb; exact ⟨rfl, Nat.le_refl _⟩) fun KH hK => ?_⟩
  have hco : cellsOf (valO E k st tm x).av = (cellsC (f st tm)).map CV.av := by rw [valO_of h1, cellsC_av]
  have := st_box (P := P) (e := fun x => (valO E k st tm x).av) (K := KH) (q := n) (dst := dst) (ty := ty) (pos := pos) (after := after) (guard := guard) (t := t) (x := x) (by rw [hco]; exact all_cells h4) (by rw [hco, List.length_map]; exact Nat.le_of_ble_eq_true h2)
  have e1 : (HE.cells (cellsC (f st tm)).length 1 d (putL (emp d) 0 (cellsC (f st tm))) .own n).ent = .live (.vals (cellsOf (valO E k st tm x).av).length (cellsOf (valO E k st tm x).av)) .own := by
    show Ent.live (cellsBlk _ _ _ _) _ = _
    rw [cells_putL hl hd, hco, List.length_map]
  rw [e1]; exact this

theorem good_alloc (t : TypeId) : OpGood P E k (op_alloc (e := e) (k := k) P t) ⟨dst, .alloc t, ty, pos, after, guard⟩ := by
  intro c st tm T n K hc hT h
  generalize hF : op_alloc (e := e) (k := k) P t = F at h ⊢
  unfold op_alloc at hF
  split at hF
  · rename_i vs h1
    split at hF
    · rename_i h2
      subst hF
      dsimp only [OpC.run] at h ⊢
      obtain ⟨hn, hl, d, hd, h6⟩ := newL_inv h
      rw [h6]
      refine ⟨_, _, _, [n], rfl, Ran.new1 hn rfl (Nat.lt_irrefl _) (fun w num d' c' md s he => by cases he; exact hd) (fun b hb => by obtain rfl := List.mem_singleton.1 hb; exact ⟨rfl, Nat.le_refl _⟩) fun KH hK => ?_⟩
      have e1 : (HE.cells vs.length 1 d (putL (emp d) 0 (cvs (vs.map cv1))) .own n).ent = .live (.vals vs.length (vs.map cv1)) .own := by
        show Ent.live (cellsBlk _ _ _ _) _ = _
        rw [cells_putL hl hd, cvs_eq, map_toC]
      rw [e1]
      exact st_alloc h1
    · subst hF; exact absurd rfl h
  · subst hF; exact absurd rfl h

theorem notIface_spec {t : TypeId} (h : notIface P t = true) : ∃ d, P.underlying t = some d ∧ ∀ ms, d ≠ .interface ms := by
  unfold notIface at h
  split at h
  · cases h
  · rename_i d hne hd; exact ⟨d, hd, fun ms q => hne ms (q ▸ rfl)⟩
  · cases h
theorem good_makeInterface (t : TypeId) (x : Operand) : OpGood P E k (op_makeInterface (e := e) P E k t x) ⟨dst, .makeInterface t x, ty, pos, after, guard⟩ := by
  intro c st tm T n K hc hT h
  generalize hF : op_makeInterface P E k t x = F at h ⊢
  unfold op_makeInterface at hF
  split at hF
  · rename_i f h1 h2
    subst hF
    dsimp only [OpC.run] at h ⊢
    obtain ⟨d, h3, h4⟩ := notIface_spec h1
    refine ⟨_, T, n, [], rfl, Ran.pure (by intro x; simp [clsOf]) fun KH hK => ?_⟩
    have := st_makeInterface (P := P) (e := fun x => (valO E k st tm x).av) (K := KH) (q := n) (dst := dst) (ty := ty) (pos := pos) (after := after) (guard := guard) (x := x) h3 h4
    simp only [valO_of h2] at this
    exact this
  · subst hF; exact absurd rfl h
theorem good_typeAssert (x : Operand) (xt t : TypeId) (ok : Bool) : OpGood P E k (op_typeAssert (e := e) P E k x t ok) ⟨dst, .typeAssert x xt t ok, ty, pos, after, guard⟩ := by
  intro c st tm T n K hc hT h
  generalize hF : op_typeAssert P E k x t ok = F at h ⊢
  unfold op_typeAssert at hF
  split at hF
  · rename_i f h1 h2
    subst hF
    dsimp only [OpC.run] at h ⊢
    obtain ⟨d, h3, h4⟩ := notIface_spec h1
    obtain ⟨y, hy, h5⟩ := onOth_inv h
    rw [h5] at h ⊢
    obtain ⟨t', v, hv, h6⟩ := othIface_inv h
    rw [h6] at h ⊢
    obtain ⟨h7, h8⟩ := chk_inv h
    rw [h8]
    have ht : t = t' := Nat.eq_of_beq_eq_true h7
    subst ht
    exact ⟨_, T, n, [], rfl, Ran.pure (by intro x; simp [clsOf]) fun KH hK => st_typeAssert (ok := true) h3 h4 (show (valO E k st tm x).av = .iface t v by rw [valO_of h2, hy, hv]; rfl)⟩
  · rename_i f h1 h2
    subst hF
    dsimp only [OpC.run] at h ⊢
    obtain ⟨d, h3, h4⟩ := notIface_spec h1
    obtain ⟨y, hy, h5⟩ := onOth_inv h
    rw [h5] at h ⊢
    obtain ⟨t', v, hv, h6⟩ := othIface_inv h
    rw [h6] at h ⊢
    obtain ⟨h7, h8⟩ := chk_inv h
    rw [h8]
    have ht : t = t' := Nat.eq_of_beq_eq_true h7
    subst ht
    refine ⟨_, T, n, [], rfl, Ran.pure (by intro x; simp [clsOf]) fun KH hK => ?_⟩
    rw [toC_av]
    exact st_typeAssert (ok := false) h3 h4 (show (valO E k st tm x).av = .iface t v by rw [valO_of h2, hy, hv]; rfl)
  · subst hF; exact absurd rfl h
end
end Go.Ab
