/- Plain laws of the Lean functions, or the contract of a function of the library. Conditions: those of each statement. -/
import Derived.Test.YtblaikeffnpagaaRS
set_option linter.unusedVariables false
set_option linter.unusedSimpArgs false
namespace Go.Proofs.Ytblaikeffnpagaa
open Go Go.Ab Go.Proofs Go.Shelf Go.RowKit Go.Lib Go.Sort
def lgLay_ren : Go.Shelf.Ren := ⟨fun | 14 => 51 | 20 => 53 | 21 => 54 | 22 => 55 | 23 => 56 | 24 => 57 | 25 => 58 | 26 => 59 | 27 => 60 | 46 => 63 | 47 => 64 | 48 => 65 | 49 => 66 | 50 => 67 | 15 => 52 | 57 => 68 | 28 => 61 | 29 => 62 | n => n, fun | 24 => 67 | 22 => 64 | 3 => 3 | 25 => 74 | 4 => 4 | 0 => 0 | 46 => 88 | 45 => 87 | 50 => 92 | 66 => 98 | 39 => 62 | 55 => 97 | 70 => 102 | 76 => 104 | 77 => 105 | 53 => 95 | 5 => 5 | 9 => 9 | n => n, fun | n => n⟩
theorem lgLay : Go.Proofs.SlLaysF0.n14 Try.prog lgLay_ren := {
  mixed := by kernel_rfl
  f14 := ⟨Try.f51.name, by decide, Try.func51.trans (congrArg some (by kernel_rfl))⟩
  f15 := Try.func52.trans (congrArg some (by kernel_rfl))
  f20 := ⟨Try.f53.name, by decide, Try.func53.trans (congrArg some (by kernel_rfl))⟩
  f21 := ⟨Try.f54.name, by decide, Try.func54.trans (congrArg some (by kernel_rfl))⟩
  f22 := ⟨Try.f55.name, by decide, Try.func55.trans (congrArg some (by kernel_rfl))⟩
  f23 := ⟨Try.f56.name, by decide, Try.func56.trans (congrArg some (by kernel_rfl))⟩
  f24 := ⟨Try.f57.name, by decide, Try.func57.trans (congrArg some (by kernel_rfl))⟩
  f25 := ⟨Try.f58.name, by decide, Try.func58.trans (congrArg some (by kernel_rfl))⟩
  f26 := ⟨Try.f59.name, by decide, Try.func59.trans (congrArg some (by kernel_rfl))⟩
  f27 := ⟨Try.f60.name, by decide, Try.func60.trans (congrArg some (by kernel_rfl))⟩
  f28 := Try.func61.trans (congrArg some (by kernel_rfl))
  f29 := Try.func62.trans (congrArg some (by kernel_rfl))
  f46 := ⟨Try.f63.name, by decide, Try.func63.trans (congrArg some (by kernel_rfl))⟩
  f47 := Try.func64.trans (congrArg some (by kernel_rfl))
  f48 := Try.func65.trans (congrArg some (by kernel_rfl))
  f49 := ⟨Try.f66.name, by decide, Try.func66.trans (congrArg some (by kernel_rfl))⟩
  f50 := ⟨Try.f67.name, by decide, Try.func67.trans (congrArg some (by kernel_rfl))⟩
  f57 := ⟨Try.f68.name, by decide, Try.func68.trans (congrArg some (by kernel_rfl))⟩
  t0 := Try.underlying0
  a0 := Try.isAgg0
  z0 := Try.sizeOf0
  v0 := Try.zeroValue0
  t3 := Try.underlying3
  a3 := Try.isAgg3
  z3 := Try.sizeOf3
  v3 := Try.zeroValue3
  t4 := Try.underlying4
  a4 := Try.isAgg4
  z4 := Try.sizeOf4
  v4 := Try.zeroValue4
  t5 := Try.underlying5
  a5 := Try.isAgg5
  z5 := Try.sizeOf5
  v5 := Try.zeroValue5
  t9 := Try.underlying9
  a9 := Try.isAgg9
  z9 := Try.sizeOf9
  v9 := Try.zeroValue9
  t22 := Try.underlying64
  a22 := Try.isAgg64
  z22 := Try.sizeOf64
  v22 := Try.zeroValue64
  t25 := Try.underlying74
  a25 := Try.isAgg74
  z25 := Try.sizeOf74
  v25 := Try.zeroValue74
  t39 := Try.underlying62
  a39 := Try.isAgg62
  z39 := Try.sizeOf62
  v39 := Try.zeroValue62
  t45 := Try.underlying87
  a45 := Try.isAgg87
  z45 := Try.sizeOf87
  v45 := Try.zeroValue87
  t46 := Try.underlying88
  a46 := Try.isAgg88
  z46 := Try.sizeOf88
  v46 := Try.zeroValue88
  t50 := Try.underlying92
  a50 := Try.isAgg92
  z50 := Try.sizeOf92
  v50 := Try.zeroValue92
  t53 := Try.underlying95
  a53 := Try.isAgg95
  z53 := Try.sizeOf95
  v53 := Try.zeroValue95
  t55 := Try.underlying97
  a55 := Try.isAgg97
  z55 := Try.sizeOf97
  v55 := Try.zeroValue97
  t66 := Try.underlying98
  a66 := Try.isAgg98
  z66 := Try.sizeOf98
  v66 := Try.zeroValue98
  t70 := Try.underlying102
  a70 := Try.isAgg102
  z70 := Try.sizeOf102
  v70 := Try.zeroValue102
  t76 := Try.underlying104
  a76 := Try.isAgg104
  z76 := Try.sizeOf104
  v76 := Try.zeroValue104
  t77 := Try.underlying105
  a77 := Try.isAgg105
  z77 := Try.sizeOf105
  v77 := Try.zeroValue105 }

/-- a contract over no memory: what it comes to in any world -/
theorem calls_none {P : Program} {f : FuncId} {J : FC} (h : CallOk P f J) {args : List AV} {v : AV} {D : Delta} (hk : J (AV × Delta) args [] 0 (fun v D => some (v, D)) = some (v, D)) {args' : Array Value} (hl : args.length = args'.size)
    (hv : ∀ (j : Nat) (x : AV) (y : Value), args[j]? = some x → args'[j]? = some y → VR (fun _ => (0, 0, 0)) [] x y) (w : World) :
    Calls P f args' w fun e w' => (∃ v' m', e = .returned v' ∧ VR m' (hput [] D) v v') ∧ ∃ q os, w' = Go.Sort.grow (w.drewN q) os := by
  obtain ⟨v1, D1, h1, _, h2⟩ := h _ args [] 0 _ _ hk
  cases h1
  have hs : Sim (fun _ => (0, 0, 0)) [] w := ⟨fun _ _ _ h => (by cases h), fun _ _ _ _ _ _ h => (by cases h)⟩
  refine (h2 (fun _ => (0, 0, 0)) [] w args' (SubH.refl _) (fun d _ _ => rfl) hs hl hv).mono fun e w' ⟨v', m', he, _, hr, ht⟩ => ⟨⟨v', m', he, hr⟩, w'.drawn - w.drawn, w'.heap.extract w.heap.size w'.heap.size, ?_⟩
  have hh : w'.heap = w.heap ++ w'.heap.extract w.heap.size w'.heap.size := by
    apply Array.ext_getElem?
    intro i
    have hsz := ht.size
    by_cases hi : i < w.heap.size
    · rw [Array.getElem?_append_left hi]
      rcases ht.frame i hi with e | ⟨c, c', e, fr, f1, f2, f3, f4⟩
      · exact e
      · have : c' = c := Array.ext f3 fun i h1 h2 => by
          have := f4 i (fun ⟨b', bk, md, g1, _⟩ => by cases g1)
          simp [h1, h2] at this
          exact this
        rw [f1, f2, this]
    · rw [Array.getElem?_append_right (by omega), Array.getElem?_extract]
      by_cases hi2 : i < w'.heap.size
      · rw [if_pos (by omega)]; congr 1; omega
      · rw [if_neg (by omega)]; simp; omega
  have hd : w'.drawn = w.drawn + (w'.drawn - w.drawn) := by have := ht.drawn; omega
  have e1 := ht.os; have e2 := ht.tape; have e3 := ht.output
  obtain ⟨heap, tape, drawn, os, output⟩ := w'
  simp only at hh hd e1 e2 e3
  unfold Go.Sort.grow World.drewN
  simp only
  rw [← hh, ← hd, e1, e2, e3]

theorem better_calls (x y : LG) (w : World) : Calls Try.prog 47 #[.agg (lgEnc x).toArray, .agg (lgEnc y).toArray] w fun e w' => e = .returned (.int .i64 (lgCf x y)) ∧ ∃ q os, w' = Go.Sort.grow (w.drewN q) os := by
  have hb : pitch_better x.1 x.2 y.1 y.2 = some (lgCf x y) := by
    obtain ⟨a0, a1⟩ := x
    obtain ⟨b0, b1⟩ := y
    unfold pitch_better lgCf lgB
    simp only [Prod.mk.injEq]
    by_cases h1 : a1 = b1
    · subst h1
      by_cases h2 : a0 < b0
      · simp [br, h2]
      · by_cases h3 : a0 = b0
        · subst h3; simp [br]
        · simp [br, h2, h3]
    · by_cases h2 : b1 < a1
      · simp [br, h1, h2]
      · simp [br, h1, h2]
  have hk : pitch_better.fn.r.J (AV × Delta) [.agg [.int .i64 x.1, .int .i64 x.2], .agg [.int .i64 y.1, .int .i64 y.2]] [] 0 (fun v D => some (v, D)) = (pitch_better x.1 x.2 y.1 y.2).bind fun r => some (.int .i64 r, []) := by kernel_rfl
  rw [hb] at hk
  refine (calls_none (f := 47) pitch_better.fn.ok hk rfl (fun j a b ha hb => ?_) w).mono fun e w' ⟨⟨v', m', he, hr⟩, hw⟩ => ⟨?_, hw⟩
  · match j, ha, hb with
    | 0, ha, hb =>
      cases ha; cases hb
      refine .agg _ _ rfl fun j a b ha hb => ?_
      match j, ha, hb with
      | 0, ha, hb => cases ha; cases hb; exact .int _ _
      | 1, ha, hb => cases ha; cases hb; exact .int _ _
      | _ + 2, ha, _ => simp at ha
    | 1, ha, hb =>
      cases ha; cases hb
      refine .agg _ _ rfl fun j a b ha hb => ?_
      match j, ha, hb with
      | 0, ha, hb => cases ha; cases hb; exact .int _ _
      | 1, ha, hb => cases ha; cases hb; exact .int _ _
      | _ + 2, ha, _ => simp at ha
    | _ + 2, ha, _ => simp at ha
  · rw [he]
    cases hr
    rfl

theorem lg_cmp (blk off size : Nat) (w : World) : CmpLays Try.prog 47 #[] lgEnc 2 lgCf blk off size w := fun m os dk _ x y => by
  have := better_calls x y (sortWorldK lgEnc 2 w blk off m dk os)
  simpa using this

def toP (r : List Int) : LG := (r.getD 0 0, r.getD 1 0)
theorem toP_row {r : List Int} (h : r.length = 2) : lgRow (toP r) = r := by
  match r, h with
  | [a, b], _ => rfl
theorem rows_toP {c : List (List Int)} (h : ∀ x ∈ c, x.length = 2) : (c.map toP).map lgRow = c := by
  rw [List.map_map]
  conv => rhs; rw [← List.map_id c]
  exact List.map_congr_left fun x hx => toP_row (h x hx)
theorem sortR_len (c : List (List Int)) : (sortR c).length = c.length := by
  have ins : ∀ (l : List (List Int)) r, (insR r l).length = l.length + 1 := by
    intro l
    induction l with
    | nil => intro r; rfl
    | cons s l ih => intro r; simp only [insR]; cases btR s r <;> simp [ih]
  induction c with
  | nil => rfl
  | cons r c ih => simp only [sortR, ins, ih, List.length_cons]

/-- a block of records of two whole numbers, and the kit's word for it -/
theorem holds_of {m : Map} {w : World} {c : List (List Int)} (hs : Sim m [.live (.recs [.i64, .i64] c) .rw] w) (hp : 0 < c.length) :
    (∀ x ∈ c, x.length = 2) ∧ (m 0).2.2 = c.length * 2 ∧ HoldsK lgEnc 2 w (m 0).1 (m 0).2.1 (c.map toP).toArray ∧ ∃ cc e fr, w.heap[(m 0).1]? = some (.cells cc e fr) ∧ (m 0).2.1 + c.length * 2 ≤ cc.size ∧
      (∀ j, (m 0).2.1 ≤ j → j < (m 0).2.1 + c.length * 2 → w.frozen? ⟨(m 0).1, j, none⟩ = false) := by
  obtain ⟨⟨_, ok⟩, b2, b3, b4⟩ := hs.blk 0 _ _ rfl
  have e2 : (m 0).2.2 = c.length * 2 := by have := b3 (by simp); simpa [Blk.num, Blk.str] using this
  obtain ⟨cc, e, fr, g1, g2, g3, g4, g5⟩ := b4 (by omega)
  rw [e2] at g2 g3 g4
  refine ⟨fun x hx => by simpa using ok x hx, e2, ?_, cc, e, fr, g1, g2, g3 (by simp)⟩
  unfold HoldsK
  intro j hj
  rw [size_flatK] at hj
  simp only [List.size_toArray, List.length_map] at hj
  refine ⟨?_, g3 (by simp) _ (by omega) (by omega)⟩
  obtain ⟨x, v, k1, k2, k3⟩ := g5 (j / 2) (j % 2) (by simp only [Blk.num]; omega) (by simp only [Blk.str, List.length_cons, List.length_nil]; omega)
  have hj2 : j / 2 < c.length := by omega
  rw [get_flatK _ _ _ _ (by simpa using hj)]
  have hd : ((c.map toP).toArray)[j / 2]! = toP c[j / 2] := by
    rw [getElem!_pos _ _ (by simpa using hj2)]; simp
  rw [hd]
  have hcell : w.cell? ⟨(m 0).1, (m 0).2.1 + j, none⟩ = some v := by
    unfold World.cell?
    simp only [g1]
    have : (m 0).2.1 + (j / 2 * (Blk.recs [.i64, .i64] c).str + j % 2) = (m 0).2.1 + j := by simp only [Blk.str, List.length_cons, List.length_nil]; omega
    rw [this] at k2
    simpa using k2
  rw [hcell]
  have hrow : c.getD (j / 2) [] = c[j / 2] := by simp [List.getD_eq_getElem?_getD, hj2]
  rcases Nat.mod_two_eq_zero_or_one j with h | h
  · rw [h] at k1 ⊢
    simp only [Blk.ld, hrow] at k1
    cases k1; cases k3
    simp [lgEnc, toP]
  · rw [h] at k1 ⊢
    simp only [Blk.ld, hrow] at k1
    cases k1; cases k3
    simp [lgEnc, toP]

/-- the world behind the sort -/
theorem sorted_world {m : Map} {w : World} {c : List (List Int)} (hs : Sim m [.live (.recs [.i64, .i64] c) .rw] w) (hp : 0 < c.length) (d : List LG) (hd : d.length = c.length) (n : Nat) (os : Array Obj) :
    Sim m [.live (.recs [.i64, .i64] (d.map lgRow)) .rw] (sortWorldK lgEnc 2 w (m 0).1 (m 0).2.1 n d.toArray os) ∧
    Tr m [.live (.recs [.i64, .i64] c) .rw] w m [.live (.recs [.i64, .i64] (d.map lgRow)) .rw] (sortWorldK lgEnc 2 w (m 0).1 (m 0).2.1 n d.toArray os) := by
  obtain ⟨hrow, e2, hH, cc, e, fr, g1, g2, g3⟩ := holds_of hs hp
  have hblk : (m 0).1 < w.heap.size := (Array.getElem?_eq_some_iff.1 g1).1
  have hH2 : HoldsK lgEnc 2 (sortWorldK lgEnc 2 w (m 0).1 (m 0).2.1 n d.toArray os) (m 0).1 (m 0).2.1 d.toArray :=
    holdsK_sortWorldK_c lgEnc 2 w _ _ _ d.toArray n os hH hblk (by simp [hd])
  -- its heap
  have hsz : (sortWorldK lgEnc 2 w (m 0).1 (m 0).2.1 n d.toArray os).heap.size = w.heap.size + os.size := by
    unfold sortWorldK
    rw [size_grow, size_putRowK]; rfl
  have hoth : ∀ b, b < w.heap.size → b ≠ (m 0).1 → (sortWorldK lgEnc 2 w (m 0).1 (m 0).2.1 n d.toArray os).heap[b]? = w.heap[b]? := by
    intro b hb hne
    show ((putRow id (Sort.ahead w n) (m 0).1 (m 0).2.1 (flatK lgEnc 2 d.toArray)).heap ++ os)[b]? = _
    have h1 : (putRow id (Sort.ahead w n) (m 0).1 (m 0).2.1 (flatK lgEnc 2 d.toArray)).heap.size = w.heap.size := by simp [putRow, mapBlock, Sort.ahead]
    rw [Array.getElem?_append_left (by omega)]
    simp only [putRow, mapBlock, Sort.ahead, Array.getElem?_modify]
    rw [if_neg (fun h => hne h.symm)]
  have hthis : (sortWorldK lgEnc 2 w (m 0).1 (m 0).2.1 n d.toArray os).heap[(m 0).1]? = some (.cells (putCells id (m 0).2.1 (flatK lgEnc 2 d.toArray) cc) e fr) := by
    show ((putRow id (Sort.ahead w n) (m 0).1 (m 0).2.1 (flatK lgEnc 2 d.toArray)).heap ++ os)[(m 0).1]? = _
    have h1 : (putRow id (Sort.ahead w n) (m 0).1 (m 0).2.1 (flatK lgEnc 2 d.toArray)).heap.size = w.heap.size := by simp [putRow, mapBlock, Sort.ahead]
    rw [Array.getElem?_append_left (by omega)]
    simp only [putRow, mapBlock, Sort.ahead, Array.getElem?_modify, if_true, g1]
    rfl
  have hcs : (putCells id (m 0).2.1 (flatK lgEnc 2 d.toArray) cc).size = cc.size := by simp [putCells]
  have hput : ∀ o, (o < (m 0).2.1 ∨ (m 0).2.1 + c.length * 2 ≤ o) → (putCells id (m 0).2.1 (flatK lgEnc 2 d.toArray) cc)[o]? = cc[o]? := by
    intro o ho
    simp only [putCells, Array.getElem?_mapIdx, size_flatK, List.size_toArray, hd]
    rw [show (fun x => if (m 0).2.1 ≤ o ∧ o < (m 0).2.1 + c.length * 2 then id (flatK lgEnc 2 d.toArray)[o - (m 0).2.1]! else x) = id from by funext x; rw [if_neg (by omega)]; rfl]
    simp
  have hcell : ∀ j, j < c.length * 2 → (putCells id (m 0).2.1 (flatK lgEnc 2 d.toArray) cc)[(m 0).2.1 + j]? = some (lgEnc (d[j / 2]!))[j % 2]! := by
    intro j hj
    have := (hH2 j (by rw [size_flatK]; simpa [hd] using hj)).1
    rw [get_flatK _ _ _ _ (by simpa [hd] using hj)] at this
    unfold World.cell? at this
    simp only [hthis] at this
    have hj2 : j / 2 < d.length := by omega
    have e3 : (d.toArray)[j / 2]! = d[j / 2]! := by simp
    rw [e3] at this
    simpa using this
  have hfz : ∀ j, (sortWorldK lgEnc 2 w (m 0).1 (m 0).2.1 n d.toArray os).frozen? ⟨(m 0).1, j, none⟩ = w.frozen? ⟨(m 0).1, j, none⟩ := by
    intro j
    unfold World.frozen?
    simp only [hthis, g1]
  constructor
  · refine ⟨fun b bk md hg => ?_, fun b b' bk md bk' md' hg hg' hne _ => ?_⟩
    · match b, hg with
      | 0, hg =>
        cases hg
        refine ⟨⟨by simp, fun x hx => ?_⟩, ?_, fun _ => ?_, fun _ => ⟨_, e, fr, hthis, by rw [hcs, e2]; exact g2, fun _ j h1 h2 => ?_, fun j h1 h2 v hv => ?_, fun i fo hi hf => ?_⟩⟩
        · obtain ⟨p, _, rfl⟩ := List.mem_map.1 hx; rfl
        · simp [Blk.num, Blk.str, e2, hd]
        · simp [Blk.num, Blk.str, e2, hd]
        · rw [hfz]; exact g3 j h1 (by rw [e2] at h2; exact h2)
        · rw [e2] at h2
          have := hcell (j - (m 0).2.1) (by omega)
          rw [show (m 0).2.1 + (j - (m 0).2.1) = j by omega, hv] at this
          cases this
          rcases Nat.mod_two_eq_zero_or_one (j - (m 0).2.1) with h | h <;> rw [h] <;> rfl
        · simp only [Blk.num, List.length_map] at hi
          simp only [Blk.str, List.length_cons, List.length_nil] at hf
          have hc := hcell (i * 2 + fo) (by omega)
          rw [show (i * 2 + fo) / 2 = i by omega, show (i * 2 + fo) % 2 = fo by omega, getElem!_pos d i hi] at hc
          have hrw : (d.map lgRow).getD i [] = lgRow d[i] := by simp [List.getD_eq_getElem?_getD, hi]
          simp only [Blk.str, List.length_cons, List.length_nil]
          match fo, hf with
          | 0, _ => exact ⟨_, _, by simp only [Blk.ld, hrw]; rfl, hc, .int _ _⟩
          | 1, _ => exact ⟨_, _, by simp only [Blk.ld, hrw]; rfl, hc, .int _ _⟩
      | _ + 1, hg => cases hg
    · match b, b', hg, hg' with
      | 0, 0, _, _ => exact absurd rfl hne
      | 0, _ + 1, _, hg' => cases hg'
      | _ + 1, _, hg, _ => cases hg
  · refine ⟨⟨fun b hb => ?_, fun b bk' md' hb hg => ?_⟩, rfl, rfl, rfl, ?_, by rw [hsz]; omega, fun b hb => ?_, fun b o hw => .inr ?_⟩
    · match b, hb with
      | 0, _ => rfl
      | _ + 1, hb => cases hb
    · match b, hg with
      | 0, hg => cases hg; exact ⟨_, rfl, by simp [Blk.num, hd], rfl, rfl⟩
      | _ + 1, hg => cases hg
    · show w.drawn ≤ w.drawn + n; omega
    · by_cases h : b = (m 0).1
      · subst h
        exact .inr ⟨cc, _, e, fr, g1, hthis, hcs, fun o ho => hput o (by
          apply Classical.byContradiction
          intro hn
          exact ho ⟨0, _, _, rfl, by simp, rfl, by omega, by rw [e2]; omega⟩)⟩
      · exact .inl (hoth b hb h)
    · obtain ⟨b', bk, md, q1, q2, q3, q4, q5⟩ := hw
      match b', q1 with
      | 0, q1 => cases q1; exact ⟨0, _, _, rfl, by simp, q3, q4, q5⟩
      | _ + 1, q1 => cases q1

theorem slices_pdq.ok : CallOk Try.prog 51 slices_pdq.R.J := by
  refine ext_ok (f := 51) (fn := Try.f51) (g := fun ls => (rdT (psK slices_pdq.ps slices_pdq.bs) ls).bind slices_pdq.g) (out := fun o => (tget (fiS slices_pdq.x.2 [.lr o]).tmps 0, (fiS slices_pdq.x.2 [.lr o]).heap)) (outK := fun X o k => finOut slices_pdq.x [] o k)
    Try.func51 (by kernel_rfl) (by kernel_rfl) (fun X o k => rfl) ?_
  intro ls o hg m w args' hsim hlen hvr
  obtain ⟨dd, h1, h2⟩ := Option.bind_eq_some_iff.1 hg
  have hls := rdT_mk _ _ _ h1
  obtain ⟨a, b, lim, c⟩ : Int × Int × Int × List (List Int) := dd
  have hls : ls = [.i a, .i b, .i lim, .lr c] := hls
  subst hls
  have h2 : need (a = 0 ∧ b = (c.length : Int) ∧ 0 ≤ lim ∧ lim < 4611686018427387904 ∧ b < 4611686018427387904) (some (sortR c)) = some o := h2
  obtain ⟨hc, h3⟩ := need_some h2
  clear h2
  have ho : sortR c = o := Option.some.inj h3
  clear h3
  · obtain ⟨rfl, rfl, hl0, hl1, hb1⟩ := hc
    subst ho
    have hsim : Sim m [.live (.recs [.i64, .i64] c) .rw] w := hsim
    have hlen : 5 = args'.size := hlen
    have hvr : ∀ (j : Nat) (x : AV) (y : Value), [AV.whole 0, .int .i64 0, .int .i64 (c.length : Int), .int .i64 lim, .func (.func 47) [] []][j]? = some x → args'[j]? = some y → VR m [.live (.recs [.i64, .i64] c) .rw] x y := hvr
    have hout : (tget (fiS slices_pdq.x.2 [.lr (sortR c)]).tmps 0, (fiS slices_pdq.x.2 [.lr (sortR c)]).heap) = (AV.tuple [], [Ent.live (.recs [.i64, .i64] (sortR c)) .rw]) := by kernel_rfl
    simp only [hout]
    obtain ⟨v0, v1, v2, v3, v4, rfl⟩ : ∃ v0 v1 v2 v3 v4, args' = #[v0, v1, v2, v3, v4] := by
      obtain ⟨l⟩ := args'
      match l, hlen with
      | [a, b, c, d, e], _ => exact ⟨a, b, c, d, e, rfl⟩
    have r0 := hvr 0 _ v0 rfl rfl
    have r1 := hvr 1 _ v1 rfl rfl
    have r2 := hvr 2 _ v2 rfl rfl
    have r3 := hvr 3 _ v3 rfl rfl
    have r4 := hvr 4 _ v4 rfl rfl
    cases r1; cases r2; cases r3
    cases r4 with
    | func _ _ _ f' c' q1 q2 =>
      have hf' : f' = #[] := Array.eq_empty_of_size_eq_zero (by simpa using q1.symm)
      have hc' : c' = #[] := Array.eq_empty_of_size_eq_zero (by simpa using q2.symm)
      subst hf' hc'
      cases r0 with
      | whole _ ad nn cap hkn hh =>
        obtain ⟨rfl, s1, s2, s3⟩ := hh _ _ rfl
        have hnum : (Blk.recs [.i64, .i64] c).num = c.length := rfl
        rw [hnum] at s1 ⊢
        obtain ⟨lm, rfl⟩ := Int.eq_ofNat_of_zero_le hl0
        by_cases hz : c.length = 0
        · obtain rfl : c = [] := List.length_eq_zero_iff.1 hz
          exact (AnyF.pdqsortCmpFunc_none { lgLay with } ad cap (lm : Int) (.func (.func 47) #[] #[]) w).mono fun e w' ⟨he, hw⟩ => ⟨_, m, he, .tuple _ _ rfl (fun j x y hx => by simp at hx), by subst hw; exact hsim, by subst hw; exact Tr.refl _ _ _⟩
        · obtain ⟨hrow, e2, hH, cc, e, fr, g1, g2, g3⟩ := holds_of hsim (by omega)
          have had := s3 (by omega)
          rw [Nat.zero_mul, Nat.add_zero] at had
          subst had
          have hblk : (m 0).1 < w.heap.size := (Array.getElem?_eq_some_iff.1 g1).1
          have eg : ∀ args w, (callFunc 47 args).run Try.prog w = .ok (.enter 47 args) w := enters_of Try.func47 (by kernel_rfl) rfl
          have hds : ((c.map toP).toArray).size = c.length := by simp
          have hswo : SWO (ltOf lgCf) := by rw [lt_lgCf]; exact lg_swo
          have hcon := AnyQ.pdqsortCmpFunc_all (P := Try.prog) (ρ := lgLay_ren) lgLay 2 Try.isAgg67 Try.sizeOf67 lgEnc lgCf 47 #[] hswo (m 0).1 (m 0).2.1 cap (c.map toP).toArray w eg (lg_cmp _ _ _ w)
            ⟨fun _ => rfl, fun x v hv => by simp [lgEnc] at hv; rcases hv with rfl | rfl <;> rfl, hH, hblk⟩ (c.length + 1) 0 c.length lm (c.map toP).toArray w (by omega) rfl (SWK.start hH) (by omega) (by omega) (by omega) (by omega) (.inl rfl)
          rw [hds] at hcon
          have hsort := pdq_sorts (ltOf lgCf) hswo (c.map toP).toArray 0 c.length lm true true (by omega) (by omega) (.inl rfl)
          have hone := sorted_unique_holds hswo (fun x y => by rw [lt_lgCf]; exact lg_tot x y) (c.map toP).toArray _ (by rw [hds]; exact hsort.1) (by rw [hds]; exact hsort.2)
          have hls : ((c.map toP).mergeSort fun x y => !ltOf lgCf y x) = sortP (c.map toP) := by rw [lt_lgCf]; exact merge_sortP _
          rw [show ((c.map toP).toArray).toList = c.map toP from rfl, hls] at hone
          refine hcon.mono fun e w' ⟨he, n, os, hw⟩ => ?_
          have hsr : sortR c = (sortP (c.map toP)).map lgRow := by rw [← sortR_map, rows_toP hrow]
          obtain ⟨t1, t2⟩ := sorted_world hsim (by omega) (sortP (c.map toP)) (by rw [(sortP_perm _).length_eq]; simp) n os
          rw [hsr]
          rw [show pdq (ltOf lgCf) (c.map toP).toArray 0 c.length lm true true = (sortP (c.map toP)).toArray by rw [← hone, Array.toArray_toList]] at hw
          subst hw
          exact ⟨_, m, he, .tuple _ _ rfl (fun j x y hx => by simp at hx), t1, t2⟩
noncomputable def slices_pdq.fn : AbFn Try.prog := ⟨slices_pdq.R, slices_pdq.ok⟩
end Go.Proofs.Ytblaikeffnpagaa
