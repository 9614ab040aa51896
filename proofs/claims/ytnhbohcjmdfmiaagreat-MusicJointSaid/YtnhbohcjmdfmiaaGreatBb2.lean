/- An evaluator for the model's code over typed, abstract blocks, with its soundness, part 2 of 6: laws of any program; their conditions stand in each. -/
import Derived.Test.YtnhbohcjmdfmiaaGreatBb1
set_option linter.unusedVariables false
set_option linter.unusedSimpArgs false
section
/- Literals of slices, structs and arrays. No condition. -/
namespace Go.Ab
open Go

theorem fold_list (off : Nat) : ∀ (vs : List Value) (k : Nat) (cs : Array Value),
    ((vs.zipIdx k).foldl (fun cs (p : Value × Nat) => cs.setIfInBounds (off + p.2) p.1) cs).size = cs.size ∧
    ∀ q, ((vs.zipIdx k).foldl (fun cs (p : Value × Nat) => cs.setIfInBounds (off + p.2) p.1) cs)[q]? = if off + k ≤ q ∧ q < off + k + vs.length ∧ q < cs.size then vs[q - (off + k)]? else cs[q]?
  | [], k, cs => by simp; intro q _ _; omega
  | v :: vs, k, cs => by
    rw [List.zipIdx_cons, List.foldl_cons]
    obtain ⟨h1, h2⟩ := fold_list off vs (k + 1) (cs.setIfInBounds (off + k) v)
    refine ⟨by rw [h1]; simp, fun q => ?_⟩
    rw [h2 q]
    simp only [Array.size_setIfInBounds, List.length_cons, Array.getElem?_setIfInBounds]
    by_cases c1 : off + (k + 1) ≤ q ∧ q < off + (k + 1) + vs.length ∧ q < cs.size
    · rw [if_pos c1, if_pos (by omega), show q - (off + k) = q - (off + (k + 1)) + 1 by omega, List.getElem?_cons_succ]
    · rw [if_neg c1]
      by_cases c2 : off + k = q
      · rw [if_pos c2]
        by_cases c3 : off + k < cs.size
        · rw [if_pos c3, if_pos (by omega), show q - (off + k) = 0 by omega]; rfl
        · rw [if_neg c3, if_neg (by omega), Array.getElem?_eq_none (by omega)]
      · rw [if_neg c2, if_neg (by omega)]

theorem fold_set (vs : Array Value) (off : Nat) (cs : Array Value) :
    (vs.zipIdx.foldl (fun cs (p : Value × Nat) => cs.setIfInBounds (off + p.2) p.1) cs).size = cs.size ∧
    ∀ q, (vs.zipIdx.foldl (fun cs (p : Value × Nat) => cs.setIfInBounds (off + p.2) p.1) cs)[q]? = if off ≤ q ∧ q < off + vs.size ∧ q < cs.size then vs[q - off]? else cs[q]? := by
  rw [← Array.foldl_toList, Array.toList_zipIdx]
  have := fold_list off vs.toList 0 cs
  simpa using this

/-- cells hold what a block says -/
structure CR (m : Map) (H : Heap) (bk : Blk) (c : Array Value) : Prop where
  ok : bk.ok
  size : c.size = bk.num * bk.str
  one : ∀ (j : Nat) (v : Value), c[j]? = some v → v.oneCell' = true
  at_ : ∀ i fo, i < bk.num → fo < bk.str → ∃ x v, bk.ld i fo = some x ∧ c[i * bk.str + fo]? = some v ∧ VR m H x v

theorem fillB_sound {m : Map} {H : Heap} {size : Nat} : ∀ (parts : List (Nat × AV)) (parts' : List (Nat × Value)) (bk bk' : Blk) (c : Array Value), CR m H bk c → bk.str = size → parts.length = parts'.length →
    (∀ (j : Nat) (x : Nat × AV) (y : Nat × Value), parts[j]? = some x → parts'[j]? = some y → x.1 = y.1 ∧ VR m H x.2 y.2) → fillB parts bk = some bk' →
    ∃ c', Instr.fill (fun i => some (i * size, size)) c parts' = some c' ∧ CR m H bk' c' ∧ bk'.num = bk.num ∧ bk'.str = bk.str
  | [], parts', bk, bk', c, hc, _, hl, _, h => by
    obtain rfl : parts' = [] := List.eq_nil_of_length_eq_zero (by simpa using hl.symm)
    simp only [fillB, Option.some.injEq] at h
    subst h
    exact ⟨c, rfl, hc, rfl, rfl⟩
  | (i, x) :: parts, parts', bk, bk', c, hc, hs, hl, hv, h => by
    cases parts' with
    | nil => simp at hl
    | cons y parts' =>
      obtain ⟨i', v⟩ := y
      obtain ⟨hii, hx⟩ := hv 0 (i, x) (i', v) rfl rfl
      have hx : VR m H x v := hx
      obtain rfl : i = i' := hii
      simp only [fillB] at h
      split at h
      · rename_i hi
        split at h
        · rename_i bk1 h1
          obtain ⟨a1, a2, a3, a4, a5⟩ := stA_sound h1 hc.ok hi.1 (by omega)
          have hcell : (cellsOf x).all isCell = true := List.all_eq_true.2 a4
          obtain ⟨c1, c2⟩ := hx.cells hcell
          have c3 := hx.cells_one hcell
          have hvs : v.cells.size = size := by rw [← c1, hi.2, hs]
          have hin : i * size + size ≤ c.size := by
            rw [hc.size, hs]
            have : (i + 1) * size ≤ bk.num * size := Nat.mul_le_mul_right _ hi.1
            rw [Nat.add_mul] at this
            omega
          obtain ⟨f1, f2⟩ := fold_set v.cells (i * size) c
          have hcr : CR m H bk1 (v.cells.zipIdx.foldl (fun cs (p : Value × Nat) => cs.setIfInBounds (i * size + p.2) p.1) c) := by
            refine ⟨a3, by rw [f1, hc.size, a1, a2], fun j u hu => ?_, fun j fo hj hf => ?_⟩
            · rw [f2] at hu
              split at hu
              · exact c3 u (List.mem_of_getElem? (by simpa using hu))
              · exact hc.one j u hu
            · rw [a1] at hj
              rw [a2] at hf
              have hin' := cell_in hj hf
              rw [a5 j fo hj hf, f2, a2]
              by_cases e : j = i
              · subst e
                rw [if_pos ⟨rfl, by omega, by omega⟩, if_pos ⟨by rw [hs]; omega, by rw [hs]; omega, by rw [hc.size]; exact hin'⟩]
                have h2 : fo < (cellsOf x).length := by omega
                have h3 : fo < v.cells.size := by omega
                have e4 : j * bk.str + fo - j * size = fo := by rw [hs]; omega
                refine ⟨(cellsOf x)[fo], v.cells[fo], by simp [h2], by rw [e4]; simp [h3], c2 fo _ _ (by simp [h2]) (by simp [h3])⟩
              · rw [if_neg (fun hh => e hh.1), if_neg]
                · exact hc.at_ j fo hj hf
                · rw [hs]
                  intro hh
                  apply e
                  have e1 : j * size + fo = i * size + (j * size + fo - i * size) := by omega
                  exact (pair_eq (by omega) (by omega) e1).1
          obtain ⟨c', q1, q2, q3, q4⟩ := fillB_sound (size := size) parts parts' bk1 bk' _ hcr (by omega) (by simpa using hl) (fun j x y hx hy => hv (j + 1) x y (by simpa using hx) (by simpa using hy)) h
          refine ⟨c', ?_, q2, by omega, by omega⟩
          simp only [Instr.fill]
          rw [if_neg]
          · exact q1
          · simp [hvs]; omega
        · cases h
      · cases h

theorem buildSlice_sound {P : Program} {m : Map} {H : Heap} {w : World} (h : Sim m H w) {q : Nat} (hq : hkn H q = false) {t el : TypeId} {z : ZK} {len : Nat} {parts : List (Nat × AV)} {parts' : Array (Nat × Value)} {bk : Blk} (ht : P.underlying t = some (.slice el)) (hz : zk P el = some z)
    (hsz : len * (newB z 0).str ≤ 16777216) (hl : parts.length = parts'.size)
    (hv : ∀ (j : Nat) (x : Nat × AV) (y : Nat × Value), parts[j]? = some x → parts'[j]? = some y → x.1 = y.1 ∧ VR m H x.2 y.2) (hf : fillB parts (newB z len) = some bk) :
    ∃ v m' w', (Instr.buildSlice t len parts').run P w = .ok v w' ∧ Sim m' (hfill H q (.live (bk) .own)) w' ∧ VR m' (hfill H q (.live (bk) .own)) (.whole q) v ∧ Tr m H w m' (hfill H q (.live (bk) .own)) w' := by
  obtain ⟨vs, hvs, hnew⟩ := zk_sound hz
  obtain ⟨i, zv, h1, h2, h3, h4, h5, h6⟩ := zerosOf_sound hvs
  obtain ⟨n1, n2, n3, n4⟩ := hnew m H len
  obtain ⟨_, _, n3', _⟩ := hnew m H 0
  have hlen : vs.length = i.size := by rw [h5]; simp [h3]
  have hcr : CR m H (newB z len) (madeCells zv.cells (len * i.size)) :=
    ⟨n1, by rw [size_madeCells, n2, n3, hlen], fun j v hv => madeCells_one _ _ (by rw [← h5]; exact h6) (by omega) j v hv, fun j fo hj hf => by
      rw [n2] at hj
      rw [n3] at hf
      obtain ⟨x, v, k1, k2, k3⟩ := n4 j fo hj hf
      refine ⟨x, v, k1, ?_, k3⟩
      rw [n3, hlen, madeCells_get zv.cells len i.size j fo h3 hj (by omega)]
      rw [h5] at k2
      simpa using k2⟩
  obtain ⟨c', q1, q2, q3, q4⟩ := fillB_sound (size := i.size) parts parts'.toList _ bk _ hcr (by rw [n3, hlen]) (by simpa using hl) (fun j x y hx hy => hv j x y hx (by simpa using hy)) hf
  have hc' : c'.size = len * i.size := by rw [q2.size, q3, q4, n2, n3, hlen]
  obtain ⟨s1, s2⟩ := h.new hq (w' := w.alloc (.cells c' el)) (bk := bk) (c := c') (e := el) q2.ok (by rw [q2.size]; exact Nat.le_refl _) rfl rfl rfl rfl (Nat.le_refl _) q2.one q2.at_
  have hw := VR.newWhole (m := m) (H := H) (n := q) (bk := bk) (g := w.heap.size) (s := c'.size) (cap := len) (a := some ⟨w.heap.size, 0, none⟩) (by omega) (by rw [q4, n3, hlen, hc']) q2.ok (fun _ => rfl) (by simp)
  rw [show bk.num = len by omega] at hw
  refine ⟨_, _, _, ?_, s1, hw, s2⟩
  have hlt : ¬ (len * i.size > 2 ^ 24) := by
    rw [n3', hlen] at hsz
    omega
  by_cases hz0 : len * i.size = 0
  · have e0 : madeCells zv.cells (len * i.size) = #[] := by
      apply Array.eq_empty_of_size_eq_zero
      rw [size_madeCells, hz0]
    have e1 : (Array.map (fun _ : Nat => (default : Value)) (Array.range 0)) = #[] := by
      apply Array.eq_empty_of_size_eq_zero
      simp
    rw [e0, ← e1] at q1
    simp [Instr.buildSlice, run_underlying ht, sizeOf, typeInfo, h1, hz0, newRow]
    rw [q1]
    simp
  · rw [show madeCells zv.cells (len * i.size) = (Array.range (len * i.size)).map (zv.cells[· % zv.cells.size]!) from rfl] at q1
    simp only [gt_iff_lt] at hlt
    simp [Instr.buildSlice, run_underlying ht, sizeOf, typeInfo, zeroValue, h1, h2, hz0, hlt, newRow, q1]

end Go.Ab
end

section
/- append. No condition. -/
namespace Go.Ab
open Go

/-- a slice value holds what a block says -/
structure RD (m : Map) (H : Heap) (w : World) (bk : Blk) (a : Option Addr) (n : Nat) (cs : List Value) : Prop where
  ok : bk.ok
  num : n = bk.num
  len : cs.length = n * bk.str
  addr : 0 < n → ∃ ad, a = some ad ∧ ∀ j v, cs[j]? = some v → w.cell? (ad.add j) = some v
  one : ∀ v ∈ cs, v.oneCell' = true
  at_ : ∀ i fo, i < bk.num → fo < bk.str → ∃ x v, bk.ld i fo = some x ∧ cs[i * bk.str + fo]? = some v ∧ VR m H x v

theorem RD.empty {m : Map} {H : Heap} {w : World} {bk : Blk} {a : Option Addr} (hok : bk.ok) (h0 : bk.num = 0) : RD m H w bk a 0 [] :=
  ⟨hok, h0.symm, by simp, fun h => absurd h (by omega), by simp, fun i fo hi => by omega⟩

theorem get_drop_take {α : Type} (l : List α) (o n i : Nat) (hi : i < n) : ((l.drop o).take n)[i]? = l[o + i]? := by
  rw [List.getElem?_take, if_pos hi, List.getElem?_drop]

/-- part of a block, as a block of its own -/
theorem sub_ld {bk sb : Blk} {off len : Nat} (hle : off + len ≤ bk.num) (hs : bk.sub off len = sb) (hok : bk.ok) :
    sb.ok ∧ sb.num = len ∧ sb.str = bk.str ∧ ∀ i fo, i < len → fo < bk.str → sb.ld i fo = bk.ld (off + i) fo := by
  subst hs
  cases bk with
  | ints k l =>
    simp only [Blk.num] at hle
    refine ⟨trivial, by simp [Blk.sub, Blk.num]; omega, rfl, fun i fo hi hf => ?_⟩
    simp only [Blk.str] at hf
    obtain rfl : fo = 0 := by omega
    simp only [Blk.sub, Blk.ld, List.getD_eq_getElem?_getD, get_drop_take _ _ _ _ hi]
  | recs ks l =>
    simp only [Blk.num] at hle
    refine ⟨⟨hok.1, fun x hx => hok.2 x (List.mem_of_mem_drop (List.mem_of_mem_take hx))⟩, by simp [Blk.sub, Blk.num]; omega, rfl, fun i fo hi hf => ?_⟩
    simp only [Blk.sub, Blk.ld, List.getD_eq_getElem?_getD, get_drop_take _ _ _ _ hi]
  | vals n l =>
    simp only [Blk.num] at hle
    have hpos : 0 < n := hok.1
    have hl : off * n + len * n ≤ l.length := by
      have h1 : (off + len) * n ≤ l.length / n * n := Nat.mul_le_mul_right _ hle
      have h2 := Nat.div_mul_le_self l.length n
      rw [Nat.add_mul] at h1
      omega
    have hlen : ((l.drop (off * n)).take (len * n)).length = len * n := by simp; omega
    refine ⟨⟨hpos, by rw [hlen]; exact Nat.mul_mod_left _ _⟩, ?_, rfl, fun i fo hi hf => ?_⟩
    · simp only [Blk.sub, Blk.num, List.length_take, List.length_drop]
      rw [show min (len * n) (l.length - off * n) = len * n by omega]
      exact Nat.mul_div_cancel _ hpos
    · simp only [Blk.str] at hf
      have : i * n + fo < len * n := by
        have : (i + 1) * n ≤ len * n := Nat.mul_le_mul_right _ hi
        rw [Nat.add_mul] at this
        omega
      simp only [Blk.sub, Blk.ld, get_drop_take _ _ _ _ this]
      congr 1
      rw [Nat.add_mul]; omega

theorem cells_list {m : Map} {H : Heap} {w : World} (h : Sim m H w) {b : Nat} {bk : Blk} {md : Md} (hb : hget H b = some (bk, md)) (off : Nat) : ∀ len, off + len ≤ bk.num →
    ∃ cs : List Value, cs.length = len * bk.str ∧ (∀ j v, cs[j]? = some v → w.cell? ⟨(m b).1, (m b).2.1 + off * bk.str + j, none⟩ = some v) ∧ (∀ v ∈ cs, v.oneCell' = true) ∧
      ∀ i fo, i < len → fo < bk.str → ∃ x v, bk.ld (off + i) fo = some x ∧ cs[i * bk.str + fo]? = some v ∧ VR m H x v := by
  intro len hle
  obtain ⟨B1, B2, B3, B5⟩ := h.blk b bk md hb
  by_cases hz : len = 0
  · subst hz
    exact ⟨[], by simp, fun j v hv => by simp at hv, by simp, fun i fo hi => by omega⟩
  · have hpos := B1.pos
    have h1 : (off + len) * bk.str ≤ bk.num * bk.str := Nat.mul_le_mul_right _ hle
    rw [Nat.add_mul] at h1
    have h2 : 0 < len * bk.str := Nat.mul_pos (by omega) hpos
    obtain ⟨c, e, fr, g1, g2, g3, g4, g5⟩ := B5 (by omega)
    have hin : ∀ j, j < len * bk.str → (m b).2.1 + off * bk.str + j < c.size := fun j hj => by omega
    refine ⟨(c.toList.drop ((m b).2.1 + off * bk.str)).take (len * bk.str), by simp; omega, fun j v hv => ?_, fun v hv => ?_, fun i fo hi hf => ?_⟩
    · have hj : j < len * bk.str := by
        have := (List.getElem?_eq_some_iff.1 hv).1
        simp at this; omega
      rw [get_drop_take _ _ _ _ hj] at hv
      simp [World.cell?, g1]
      simpa using hv
    · obtain ⟨j, hj⟩ := List.mem_iff_getElem?.1 hv
      have hjl : j < len * bk.str := by
        have := (List.getElem?_eq_some_iff.1 hj).1
        simp at this; omega
      rw [get_drop_take _ _ _ _ hjl] at hj
      exact g4 ((m b).2.1 + off * bk.str + j) (by omega) (by omega) v (by simpa using hj)
    · obtain ⟨x, v, k1, k2, k3⟩ := g5 (off + i) fo (by omega) hf
      refine ⟨x, v, k1, ?_, k3⟩
      have hj : i * bk.str + fo < len * bk.str := by
        have : (i + 1) * bk.str ≤ len * bk.str := Nat.mul_le_mul_right _ hi
        rw [Nat.add_mul] at this
        omega
      rw [get_drop_take _ _ _ _ hj]
      rw [Nat.add_mul] at k2
      rw [Array.getElem?_toList]
      rw [show (m b).2.1 + off * bk.str + (i * bk.str + fo) = (m b).2.1 + (off * bk.str + i * bk.str + fo) by omega]
      exact k2

theorem content_sound {m : Map} {H : Heap} {w : World} (h : Sim m H w) {s : AV} {v : Value} (hs : VR m H s v) {r : Option Blk} (hc : content H s = some r) :
    (r = none ∧ s = .nilSlice ∧ v = .slice none 0 0) ∨ ∃ bk a n cap cs, r = some bk ∧ v = .slice a n cap ∧ n ≤ cap ∧ RD m H w bk a n cs ∧
      ∀ b bk0 md, Over s b → hget H b = some (bk0, md) → bk0.str = bk.str ∧ (md = .own → (isAcc s = false → a ≠ none) ∧ ∃ off, off * bk.str + cap * bk.str ≤ (m b).2.2 ∧ (0 < cap → a = some ⟨(m b).1, (m b).2.1 + off * bk.str, none⟩)) := by
  unfold content at hc
  split at hc
  · cases hc; cases hs; exact .inl ⟨rfl, rfl, rfl⟩
  · rename_i b
    split at hc
    · rename_i bk md hb
      cases hc
      cases hs with
      | whole _ a n cap hlt hv =>
        obtain ⟨rfl, s1, s2, s3⟩ := hv bk md hb
        obtain ⟨cs, c1, c2, c3, c4⟩ := cells_list h hb 0 bk.num (by omega)
        refine .inr ⟨bk, a, _, cap, cs, rfl, rfl, s1, ⟨(h.blk b bk md hb).1, rfl, c1, fun hp => ?_, c3, fun i fo hi hf => ?_⟩, ?_⟩
        · refine ⟨_, s3 (by omega), fun j u hu => ?_⟩
          rw [addr_add]
          have := c2 j u hu
          simpa using this
        · have := c4 i fo hi hf
          simpa using this
        · rintro b' bk0 md' hq hg
          obtain rfl : b = b' := by
            rcases hq with hq | hq | ⟨_, _, hq⟩
            · injection hq
            · cases hq
            · cases hq
          rw [hb] at hg
          cases hg
          refine ⟨rfl, fun hmd => ⟨fun _ => (s2 hmd).2, 0, ?_, s3⟩⟩
          have := (s2 hmd).1
          simpa using this
    · cases hc
  · rename_i b
    split at hc
    · rename_i bk md hb
      cases hc
      cases hs with
      | acc _ a n cap hlt hv =>
        obtain ⟨rfl, s1, s2, s3⟩ := hv bk md hb
        obtain ⟨cs, c1, c2, c3, c4⟩ := cells_list h hb 0 bk.num (by omega)
        refine .inr ⟨bk, a, _, cap, cs, rfl, rfl, s1, ⟨(h.blk b bk md hb).1, rfl, c1, fun hp => ?_, c3, fun i fo hi hf => ?_⟩, ?_⟩
        · refine ⟨_, s3 (by omega), fun j u hu => ?_⟩
          rw [addr_add]
          have := c2 j u hu
          simpa using this
        · have := c4 i fo hi hf
          simpa using this
        · rintro b' bk0 md' hq hg
          obtain rfl : b = b' := by
            rcases hq with hq | hq | ⟨_, _, hq⟩
            · cases hq
            · injection hq
            · cases hq
          rw [hb] at hg
          cases hg
          refine ⟨rfl, fun hmd => ⟨fun h => (by cases h), 0, ?_, ?_⟩⟩
          · have := s2 hmd
            simpa using this
          · simpa using s3
    · cases hc
  · rename_i b off len
    split at hc
    · rename_i bk md hb
      cases hc
      cases hs with
      | part _ _ _ a n cap hlt hv =>
        obtain ⟨hle, rfl, s1, s2, s3⟩ := hv bk md hb
        obtain ⟨q1, q2, q3, q4⟩ := sub_ld hle rfl (h.blk b bk md hb).1
        obtain ⟨cs, c1, c2, c3, c4⟩ := cells_list h hb off n hle
        refine .inr ⟨bk.sub off n, a, _, cap, cs, rfl, rfl, s1, ⟨q1, q2.symm, by rw [q3]; exact c1, fun hp => ?_, c3, fun i fo hi hf => ?_⟩, ?_⟩
        · refine ⟨_, s3 (by omega), fun j u hu => ?_⟩
          rw [addr_add]
          exact c2 j u hu
        · rw [q2] at hi
          rw [q3] at hf ⊢
          rw [q4 i fo hi hf]
          exact c4 i fo hi hf
        · rintro b' bk0 md' hq hg
          obtain rfl : b = b' := by
            rcases hq with hq | hq | ⟨_, _, hq⟩
            · cases hq
            · cases hq
            · injection hq
          rw [hb] at hg
          cases hg
          refine ⟨q3.symm, fun hmd => ⟨fun _ => (s2 hmd).2, off, ?_, by rw [q3]; exact s3⟩⟩
          have := (s2 hmd).1
          rw [q3, ← Nat.add_mul]
          exact this
    · cases hc
  · cases hc

theorem RD.first {P : Program} {m : Map} {H : Heap} {w : World} {bk : Blk} {a : Option Addr} {n cap : Nat} {cs : List Value} (h : RD m H w bk a n cs) (w' : World) (hw : w'.heap = w.heap) : (Builtin.firstCells bk.str n (.slice a n cap)).run P w' = .ok cs.toArray w' := by
  have hcell : ∀ ad, w'.cell? ad = w.cell? ad := fun ad => by simp [World.cell?, hw]
  cases a with
  | none =>
    have hn : n = 0 := by
      rcases Nat.eq_zero_or_pos n with h0 | h0
      · exact h0
      · obtain ⟨_, h1, _⟩ := h.addr h0; cases h1
    have : cs = [] := List.eq_nil_of_length_eq_zero (by rw [h.len, hn]; simp)
    rw [this]
    exact run_firstCells_none w' _ _ _ _
  | some ad =>
    refine run_firstCells_some w' _ _ _ _ _ cs h.len fun j v hv => ?_
    have hn : 0 < n := by
      rcases Nat.eq_zero_or_pos n with h0 | h0
      · have : cs = [] := List.eq_nil_of_length_eq_zero (by rw [h.len, h0]; simp)
        rw [this] at hv; simp at hv
      · exact h0
    obtain ⟨ad', h1, h2⟩ := h.addr hn
    cases h1
    rw [hcell]
    exact h2 j v hv

theorem catB_sound {b1 b2 bk : Blk} (o1 : b1.ok) (o2 : b2.ok) (h : catB b1 b2 = some bk) :
    bk.ok ∧ bk.num = b1.num + b2.num ∧ bk.str = b1.str ∧ bk.str = b2.str ∧ ∀ i fo, i < bk.num → fo < bk.str → bk.ld i fo = if i < b1.num then b1.ld i fo else b2.ld (i - b1.num) fo := by
  unfold catB at h
  split at h
  · rename_i k l k' l'
    split at h
    · cases h
      rename_i hk
      subst hk
      refine ⟨trivial, by simp [Blk.num], rfl, rfl, fun i fo hi hf => ?_⟩
      simp only [Blk.str] at hf
      obtain rfl : fo = 0 := by omega
      simp only [Blk.ld, Blk.num, List.getD_eq_getElem?_getD, List.getElem?_append]
      split <;> rfl
    · cases h
  · rename_i k l k' l'
    split at h
    · cases h
      rename_i hk
      subst hk
      refine ⟨⟨o1.1, fun x hx => ?_⟩, by simp [Blk.num], rfl, rfl, fun i fo hi hf => ?_⟩
      · rcases List.mem_append.1 hx with hx | hx
        · exact o1.2 x hx
        · exact o2.2 x hx
      · simp only [Blk.ld, Blk.num, List.getD_eq_getElem?_getD, List.getElem?_append]
        split <;> split <;> rfl
    · cases h
  · rename_i n l n' l'
    split at h
    · cases h
      rename_i hk
      subst hk
      obtain ⟨p1, p2⟩ := o1
      obtain ⟨_, p3⟩ := o2
      have e1 : l.length = l.length / n * n := by
        have := Nat.div_add_mod l.length n
        rw [p2, Nat.mul_comm] at this
        omega
      have hnum : (l.length + l'.length) / n = l.length / n + l'.length / n := by
        conv => lhs; rw [e1]
        rw [Nat.add_comm, Nat.add_mul_div_right _ _ p1, Nat.add_comm]
      refine ⟨⟨p1, by rw [List.length_append, Nat.add_mod, p2, p3]; simp⟩, by simp only [Blk.num, List.length_append]; exact hnum, rfl, rfl, fun i fo hi hf => ?_⟩
      simp only [Blk.str] at hf
      by_cases hc : i < (Blk.vals n l).num
      · rw [if_pos hc]
        simp only [Blk.ld, List.getElem?_append]
        rw [if_pos (div_at hf hc)]
      · rw [if_neg hc]
        simp only [Blk.ld, List.getElem?_append]
        simp only [Blk.num] at hc ⊢
        have h1 : l.length / n * n ≤ i * n := Nat.mul_le_mul_right _ (by omega)
        rw [if_neg (by omega)]
        congr 1
        rw [Nat.sub_mul]
        omega
    · cases h
  · cases h

/-- two rows, one behind the other -/
theorem cat_cells {m : Map} {H : Heap} {w : World} {b1 b2 bk : Blk} {a1 a2 : Option Addr} {n1 n2 : Nat} {c1 c2 : List Value} (h1 : RD m H w b1 a1 n1 c1) (h2 : RD m H w b2 a2 n2 c2) (h : catB b1 b2 = some bk) :
    bk.ok ∧ bk.num = n1 + n2 ∧ bk.str = b1.str ∧ bk.str = b2.str ∧ ∀ i fo, i < bk.num → fo < bk.str → ∃ x v, bk.ld i fo = some x ∧ (c1 ++ c2)[i * bk.str + fo]? = some v ∧ VR m H x v := by
  obtain ⟨q1, q2, q3, q4, q5⟩ := catB_sound h1.ok h2.ok h
  refine ⟨q1, by rw [q2, h1.num, h2.num], q3, q4, fun i fo hi hf => ?_⟩
  rw [q5 i fo hi hf]
  have hl1 := h1.len
  have hn1 := h1.num
  by_cases hc : i < b1.num
  · rw [if_pos hc]
    have := h1.at_ i fo hc (by omega)
    rw [q3]
    rw [List.getElem?_append_left]
    · exact this
    · rw [hl1, hn1]
      exact cell_in hc (by omega)
  · rw [if_neg hc]
    have := h2.at_ (i - b1.num) fo (by omega) (by omega)
    rw [List.getElem?_append_right]
    · have h3 : b1.num * bk.str ≤ i * bk.str := Nat.mul_le_mul_right _ (by omega)
      rw [hl1, hn1, ← q3, show i * bk.str + fo - b1.num * bk.str = (i - b1.num) * b2.str + fo by rw [← q4, Nat.sub_mul]; omega]
      exact this
    · rw [hl1, hn1, ← q3]
      have : b1.num * bk.str ≤ i * bk.str := Nat.mul_le_mul_right _ (by omega)
      omega

end Go.Ab
end

section
/- append, the second part. No condition. -/
namespace Go.Ab
open Go

theorem Le.kill {m : Map} {H : Heap} (b : Nat) : Le m H m (hfill H b .dead) where
  kn c hc := by
    rw [hkn_fill]
    split
    · rfl
    · exact hc
  at_ c ck cd hc hg := by
    rw [hget_fill] at hg
    split at hg
    · cases hg
    · exact ⟨ck, hg, rfl, rfl, rfl⟩

theorem kill_get {H : Heap} {b c : Nat} {x : Blk × Md} (h : hget (hfill H b .dead) c = some x) : c ≠ b ∧ hget H c = some x := by
  rw [hget_fill] at h
  split at h
  · cases h
  · exact ⟨by assumption, h⟩

theorem Sim.kill {m : Map} {H : Heap} {w : World} (h : Sim m H w) (b : Nat) : Sim m (hfill H b .dead) w where
  blk c ck cd hg := (h.blk c ck cd (kill_get hg).2).far (fun _ _ hx => hx.mono (Le.kill b)) fun _ => .inl rfl
  dis c c2 ck cd ck2 cd2 hg hg2 hne hmm := h.dis c c2 ck cd ck2 cd2 (kill_get hg).2 (kill_get hg2).2 hne hmm

theorem Tr.kill (m : Map) (H : Heap) (w : World) (b : Nat) : Tr m H w m (hfill H b .dead) w :=
  ⟨Le.kill b, rfl, rfl, rfl, trivial, Nat.le_refl _, fun _ _ => .inl rfl, fun _ _ ⟨c, ck, cd, hg, h⟩ => .inr ⟨c, ck, cd, (kill_get hg).2, h⟩⟩

/-- a place of ours becomes a block of its own -/
theorem Sim.adopt {m : Map} {K : Heap} {w w' : World} (h : Sim m K w) {q : Nat} (hq : hkn K q = false) {bk : Blk} {g lo ext : Nat} (hok : bk.ok) (hsz : bk.num * bk.str ≤ ext)
    {o : Nat} {vs : List Value} (hw : Writes w w' g o vs) (ho : lo ≤ o) (ho2 : o + vs.length ≤ lo + ext) (h1 : ∀ v ∈ vs, v.oneCell' = true)
    (hcells : 0 < ext → ∃ c e fr, w.heap[g]? = some (.cells c e fr) ∧ lo + ext ≤ c.size ∧ (∀ j, lo ≤ j → j < lo + ext → w.frozen? ⟨g, j, none⟩ = false) ∧ (∀ j, lo ≤ j → j < lo + ext → ∀ v, c[j]? = some v → v.oneCell' = true) ∧
      ∀ c' : Array Value, (∀ j, j < lo + ext → c'[j]? = if o ≤ j ∧ j < o + vs.length then vs[j - o]? else c[j]?) → ∀ i fo, i < bk.num → fo < bk.str → ∃ x v, bk.ld i fo = some x ∧ c'[lo + (i * bk.str + fo)]? = some v ∧ VR m K x v)
    (hap : ∀ b bk md, hget K b = some (bk, md) → apart (m b) (g, lo, ext)) :
    Sim (upd m q (g, lo, ext)) (hfill K q (.live bk .own)) w' := by
  have hle := Le.new (m := m) hq (e := .live bk .own) (p := (g, lo, ext))
  have hext : ∀ x v, VR m K x v → VR (upd m q (g, lo, ext)) (hfill K q (.live bk .own)) x v := fun x v hx => hx.mono hle
  have hget' : ∀ b bk2 md2, hget (hfill K q (.live bk .own)) b = some (bk2, md2) → (b = q ∧ bk2 = bk ∧ md2 = .own) ∨ (b ≠ q ∧ hget K b = some (bk2, md2)) := by
    intro b bk2 md2 hg
    rw [hget_fill] at hg
    split at hg
    · rename_i e; cases hg; exact .inl ⟨e, rfl, rfl⟩
    · rename_i e; exact .inr ⟨e, hg⟩
  have hmo : ∀ b, b ≠ q → upd m q (g, lo, ext) b = m b := fun b hb => by unfold upd; rw [if_neg hb]
  have hmn : upd m q (g, lo, ext) q = (g, lo, ext) := by unfold upd; rw [if_pos rfl]
  have hstay : ¬ 0 < ext → w'.heap = w.heap := fun hp => hw.stay (List.eq_nil_of_length_eq_zero (by omega))
  refine ⟨fun b bk2 md2 hg => ?_, fun b b' bk2 md2 bk3 md3 hg hg' hne hmm => ?_⟩
  · rcases hget' b bk2 md2 hg with ⟨rfl, rfl, rfl⟩ | ⟨hb, hg0⟩
    · rw [hmn]
      refine ⟨hok, hsz, fun hq => absurd rfl hq, fun hp => ?_⟩
      · obtain ⟨c, e, fr, g1, g2, g3, g4, g5⟩ := hcells hp
        obtain ⟨c', q1, q2, q3⟩ := hw.here c e fr g1
        refine ⟨c', e, fr, q1, by simp only; omega, fun _ j x y => by rw [frozen_eq (.inr ⟨c, c', e, fr, g1, q1⟩)]; exact g3 j x y, fun j x y v hv => ?_, fun i fo hi hf => ?_⟩
        · rw [q3] at hv
          split at hv
          · exact h1 v (List.mem_of_getElem? hv)
          · exact g4 j x y v hv
        · obtain ⟨x, v, k1, k2, k3⟩ := g5 c' (fun j hj => by
            rw [q3 j]
            by_cases hq : o ≤ j ∧ j < o + vs.length
            · rw [if_pos hq, if_pos ⟨hq.1, hq.2, by omega⟩]
            · rw [if_neg hq, if_neg (fun hh => hq ⟨hh.1, hh.2.1⟩)]) i fo hi hf
          exact ⟨x, v, k1, k2, hext _ _ k3⟩
    · rw [hmo b hb]
      refine (h.blk b bk2 md2 hg0).far hext fun hp => ?_
      by_cases hze : 0 < ext
      · by_cases he : (m b).1 = g
        · obtain ⟨c, e, fr, g1, g2, g3, g4, g5⟩ := hcells hze
          obtain ⟨c', q1, q2, q3⟩ := hw.here c e fr g1
          right
          refine ⟨c, c', e, fr, he ▸ g1, he ▸ q1, q2, fun j x y => ?_⟩
          rw [q3 j, if_neg]
          intro hh
          rcases hap b bk2 md2 hg0 with ha | ha | ha | ha | ha
          · omega
          · simp only at ha; omega
          · exact ha he
          · simp only at ha; omega
          · simp only at ha; omega
        · exact .inl (hw.other _ he)
      · rw [hstay hze]; exact .inl rfl
  · rcases hget' b bk2 md2 hg with ⟨rfl, rfl, rfl⟩ | ⟨hb, hg0⟩ <;> rcases hget' b' bk3 md3 hg' with ⟨rfl, rfl, rfl⟩ | ⟨hb', hg0'⟩
    · exact absurd rfl hne
    · rw [hmn, hmo b' hb']
      exact (hap b' bk3 md3 hg0').symm
    · rw [hmn, hmo b hb]; exact hap b bk2 md2 hg0
    · rw [hmo b hb, hmo b' hb']; exact h.dis b b' _ _ _ _ hg0 hg0' hne hmm

theorem storeCells_writes {P : Program} {w : World} {g o : Nat} {vs : List Value} (hc : ∀ j, j < vs.length → (w.cell? ⟨g, o + j, none⟩).isSome = true) (hf : ∀ j, j < vs.length → w.frozen? ⟨g, o + j, none⟩ = false) (h1 : ∀ v ∈ vs, v.oneCell' = true) :
    ∃ w', (storeCells ⟨g, o, none⟩ vs).run P w = .ok () w' ∧ Writes w w' g o vs := by
  refine ⟨w.setCells g o vs, ?_, Writes.setCells _ _ _ _⟩
  have := run_storeCells_cells (P := P) g o vs 0 w (by simpa using hc) (by simpa using hf) h1
  simpa using this

/-- what append is told of its first argument -/
inductive Own (m : Map) (H K : Heap) (w : World) (size : Nat) (a : Option Addr) (cap : Nat) (olds : List Value) : Prop
  | nil : K = H → cap = 0 → olds = [] → Own m H K w size a cap olds
  | blk (b : Nat) (bk : Blk) (off : Nat) : hget H b = some (bk, .own) → K = hfill H b .dead → bk.str = size → off * size + cap * size ≤ (m b).2.2 → (0 < cap → a = some ⟨(m b).1, (m b).2.1 + off * size, none⟩) →
      (∀ j v, olds[j]? = some v → w.cell? ⟨(m b).1, (m b).2.1 + off * size + j, none⟩ = some v) → Own m H K w size a cap olds

theorem out {m : Map} {H : Heap} {q : Nat} {v : Value} {y : AV} {p : Prop} (hy : (y = .whole q ∧ p) ∨ y = .acc q) (h : VR m H (.whole q) v) : VR m H y v := by
  rcases hy with ⟨rfl, _⟩ | rfl
  · exact h
  · exact h.acc_whole
theorem append_core {P : Program} {m : Map} {H K : Heap} {w : World} (h : Sim m H w) {q : Nat} (hq : hkn K q = false) {t t' ty el : TypeId} {d' : TypeDesc} {i : TypeInfo} {z : Value} (ht : P.underlying t = some (.slice el)) (ht' : P.underlying t' = some d') (hd' : ∀ k, d' ≠ .int k)
    (hi : P.info? el = some i) (hz : i.zero = some z) (hzs : z.cells.size = i.size) (hz1 : ∀ v ∈ z.cells.toList, v.oneCell' = true) (hpos : 0 < i.size) (hbytes : 0 < i.bytes)
    {bk : Blk} (hok : bk.ok) (hstr : bk.str = i.size) {a : Option Addr} {sLen cap : Nat} (hcap : sLen ≤ cap) {olds news : List Value} {x : Value} {n : Nat}
    (hnum : bk.num = sLen + n) (hlo : olds.length = sLen * i.size) (hln : news.length = n * i.size) (hone : ∀ v ∈ olds, v.oneCell' = true) (honen : ∀ v ∈ news, v.oneCell' = true)
    (hlen : Builtin.lenOf x = Pure.pure n) (hx : ∀ w' : World, w'.heap = w.heap → (Builtin.firstCells i.size n x).run P w' = .ok news.toArray w')
    (hs : ∀ w' : World, w'.heap = w.heap → (Builtin.firstCells i.size sLen (.slice a sLen cap)).run P w' = .ok olds.toArray w')
    (hc : ∀ j fo, j < bk.num → fo < bk.str → ∃ y v, bk.ld j fo = some y ∧ (olds ++ news)[j * bk.str + fo]? = some v ∧ VR m H y v)
    (hown : Own m H K w i.size a cap olds) (hfit : bk.num * i.bytes ≤ 140737488355328) {y : AV} (hy : (y = .whole q ∧ (0 < sLen + n ∨ a ≠ none)) ∨ y = .acc q) :
    ∃ v' m' w', (Builtin.append_ #[t, t'] ty #[.slice a sLen cap, x]).run P w = .ok v' w' ∧ Sim m' (hfill K q (.live bk .own)) w' ∧ VR m' (hfill K q (.live bk .own)) y v' ∧ Tr m H w m' (hfill K q (.live bk .own)) w' := by
  have hle : Le m H m K := by
    cases hown with
    | nil e => rw [e]; exact ⟨fun _ hb => hb, fun b bk' md' _ hg => ⟨bk', hg, rfl, rfl, rfl⟩⟩
    | blk b bk0 off hb e => rw [e]; exact Le.kill b
  have hK : Sim m K w := by
    cases hown with
    | nil e => rw [e]; exact h
    | blk b bk0 off hb e => rw [e]; exact h.kill b
  have hTK : Tr m H w m K w := by
    cases hown with
    | nil e => rw [e]; exact Tr.refl _ _ _
    | blk b bk0 off hb e => rw [e]; exact Tr.kill _ _ _ _
  have hcK : ∀ j fo, j < bk.num → fo < bk.str → ∃ y v, bk.ld j fo = some y ∧ (olds ++ news)[j * bk.str + fo]? = some v ∧ VR m K y v := fun j fo hj hf => by
    obtain ⟨y, v, k1, k2, k3⟩ := hc j fo hj hf
    exact ⟨y, v, k1, k2, k3.mono hle⟩
  by_cases hroom : sLen + n ≤ cap
  · -- in place
    by_cases hc0 : cap = 0
    · subst hc0
      obtain rfl : sLen = 0 := by omega
      obtain rfl : n = 0 := by omega
      have hnews : news = [] := List.eq_nil_of_length_eq_zero (by rw [hln]; simp)
      subst hnews
      have hw : Writes w w 0 0 [] := ⟨rfl, rfl, rfl, rfl, rfl, fun _ => rfl, fun _ _ => rfl, fun c e fr h => ⟨c, h, rfl, fun j => by rw [if_neg (by simp)]⟩⟩
      have hs2 := hK.adopt hq (bk := bk) (g := 0) (lo := 0) (ext := 0) (o := 0) (vs := []) hok (by rw [hnum]; simp) hw (Nat.le_refl _) (by simp) (by simp) (fun hp => absurd hp (by omega)) (fun b bk2 md hg => by
        unfold apart
        simp)
      have hle2 := Le.new (m := m) hq (e := .live bk .own) (p := (0, 0, 0))
      refine ⟨.slice a 0 0, _, w, ?_, hs2, ?_, hTK.trans ⟨hle2, rfl, rfl, rfl, trivial, Nat.le_refl _, fun _ _ => .inl rfl, fun k o hwr => ?_⟩⟩
      · have hx0 := hx w rfl
        cases a with
        | none => simp [Builtin.append_, run_underlying ht, run_underlying ht', sizeOf, typeInfo, hi, hlen, hx0]
        | some ad => simp [Builtin.append_, run_underlying ht, run_underlying ht', sizeOf, typeInfo, hi, hlen, hx0, storeCells]
      · rcases hy with ⟨rfl, hnn⟩ | rfl
        · have := VR.newWhole (m := m) (H := K) (n := q) (bk := bk) (g := 0) (s := 0) (cap := 0) (a := a) (by omega) (by simp) hok (fun hp => absurd hp (by omega)) (hnn.resolve_left (by omega))
          rw [hnum] at this
          exact this
        · have := VR.newAcc (m := m) (H := K) (n := q) (bk := bk) (g := 0) (s := 0) (cap := 0) (a := a) (by omega) (by simp) hok (fun hp => absurd hp (by omega))
          rw [hnum] at this
          exact this
      · obtain ⟨b, bk2, md2, hg, hmd, hr1, hr2, hr3⟩ := hwr
        rw [hget_fill] at hg
        split at hg
        · rename_i e
          subst e
          simp [upd] at hr3
        · rename_i hb
          simp only [upd, if_neg hb] at hr1 hr2 hr3
          exact .inr ⟨b, bk2, md2, hg, hmd, hr1, hr2, hr3⟩
    · cases hown with
      | nil e0 e1 => exact absurd e1 hc0
      | blk b bk0 off hb e0 hst0 hext0 haddr holds =>
        subst e0
        obtain rfl := haddr (by omega)
        obtain ⟨B1, B2, B3, B5⟩ := h.blk b bk0 .own hb
        have hcs : 0 < cap * i.size := Nat.mul_pos (by omega) hpos
        obtain ⟨c, e, fr, g1, g2, g3, g4, g5⟩ := B5 (by omega)
        have hm1 : (sLen + n) * i.size ≤ cap * i.size := Nat.mul_le_mul_right _ hroom
        rw [Nat.add_mul] at hm1
        obtain ⟨w', hr, hw⟩ := storeCells_writes (P := P) (w := w) (g := (m b).1) (o := (m b).2.1 + off * i.size + sLen * i.size) (vs := news)
          (fun j hj => by simp only [World.cell?, g1]; simp; omega)
          (fun j hj => g3 (by simp) _ (by omega) (by omega)) honen
        have hs2 := hK.adopt hq (bk := bk) (g := (m b).1) (lo := (m b).2.1 + off * i.size) (ext := cap * i.size) hok (by rw [hnum, hstr, Nat.add_mul]; exact hm1) hw (by omega) (by omega) honen
          (fun _ => ⟨c, e, fr, g1, by omega, fun j x y => g3 (by simp) j (by omega) (by omega), fun j x y v hv => g4 j (by omega) (by omega) v hv, fun c' hc' j fo hj hf => by
            obtain ⟨y, v, k1, k2, k3⟩ := hcK j fo hj hf
            refine ⟨y, v, k1, ?_, k3⟩
            have hin := cell_in hj hf
            rw [hnum, hstr, Nat.add_mul] at hin
            rw [hstr] at k2 ⊢
            rw [hc' _ (by omega)]
            by_cases hk : j * i.size + fo < sLen * i.size
            · rw [List.getElem?_append_left (by omega)] at k2
              rw [if_neg (by omega)]
              have := holds _ _ k2
              simpa [World.cell?, g1] using this
            · rw [List.getElem?_append_right (by omega)] at k2
              rw [if_pos (by omega), show (m b).2.1 + off * i.size + (j * i.size + fo) - ((m b).2.1 + off * i.size + sLen * i.size) = j * i.size + fo - olds.length by omega]
              exact k2⟩)
          (fun c2 ck cd hg => by
            obtain ⟨hne, hg0⟩ := kill_get hg
            rcases h.dis c2 b ck cd bk0 .own hg0 hb hne (.inr (by simp)) with hd | hd | hd | hd | hd
            · exact .inl hd
            · omega
            · exact .inr (.inr (.inl hd))
            · exact .inr (.inr (.inr (.inl (by simp only; omega))))
            · exact .inr (.inr (.inr (.inr (by simp only; omega)))))
        have hle2 := Le.new (m := m) hq (e := .live bk .own) (p := ((m b).1, (m b).2.1 + off * i.size, cap * i.size))
        refine ⟨.slice (some ⟨(m b).1, (m b).2.1 + off * i.size, none⟩) (sLen + n) cap, _, w', ?_, hs2, ?_, ?_⟩
        · simp [Builtin.append_, run_underlying ht, run_underlying ht', sizeOf, typeInfo, hi, hlen, hroom, hx w rfl, addr_add, hr]
        · refine out hy (.whole _ _ _ _ (by rw [hkn_fill, if_pos rfl]; rfl) fun bk2 md2 hg => ?_)
          rw [hget_fill, if_pos rfl] at hg
          cases hg
          refine ⟨hnum.symm, by omega, fun _ => ?_, fun _ => ?_⟩
          · simp [upd, hstr]
          · simp [upd]
        · refine ⟨hle.trans hle2, hw.os, hw.tape, hw.output, trivial, by rw [hw.size]; exact Nat.le_refl _, fun k hk => ?_, fun k o hwr => ?_⟩
          · by_cases he : k = (m b).1
            · subst he
              obtain ⟨c', q1, q2, q3⟩ := hw.here c e fr g1
              refine .inr ⟨c, c', e, fr, g1, q1, q2, fun j hj => ?_⟩
              rw [q3 j, if_neg]
              intro hh
              exact hj ⟨b, bk0, .own, hb, by simp, rfl, by omega, by omega⟩
            · exact .inl (hw.other _ he)
          · obtain ⟨c2, bk2, md2, hg, hmd, hr1, hr2, hr3⟩ := hwr
            rw [hget_fill] at hg
            split at hg
            · rename_i ee
              subst ee
              simp [upd] at hr1 hr2 hr3
              exact .inr ⟨b, bk0, .own, hb, by simp, hr1, by omega, by omega⟩
            · rename_i hne
              simp only [upd, if_neg hne] at hr1 hr2 hr3
              exact .inr ⟨c2, bk2, md2, (kill_get hg).2, hmd, hr1, hr2, hr3⟩
  · -- a new row
    have hg1 := grownCap_ge w (sLen + n) cap el
    have hbig : ¬ (9223372036854775807 < ((sLen : Int) + (n : Int))) := by
      have h1 : bk.num * 1 ≤ bk.num * i.bytes := Nat.mul_le_mul_left _ hbytes
      omega
    have hfits : ¬ (281474976710656 < Builtin.nextslicecap (sLen + n) cap * i.bytes) := by
      have := growslice_fits (need := sLen + n) (old := cap) (bytes := i.bytes) (by omega) (by rw [← hnum]; exact hfit)
      omega
    have hzsz : (Builtin.zeroCells z.cells (grownCap w (sLen + n) cap el - (sLen + n))).size = (grownCap w (sLen + n) cap el - (sLen + n)) * i.size := by rw [size_zeroCells, hzs]
    have hcsz : (olds.toArray ++ news.toArray ++ Builtin.zeroCells z.cells (grownCap w (sLen + n) cap el - (sLen + n))).size = grownCap w (sLen + n) cap el * i.size := by
      simp only [Array.size_append, List.size_toArray, hzsz, hlo, hln, ← Nat.add_mul]
      congr 1
      omega
    obtain ⟨s1, s2⟩ := hK.new hq (w' := w.drew.alloc (.cells (olds.toArray ++ news.toArray ++ Builtin.zeroCells z.cells (grownCap w (sLen + n) cap el - (sLen + n))) el)) (bk := bk) (c := olds.toArray ++ news.toArray ++ Builtin.zeroCells z.cells (grownCap w (sLen + n) cap el - (sLen + n))) (e := el) hok
      (by rw [hcsz, hnum, hstr]; exact Nat.mul_le_mul_right _ hg1) rfl rfl rfl rfl (Nat.le_succ _)
      (fun j v hv => by
        rw [Array.getElem?_append] at hv
        split at hv
        · rw [Array.getElem?_append] at hv
          split at hv
          · exact hone v (List.mem_of_getElem? (by simpa using hv))
          · exact honen v (List.mem_of_getElem? (by simpa using hv))
        · simp only [Builtin.zeroCells, Array.getElem?_map, Option.map_eq_some_iff] at hv
          obtain ⟨y, _, rfl⟩ := hv
          have hlt : y % z.cells.size < z.cells.size := Nat.mod_lt _ (by omega)
          apply hz1
          simp [hlt])
      (fun j fo hj hf => by
        obtain ⟨y, v, k1, k2, k3⟩ := hcK j fo hj hf
        refine ⟨y, v, k1, ?_, k3⟩
        have hin := cell_in hj hf
        rw [hnum, hstr, Nat.add_mul] at hin
        rw [hstr] at k2 ⊢
        rw [Array.getElem?_append_left (by simp; omega)]
        rw [← List.getElem?_toArray] at k2
        simpa using k2)
    have hw := VR.newWhole (m := m) (H := K) (n := q) (bk := bk) (g := w.heap.size) (s := (olds.toArray ++ news.toArray ++ Builtin.zeroCells z.cells (grownCap w (sLen + n) cap el - (sLen + n))).size) (cap := grownCap w (sLen + n) cap el) (a := some ⟨w.heap.size, 0, none⟩) (by omega) (by rw [hcsz, hstr]) hok (fun _ => rfl) (by simp)
    rw [hnum] at hw
    refine ⟨_, _, _, ?_, s1, out hy hw, hTK.trans s2⟩
    have e1 := hs w.drew rfl
    have e2 := hx w.drew rfl
    have hn0 : ¬ (sLen + n ≤ cap) := hroom
    simp [Builtin.append_, run_underlying ht, run_underlying ht', sizeOf, typeInfo, zeroValue, hi, hz, hlen, hn0, hbig, hfits, Question.forced, e1, e2, newRow, grownCap]
    congr 2
    rw [← Array.append_assoc]
    congr 1
    simp

end Go.Ab
end

section
/- append by the evaluator's words; slices of slices; addresses. No condition. -/
namespace Go.Ab
open Go

theorem RD.num_str {m : Map} {H : Heap} {w : World} {bk : Blk} {a : Option Addr} {n : Nat} {cs : List Value} (h : RD m H w bk a n cs) {size : Nat} (hs : bk.str = size) : cs.length = n * size := by rw [h.len, hs]

theorem hput_app (H : Heap) (D E : Delta) : hput H (D ++ E) = hput (hput H D) E := by
  induction D generalizing H with
  | nil => rfl
  | cons d D ih => obtain ⟨b, e⟩ := d; exact ih _

theorem app_sound {X : Type} {P : Program} {m : Map} {H : Heap} {w : World} (h : Sim m H w) {q : Nat} (hq : hkn H q = false) {t t' ty el el' : TypeId} {i : TypeInfo} {zs : List Value} {s x : AV} {vs vx : Value} {k : AV → Delta → Option X} {r : X}
    (ht : P.underlying t = some (.slice el)) (ht' : P.underlying t' = some (.slice el')) (hi : P.info? el = some i) (hz : zerosOf P el = some zs) (hbytes : 0 < i.bytes)
    (hxs : strIs H x i.size = true) (hss : strIs H s i.size = true) (hs : VR m H s vs) (hx : VR m H x vx) (hr : app H i.bytes s x q k = some r) :
    ∃ v D v' m' w', k v D = some r ∧ (Builtin.append_ #[t, t'] ty #[vs, vx]).run P w = .ok v' w' ∧ Sim m' (hput H D) w' ∧ VR m' (hput H D) v v' ∧ Tr m H w m' (hput H D) w' := by
  obtain ⟨i', z, hi', hz', hzs, hpos, hzl, hz1⟩ := zerosOf_sound hz
  rw [hi] at hi'
  cases hi'
  have hz1' : ∀ v ∈ z.cells.toList, v.oneCell' = true := by rw [← hzl]; exact hz1
  have hstr : ∀ {y : AV} {b : Blk}, strIs H y i.size = true → content H y = some (some b) → b.str = i.size := by
    intro y b h1 h2
    unfold strIs at h1
    rw [h2] at h1
    simpa using h1
  have hkill : ∀ {b : Nat} {bk0 : Blk} {md : Md} {D : Delta}, Over s b → hget H b = some (bk0, md) → killed H s = some D → md = .own ∧ D = [(b, .dead)] := by
    intro b bk0 md D h1 h2 h3
    rcases h1 with rfl | rfl | ⟨off, len, rfl⟩
    · simp only [killed, h2] at h3
      cases md <;> simp at h3
      exact ⟨rfl, h3.symm⟩
    · simp only [killed, h2] at h3
      cases md <;> simp at h3
      exact ⟨rfl, h3.symm⟩
    · simp only [killed, h2] at h3
      cases md <;> simp at h3
      exact ⟨rfl, h3.symm⟩
  have hform : ∀ {bs : Blk}, content H s = some (some bs) → ∃ b bk0 md, Over s b ∧ hget H b = some (bk0, md) := by
    intro bs h1
    unfold content at h1
    split at h1
    · cases h1
    · rename_i b
      split at h1
      · rename_i bk md hg; exact ⟨b, bk, md, .inl rfl, hg⟩
      · cases h1
    · rename_i b
      split at h1
      · rename_i bk md hg; exact ⟨b, bk, md, .inr (.inl rfl), hg⟩
      · cases h1
    · rename_i b off len
      split at h1
      · rename_i bk md hg; exact ⟨b, bk, md, .inr (.inr ⟨_, _, rfl⟩), hg⟩
      · cases h1
    · cases h1
  have hown : ∀ {D : Delta} {bs : Blk} {a : Option Addr} {n cap : Nat} {cs : List Value}, content H s = some (some bs) → bs.str = i.size → RD m H w bs a n cs → n ≤ cap → killed H s = some D →
      (∀ b bk0 md, Over s b → hget H b = some (bk0, md) → bk0.str = bs.str ∧ (md = .own → (isAcc s = false → a ≠ none) ∧ ∃ off, off * bs.str + cap * bs.str ≤ (m b).2.2 ∧ (0 < cap → a = some ⟨(m b).1, (m b).2.1 + off * bs.str, none⟩))) → Own m H (hput H D) w i.size a cap cs := by
    intro D bs a n cap cs h1 h2 h3 h4 h5 h6
    obtain ⟨b, bk0, md, q1, q2⟩ := hform h1
    obtain ⟨rfl, rfl⟩ := hkill q1 q2 h5
    obtain ⟨e1, e2⟩ := h6 b bk0 .own q1 q2
    obtain ⟨_, off, e3, e4⟩ := e2 rfl
    rw [h2] at e1 e3 e4
    refine .blk b bk0 off q2 rfl e1 e3 e4 fun j v hv => ?_
    have hn : 0 < n := by
      rcases Nat.eq_zero_or_pos n with h0 | h0
      · have : cs = [] := List.eq_nil_of_length_eq_zero (by rw [h3.len, h0]; simp)
        rw [this] at hv; simp at hv
      · exact h0
    obtain ⟨ad, f1, f2⟩ := h3.addr hn
    rw [e4 (by omega)] at f1
    cases f1
    have := f2 j v hv
    rw [addr_add] at this
    exact this
  have hnone : ∀ {D : Delta} {bs : Blk} {a : Option Addr} {cap : Nat}, content H s = some (some bs) → killed H s = some D →
      (∀ b bk0 md, Over s b → hget H b = some (bk0, md) → bk0.str = bs.str ∧ (md = .own → (isAcc s = false → a ≠ none) ∧ ∃ off, off * bs.str + cap * bs.str ≤ (m b).2.2 ∧ (0 < cap → a = some ⟨(m b).1, (m b).2.1 + off * bs.str, none⟩))) → isAcc s = false → a ≠ none := by
    intro D bs a cap h1 h5 h6
    obtain ⟨b, bk0, md, q1, q2⟩ := hform h1
    obtain ⟨rfl, rfl⟩ := hkill q1 q2 h5
    exact ((h6 b bk0 .own q1 q2).2 rfl).1
  unfold app at hr
  split at hr
  · -- nothing onto nothing
    rename_i c1 c2
    rcases content_sound h hs c1 with ⟨_, rfl, rfl⟩ | ⟨bk, a, n, cap, cs, e, _⟩
    · rcases content_sound h hx c2 with ⟨_, rfl, rfl⟩ | ⟨bk, a, n, cap, cs, e, _⟩
      · exact ⟨_, _, .slice none 0 0, m, w, hr, by simp [Builtin.append_, run_underlying ht, run_underlying ht', sizeOf, typeInfo, hi, Builtin.lenOf, Builtin.firstCells], h, .nilSlice, Tr.refl _ _ _⟩
      · cases e
    · cases e
  · rename_i cs cx hne c1 c2
    split at hr
    · rename_i bk D hj hk
      have hY : ∃ y, ((y = .whole q ∧ isAcc s = false ∧ (cs.isNone = true → 0 < bk.num)) ∨ (y = .acc q ∧ isAcc s = true)) ∧ bk.num * i.bytes ≤ 140737488355328 ∧ k y (D ++ [(q, .live bk .own)]) = some r := by
        cases ha : isAcc s with
        | true =>
          rw [ha] at hr
          obtain ⟨hfit, hr⟩ := need_some hr
          exact ⟨_, .inr ⟨rfl, rfl⟩, hfit, hr⟩
        | false =>
          rw [ha] at hr
          obtain ⟨⟨hfit, hnz⟩, hr⟩ := need_some hr
          exact ⟨_, .inl ⟨rfl, rfl, hnz⟩, hfit, hr⟩
      obtain ⟨y, hy, hfit, hr⟩ := hY
      have hqK : hkn (hput H D) q = false := by
        cases hc : content H s with
        | none => rw [hc] at c1; cases c1
        | some y =>
          cases y with
          | none =>
            rcases content_sound h hs hc with ⟨_, rfl, _⟩ | ⟨bk, a, n, cap, cs, e, _⟩
            · simp only [killed, Option.some.injEq] at hk
              subst hk
              exact hq
            · cases e
          | some bs =>
            obtain ⟨b, bk0, md, q1, q2⟩ := hform hc
            obtain ⟨rfl, rfl⟩ := hkill q1 q2 hk
            simp only [hput]
            rw [hkn_fill, if_neg]
            · exact hq
            · rintro rfl
              rw [hget_kn q2] at hq
              cases hq
      have fin : ∀ {v' : Value} {m' : Map} {w' : World}, (Builtin.append_ #[t, t'] ty #[vs, vx]).run P w = .ok v' w' ∧ Sim m' (hfill (hput H D) q (.live bk .own)) w' ∧ VR m' (hfill (hput H D) q (.live bk .own)) y v' ∧ Tr m H w m' (hfill (hput H D) q (.live bk .own)) w' →
          ∃ v D v' m' w', k v D = some r ∧ (Builtin.append_ #[t, t'] ty #[vs, vx]).run P w = .ok v' w' ∧ Sim m' (hput H D) w' ∧ VR m' (hput H D) v v' ∧ Tr m H w m' (hput H D) w' := by
        intro v' m' w' ⟨a1, a2, a3, a4⟩
        have e : hput H (D ++ [(q, .live bk .own)]) = hfill (hput H D) q (.live bk .own) := by rw [hput_app]; rfl
        exact ⟨_, _, v', m', w', hr, a1, by rw [e]; exact a2, by rw [e]; exact a3, by rw [e]; exact a4⟩
      rcases content_sound h hs c1 with ⟨rfl, rfl, rfl⟩ | ⟨bs, a, n, cap, ss, rfl, rfl, hcap, hrd, hinfo⟩
      · rcases content_sound h hx c2 with ⟨rfl, rfl, rfl⟩ | ⟨bx, a2, n2, cap2, xs, rfl, rfl, hcap2, hrd2, _⟩
        · exact absurd rfl (hne rfl)
        · simp only [joinB, Option.some.injEq] at hj
          subst hj
          have hst := hstr hxs c2
          simp only [killed, Option.some.injEq] at hk
          subst hk
          obtain ⟨v', m', w', q⟩ := append_core (P := P) (K := H) (ty := ty) h hq ht ht' (by simp) hi hz' hzs hz1' hpos hbytes hrd2.ok hst (a := none) (sLen := 0) (cap := 0) (Nat.le_refl _) (olds := []) (news := xs) (x := .slice a2 n2 cap2) (n := n2)
            (by rw [hrd2.num]; omega) (by simp) (hrd2.num_str hst) (by simp) hrd2.one rfl (fun w' hw => by have := hrd2.first (P := P) (cap := cap2) w' hw; rw [hst] at this; exact this) (fun w' _ => run_firstCells_none w' _ _ _ _) (by simpa using hrd2.at_) (.nil rfl rfl rfl) hfit (hy.elim (fun ⟨e, _, hnz⟩ => .inl ⟨e, .inl (by have := hnz rfl; have := hrd2.num; omega)⟩) (fun ⟨_, h⟩ => by cases h))
          exact fin q
      · have hst := hstr hss c1
        rcases content_sound h hx c2 with ⟨rfl, rfl, rfl⟩ | ⟨bx, a2, n2, cap2, xs, rfl, rfl, hcap2, hrd2, _⟩
        · simp only [joinB, Option.some.injEq] at hj
          subst hj
          obtain ⟨v', m', w', q⟩ := append_core (P := P) (K := hput H D) (ty := ty) h hqK ht ht' (by simp) hi hz' hzs hz1' hpos hbytes hrd.ok hst (a := a) (sLen := n) (cap := cap) hcap (olds := ss) (news := []) (x := .slice none 0 0) (n := 0)
            (by rw [hrd.num]; omega) (hrd.num_str hst) (by simp) hrd.one (by simp) rfl (fun w' _ => run_firstCells_none w' _ _ _ _) (fun w' hw => by have := hrd.first (P := P) (cap := cap) w' hw; rw [hst] at this; exact this) (by simpa using hrd.at_) (hown c1 hst hrd hcap hk hinfo) hfit (hy.elim (fun ⟨e, h, _⟩ => .inl ⟨e, .inr (hnone c1 hk hinfo h)⟩) (fun ⟨e, _⟩ => .inr e))
          exact fin q
        · have hst2 := hstr hxs c2
          simp only [joinB] at hj
          obtain ⟨j1, j2, j3, j4, j5⟩ := cat_cells hrd hrd2 hj
          obtain ⟨v', m', w', q⟩ := append_core (P := P) (K := hput H D) (ty := ty) h hqK ht ht' (by simp) hi hz' hzs hz1' hpos hbytes j1 (by rw [j3, hst]) (a := a) (sLen := n) (cap := cap) hcap (olds := ss) (news := xs) (x := .slice a2 n2 cap2) (n := n2)
            j2 (hrd.num_str hst) (hrd2.num_str hst2) hrd.one hrd2.one rfl (fun w' hw => by have := hrd2.first (P := P) (cap := cap2) w' hw; rw [hst2] at this; exact this) (fun w' hw => by have := hrd.first (P := P) (cap := cap) w' hw; rw [hst] at this; exact this) j5 (hown c1 hst hrd hcap hk hinfo) hfit (hy.elim (fun ⟨e, h, _⟩ => .inl ⟨e, .inr (hnone c1 hk hinfo h)⟩) (fun ⟨e, _⟩ => .inr e))
          exact fin q
    · cases hr
  · cases hr

end Go.Ab
end

section
/- The operations tell what they turn: a value, and what is new in the heap. No condition. -/
namespace Go.Ab
open Go

def SubH (K H : Heap) : Prop := ∀ b x, hget K b = some x → hget H b = some x

theorem SubH.refl (K : Heap) : SubH K K := fun _ _ h => h

/-- what an operation does in every heap that bears what it looks at: its value, what turns -/
def Step (P : Program) (o : Oper) (e : Operand → AV) (K : Heap) (q : Nat) (v : AV) (D : Delta) : Prop :=
  ∀ m H (a : Act) w, SubH K H → (∀ d ∈ D, q ≤ d.1 → hkn H d.1 = false) → Sim m H w → (∀ x ∈ o.op.operands, VR m H (e x) (a.eval x)) →
    ∀ next Q, (∀ v' m' w', Sim m' (hput H D) w' → VR m' (hput H D) v v' → Tr m H w m' (hput H D) w' → next (a.put o.dst v') w') → o.wp P a w next Q

theorem wp_value {P : Program} {o : Oper} {a : Act} {w w' : World} {v : Value} {next : Act → World → Prop} {Q : Exit → Act → World → Prop} (h : (execOp a.eval o).run P w = .ok (.value v) w') (hn : next (a.put o.dst v) w') : o.wp P a w next Q := by
  unfold Oper.wp
  rw [h]
  exact hn

theorem wp_skip' {P : Program} {o : Oper} {a : Act} {w w' : World} {next : Act → World → Prop} {Q : Exit → Act → World → Prop} (h : (execOp a.eval o).run P w = .ok .skip w') (hn : next (a.put o.dst undef) w') : o.wp P a w next Q := by
  unfold Oper.wp
  rw [h]
  exact hn

theorem step_pure {P : Program} {o : Oper} {e : Operand → AV} {K : Heap} {q : Nat} {v : AV}
    (h : ∀ m H (a : Act) w, SubH K H → Sim m H w → (∀ x ∈ o.op.operands, VR m H (e x) (a.eval x)) → ∃ v', (execOp a.eval o).run P w = .ok (.value v') w ∧ VR m H v v') : Step P o e K q v [] := by
  intro m H a w hs _ hsim hx next Q hn
  obtain ⟨v', hr, hv⟩ := h m H a w hs hsim hx
  exact wp_value hr (hn v' m w hsim hv (Tr.refl _ _ _))

theorem step_val {P : Program} {o : Oper} {e : Operand → AV} {K : Heap} {q : Nat} {v : AV} {D : Delta}
    (h : ∀ m H (a : Act) w, SubH K H → (∀ d ∈ D, q ≤ d.1 → hkn H d.1 = false) → Sim m H w → (∀ x ∈ o.op.operands, VR m H (e x) (a.eval x)) →
      ∃ v' m' w', (execOp a.eval o).run P w = .ok (.value v') w' ∧ Sim m' (hput H D) w' ∧ VR m' (hput H D) v v' ∧ Tr m H w m' (hput H D) w') : Step P o e K q v D := by
  intro m H a w hs hq hsim hx next Q hn
  obtain ⟨v', m', w', hr, h1, h2, h3⟩ := h m H a w hs hq hsim hx
  exact wp_value hr (hn v' m' w' h1 h2 h3)

theorem SubH.strIs {K H : Heap} (hs : SubH K H) {x : AV} {n : Nat} {b : Nat} {bk : Blk} {md : Md} (hx : x = .whole b ∨ ∃ off len, x = .part b off len) (hb : hget K b = some (bk, md)) (h : strIs K x n = true) : bk.str = n := by
  rcases hx with rfl | ⟨off, len, rfl⟩
  · simp only [Ab.strIs, content, hb] at h; simpa using h
  · simp only [Ab.strIs, content, hb] at h
    cases bk <;> simpa [Blk.sub, Blk.str] using h

theorem bnd_sound {X : Type} {P : Program} {m : Map} {H : Heap} {w : World} {n cap : Nat} (hn : n ≤ cap) (sl : Bool) {lo hi : Option AV} {lo' hi' : Option Value}
    (hlo : ∀ y, lo = some y → ∃ y', lo' = some y' ∧ VR m H y y') (hlo0 : lo = none → lo' = none) (hhi : ∀ y, hi = some y → ∃ y', hi' = some y' ∧ VR m H y y') (hhi0 : hi = none → hi' = none)
    {k : Int → Int → Option X} {r : X} (hr : bnd n lo hi k = some r) : ∃ l h : Int, 0 ≤ l ∧ l ≤ h ∧ h ≤ n ∧ k l h = some r ∧ (Instr.sliceBounds sl n cap lo' hi' none).run P w = .ok (l.toNat, h.toNat, cap) w := by
  unfold bnd at hr
  split at hr
  · rw [hlo0 rfl, hhi0 rfl]
    exact ⟨0, n, by omega, by omega, by omega, hr, by simp [Instr.sliceBounds]⟩
  · rename_i kd l
    obtain ⟨y, rfl, hy⟩ := hlo _ rfl
    cases hy
    rw [hhi0 rfl]
    obtain ⟨h0, hr⟩ := need_some hr
    exact ⟨l, n, h0.1, h0.2, by omega, hr, by simp [Instr.sliceBounds, Instr.sliceBound, asIntOf, h0]⟩
  · rename_i kd hh
    obtain ⟨y, rfl, hy⟩ := hhi _ rfl
    cases hy
    rw [hlo0 rfl]
    obtain ⟨h0, hr⟩ := need_some hr
    have : hh ≤ (cap : Int) := by omega
    exact ⟨0, hh, by omega, h0.1, h0.2, hr, by simp [Instr.sliceBounds, Instr.sliceBound, asIntOf, h0, this]⟩
  · rename_i kd l kd2 hh
    obtain ⟨y, rfl, hy⟩ := hlo _ rfl
    cases hy
    obtain ⟨y, rfl, hy⟩ := hhi _ rfl
    cases hy
    obtain ⟨h0, hr⟩ := need_some hr
    have h1 : hh ≤ (cap : Int) := by omega
    have h2 : 0 ≤ hh := by omega
    have h3 : l ≤ max hh 0 := by omega
    exact ⟨l, hh, h0.1, h0.2.1, h0.2.2, hr, by simp [Instr.sliceBounds, Instr.sliceBound, asIntOf, h0, h1, h2, h3]⟩
  · cases hr

/-- what the slice operation answers: slices -/
theorem sliceOp_sound {X : Type} {P : Program} {m : Map} {H K : Heap} {w : World} (hsub : SubH K H) (h : Sim m H w) {t el : TypeId} {n : Nat} (ht : P.underlying t = some (.slice el)) (hn : sizeT P el = some n)
    {x : AV} {v : Value} (hx : VR m H x v) (hst : strIs K x n = true) (hxs : ∀ s, x ≠ .str s) {lo hi : Option AV} {lo' hi' : Option Value}
    (hlo : ∀ y, lo = some y → ∃ y', lo' = some y' ∧ VR m H y y') (hlo0 : lo = none → lo' = none) (hhi : ∀ y, hi = some y → ∃ y', hi' = some y' ∧ VR m H y y') (hhi0 : hi = none → hi' = none)
    {k : AV → Option X} {r : X} (hr : sliceOp K x lo hi k = some r) : ∃ y y', k y = some r ∧ VR m H y y' ∧ (Instr.slice t v lo' hi' none).run P w = .ok y' w := by
  have hsz := run_sizeOf' hn w
  unfold sliceOp at hr
  split at hr
  · cases hx
    obtain ⟨l, hh, h0, h1, h2, hk, hb⟩ := bnd_sound (P := P) (w := w) (cap := 0) (Nat.le_refl _) true hlo hlo0 hhi hhi0 hr
    refine ⟨_, .slice none 0 0, hk, .nilSlice, ?_⟩
    have e1 : l = 0 := by omega
    have e2 : hh = 0 := by omega
    subst e1 e2
    simp [Instr.slice, run_underlying ht, hb, hsz]
  · rename_i b
    cases hx with
    | whole _ a n0 cap hkn hv =>
      split at hr
      · rename_i bk md hb
        have hb' := hsub _ _ hb
        obtain ⟨rfl, s1, s2, s3⟩ := hv bk md hb'
        have hs : bk.str = n := hsub.strIs (.inl rfl) hb hst
        split at hr
        · rw [hlo0 rfl, hhi0 rfl]
          refine ⟨_, .slice a bk.num cap, hr, .whole b a bk.num cap hkn hv, ?_⟩
          cases a <;> simp [Instr.slice, run_underlying ht, Instr.sliceBounds, hsz, Addr.add]
        · obtain ⟨l, hh, h0, h1, h2, hk, hbd⟩ := bnd_sound (P := P) (w := w) (cap := cap) s1 true hlo hlo0 hhi hhi0 hr
          refine ⟨_, .slice (if cap = l.toNat then a else a.map (·.add (l.toNat * n))) (hh.toNat - l.toNat) (cap - l.toNat), hk, .part _ _ _ _ _ _ hkn fun bk2 md2 hg => ?_, by simp [Instr.slice, run_underlying ht, hbd, hsz]⟩
          rw [hb'] at hg
          cases hg
          refine ⟨by omega, by omega, by omega, fun hmd => ?_, fun hc => ?_⟩
          · obtain ⟨this, hnn⟩ := s2 hmd
            refine ⟨?_, by split; exact hnn; cases a; exact absurd rfl hnn; simp⟩
            rw [Nat.zero_add] at this
            rw [show l.toNat + (cap - l.toNat) = cap by omega]
            exact this
          · rw [if_neg (by omega), s3 (by omega)]
            simp [addr_add, hs]
      · cases hr
  · rename_i b off len
    cases hx with
    | part _ _ _ a n0 cap hkn hv =>
      split at hr
      · rename_i bm hb
        obtain ⟨bk, md⟩ := bm
        have hb' := hsub _ _ hb
        obtain ⟨hle, rfl, s1, s2, s3⟩ := hv bk md hb'
        have hs : bk.str = n := hsub.strIs (.inr ⟨_, _, rfl⟩) hb hst
        obtain ⟨l, hh, h0, h1, h2, hk, hbd⟩ := bnd_sound (P := P) (w := w) (cap := cap) s1 true hlo hlo0 hhi hhi0 hr
        refine ⟨_, .slice (if cap = l.toNat then a else a.map (·.add (l.toNat * n))) (hh.toNat - l.toNat) (cap - l.toNat), hk, .part _ _ _ _ _ _ hkn fun bk2 md2 hg => ?_, by simp [Instr.slice, run_underlying ht, hbd, hsz]⟩
        rw [hb'] at hg
        cases hg
        refine ⟨by omega, by omega, by omega, fun hmd => ?_, fun hc => ?_⟩
        · obtain ⟨this, hnn⟩ := s2 hmd
          refine ⟨?_, by split; exact hnn; cases a; exact absurd rfl hnn; simp⟩
          rw [show off + l.toNat + (cap - l.toNat) = off + cap by omega]
          exact this
        · rw [if_neg (by omega), s3 (by omega)]
          simp only [Option.map_some, addr_add, hs, Nat.add_mul]
          congr 2
          omega
      · cases hr
  · exact absurd rfl (hxs _)
  · cases hr

theorem sliceStr_sound {X : Type} {P : Program} {m : Map} {H : Heap} {w : World} {t : TypeId} (ht : P.underlying t = some .string) {s : ByteArray} {lo hi : Option AV} {lo' hi' : Option Value}
    (hlo : ∀ y, lo = some y → ∃ y', lo' = some y' ∧ VR m H y y') (hlo0 : lo = none → lo' = none) (hhi : ∀ y, hi = some y → ∃ y', hi' = some y' ∧ VR m H y y') (hhi0 : hi = none → hi' = none)
    {K : Heap} {k : AV → Option X} {r : X} (hr : sliceOp K (.str s) lo hi k = some r) : ∃ y y', k y = some r ∧ VR m H y y' ∧ (Instr.slice t (.string s) lo' hi' none).run P w = .ok y' w := by
  unfold sliceOp at hr
  obtain ⟨l, hh, h0, h1, h2, hk, hbd⟩ := bnd_sound (P := P) (w := w) (cap := s.size) (Nat.le_refl _) false hlo hlo0 hhi hhi0 hr
  exact ⟨_, _, hk, .str _, by simp [Instr.slice, run_underlying ht, hbd]⟩

end Go.Ab
end

section
/- What the evaluator's words answer does not hang on what comes behind, nor on what else lies in the heap. No condition. -/
namespace Go.Ab
open Go

theorem content_mono {K H : Heap} (hs : SubH K H) {s : AV} {r : Option Blk} (h : content K s = some r) : content H s = some r := by
  unfold content at h ⊢
  split at h
  · exact h
  · split at h
    · rename_i bk md hg; simp only [hs _ _ hg]; exact h
    · cases h
  · split at h
    · rename_i bk md hg; simp only [hs _ _ hg]; exact h
    · cases h
  · split at h
    · rename_i bk md hg; simp only [hs _ _ hg]; exact h
    · cases h
  · cases h

theorem strIs_mono {K H : Heap} (hs : SubH K H) {s : AV} {n : Nat} (h : strIs K s n = true) : strIs H s n = true := by
  unfold strIs at h ⊢
  split at h
  · rename_i hc; rw [content_mono hs hc]; exact h
  · rename_i hc; rw [content_mono hs hc]
  · cases h

theorem killed_mono {K H : Heap} (hs : SubH K H) {s : AV} {r : Delta} (h : killed K s = some r) : killed H s = some r := by
  unfold killed at h ⊢
  split at h
  · exact h
  · split at h
    · rename_i bk hg; simp only [hs _ _ hg]; exact h
    · cases h
  · split at h
    · rename_i bk hg; simp only [hs _ _ hg]; exact h
    · cases h
  · split at h
    · rename_i bk hg; simp only [hs _ _ hg]; exact h
    · cases h
  · cases h

theorem wholeLen_mono {K H : Heap} (hs : SubH K H) {s : AV} {r : Nat} (h : wholeLen K s = some r) : wholeLen H s = some r := by
  unfold wholeLen at h ⊢
  split at h
  · split at h
    · rename_i bk md hg; simp only [hs _ _ hg]; exact h
    · cases h
  · split at h
    · rename_i bk md hg; simp only [hs _ _ hg]; exact h
    · cases h
  · split at h
    · rename_i bk hg; simp only [hs _ _ hg]; exact h
    · cases h
  · exact h
  · exact h
  · cases h

theorem need_mk {X : Type} {p : Prop} [Decidable p] (h : p) (t : Option X) : need p t = t := by unfold need; rw [if_pos h]

theorem app_det {X : Type} {K : Heap} {bytes q : Nat} {s x : AV} {k : AV → Delta → Option X} {r : X} (h : app K bytes s x q k = some r) :
    ∃ v D, app K bytes s x q (fun v D => some (v, D)) = some (v, D) ∧ k v D = some r := by
  unfold app at h ⊢
  split at h
  · exact ⟨_, _, rfl, h⟩
  · rename_i hne c1 c2
    split at h
    · rename_i bk D hj hk
      cases ha : isAcc s with
      | true =>
        rw [ha] at h
        obtain ⟨h0, h1⟩ := need_some h
        exact ⟨_, _, by simp only; rw [need_mk h0], h1⟩
      | false =>
        rw [ha] at h
        obtain ⟨h0, h1⟩ := need_some h
        exact ⟨_, _, by simp only; rw [need_mk h0], h1⟩
    · cases h
  · cases h

theorem app_mono {K H : Heap} (hs : SubH K H) {bytes q : Nat} {s x : AV} {r : AV × Delta} (h : app K bytes s x q (fun v D => some (v, D)) = some r) :
    app H bytes s x q (fun v D => some (v, D)) = some r := by
  unfold app at h ⊢
  split at h
  · rename_i c1 c2; simp only [content_mono hs c1, content_mono hs c2]; exact h
  · rename_i hne c1 c2
    split at h
    · rename_i bk D hj hk
      have g1 := content_mono hs c1
      have g2 := content_mono hs c2
      have g3 := killed_mono hs hk
      rename_i cs cx _ _
      cases cs with
      | none =>
        cases cx with
        | none => exact absurd rfl (hne rfl)
        | some b => simp only [g1, g2, hj, g3]; exact h
      | some b => simp only [g1, g2, hj, g3]; exact h
    · cases h
  · cases h

theorem bnd_det {X : Type} {n : Nat} {lo hi : Option AV} {k : Int → Int → Option X} {r : X} (h : bnd n lo hi k = some r) :
    ∃ a b, k a b = some r ∧ ∀ (Y : Type) (f : Int → Int → Option Y), bnd n lo hi f = f a b := by
  unfold bnd at h
  split at h
  · exact ⟨_, _, h, fun _ _ => rfl⟩
  · obtain ⟨h0, h1⟩ := need_some h; exact ⟨_, _, h1, fun _ _ => by unfold bnd; exact need_mk h0 _⟩
  · obtain ⟨h0, h1⟩ := need_some h; exact ⟨_, _, h1, fun _ _ => by unfold bnd; exact need_mk h0 _⟩
  · obtain ⟨h0, h1⟩ := need_some h; exact ⟨_, _, h1, fun _ _ => by unfold bnd; exact need_mk h0 _⟩
  · cases h

theorem sliceOp_det {X : Type} {K : Heap} {x : AV} {lo hi : Option AV} {k : AV → Option X} {r : X} (h : sliceOp K x lo hi k = some r) :
    ∃ y, sliceOp K x lo hi some = some y ∧ k y = some r := by
  unfold sliceOp at h ⊢
  split at h
  · obtain ⟨a, b, h1, h2⟩ := bnd_det h; exact ⟨_, h2 _ _, h1⟩
  · split at h
    · cases lo with
      | none =>
        cases hi with
        | none => exact ⟨_, rfl, h⟩
        | some b => obtain ⟨a, b, h1, h2⟩ := bnd_det h; exact ⟨_, h2 _ _, h1⟩
      | some b => obtain ⟨a, b, h1, h2⟩ := bnd_det h; exact ⟨_, h2 _ _, h1⟩
    · cases h
  · split at h
    · obtain ⟨a, b, h1, h2⟩ := bnd_det h; exact ⟨_, h2 _ _, h1⟩
    · cases h
  · obtain ⟨a, b, h1, h2⟩ := bnd_det h; exact ⟨_, h2 _ _, h1⟩
  · cases h

theorem bin_det {X : Type} {P : Program} {t : TypeId} {op : BinOp} {K H : Heap} (hs : SubH K H) {x y : AV} {k : AV → Option X} {r : X} (h : bin P t op K x y k = some r) :
    ∃ v, bin P t op H x y some = some v ∧ k v = some r := by
  unfold bin at h
  split at h
  · cases op <;> simp only at h
    case shl => obtain ⟨h0, h1⟩ := need_some h; exact ⟨_, by simp only [bin]; rw [need_mk h0], h1⟩
    case shr => obtain ⟨h0, h1⟩ := need_some h; exact ⟨_, by simp only [bin]; rw [need_mk h0], h1⟩
    all_goals
      split at h
      · rename_i hk
        first
        | cases h; done
        | (obtain ⟨h0, h1⟩ := need_some h
           exact ⟨_, by simp only [bin]; rw [if_pos hk, need_mk h0], h1⟩)
        | exact ⟨_, by simp only [bin]; rw [if_pos hk], h⟩
      · cases h
  · split at h
    · rename_i hu; exact ⟨_, by simp only [bin, hu], h⟩
    · rename_i hu; exact ⟨_, by simp only [bin, hu], h⟩
    · cases h
  · split at h
    · rename_i hu; exact ⟨_, by simp only [bin, hu], h⟩
    · rename_i hu; exact ⟨_, by simp only [bin, hu], h⟩
    · cases h
  · split at h
    · rename_i hg hu; exact ⟨_, by simp only [bin, hs _ _ hg, hu], h⟩
    · rename_i hg hu; exact ⟨_, by simp only [bin, hs _ _ hg, hu], h⟩
    · cases h
  · split at h
    · rename_i hu; exact ⟨_, by simp only [bin, hu], h⟩
    · rename_i hu; exact ⟨_, by simp only [bin, hu], h⟩
    · cases h
  · split at h
    · rename_i hg hu; obtain ⟨h0, h1⟩ := need_some h; exact ⟨_, by simp only [bin, hs _ _ hg, hu]; rw [need_mk h0], h1⟩
    · rename_i hg hu; obtain ⟨h0, h1⟩ := need_some h; exact ⟨_, by simp only [bin, hs _ _ hg, hu]; rw [need_mk h0], h1⟩
    · cases h
  · split at h
    · rename_i hg hu; obtain ⟨h0, h1⟩ := need_some h; exact ⟨_, by simp only [bin, hs _ _ hg, hu]; rw [need_mk h0], h1⟩
    · rename_i hg hu; obtain ⟨h0, h1⟩ := need_some h; exact ⟨_, by simp only [bin, hs _ _ hg, hu]; rw [need_mk h0], h1⟩
    · cases h
  · split at h
    · rename_i hu; exact ⟨_, by simp only [bin, hu], h⟩
    · rename_i hu; exact ⟨_, by simp only [bin, hu], h⟩
    · cases h
  · cases h

theorem un_det {X : Type} {op : UnOp} {x : AV} {k : AV → Option X} {r : X} (h : un op x k = some r) : ∃ v, un op x some = some v ∧ k v = some r := by
  unfold un at h
  split at h
  · exact ⟨_, by simp only [un], h⟩
  · exact ⟨_, by simp only [un], h⟩
  · cases h

end Go.Ab
end

section
/- Each operation's word in the evaluator is a step of the model's. No condition. -/
namespace Go.Ab
open Go

def EnterOk (P : Program) (f : FuncId) : Prop := ∃ fn, P.funcs[f]? = some fn ∧ fn.body.isNone = false ∧ (fn.name == "runtime.NumGoroutine") = false

/-- what a call does in every heap that bears what it looks at -/
def CallStep (P : Program) (f : FuncId) (args : List AV) (K : Heap) (q : Nat) (v : AV) (D : Delta) : Prop :=
  EnterOk P f ∧ ∀ m H w (args' : Array Value), SubH K H → (∀ d ∈ D, q ≤ d.1 → hkn H d.1 = false) → Sim m H w → args.length = args'.size →
    (∀ (j : Nat) (x : AV) (y : Value), args[j]? = some x → args'[j]? = some y → VR m H x y) →
    Calls P f args' w fun e w' => ∃ v' m', e = .returned v' ∧ Sim m' (hput H D) w' ∧ VR m' (hput H D) v v' ∧ Tr m H w m' (hput H D) w'

def CtxOk {X : Type} (c : Ctx X) : Prop := ∀ f args K q k r, c.call f args K q k = some r → ∃ v D, k v D = some r ∧ CallStep c.P f args K q v D

section
variable {X : Type} {P : Program} {e : Operand → AV} {K : Heap} {q : Nat} {dst : Option Tmp} {ty : TypeId} {pos : String} {after : Array Edge} {guard : Option (Nat × Bool)}

theorem st_move (x : Operand) : Step P ⟨dst, .move x, ty, pos, after, guard⟩ e K q (e x) [] :=
  step_pure fun m H a w _ _ hx => ⟨_, by simp [execOp], hx x (by simp [Op.operands])⟩

theorem st_assign (x : Operand) : Step P ⟨dst, .assign x, ty, pos, after, guard⟩ e K q (e x) [] :=
  step_pure fun m H a w _ _ hx => ⟨_, by simp [execOp], hx x (by simp [Op.operands])⟩

theorem st_pick {b x y : Operand} {t : Bool} (hb : e b = .bool t) : Step P ⟨dst, .pick b x y, ty, pos, after, guard⟩ e K q (if t then e x else e y) [] := by
  refine step_pure fun m H a w _ _ hx => ?_
  have h1 := hx b (by simp [Op.operands])
  rw [hb] at h1
  have h2 := hx x (by simp [Op.operands])
  have h3 := hx y (by simp [Op.operands])
  generalize ha : a.eval b = vb at h1
  cases h1
  refine ⟨if t then a.eval x else a.eval y, by simp [execOp, ha, asBool], ?_⟩
  cases t
  · exact h3
  · exact h2

theorem st_bin {op : BinOp} {t ty' : TypeId} {x y : Operand} {v : AV} (h : ∀ H, SubH K H → bin P t op H (e x) (e y) some = some v) : Step P ⟨dst, .binOp op t x y ty', ty, pos, after, guard⟩ e K q v [] := by
  refine step_pure fun m H a w hs _ hx => ?_
  obtain ⟨v1, v', h1, h2, h3⟩ := bin_sound w x y (hx x (by simp [Op.operands])) (hx y (by simp [Op.operands])) (h H hs)
  cases h1
  refine ⟨v', ?_, h2⟩
  simp only [execOp]
  simp only [Sem.run_bind] at h3 ⊢
  rw [h3]
  simp

theorem st_un {op : UnOp} {t : TypeId} {x : Operand} {v : AV} (h : un op (e x) some = some v) : Step P ⟨dst, .unOp op t x, ty, pos, after, guard⟩ e K q v [] := by
  refine step_pure fun m H a w hs _ hx => ?_
  obtain ⟨v1, v', h1, h2, h3⟩ := un_sound (P := P) w (hx x (by simp [Op.operands])) h
  cases h1
  exact ⟨v', by simp [execOp, h3], h2⟩

theorem st_convert {src d : TypeId} {x : Operand} {ks kd k : IntKind} {n : Int} (h1 : P.underlying src = some (.int ks)) (h2 : P.underlying d = some (.int kd)) (h3 : e x = .int k n) :
    Step P ⟨dst, .convert src d x, ty, pos, after, guard⟩ e K q (.int kd (kd.wrap n)) [] := by
  refine step_pure fun m H a w hs _ hx => ?_
  have hv := hx x (by simp [Op.operands])
  rw [h3] at hv
  generalize ha : a.eval x = vx at hv
  cases hv
  exact ⟨.int kd (kd.wrap n), by simp [execOp, ha, convert, run_underlying h1, run_underlying h2, Conv.intToInt], .int _ _⟩

theorem st_extract {x : Operand} {i : Nat} {l : List AV} {v : AV} (h1 : e x = .tuple l) (h2 : l[i]? = some v) : Step P ⟨dst, .extract x i, ty, pos, after, guard⟩ e K q v [] := by
  refine step_pure fun m H a w hs _ hx => ?_
  have hv := hx x (by simp [Op.operands])
  rw [h1] at hv
  generalize ha : a.eval x = vx at hv
  cases hv with
  | tuple _ cs hl hh =>
    have hi : i < cs.size := by
      rw [← hl]
      exact (List.getElem?_eq_some_iff.1 h2).1
    refine ⟨cs[i], ?_, hh i v _ h2 (by simp [hi])⟩
    simp [execOp, ha, Instr.extract, hi]

theorem st_nilCheck {x : Operand} {b i fo : Nat} {bm : Blk × Md} (h1 : e x = .ptr b i fo) (_h2 : hget K b = some bm) : Step P ⟨dst, .nilCheck x, ty, pos, after, guard⟩ e K q (.ptr b i fo) [] := by
  refine step_pure fun m H a w hs _ hx => ?_
  have hv := hx x (by simp [Op.operands])
  rw [h1] at hv
  generalize ha : a.eval x = vx at hv
  cases hv with
  | ptr _ _ _ ad hb hh => exact ⟨_, by simp [execOp, ha], .ptr b i fo ad hb hh⟩

theorem st_load {t : TypeId} {x : Operand} {b i fo : Nat} {bk : Blk} {md : Md} {v : AV} (h1 : e x = .ptr b i fo) (h2 : hget K b = some (bk, md)) (h3 : isAggT P t = some false) (h4 : bk.ld i fo = some v) :
    Step P ⟨dst, .load t x, ty, pos, after, guard⟩ e K q v [] := by
  refine step_pure fun m H a w hs hsim hx => ?_
  have hv := hx x (by simp [Op.operands])
  rw [h1] at hv
  obtain ⟨v', g1, g2⟩ := (load_sound (P := P) hsim hv (hs _ _ h2)).1 v h3 h4
  exact ⟨v', by simp [execOp, g2], g1⟩

theorem st_loadAgg {t : TypeId} {x : Operand} {b i fo n : Nat} {bk : Blk} {md : Md} {l : List AV} (h1 : e x = .ptr b i fo) (h2 : hget K b = some (bk, md)) (h3 : isAggT P t = some true) (h4 : sizeT P t = some n) (h5 : fo + n ≤ bk.str) (h6 : ldn bk i fo n = some l) :
    Step P ⟨dst, .load t x, ty, pos, after, guard⟩ e K q (.agg l) [] := by
  refine step_pure fun m H a w hs hsim hx => ?_
  have hv := hx x (by simp [Op.operands])
  rw [h1] at hv
  obtain ⟨cs, g1, g2, g3⟩ := (load_sound (P := P) hsim hv (hs _ _ h2)).2 n l h3 h4 h5 h6
  exact ⟨.agg cs, by simp [execOp, g3], .agg l cs g1 g2⟩

theorem st_store {t : TypeId} {ad x : Operand} {b i fo n : Nat} {bk bk' : Blk} {md : Md} (h1 : e ad = .ptr b i fo) (h2 : hget K b = some (bk, md)) (h3 : md ≠ .ro) (h4 : sizeT P t = some n) (h5 : (cellsOf (e x)).length = n) (h6 : fo + n ≤ bk.str)
    (h7 : stA i (cellsOf (e x)) fo bk = some bk') : Step P ⟨dst, .store t ad x, ty, pos, after, guard⟩ e K q (.tuple []) [(b, .live bk' md)] := by
  intro m H a w hs _ hsim hx next Q hn
  have hv := hx ad (by simp [Op.operands])
  have hv2 := hx x (by simp [Op.operands])
  rw [h1] at hv
  obtain ⟨w', g1, g2, g3⟩ := store_sound (P := P) hsim hv hv2 (hs _ _ h2) h3 h4 h5 h6 h7
  refine wp_skip' (w' := w') (by simp [execOp, g1]) (hn undef m w' g2 ?_ g3)
  exact .tuple [] _ rfl fun j x y h => by simp at h

theorem st_fieldAddr {s : TypeId} {x : Operand} {f b i fo sz : Nat} {fs : Array Field} {fd : Field} {bk : Blk} {md : Md} (h1 : fieldsOf P s = some fs) (h2 : e x = .ptr b i fo) (h3 : fs[f]? = some fd) (h4 : hget K b = some (bk, md))
    (h5 : sizeT P fd.type = some (sz + 1)) (h6 : fo + fd.offset < bk.str) : Step P ⟨dst, .fieldAddr s x f, ty, pos, after, guard⟩ e K q (.ptr b i (fo + fd.offset)) [] := by
  refine step_pure fun m H a w hs hsim hx => ?_
  have hv := hx x (by simp [Op.operands])
  rw [h2] at hv
  have hu : P.underlying s = some (.struct fs) := by
    unfold fieldsOf at h1
    split at h1
    · rename_i e; cases h1; exact e
    · cases h1
  generalize ha : a.eval x = vx at hv
  cases hv with
  | ptr _ _ _ ad hb hh =>
    obtain ⟨k1, k2, k3⟩ := hh bk md (hs _ _ h4)
    refine ⟨.pointer (some (ad.add fd.offset)), ?_, .ptr _ _ _ _ hb fun bk' md' hg => ?_⟩
    · simp [execOp, ha, Instr.fieldAt, run_underlying hu, h3, Instr.sureAddr, fieldPlace, run_sizeOf' h5]
    · rw [hs _ _ h4] at hg
      cases hg
      refine ⟨k1, h6, ?_⟩
      simp [k3, addr_add, Nat.add_assoc]

theorem st_field {s : TypeId} {x : Operand} {f : Nat} {fs : Array Field} {fd : Field} {l : List AV} {v : AV} (h1 : fieldsOf P s = some fs) (h2 : e x = .agg l) (h3 : fs[f]? = some fd) (h4 : isAggT P fd.type = some false) (h5 : l[fd.offset]? = some v) :
    Step P ⟨dst, .field s x f, ty, pos, after, guard⟩ e K q v [] := by
  refine step_pure fun m H a w hs hsim hx => ?_
  have hv := hx x (by simp [Op.operands])
  rw [h2] at hv
  have hu : P.underlying s = some (.struct fs) := by
    unfold fieldsOf at h1
    split at h1
    · rename_i e; cases h1; exact e
    · cases h1
  generalize ha : a.eval x = vx at hv
  cases hv with
  | agg _ cs hl hh =>
    have hi : fd.offset < cs.size := by
      rw [← hl]
      exact (List.getElem?_eq_some_iff.1 h5).1
    refine ⟨cs[fd.offset], ?_, hh _ v _ h5 (by simp [hi])⟩
    simp [execOp, ha, Instr.field, run_underlying hu, h3, part, run_isAgg' h4, asAgg, hi]

theorem st_fieldAgg {s : TypeId} {x : Operand} {f n : Nat} {fs : Array Field} {fd : Field} {l : List AV} (h1 : fieldsOf P s = some fs) (h2 : e x = .agg l) (h3 : fs[f]? = some fd) (h4 : isAggT P fd.type = some true) (h5 : sizeT P fd.type = some n) (h6 : fd.offset + n ≤ l.length) :
    Step P ⟨dst, .field s x f, ty, pos, after, guard⟩ e K q (.agg ((l.drop fd.offset).take n)) [] := by
  refine step_pure fun m H a w hs hsim hx => ?_
  have hv := hx x (by simp [Op.operands])
  rw [h2] at hv
  have hu : P.underlying s = some (.struct fs) := by
    unfold fieldsOf at h1
    split at h1
    · rename_i e; cases h1; exact e
    · cases h1
  generalize ha : a.eval x = vx at hv
  cases hv with
  | agg _ cs hl hh =>
    refine ⟨.agg (cs.extract fd.offset (fd.offset + n)), ?_, .agg _ _ (by simp; omega) fun j y u hy hu => ?_⟩
    · simp [execOp, ha, Instr.field, run_underlying hu, h3, part, run_isAgg' h4, run_sizeOf' h5, asAgg]
    · simp only [List.getElem?_take, List.getElem?_drop] at hy
      simp only [Array.getElem?_extract] at hu
      split at hy
      · rw [if_pos (by omega)] at hu
        exact hh _ y u hy hu
      · cases hy

theorem st_indexAddr {t el : TypeId} {x ix : Operand} {k : IntKind} {i : Int} {b n : Nat} {bk : Blk} {md : Md} (h1 : P.underlying t = some (.slice el)) (h2 : e ix = .int k i) (h3 : e x = .whole b) (h4 : sizeT P el = some n) (h5 : hget K b = some (bk, md))
    (h6 : n = bk.str) (h7 : 0 ≤ i ∧ i < bk.num) : Step P ⟨dst, .indexAddr t x ix, ty, pos, after, guard⟩ e K q (.ptr b i.toNat 0) [] := by
  refine step_pure fun m H a w hs hsim hx => ?_
  have hv := hx x (by simp [Op.operands])
  have hi := hx ix (by simp [Op.operands])
  rw [h3] at hv
  rw [h2] at hi
  generalize ha : a.eval x = vx at hv
  generalize hai : a.eval ix = vi at hi
  cases hi
  have hg := hs _ _ h5
  cases hv with
  | whole _ ad len cap hb hh =>
    obtain ⟨rfl, s1, s2, s3⟩ := hh bk md hg
    obtain ⟨g1, g2⟩ := h7
    have g2' : i < (bk.num : Int) := g2
    obtain rfl := s3 (by omega)
    refine ⟨_, by simp [execOp, ha, hai, Instr.indexAt, asIntOf, run_underlying h1, g1, g2', run_sizeOf' h4]; rfl, .ptr _ _ _ _ hb fun bk' md' hg' => ?_⟩
    rw [hg] at hg'
    cases hg'
    exact ⟨by omega, ((hsim.blk _ _ _ hg).1).pos, by simp [addr_add, h6]⟩

theorem intsOf_at : ∀ {l : List AV} {kd : IntKind} {zs : List Int}, intsOf l = some (kd, zs) → ∀ j, j < zs.length → l[j]? = some (.int kd (zs.getD j 0))
  | [], kd, zs, h => by simp [intsOf] at h
  | x :: l, kd, zs, h => by
    unfold intsOf at h
    split at h
    · rename_i heq
      cases heq
      cases h
      intro j hj
      have : j = 0 := by simp at hj; omega
      subst this; rfl
    · rename_i k n l' hne heq
      cases heq
      split at h
      · rename_i k' zs' h1
        split at h
        · rename_i hk
          cases h
          subst hk
          intro j hj
          cases j with
          | zero => rfl
          | succ j =>
            have := intsOf_at h1 j (by simpa using hj)
            simpa using this
        · cases h
      · cases h
    · cases h
theorem st_indexArrS {t el : TypeId} {N : Nat} {x ix : Operand} {k : IntKind} {i : Int} {l : List AV} {v : AV} (h1 : P.underlying t = some (.array N el)) (h2 : e ix = .int k i) (h3 : e x = .agg l) (h4 : isAggT P el = some false) (h4' : sizeT P el = some 1) (h7 : 0 ≤ i ∧ i < N) (h8 : l[i.toNat]? = some v) :
    Step P ⟨dst, .index t x ix, ty, pos, after, guard⟩ e K q v [] := by
  refine step_pure fun m H a w hs hsim hx => ?_
  have hv := hx x (by simp [Op.operands])
  have hi := hx ix (by simp [Op.operands])
  rw [h3] at hv
  rw [h2] at hi
  generalize ha : a.eval x = vx at hv
  generalize hai : a.eval ix = vi at hi
  cases hi
  cases hv with
  | agg _ cs hl hh =>
    obtain ⟨g1, g2⟩ := h7
    have hlt : i.toNat < cs.size := by
      rw [← hl]
      exact (List.getElem?_eq_some_iff.1 h8).1
    refine ⟨cs[i.toNat], ?_, hh _ v _ h8 (by simp [hlt])⟩
    simp [execOp, ha, hai, Instr.index, asIntOf, run_underlying h1, g1, g2, part, run_isAgg' h4, run_sizeOf' h4', asAgg, hlt]

theorem st_indexAddrC {t el : TypeId} {x ix : Operand} {k : IntKind} {i : Int} {b n : Nat} {bk : Blk} {md : Md} (h1 : P.underlying t = some (.slice el)) (h2 : e ix = .int k i) (h3 : e x = .acc b) (h4 : sizeT P el = some n) (h5 : hget K b = some (bk, md))
    (h6 : n = bk.str) (h7 : 0 ≤ i ∧ i < bk.num) : Step P ⟨dst, .indexAddr t x ix, ty, pos, after, guard⟩ e K q (.ptr b i.toNat 0) [] := by
  refine step_pure fun m H a w hs hsim hx => ?_
  have hv := hx x (by simp [Op.operands])
  have hi := hx ix (by simp [Op.operands])
  rw [h3] at hv
  rw [h2] at hi
  generalize ha : a.eval x = vx at hv
  generalize hai : a.eval ix = vi at hi
  cases hi
  have hg := hs _ _ h5
  cases hv with
  | acc _ ad len cap hb hh =>
    obtain ⟨rfl, s1, s2, s3⟩ := hh bk md hg
    obtain ⟨g1, g2⟩ := h7
    have g2' : i < (bk.num : Int) := g2
    obtain rfl := s3 (by omega)
    refine ⟨_, by simp [execOp, ha, hai, Instr.indexAt, asIntOf, run_underlying h1, g1, g2', run_sizeOf' h4]; rfl, .ptr _ _ _ _ hb fun bk' md' hg' => ?_⟩
    rw [hg] at hg'
    cases hg'
    exact ⟨by omega, ((hsim.blk _ _ _ hg).1).pos, by simp [addr_add, h6]⟩

theorem st_indexAddrP {t el : TypeId} {x ix : Operand} {k : IntKind} {i : Int} {b n off len : Nat} {bk : Blk} {md : Md} (h1 : P.underlying t = some (.slice el)) (h2 : e ix = .int k i) (h3 : e x = .part b off len) (h4 : sizeT P el = some n) (h5 : hget K b = some (bk, md))
    (h6 : n = bk.str) (h7 : 0 ≤ i ∧ i < len) : Step P ⟨dst, .indexAddr t x ix, ty, pos, after, guard⟩ e K q (.ptr b (off + i.toNat) 0) [] := by
  refine step_pure fun m H a w hs hsim hx => ?_
  have hv := hx x (by simp [Op.operands])
  have hi := hx ix (by simp [Op.operands])
  rw [h3] at hv
  rw [h2] at hi
  generalize ha : a.eval x = vx at hv
  generalize hai : a.eval ix = vi at hi
  cases hi
  have hg := hs _ _ h5
  cases hv with
  | part _ _ _ ad len' cap hb hh =>
    obtain ⟨hle, rfl, s1, s2, s3⟩ := hh bk md hg
    obtain ⟨g1, g2⟩ := h7
    obtain rfl := s3 (by omega)
    refine ⟨_, by simp [execOp, ha, hai, Instr.indexAt, asIntOf, run_underlying h1, g1, g2, run_sizeOf' h4]; rfl, .ptr _ _ _ _ hb fun bk' md' hg' => ?_⟩
    rw [hg] at hg'
    cases hg'
    exact ⟨by omega, ((hsim.blk _ _ _ hg).1).pos, by simp [addr_add, h6, Nat.add_mul, Nat.add_assoc]⟩

theorem st_indexAddrA {t el : TypeId} {x ix : Operand} {k : IntKind} {i : Int} {b j fo n len : Nat} {bk : Blk} {md : Md} (h1 : P.underlying t = some (.array len el)) (h2 : e ix = .int k i) (h3 : e x = .ptr b j fo) (h4 : sizeT P el = some n) (h5 : hget K b = some (bk, md))
    (h6 : 1 < len ∧ 0 < n ∧ fo + len * n ≤ bk.str) (h7 : 0 ≤ i ∧ i < len) : Step P ⟨dst, .indexAddr t x ix, ty, pos, after, guard⟩ e K q (.ptr b j (fo + i.toNat * n)) [] := by
  refine step_pure fun m H a w hs hsim hx => ?_
  have hv := hx x (by simp [Op.operands])
  have hi := hx ix (by simp [Op.operands])
  rw [h3] at hv
  rw [h2] at hi
  generalize ha : a.eval x = vx at hv
  generalize hai : a.eval ix = vi at hi
  cases hi
  have hg := hs _ _ h5
  cases hv with
  | ptr _ _ _ ad hb hh =>
    obtain ⟨k1, k2, rfl⟩ := hh bk md hg
    obtain ⟨g1, g2⟩ := h7
    obtain ⟨l1, l2, l3⟩ := h6
    refine ⟨_, by simp [execOp, ha, hai, Instr.indexAt, asIntOf, run_underlying h1, g1, g2, run_sizeOf' h4, Instr.sureAddr]; rfl, .ptr _ _ _ _ hb fun bk' md' hg' => ?_⟩
    rw [hg] at hg'
    cases hg'
    refine ⟨k1, ?_, by simp [addr_add, Nat.add_assoc]⟩
    have : (i.toNat + 1) * n ≤ len * n := Nat.mul_le_mul_right _ (by omega)
    rw [Nat.add_mul] at this
    omega

theorem st_indexStr {t : TypeId} {x ix : Operand} {k : IntKind} {i : Int} {s : ByteArray} (h1 : P.underlying t = some .string) (h2 : e ix = .int k i) (h3 : e x = .str s) (h7 : 0 ≤ i ∧ i < s.size) :
    Step P ⟨dst, .index t x ix, ty, pos, after, guard⟩ e K q (.int .u8 (s.data.getD i.toNat 0).toNat) [] := by
  refine step_pure fun m H a w hs hsim hx => ?_
  have hv := hx x (by simp [Op.operands])
  have hi := hx ix (by simp [Op.operands])
  rw [h3] at hv
  rw [h2] at hi
  generalize ha : a.eval x = vx at hv
  generalize hai : a.eval ix = vi at hi
  cases hi
  cases hv
  obtain ⟨g1, g2⟩ := h7
  have hlt : i.toNat < s.size := by omega
  have hb : s[i.toNat]? = some (s.data.getD i.toNat 0) := by
    rw [getElem?_pos s i.toNat hlt]
    simp [Array.getD, ByteArray.getElem_eq_getElem_data]
    intro h; omega
  refine ⟨_, ?_, .int _ _⟩
  simp [execOp, ha, hai, Instr.index, asIntOf, run_underlying h1, g1, hb]

end
end Go.Ab
end

section
/- Each operation's word in the evaluator is a step of the model's: what is made. No condition. -/
namespace Go.Ab
open Go

theorem splice_get {α : Type} (l xs : List α) (off : Nat) (h : off + xs.length ≤ l.length) (j : Nat) : (splice l off xs)[j]? = if off ≤ j ∧ j < off + xs.length then xs[j - off]? else l[j]? := by
  unfold splice
  by_cases h1 : j < off
  · rw [if_neg (by omega), List.append_assoc, List.getElem?_append_left (by simp; omega), List.getElem?_take, if_pos h1]
  · by_cases h2 : j < off + xs.length
    · rw [if_pos ⟨by omega, h2⟩, List.append_assoc, List.getElem?_append_right (by simp; omega)]
      simp only [List.length_take]
      rw [Nat.min_eq_left (by omega), List.getElem?_append_left (by omega)]
    · rw [if_neg (by omega), List.getElem?_append_right (by simp; omega)]
      simp only [List.length_append, List.length_take, List.getElem?_drop]
      rw [Nat.min_eq_left (by omega)]
      congr 1
      omega

theorem splice_length {α : Type} (l xs : List α) (off : Nat) (h : off + xs.length ≤ l.length) : (splice l off xs).length = l.length := by
  unfold splice
  simp
  omega

theorem fillAgg_sound {m : Map} {H : Heap} {pl : Nat → Option (Nat × Nat)} : ∀ (parts : List (Nat × AV)) (parts' : List (Nat × Value)) (l l' : List AV) (c : Array Value), l.length = c.size → (∀ (j : Nat) (x : AV) (v : Value), l[j]? = some x → c[j]? = some v → VR m H x v) → parts.length = parts'.length →
    (∀ (j : Nat) (x : Nat × AV) (y : Nat × Value), parts[j]? = some x → parts'[j]? = some y → x.1 = y.1 ∧ VR m H x.2 y.2) → fillAgg pl parts l = some l' →
    ∃ c', Instr.fill pl c parts' = some c' ∧ l'.length = c'.size ∧ ∀ (j : Nat) (x : AV) (v : Value), l'[j]? = some x → c'[j]? = some v → VR m H x v
  | [], parts', l, l', c, hc, hv, hl, _, h => by
    obtain rfl : parts' = [] := List.eq_nil_of_length_eq_zero (by simpa using hl.symm)
    simp only [fillAgg, Option.some.injEq] at h
    subst h
    exact ⟨c, rfl, hc, hv⟩
  | (i, x) :: parts, parts', l, l', c, hc, hcv, hl, hv, h => by
    cases parts' with
    | nil => simp at hl
    | cons y parts' =>
      obtain ⟨i', v⟩ := y
      obtain ⟨hii, hx⟩ := hv 0 (i, x) (i', v) rfl rfl
      have hx : VR m H x v := hx
      obtain rfl : i = i' := hii
      simp only [fillAgg] at h
      split at h
      · rename_i off size hpl
        split at h
        · rename_i hcond
          obtain ⟨q1, q2, q3⟩ := hcond
          obtain ⟨k1, k2⟩ := hx.cells q3
          have k3 : v.cells.size = size := by rw [← k1]; exact q1
          obtain ⟨f1, f2⟩ := fold_set v.cells off c
          have hol : off + (cellsOf x).length ≤ l.length := by rw [q1]; exact q2
          have := fillAgg_sound parts parts' (splice l off (cellsOf x)) l' (v.cells.zipIdx.foldl (fun cs (p : Value × Nat) => cs.setIfInBounds (off + p.2) p.1) c)
            (by rw [splice_length l (cellsOf x) off hol, f1]; exact hc) (fun j y u hy hu => by
              rw [splice_get l (cellsOf x) off hol] at hy
              rw [f2 j] at hu
              by_cases hj : off ≤ j ∧ j < off + (cellsOf x).length
              · rw [if_pos hj] at hy
                rw [if_pos (by omega)] at hu
                exact k2 _ _ _ hy hu
              · rw [if_neg hj] at hy
                rw [if_neg (by omega)] at hu
                exact hcv _ _ _ hy hu) (by simpa using hl) (fun j => by have := hv (j + 1); simpa using this) h
          obtain ⟨c', e1, e2, e3⟩ := this
          refine ⟨c', ?_, e2, e3⟩
          simp only [Instr.fill, hpl]
          have : ¬ (v.cells.size ≠ size || decide (off + v.cells.size > c.size)) = true := by simp; omega
          rw [if_neg this]
          exact e1
        · cases h
      · cases h

section
variable {X : Type} {P : Program} {e : Operand → AV} {K : Heap} {q : Nat} {dst : Option Tmp} {ty : TypeId} {pos : String} {after : Array Edge} {guard : Option (Nat × Bool)}

theorem parts_rel {m : Map} {H : Heap} {a : Act} {parts : Array (Nat × Operand)} (hx : ∀ x ∈ ((parts.toList.map (·.2)).toArray : Array Operand), VR m H (e x) (a.eval x)) (j : Nat) (x : Nat × AV) (y : Nat × Value)
    (h1 : (parts.toList.map fun p => (p.1, e p.2))[j]? = some x) (h2 : (parts.toList.map fun p => (p.1, a.eval p.2))[j]? = some y) : x.1 = y.1 ∧ VR m H x.2 y.2 := by
  simp only [List.getElem?_map, Option.map_eq_some_iff] at h1 h2
  obtain ⟨p, hp, rfl⟩ := h1
  obtain ⟨p', hp', rfl⟩ := h2
  rw [hp] at hp'
  cases hp'
  refine ⟨rfl, hx _ ?_⟩
  have := List.mem_of_getElem? hp
  simp
  exact ⟨p.1, by simpa using this⟩

theorem st_build {t : TypeId} {parts : Array (Nat × Operand)} {vs : List Value} {pl : Nat → Option (Nat × Nat)} {l : List AV} (h1 : zerosOf P t = some vs) (h2 : placesOf P t = some pl) (h3 : fillAgg pl (parts.toList.map fun p => (p.1, e p.2)) (vs.map cv1) = some l) :
    Step P ⟨dst, .build t parts, ty, pos, after, guard⟩ e K q (.agg l) [] := by
  refine step_pure fun m H a w hs hsim hx => ?_
  obtain ⟨i, z, z1, z2, z3, z4, z5, z6⟩ := zerosOf_sound h1
  obtain ⟨c', e1, e2, e3⟩ := fillAgg_sound (m := m) (H := H) (parts.toList.map fun p => (p.1, e p.2)) (parts.toList.map fun p => (p.1, a.eval p.2)) (vs.map cv1) l z.cells (by rw [z5]; simp)
    (fun j x v hx hv => by
      simp only [List.getElem?_map, Option.map_eq_some_iff] at hx
      obtain ⟨u, hu, rfl⟩ := hx
      rw [z5] at hu
      simp only [Array.getElem?_toList] at hu
      rw [hv] at hu
      cases hu
      exact VR.cv1 _ _ _) (by simp) (fun j x y => parts_rel (by simpa [Op.operands] using hx) j x y) h3
  refine ⟨.agg c', ?_, .agg _ _ e2 e3⟩
  have hb : P.built t (parts.map fun p => (p.1, a.eval p.2)).toList = some c' := by
    rw [Array.toList_map]
    unfold Program.built
    unfold placesOf at h2
    split at h2
    · rename_i fs hu
      split at h2
      · rename_i places hp
        cases h2
        simp only [z1, hu, z2, hp]
        simpa using e1
      · cases h2
    · rename_i len el hu
      split at h2
      · rename_i ie hp
        cases h2
        simp only [z1, hu, z2, hp]
        exact e1
      · cases h2
    · cases h2
  simp [execOp, run_build w t _ c' hb]

theorem st_box {t : TypeId} {x : Operand} (h1 : (cellsOf (e x)).all isCell = true) (h2 : 0 < (cellsOf (e x)).length) :
    Step P ⟨dst, .box t x, ty, pos, after, guard⟩ e K q (.ptr q 0 0) [(q, .live (.vals (cellsOf (e x)).length (cellsOf (e x))) .own)] := by
  refine step_val fun m H a w hs hq hsim hx => ?_
  obtain ⟨p, m', w', g1, g2, g3, g4⟩ := box_sound (P := P) hsim (hq (q, .live (.vals (cellsOf (e x)).length (cellsOf (e x))) .own) (by simp) (Nat.le_refl _)) (t := t) (hx x (by simp [Op.operands])) h1 h2
  exact ⟨p, m', w', by simp [execOp, g1], g2, g3, g4⟩

theorem st_alloc {t : TypeId} {vs : List Value} (h1 : zerosOf P t = some vs) : Step P ⟨dst, .alloc t, ty, pos, after, guard⟩ e K q (.ptr q 0 0) [(q, .live (.vals vs.length (vs.map cv1)) .own)] := by
  refine step_val fun m H a w hs hq hsim hx => ?_
  obtain ⟨p, m', w', g1, g2, g3, g4⟩ := alloc_sound (P := P) hsim (hq (q, .live (.vals vs.length (vs.map cv1)) .own) (by simp) (Nat.le_refl _)) h1 (.tuple #[])
  exact ⟨p, m', w', by simp [execOp, g1], g2, g3, g4⟩

theorem st_buildSlice {t el : TypeId} {len : Nat} {parts : Array (Nat × Operand)} {z : ZK} {bk : Blk} (h1 : P.underlying t = some (.slice el)) (h2 : zk P el = some z) (h3 : len * (newB z 0).str ≤ 16777216)
    (h4 : fillB (parts.toList.map fun p => (p.1, e p.2)) (newB z len) = some bk) : Step P ⟨dst, .buildSlice t len parts, ty, pos, after, guard⟩ e K q (.whole q) [(q, .live bk .own)] := by
  refine step_val fun m H a w hs hq hsim hx => ?_
  obtain ⟨v, m', w', g1, g2, g3, g4⟩ := buildSlice_sound (P := P) hsim (hq (q, .live bk .own) (by simp) (Nat.le_refl _)) (parts' := parts.map fun p => (p.1, a.eval p.2)) h1 h2 h3 (by simp)
    (fun j x y g1 g2 => parts_rel (by simpa [Op.operands] using hx) j x y g1 (by rw [← Array.toList_map]; simpa using g2)) h4
  exact ⟨v, m', w', by simp [execOp, g1], g2, g3, g4⟩

theorem st_makeSlice {t el : TypeId} {x y : Operand} {z : ZK} {i : TypeInfo} {k k' : IntKind} {n : Int} (h1 : P.underlying t = some (.slice el)) (h2 : e x = .int k n) (h3 : e y = .int k' n) (h4 : zk P el = some z) (h5 : P.info? el = some i)
    (h6 : 0 ≤ n) (h7 : i.bytes * n ≤ 281474976710656) (h8 : n ≤ 9223372036854775807) : Step P ⟨dst, .makeSlice t x y, ty, pos, after, guard⟩ e K q (.whole q) [(q, .live (newB z n.toNat) .own)] := by
  refine step_val fun m H a w hs hq hsim hx => ?_
  have hvx := hx x (by simp [Op.operands])
  have hvy := hx y (by simp [Op.operands])
  rw [h2] at hvx
  rw [h3] at hvy
  generalize hax : a.eval x = vx at hvx
  generalize hay : a.eval y = vy at hvy
  cases hvx
  cases hvy
  obtain ⟨v, m', w', g1, g2, g3, g4⟩ := make_sound (P := P) hsim (hq (q, .live (newB z n.toNat) .own) (by simp) (Nat.le_refl _)) (k := k) (k' := k') h1 h4 h5 h6 h7 h8
  exact ⟨v, m', w', by simp [execOp, hax, hay, g1], g2, g3, g4⟩

theorem opt_rel {m : Map} {H : Heap} {a : Act} {lo : Option Operand} (hx : ∀ x ∈ lo.toArray, VR m H (e x) (a.eval x)) : (∀ y, lo.map e = some y → ∃ y', lo.map a.eval = some y' ∧ VR m H y y') ∧ (lo.map e = none → lo.map a.eval = none) := by
  cases lo with
  | none => exact ⟨fun y h => by simp at h, fun _ => rfl⟩
  | some o => exact ⟨fun y h => ⟨a.eval o, rfl, by simp at h; subst h; exact hx o (by simp)⟩, fun h => by simp at h⟩

theorem st_slice {t el : TypeId} {x : Operand} {lo hi : Option Operand} {n : Nat} {v : AV} (h1 : P.underlying t = some (.slice el)) (h2 : sizeT P el = some n) (h3 : strIs K (e x) n = true) (h3' : ∀ s, e x ≠ .str s) (h4 : sliceOp K (e x) (lo.map e) (hi.map e) some = some v) :
    Step P ⟨dst, .slice t x lo hi none, ty, pos, after, guard⟩ e K q v [] := by
  refine step_pure fun m H a w hs hsim hx => ?_
  obtain ⟨l1, l2⟩ := opt_rel (m := m) (H := H) (e := e) (a := a) (lo := lo) fun y hy => hx y (by simp [Op.operands] at hy ⊢; simp [hy])
  obtain ⟨k1, k2⟩ := opt_rel (m := m) (H := H) (e := e) (a := a) (lo := hi) fun y hy => hx y (by simp [Op.operands] at hy ⊢; simp [hy])
  obtain ⟨y, y', g1, g2, g3⟩ := sliceOp_sound (P := P) hs hsim h1 h2 (hx x (by simp [Op.operands])) h3 h3' l1 l2 k1 k2 h4
  cases g1
  refine ⟨y', ?_, g2⟩
  simp [execOp, Instr.sliceAt, run_underlying h1, g3]

theorem st_sliceStr {t : TypeId} {x : Operand} {s : ByteArray} {lo hi : Option Operand} {v : AV} (h1 : P.underlying t = some .string) (h3 : e x = .str s) (h4 : sliceOp K (.str s) (lo.map e) (hi.map e) some = some v) :
    Step P ⟨dst, .slice t x lo hi none, ty, pos, after, guard⟩ e K q v [] := by
  refine step_pure fun m H a w hs hsim hx => ?_
  have hvx := hx x (by simp [Op.operands])
  rw [h3] at hvx
  generalize hax : a.eval x = vx at hvx
  cases hvx
  obtain ⟨l1, l2⟩ := opt_rel (m := m) (H := H) (e := e) (a := a) (lo := lo) fun y hy => hx y (by simp [Op.operands] at hy ⊢; simp [hy])
  obtain ⟨k1, k2⟩ := opt_rel (m := m) (H := H) (e := e) (a := a) (lo := hi) fun y hy => hx y (by simp [Op.operands] at hy ⊢; simp [hy])
  obtain ⟨y, y', g1, g2, g3⟩ := sliceStr_sound (P := P) (m := m) (H := H) (w := w) h1 l1 l2 k1 k2 h4
  cases g1
  refine ⟨y', ?_, g2⟩
  simp [execOp, hax, Instr.sliceAt, run_underlying h1, g3]

theorem st_makeInterface {t : TypeId} {x : Operand} {d : TypeDesc} (h1 : P.underlying t = some d) (h2 : ∀ ms, d ≠ .interface ms) : Step P ⟨dst, .makeInterface t x, ty, pos, after, guard⟩ e K q (.iface t (e x)) [] := by
  refine step_pure fun m H a w hs hsim hx => ?_
  refine ⟨.iface t (a.eval x), ?_, .iface _ _ _ (hx x (by simp [Op.operands]))⟩
  cases d <;> first
    | exact absurd rfl (h2 _)
    | simp [execOp, Instr.makeInterface, run_underlying h1]

theorem st_typeAssert {x : Operand} {xt t : TypeId} {ok : Bool} {d : TypeDesc} {v : AV} (h1 : P.underlying t = some d) (h2 : ∀ ms, d ≠ .interface ms) (h3 : e x = .iface t v) :
    Step P ⟨dst, .typeAssert x xt t ok, ty, pos, after, guard⟩ e K q (if ok then .tuple [v, .bool true] else v) [] := by
  refine step_pure fun m H a w hs hsim hx => ?_
  have hvx := hx x (by simp [Op.operands])
  rw [h3] at hvx
  generalize hax : a.eval x = vx at hvx
  cases hvx with
  | iface _ _ u hu =>
    refine ⟨if ok then .tuple #[u, .bool true] else u, ?_, ?_⟩
    · cases d <;> first
        | exact absurd rfl (h2 _)
        | simp [execOp, hax, Instr.typeAssert, run_underlying h1]
    · cases ok
      · exact hu
      · refine .tuple _ _ rfl fun j y z hy hz => ?_
        match j with
        | 0 => simp at hy hz; subst hy hz; exact hu
        | 1 => simp at hy hz; subst hy hz; exact .bool _
        | j + 2 => simp at hy

theorem arr_rel {m : Map} {H : Heap} {a : Act} {xs : Array Operand} (hx : ∀ x ∈ xs, VR m H (e x) (a.eval x)) : (xs.toList.map e).length = (xs.map a.eval).size ∧ ∀ (j : Nat) (x : AV) (y : Value), (xs.toList.map e)[j]? = some x → (xs.map a.eval)[j]? = some y → VR m H x y := by
  refine ⟨by simp, fun j x y h1 h2 => ?_⟩
  simp only [List.getElem?_map, Option.map_eq_some_iff, Array.getElem?_map, Array.getElem?_toList] at h1 h2
  obtain ⟨p, hp, rfl⟩ := h1
  obtain ⟨p', hp', rfl⟩ := h2
  rw [hp] at hp'
  cases hp'
  exact hx _ (Array.mem_of_getElem? hp)

theorem st_makeFunc {fn : Fn} {first cap : Array Operand} : Step P ⟨dst, .makeFunc fn first cap, ty, pos, after, guard⟩ e K q (.func fn (first.toList.map e) (cap.toList.map e)) [] := by
  refine step_pure fun m H a w hs hsim hx => ?_
  obtain ⟨a1, a2⟩ := arr_rel (m := m) (H := H) (e := e) (a := a) (xs := first) fun x hm => hx x (by simp [Op.operands, hm])
  obtain ⟨b1, b2⟩ := arr_rel (m := m) (H := H) (e := e) (a := a) (xs := cap) fun x hm => hx x (by simp [Op.operands, hm])
  exact ⟨_, by simp [execOp, Instr.makeFunc], .func _ _ _ _ _ a1 b1 a2 b2⟩

end
end Go.Ab
end

