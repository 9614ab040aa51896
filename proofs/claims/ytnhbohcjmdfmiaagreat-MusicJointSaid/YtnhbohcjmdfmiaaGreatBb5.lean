/- An evaluator for the model's code over typed, abstract blocks, with its soundness, part 5 of 6: laws of any program; their conditions stand in each. -/
import Derived.Test.YtnhbohcjmdfmiaaGreatBb4
import Derived.ProofKit
import Derived.OpenShut
import Derived.ShutString
import Derived.ChangeOld
import Derived.SizedLaws
set_option linter.unusedVariables false
set_option linter.unusedSimpArgs false
section
/- What a call turned in its small heap stands in the great one, too. No condition. -/
namespace Go.Ab
open Go

theorem dlook_mem {D : Delta} {b : Nat} {e : Ent} (h : dlook D b = some e) : (b, e) ∈ D := by
  induction D with
  | nil => cases h
  | cons d D ih =>
    obtain ⟨c, e'⟩ := d
    simp only [dlook] at h
    split at h
    · rename_i x hx
      cases h
      exact List.mem_cons_of_mem _ (ih hx)
    · split at h
      · rename_i hc; cases h; subst hc; exact List.mem_cons_self
      · cases h

theorem dlook_of_mem {D : Delta} {b : Nat} {e : Ent} (h : (b, e) ∈ D) : ∃ e', dlook D b = some e' := by
  cases hd : dlook D b with
  | some e' => exact ⟨e', rfl⟩
  | none => exact absurd (List.mem_map_of_mem (f := (·.1)) h) ((dlook_none D b).1 hd)

theorem hat_of_hget {H : Heap} {b : Nat} {bk : Blk} {md : Md} (h : hget H b = some (bk, md)) : hat H b = .live bk md := by
  unfold hget at h
  split at h
  · rename_i e; cases h; exact e
  · cases h

theorem hget_of_live {H : Heap} {b : Nat} {bk : Blk} {md : Md} (h : hat H b = .live bk md) : hget H b = some (bk, md) := by unfold hget; rw [h]

/-- a block of which a part was turned through a view -/
theorem BR.patch {m m' ml' : Map} {H H' L' : Heap} {w w' : World} {vs : Vs} {f : Nat → Bool} {nL q : Nat} {gb nb lb : Blk} {md0 md : Md} {p pv : Nat × Nat × Nat} (old : BR m H gb md0 p w) (loc : BR ml' L' lb md pv w') (hn : nb.num = gb.num) (hs : nb.str = gb.str) (hok : nb.ok)
    (hext : ∀ x v, VR m H x v → VR m' H' x v) (hloc : ∀ x v, VR ml' L' x v → VR m' H' (gV vs f nL q x) v) (hp1 : pv.1 = p.1)
    (hfr : 0 < p.2.2 → ∃ c c' e fr, w.heap[p.1]? = some (.cells c e fr) ∧ w'.heap[p.1]? = some (.cells c' e fr) ∧ c'.size = c.size ∧ ∀ o, p.2.1 ≤ o → o < p.2.1 + p.2.2 → ¬ (pv.2.1 ≤ o ∧ o < pv.2.1 + pv.2.2) → c'[o]? = c[o]?)
    (hld : ∀ i fo, i < gb.num → fo < gb.str → (∃ i' fo', i' < lb.num ∧ fo' < lb.str ∧ p.2.1 + (i * gb.str + fo) = pv.2.1 + (i' * lb.str + fo') ∧ nb.ld i fo = (gB vs f nL q lb).ld i' fo') ∨
      (¬ (pv.2.1 ≤ p.2.1 + (i * gb.str + fo) ∧ p.2.1 + (i * gb.str + fo) < pv.2.1 + pv.2.2) ∧ nb.ld i fo = gb.ld i fo)) : BR m' H' nb md0 p w' := by
  obtain ⟨o1, o2, o3, o4⟩ := old
  obtain ⟨l1, l2, l3, l4⟩ := loc
  refine ⟨hok, by rw [hn, hs]; exact o2, fun h => by rw [hn, hs]; exact o3 h, fun hp => ?_⟩
  obtain ⟨c, c', e, fr, f1, f2, f3, f4⟩ := hfr hp
  obtain ⟨c0, e0, fr0, g1, g2, g3, g4, g5⟩ := o4 hp
  rw [f1] at g1
  cases g1
  have locc : ∀ o, pv.2.1 ≤ o → o < pv.2.1 + pv.2.2 → (∀ v, c'[o]? = some v → v.oneCell' = true) := by
    intro o a1 a2
    obtain ⟨c1, e1, fr1, k1, k2, k3, k4, k5⟩ := l4 (by omega)
    rw [hp1, f2] at k1
    cases k1
    exact k4 o a1 a2
  refine ⟨c', e, fr, f2, by omega, fun h j a1 a2 => by rw [frozen_eq (.inr ⟨c, c', e, fr, f1, f2⟩)]; exact g3 h j a1 a2, fun j a1 a2 v hv => ?_, fun i fo hi hf => ?_⟩
  · by_cases hin : pv.2.1 ≤ j ∧ j < pv.2.1 + pv.2.2
    · exact locc j hin.1 hin.2 v hv
    · rw [f4 j a1 a2 hin] at hv
      exact g4 j a1 a2 v hv
  · rw [hn] at hi
    rw [hs] at hf ⊢
    rcases hld i fo hi hf with ⟨i', fo', h1, h2, h3, h4⟩ | ⟨h1, h2⟩
    · have hcell := cell_in h1 h2
      obtain ⟨c1, e1, fr1, k1, k2, k3, k4, k5⟩ := l4 (by omega)
      rw [hp1, f2] at k1
      cases k1
      obtain ⟨x, v, r1, r2, r3⟩ := k5 i' fo' h1 h2
      exact ⟨gV vs f nL q x, v, by rw [h4]; exact gB_ld vs f nL q r1, by rw [h3]; exact r2, hloc x v r3⟩
    · obtain ⟨x, v, r1, r2, r3⟩ := g5 i fo hi hf
      have hcell := cell_in hi hf
      exact ⟨x, v, by rw [h2]; exact r1, by rw [f4 _ (by omega) (by omega) h1]; exact r2, hext x v r3⟩

section
variable {m ml ml' : Map} {H L L' : Heap} {w w' : World} {vs : Vs} {q : Nat} {bs : List (SB × Md)} {D : Delta}

/-- all that a call's end knows -/
structure Ret (m ml ml' : Map) (H L L' : Heap) (w w' : World) (vs : Vs) (q : Nat) (bs : List (SB × Md)) (D : Delta) : Prop where
  hs : Sim m H w
  sm : Small m H ml L (vat vs)
  len : L.length = bs.length
  vlen : vs.length = bs.length
  live : ∀ (j : Nat) (sb : SB) (md : Md), bs[j]? = some (sb, md) → sb ≠ .hole ∧ sb ≠ .dead
  ent : ∀ (j : Nat) (sb : SB) (md : Md), bs[j]? = some (sb, md) → ∃ lb v, hat L j = .live lb md ∧ vat vs j = some v ∧ Seen m H (vat vs) lb md v
  hs' : Sim ml' L' w'
  tr : Tr ml L w ml' L' w'
  back : BackOk H vs (vsU vs L') (slOk H vs bs) bs.length q bs L' 0 D
  fresh : ∀ d ∈ D, q ≤ d.1 → hkn H d.1 = false
  nosub : ∀ (j b off len : Nat), vat vs j = some (.sub b off len) → ∀ sb, bs[j]? ≠ some (sb, .own)

def mBack (m ml' : Map) (nL nL' q : Nat) : Map := fun b => if q ≤ b ∧ b - q < nL' - nL then ml' (nL + (b - q)) else m b

theorem Ret.known (h : Ret m ml ml' H L L' w w' vs q bs D) {j b : Nat} {v : View} (hj : j < bs.length) (hv : vat vs j = some v) (hb : vId v = some b) : ∃ gb md0 sb md lb, hget H b = some (gb, md0) ∧ bs[j]? = some (sb, md) ∧ hat L j = .live lb md ∧ Seen m H (vat vs) lb md v ∧ ml j = vP m H (isOwn md) v := by
  have hbs : bs[j]? = some bs[j] := by simp [hj]
  generalize hbe : bs[j] = x at hbs
  obtain ⟨sb, md⟩ := x
  obtain ⟨lb, v', e1, e2, e3⟩ := h.ent j sb md hbs
  rw [hv] at e2
  cases e2
  have hne : ∀ z, v ≠ .ph z := by rintro z rfl; cases hb
  obtain ⟨gb, md0, k1, k2, k3⟩ := e3.at_ hne
  obtain ⟨b', bk, i1, i2⟩ := vB_id k1
  rw [hb] at i1
  cases i1
  obtain ⟨v2, g1, g2, g3⟩ := h.sm.seen j lb md (hget_of_live e1)
  rw [hv] at g1
  cases g1
  exact ⟨bk, md0, sb, md, lb, i2, hbs, e1, e3, g3⟩

theorem Ret.viewed (h : Ret m ml ml' H L L' w w' vs q bs D) {j b : Nat} {e : Ent} (hb : Back H vs (vsU vs L') (slOk H vs bs) bs.length q bs L' j b e) (hj : j < bs.length) : ∃ v sb md, bs[j]? = some (sb, md) ∧ md ≠ .ro ∧ vat vs j = some v ∧ vId v = some b ∧ b < q ∧ hkn H b = true := by
  have main : ∃ v sb md, bs[j]? = some (sb, md) ∧ sb ≠ .hole ∧ sb ≠ .dead ∧ md ≠ .ro ∧ vat vs j = some v ∧ vId v = some b := by
    cases hb with
    | new lb h1 => omega
    | newDead h1 => omega
    | full b sb md mdl md0 lb gb h1 h2 h3 h4 h5 h6 => exact ⟨_, sb, md, h2, h3, h4, h5, h6, rfl⟩
    | fullDead b sb md h1 h2 h3 h4 h5 h6 => exact ⟨_, sb, md, h2, h3, h4, h5, h6, rfl⟩
    | sub b off len sb md mdl md0 lb gb nb h1 h2 h3 h4 h5 h6 => exact ⟨_, sb, md, h2, h3, h4, h5, h6, rfl⟩
    | el b i fo n n' sb md mdl md0 l gb nb h1 h2 h3 h4 h5 h6 => exact ⟨_, sb, md, h2, h3, h4, h5, h6, rfl⟩
  obtain ⟨v, sb, md, h1, h2, h3, h4, h5, h6⟩ := main
  obtain ⟨gb, md0, sb', md', lb, k1, _⟩ := h.known hj h5 h6
  have hk := hget_kn k1
  refine ⟨v, sb, md, h1, h4, h5, h6, ?_, hk⟩
  apply Classical.byContradiction
  intro hn
  obtain ⟨e', he'⟩ := h.back.old j sb md b v (Nat.zero_le _) hj h1 h2 h3 h4 h5 h6
  have := h.fresh _ he' (by omega)
  rw [hk] at this
  cases this

theorem Ret.one (h : Ret m ml ml' H L L' w w' vs q bs D) {j j' b : Nat} {e e' : Ent} (hb : Back H vs (vsU vs L') (slOk H vs bs) bs.length q bs L' j b e) (hb' : Back H vs (vsU vs L') (slOk H vs bs) bs.length q bs L' j' b e') : j = j' ∧ e = e' := by
  have hjj : j = j' := by
    by_cases c : j < bs.length
    · obtain ⟨v, sb, md, h1, h2, h3, h4, h5, _⟩ := h.viewed hb c
      by_cases c' : j' < bs.length
      · obtain ⟨v', sb', md', h1', h2', h3', h4', h5', _⟩ := h.viewed hb' c'
        apply Classical.byContradiction
        intro hne
        obtain ⟨lb, u, e1, e2, e3⟩ := h.ent j sb md h1
        obtain ⟨lb', u', e1', e2', e3'⟩ := h.ent j' sb' md' h1'
        exact h2 (h.sm.apart j j' lb md lb' md' v v' b (hget_of_live e1) (hget_of_live e1') hne h3 h3' h4 h4').1
      · cases hb' with
        | new => omega
        | newDead => omega
        | full _ _ _ _ _ _ _ h1 => omega
        | fullDead _ _ _ h1 => omega
        | sub _ _ _ _ _ _ _ _ _ _ h1 => omega
        | el _ _ _ _ _ _ _ _ _ _ _ _ h1 => omega
    · by_cases c' : j' < bs.length
      · obtain ⟨v', sb', md', h1', h2', h3', h4', h5', _⟩ := h.viewed hb' c'
        cases hb with
        | new => omega
        | newDead => omega
        | full _ _ _ _ _ _ _ h1 => omega
        | fullDead _ _ _ h1 => omega
        | sub _ _ _ _ _ _ _ _ _ _ h1 => omega
        | el _ _ _ _ _ _ _ _ _ _ _ _ h1 => omega
      · have e1 : b = q + (j - bs.length) := by
          cases hb with
          | new => rfl
          | newDead => rfl
          | full _ _ _ _ _ _ _ h1 => omega
          | fullDead _ _ _ h1 => omega
          | sub _ _ _ _ _ _ _ _ _ _ h1 => omega
          | el _ _ _ _ _ _ _ _ _ _ _ _ h1 => omega
        have e2 : b = q + (j' - bs.length) := by
          cases hb' with
          | new => rfl
          | newDead => rfl
          | full _ _ _ _ _ _ _ h1 => omega
          | fullDead _ _ _ h1 => omega
          | sub _ _ _ _ _ _ _ _ _ _ h1 => omega
          | el _ _ _ _ _ _ _ _ _ _ _ _ h1 => omega
        omega
  subst hjj
  refine ⟨rfl, ?_⟩
  cases hb with
  | new lb h1 h2 => cases hb' with
    | new lb' _ h2' => rw [h2] at h2'; cases h2'; rfl
    | newDead _ h2' => rw [h2] at h2'; cases h2'
    | full => omega
    | fullDead => omega
    | sub => omega
    | el => omega
  | newDead h1 h2 => cases hb' with
    | new lb' _ h2' => rw [h2] at h2'; cases h2'
    | newDead _ h2' => rfl
    | full => omega
    | fullDead => omega
    | sub => omega
    | el => omega
  | full _ sb md mdl md0 lb gb h1 h2 h3 h4 h5 h6 h7 h8 => cases hb' with
    | new => omega
    | newDead => omega
    | full _ sb' md' mdl' md0' lb' gb' h1' h2' h3' h4' h5' h6' h7' h8' => rw [h7] at h7'; cases h7'; rw [h8] at h8'; cases h8'; rfl
    | fullDead _ sb' md' h1' h2' h3' h4' h5' h6' h7' => rw [h7] at h7'; cases h7'
    | sub _ _ _ _ _ _ _ _ _ _ _ _ _ _ _ h6' => rw [h6] at h6'; cases h6'
    | el _ _ _ _ _ _ _ _ _ _ _ _ _ _ _ _ _ h6' => rw [h6] at h6'; cases h6'
  | fullDead _ sb md h1 h2 h3 h4 h5 h6 h7 => cases hb' with
    | new => omega
    | newDead => omega
    | full _ sb' md' mdl' md0' lb' gb' h1' h2' h3' h4' h5' h6' h7' h8' => rw [h7] at h7'; cases h7'
    | fullDead => rfl
    | sub _ _ _ _ _ _ _ _ _ _ _ _ _ _ _ h6' => rw [h6] at h6'; cases h6'
    | el _ _ _ _ _ _ _ _ _ _ _ _ _ _ _ _ _ h6' => rw [h6] at h6'; cases h6'
  | sub _ off len sb md mdl md0 lb gb nb h1 h2 h3 h4 h5 h6 h7 h8 h9 => cases hb' with
    | new => omega
    | newDead => omega
    | full _ _ _ _ _ _ _ _ _ _ _ _ h6' => rw [h6] at h6'; cases h6'
    | fullDead _ _ _ _ _ _ _ _ h6' => rw [h6] at h6'; cases h6'
    | sub _ _ _ _ _ _ _ _ _ _ h1' h2' h3' h4' h5' h6' h7' h8' h9' => rw [h6] at h6'; cases h6'; rw [h7] at h7'; cases h7'; rw [h8] at h8'; cases h8'; rw [h9] at h9'; cases h9'; rfl
    | el _ _ _ _ _ _ _ _ _ _ _ _ _ _ _ _ _ h6' => rw [h6] at h6'; cases h6'
  | el _ i fo n n' sb md mdl md0 l gb nb h1 h2 h3 h4 h5 h6 h7 h8 h9 => cases hb' with
    | new => omega
    | newDead => omega
    | full _ _ _ _ _ _ _ _ _ _ _ _ h6' => rw [h6] at h6'; cases h6'
    | fullDead _ _ _ _ _ _ _ _ h6' => rw [h6] at h6'; cases h6'
    | sub _ _ _ _ _ _ _ _ _ _ _ _ _ _ _ h6' => rw [h6] at h6'; cases h6'
    | el _ _ _ _ _ _ _ _ _ _ _ _ h1' h2' h3' h4' h5' h6' h7' h8' h9' => rw [h6] at h6'; cases h6'; rw [h7] at h7'; cases h7'; rw [h8] at h8'; cases h8'; rw [h9] at h9'; cases h9'; rfl

/-- what the great heap says behind it -/
theorem Ret.hat_in (h : Ret m ml ml' H L L' w w' vs q bs D) {b : Nat} {e : Ent} (hm : (b, e) ∈ D) : ∃ j e', Back H vs (vsU vs L') (slOk H vs bs) bs.length q bs L' j b e' ∧ hat (hput H D) b = e' := by
  obtain ⟨e', he'⟩ := dlook_of_mem hm
  obtain ⟨j, _, hb⟩ := h.back.mem b e' (dlook_mem he')
  exact ⟨j, e', hb, by rw [hat_hput, he']; rfl⟩

theorem Ret.hat_out (_h : Ret m ml ml' H L L' w w' vs q bs D) {b : Nat} (hm : ∀ e, (b, e) ∉ D) : hat (hput H D) b = hat H b := by
  have : dlook D b = none := by
    rw [dlook_none]
    intro hc
    obtain ⟨d, hd, rfl⟩ := List.mem_map.1 hc
    exact hm d.2 hd
  rw [hat_hput, this]; rfl

theorem Ret.map_old (h : Ret m ml ml' H L L' w w' vs q bs D) {b : Nat} (hk : hkn H b = true) : mBack m ml' bs.length L'.length q b = m b := by
  unfold mBack
  rw [if_neg]
  rintro ⟨h1, h2⟩
  obtain ⟨e, he⟩ := h.back.new (bs.length + (b - q)) (Nat.zero_le _) (by omega) (by omega)
  have := h.fresh _ he (by simp only; omega)
  simp only at this
  rw [show q + (bs.length + (b - q) - bs.length) = b by omega, hk] at this
  cases this

theorem Ret.map_new (_h : Ret m ml ml' H L L' w w' vs q bs D) {j : Nat} (h1 : bs.length ≤ j) (h2 : j < L'.length) : mBack m ml' bs.length L'.length q (q + (j - bs.length)) = ml' j := by
  unfold mBack
  rw [if_pos (by omega)]
  congr 1
  omega

/-- what a place under a view has become -/
theorem Ret.stay (h : Ret m ml ml' H L L' w w' vs q bs D) {j : Nat} {lb lb' : Blk} {md md' : Md} (h1 : hat L j = .live lb md) (h2 : hget L' j = some (lb', md')) : md' = md ∧ lb'.num = lb.num ∧ lb'.str = lb.str ∧ ml' j = ml j := by
  obtain ⟨bk, k1, k2, k3, k4⟩ := h.tr.le.at_ j lb' md' (hget_kn (hget_of_live h1)) h2
  rw [hget_of_live h1] at k1
  cases k1
  exact ⟨rfl, k2.symm, k3.symm, k4⟩

/-- one that turned through a view: its shape is the same -/
theorem Ret.shape (h : Ret m ml ml' H L L' w w' vs q bs D) {j b : Nat} {nb gb : Blk} {md md0 : Md} (hb : Back H vs (vsU vs L') (slOk H vs bs) bs.length q bs L' j b (.live nb md)) (hj : j < bs.length) (hg : hget H b = some (gb, md0)) : md = md0 ∧ nb.num = gb.num ∧ nb.str = gb.str ∧ nb.ok ∧
    ∃ lb mdl, hget L' j = some (lb, mdl) ∧ (ml' j).1 = (m b).1 ∧ ∀ i fo, i < gb.num → fo < gb.str → (∃ i' fo', i' < lb.num ∧ fo' < lb.str ∧ (m b).2.1 + (i * gb.str + fo) = (ml' j).2.1 + (i' * lb.str + fo') ∧ nb.ld i fo = (gB (vsU vs L') (slOk H vs bs) bs.length q lb).ld i' fo') ∨
      (¬ ((ml' j).2.1 ≤ (m b).2.1 + (i * gb.str + fo) ∧ (m b).2.1 + (i * gb.str + fo) < (ml' j).2.1 + (ml' j).2.2) ∧ nb.ld i fo = gb.ld i fo) := by
  cases hb with
  | new => omega
  | full _ sb md1 mdl md0' lb gb' h1 h2 h3 h4 h5 h6 h7 h8 =>
    rw [hg] at h8
    cases h8
    obtain ⟨gb1, md1', sb', md', lb0, k1, k2, k3, k4, k5⟩ := h.known hj h6 rfl
    obtain ⟨s1, s2, s3, s4⟩ := h.stay k3 (hget_of_live h7)
    obtain ⟨gb2, md2, r1, r2, r3⟩ := k4.at_ (by simp)
    have r1' : hget H b = some (gb2, md2) := r1
    rw [hg] at r1'
    cases r1'
    obtain ⟨n1, n2⟩ := r3.num
    obtain ⟨g1, g2⟩ := gB_num (vsU vs L') (slOk H vs bs) bs.length q lb
    have hlok := (h.hs'.blk j lb mdl (hget_of_live h7)).1
    refine ⟨rfl, by omega, by omega, gB_ok _ _ _ _ hlok, lb, mdl, hget_of_live h7, ?_, fun i fo hi hf => .inl ⟨i, fo, by omega, by omega, ?_, rfl⟩⟩
    · rw [s4, k5]; simp [vP, hg]
    · rw [s4, k5, s3, n2]; simp [vP, hg]
  | sub _ off len sb md1 mdl md0' lb gb' nb' h1 h2 h3 h4 h5 h6 h7 h8 h9 =>
    rw [hg] at h8
    cases h8
    obtain ⟨gb1, md1', sb', md', lb0, k1, k2, k3, k4, k5⟩ := h.known hj h6 rfl
    obtain ⟨s1, s2, s3, s4⟩ := h.stay k3 (hget_of_live h7)
    obtain ⟨gb2, md2, r1, r2, r3⟩ := k4.at_ (by simp)
    have hgok := (h.hs.blk b gb _ hg).1
    have hlok := (h.hs'.blk j lb mdl (hget_of_live h7)).1
    simp only [vB, hg] at r1
    cases r1
    obtain ⟨val, hval⟩ := k4.ok
    have hle : off + len ≤ gb.num := by
      cases hval with
      | part _ _ _ a n cap hk hh => exact (hh _ _ hg).1
    obtain ⟨t0, t1, t2, t3⟩ := sub_ld hle rfl hgok
    obtain ⟨n1, n2⟩ := r3.num
    obtain ⟨g1, g2⟩ := gB_num (vsU vs L') (slOk H vs bs) bs.length q lb
    obtain ⟨p1, p2, p3, p4, p5⟩ := putSub_spec h9 (by omega) hgok (gB_ok _ _ _ _ hlok)
    have hno : isOwn md' = false := by cases md' <;> first | rfl | exact absurd k2 (h.nosub j b off len h6 sb')
    have hplace : ml' j = ((m b).1, (m b).2.1 + off * gb.str, len * gb.str) := by rw [s4, k5]; simp only [vP, hg, hno]
    refine ⟨rfl, p1, p2, p4, lb, mdl, hget_of_live h7, by rw [hplace], fun i fo hi hf => ?_⟩
    rw [p5 i fo hi hf, hplace]
    by_cases hc : off ≤ i ∧ i < off + (gB (vsU vs L') (slOk H vs bs) bs.length q lb).num
    · left
      rw [if_pos hc]
      refine ⟨i - off, fo, by omega, by omega, ?_, rfl⟩
      have e1 : i * gb.str = off * gb.str + (i - off) * gb.str := by rw [← Nat.add_mul]; congr 1; omega
      have e2 : lb.str = gb.str := by omega
      rw [e2]
      simp only
      omega
    · right
      rw [if_neg hc]
      refine ⟨?_, rfl⟩
      simp only
      rintro ⟨c1, c2⟩
      apply hc
      constructor
      · apply Classical.byContradiction
        intro hlt
        have : (i + 1) * gb.str ≤ off * gb.str := Nat.mul_le_mul_right _ (by omega)
        rw [Nat.add_mul] at this
        omega
      · apply Classical.byContradiction
        intro hge
        have : (off + len) * gb.str ≤ i * gb.str := Nat.mul_le_mul_right _ (by omega)
        rw [Nat.add_mul] at this
        omega
  | el _ i0 f0 n n' sb md1 mdl md0' l gb' nb' h1 h2 h3 h4 h5 h6 h7 h8 h9 =>
    rw [hg] at h8
    cases h8
    obtain ⟨gb1, md1', sb', md', lb0, k1, k2, k3, k4, k5⟩ := h.known hj h6 rfl
    obtain ⟨s1, s2, s3, s4⟩ := h.stay k3 (hget_of_live h7)
    obtain ⟨gb2, md2, r1, r2, r3⟩ := k4.at_ (by simp)
    have hgok := (h.hs.blk b gb _ hg).1
    have hlok := (h.hs'.blk j _ mdl (hget_of_live h7)).1
    simp only [vB, hg] at r1
    split at r1
    · rename_i hcond
      split at r1
      · rename_i l0 hl0
        cases r1
        obtain ⟨val, hval⟩ := k4.ok
        have hi0 : i0 < gb.num ∧ f0 < gb.str := by
          cases hval with
          | ptr _ _ _ a hk hh => exact ⟨(hh _ _ hg).1, (hh _ _ hg).2.1⟩
        obtain ⟨cs, e1, e2, e3, e4⟩ := ldF_sound h.hs hg hi0.1 n f0 l0 hcond.2 hl0
        obtain ⟨n1, n2⟩ := r3.num
        have hn : n' = n := by
          have : (Blk.vals n' l).str = (Blk.vals n l0).str := by omega
          exact this
        subst hn
        have hnum0 : (Blk.vals n' l0).num = 1 := by simp only [Blk.num, e2]; exact Nat.div_self hcond.1
        have hlen : l.length = n' := by
          have h1' : (Blk.vals n' l).num = 1 := by omega
          have hd : n' * (l.length / n') = l.length := Nat.mul_div_cancel' (Nat.dvd_of_mod_eq_zero hlok.2)
          simp only [Blk.num] at h1'
          rw [h1', Nat.mul_one] at hd
          exact hd.symm
        have hgl := gVL_length (vsU vs L') (slOk H vs bs) bs.length q l
        obtain ⟨p1, p2, p3, p4, p5⟩ := stn_sound _ _ h9 hgok hi0.1 (by omega)
        have hplace : ml' j = ((m b).1, (m b).2.1 + (i0 * gb.str + f0), n') := by rw [s4, k5]; simp only [vP, hg]
        refine ⟨rfl, p1, p2, p3, _, mdl, hget_of_live h7, by rw [hplace], fun i fo hi hf => ?_⟩
        rw [p5 i fo hi hf, hplace]
        by_cases hc : i = i0 ∧ f0 ≤ fo ∧ fo < f0 + (gVL (vsU vs L') (slOk H vs bs) bs.length q l).length
        · left
          rw [if_pos hc]
          obtain ⟨rfl, c1, c2⟩ := hc
          refine ⟨0, fo - f0, by omega, ?_, ?_, ?_⟩
          · show fo - f0 < n'
            omega
          · simp only [Nat.zero_mul, Nat.zero_add]
            omega
          · simp only [gB, Blk.ld, Nat.zero_mul, Nat.zero_add]
        · right
          rw [if_neg hc]
          refine ⟨?_, rfl⟩
          simp only
          rintro ⟨c1, c2⟩
          apply hc
          have e1 : i * gb.str + fo = i0 * gb.str + (i * gb.str + fo - i0 * gb.str) := by omega
          obtain ⟨q1, q2⟩ := pair_eq hf (show i * gb.str + fo - i0 * gb.str < gb.str by omega) e1
          subst q1
          exact ⟨rfl, by omega, by omega⟩
      · cases r1
    · cases r1

end
end Go.Ab
end

section
/- Behind a call: memory, and what it answers. No condition. -/
namespace Go.Ab
open Go

section
variable {m ml ml' : Map} {H L L' : Heap} {w w' : World} {vs : Vs} {q : Nat} {bs : List (SB × Md)} {D : Delta}

theorem Ret.old_known (h : Ret m ml ml' H L L' w w' vs q bs D) {b : Nat} (hk : hkn H b = true) : hkn (hput H D) b = true := by
  by_cases hm : ∃ e, (b, e) ∈ D
  · obtain ⟨e, hm⟩ := hm
    obtain ⟨j, e', hb, he⟩ := h.hat_in hm
    unfold hkn
    rw [he]
    cases hb <;> rfl
  · rw [hkn_of_hat (h.hat_out fun e he => hm ⟨e, he⟩)]
    exact hk

theorem Ret.le (h : Ret m ml ml' H L L' w w' vs q bs D) : Le m H (mBack m ml' bs.length L'.length q) (hput H D) where
  kn b hk := h.old_known hk
  at_ b bk md hk hg := by
    rw [h.map_old hk]
    have hl := hat_of_hget hg
    by_cases hm : ∃ e, (b, e) ∈ D
    · obtain ⟨e, hm⟩ := hm
      obtain ⟨j, e', hb, he⟩ := h.hat_in hm
      rw [hl] at he
      subst he
      by_cases hj : j < bs.length
      · obtain ⟨v, sb, md1, h1, h2, h3, h4, h5, _⟩ := h.viewed hb hj
        obtain ⟨gb, md0, _, _, _, k1, _⟩ := h.known hj h3 h4
        obtain ⟨s1, s2, s3, s4, _⟩ := h.shape hb hj k1
        subst s1
        exact ⟨gb, k1, s2.symm, s3.symm, rfl⟩
      · exfalso
        cases hb with
        | new lb h1 h2 =>
          obtain ⟨e', he'⟩ := h.back.new j (Nat.zero_le _) (by omega) (by
            apply Classical.byContradiction
            intro hn
            rw [hat_len L' j (by omega)] at h2
            cases h2)
          have := h.fresh _ he' (by simp only; omega)
          simp only at this
          rw [hk] at this
          cases this
        | full => omega
        | sub => omega
        | el => omega
    · rw [hget_of_hat (h.hat_out fun e he => hm ⟨e, he⟩)] at hg
      exact ⟨bk, hg, rfl, rfl, rfl⟩

/-- what may be written is there behind the call -/
theorem Ret.alive (h : Ret m ml ml' H L L' w w' vs q bs D) {j b : Nat} {v : View} (hj : j < bs.length) (hv : vat vs j = some v) (hb : vId v = some b) {bk : Blk} {md : Md} (hg : hget (hput H D) b = some (bk, md)) {sb0 : SB} {mdx : Md} (hbs : bs[j]? = some (sb0, mdx)) (hrx : mdx ≠ .ro) : ∃ lb mdl, hat L' j = .live lb mdl := by
  obtain ⟨gb, md0, sb, md1, lb0, k1, k2, k3, k4, k5⟩ := h.known hj hv hb
  rw [hbs] at k2
  cases k2
  have k2 := hbs
  have hro := hrx
  obtain ⟨n1, n2⟩ := h.live j _ _ hbs
  obtain ⟨e, he⟩ := h.back.old j _ _ b v (Nat.zero_le _) hj k2 n1 n2 hro hv hb
  obtain ⟨j', e', hbk, hh⟩ := h.hat_in he
  rw [hat_of_hget hg] at hh
  subst hh
  have hj' : j' < bs.length := by
    apply Classical.byContradiction
    intro hn
    cases hbk with
    | new lb h1 h2 =>
      obtain ⟨e', he'⟩ := h.back.new j' (Nat.zero_le _) (by omega) (by
        apply Classical.byContradiction
        intro hn
        rw [hat_len L' j' (by omega)] at h2
        cases h2)
      have := h.fresh _ he' (by simp only; omega)
      simp only at this
      rw [hget_kn k1] at this
      cases this
    | full => omega
    | sub => omega
    | el => omega
  obtain ⟨v', sb', md', r1, r2, r3, r4, _⟩ := h.viewed hbk hj'
  have hjj : j' = j := by
    apply Classical.byContradiction
    intro hne
    obtain ⟨lb', u', e1', e2', e3'⟩ := h.ent j' sb' md' r1
    exact r2 (h.sm.apart j' j lb' md' lb0 mdx v' v b (hget_of_live e1') (hget_of_live k3) hne r3 hv r4 hb).1
  subst hjj
  obtain ⟨_, _, _, _, lb, mdl, s5, _⟩ := h.shape hbk hj' k1
  exact ⟨lb, mdl, hat_of_hget s5⟩

/-- what a place under a view says behind the call -/
theorem Ret.after (h : Ret m ml ml' H L L' w w' vs q bs D) {j b : Nat} {v : View} (hj : j < bs.length) (hv : vat vs j = some v) (hb : vId v = some b) (hlive : ∃ lb mdl, hat L' j = .live lb mdl) {bk : Blk} {md : Md} (hg : hget (hput H D) b = some (bk, md)) :
    ∃ gb md0 lb0 lb mdl, hget H b = some (gb, md0) ∧ bk.num = gb.num ∧ bk.str = gb.str ∧ md = md0 ∧ mBack m ml' bs.length L'.length q b = m b ∧ hat L j = .live lb0 mdl ∧ hget L' j = some (lb, mdl) ∧ lb.num = lb0.num ∧ lb.str = lb0.str ∧ ml' j = vP m H (isOwn mdl) v ∧ Seen m H (vat vs) lb0 mdl v := by
  obtain ⟨gb, md0, sb, md1, lb0, k1, k2, k3, k4, k5⟩ := h.known hj hv hb
  obtain ⟨bk0, q1, q2, q3, q4⟩ := h.le.at_ b bk md (hget_kn k1) hg
  rw [k1] at q1
  cases q1
  obtain ⟨lb, mdl, hl⟩ := hlive
  obtain ⟨s1, s2, s3, s4⟩ := h.stay k3 (hget_of_live hl)
  subst s1
  exact ⟨gb, md, lb0, lb, mdl, k1, q2.symm, q3.symm, rfl, q4, k3, hget_of_live hl, s2, s3, by rw [s4, k5], k4⟩

theorem Ret.new_known (h : Ret m ml ml' H L L' w w' vs q bs D) {j : Nat} (h1 : bs.length ≤ j) (hk : hkn L' j = true) : hkn (hput H D) (q + (j - bs.length)) = true ∧ mBack m ml' bs.length L'.length q (q + (j - bs.length)) = ml' j ∧
    ∀ bk md, hget (hput H D) (q + (j - bs.length)) = some (bk, md) → ∃ lb, hget L' j = some (lb, md) ∧ bk = gB (vsU vs L') (slOk H vs bs) bs.length q lb ∧ md = .own := by
  have hj : j < L'.length := by
    apply Classical.byContradiction
    intro hn
    rw [fresh_ge (by omega)] at hk
    cases hk
  obtain ⟨e, he⟩ := h.back.new j (Nat.zero_le _) h1 hj
  obtain ⟨j', e', hb, hh⟩ := h.hat_in he
  have hj' : ¬ j' < bs.length := by
    intro hlt
    obtain ⟨_, _, _, _, _, _, _, hlt2, _⟩ := h.viewed hb hlt
    omega
  have hjj : j' = j := by
    generalize hx : q + (j - bs.length) = x at hb
    cases hb with
    | new => omega
    | newDead => omega
    | full => omega
    | fullDead => omega
    | sub => omega
    | el => omega
  subst hjj
  refine ⟨?_, h.map_new h1 hj, fun bk md hg => ?_⟩
  · unfold hkn
    rw [hh]
    generalize hx : q + (j' - bs.length) = x at hb
    cases hb <;> rfl
  · rw [hat_of_hget hg] at hh
    subst hh
    generalize hx : q + (j' - bs.length) = x at hb
    cases hb with
    | new lb h1 h2 => exact ⟨lb, hget_of_live h2, rfl, rfl⟩
    | full => omega
    | sub => omega
    | el => omega

theorem blt_t {a b : Nat} (h : a < b) : Nat.blt a b = true := by simpa using h
theorem blt_f {a b : Nat} (h : ¬ a < b) : Nat.blt a b = false := by
  cases hb : Nat.blt a b with
  | false => rfl
  | true => exact absurd (by simpa using hb) h

theorem Ret.vr (h : Ret m ml ml' H L L' w w' vs q bs D) {x : AV} {v : Value} (hx : VR ml' L' x v) : VR (mBack m ml' bs.length L'.length q) (hput H D) (gV (vsU vs L') (slOk H vs bs) bs.length q x) v := by
  induction hx with
  | undef v => exact .undef v
  | bool b => exact .bool b
  | int k n => exact .int k n
  | str s => exact .str s
  | nilPtr => exact .nilPtr
  | nilSlice => exact .nilSlice
  | nilFunc => exact .nilFunc
  | nilIface => exact .nilIface
  | ptr j i fo a hb hv =>
    simp only [gV]
    by_cases hj : j < bs.length
    · rw [blt_t hj]
      simp only
      split
      · rename_i b hvu
        obtain ⟨hvj, hlv⟩ := vsU_at _ _ _ _ hvu
        obtain ⟨gb, md0, _, _, _, k1, _⟩ := h.known hj hvj rfl
        refine .ptr b i fo a (h.old_known (hget_kn k1)) fun bk md hg => ?_
        obtain ⟨gb, md0, lb0, lb, mdl, r1, r2, r3, _, r4, r5, r6, r7, r8, r9, r10⟩ := h.after hj hvj rfl hlv hg
        obtain ⟨e1, e2, rfl⟩ := hv lb mdl r6
        obtain ⟨gb2, md2, s1, s2, s3⟩ := r10.at_ (by simp)
        have s1' : hget H b = some (gb2, md2) := s1
        rw [r1] at s1'
        cases s1'
        obtain ⟨n1, n2⟩ := s3.num
        refine ⟨by omega, by omega, ?_⟩
        rw [r4, r9]
        simp only [vP, r1]
        rw [show bk.str = lb.str by omega]
      · rename_i b off len hvu
        obtain ⟨hvj, hlv⟩ := vsU_at _ _ _ _ hvu
        obtain ⟨gb, md0, _, _, _, k1, _⟩ := h.known hj hvj rfl
        refine .ptr b (off + i) fo a (h.old_known (hget_kn k1)) fun bk md hg => ?_
        obtain ⟨gb, md0, lb0, lb, mdl, r1, r2, r3, _, r4, r5, r6, r7, r8, r9, r10⟩ := h.after hj hvj rfl hlv hg
        obtain ⟨e1, e2, rfl⟩ := hv lb mdl r6
        obtain ⟨gb2, md2, s1, s2, s3⟩ := r10.at_ (by simp)
        simp only [vB, r1] at s1
        cases s1
        obtain ⟨val, hval⟩ := r10.ok
        have hle : off + len ≤ gb.num := by
          cases hval with
          | part _ _ _ a n cap hk hh => exact (hh _ _ r1).1
        obtain ⟨t0, t1, t2, t3⟩ := sub_ld hle rfl (h.hs.blk b gb _ r1).1
        obtain ⟨n1, n2⟩ := s3.num
        refine ⟨by omega, by omega, ?_⟩
        rw [r4, r9]
        simp only [vP, r1]
        rw [show lb.str = gb.str by omega, r3, Nat.add_mul]
        congr 1
        omega
      · rename_i b i0 f0 n hvu
        obtain ⟨hvj, hlv⟩ := vsU_at _ _ _ _ hvu
        obtain ⟨gb, md0, _, _, _, k1, _⟩ := h.known hj hvj rfl
        refine .ptr b i0 (f0 + fo) a (h.old_known (hget_kn k1)) fun bk md hg => ?_
        obtain ⟨gb, md0, lb0, lb, mdl, r1, r2, r3, _, r4, r5, r6, r7, r8, r9, r10⟩ := h.after hj hvj rfl hlv hg
        obtain ⟨e1, e2, rfl⟩ := hv lb mdl r6
        obtain ⟨gb2, md2, s1, s2, s3⟩ := r10.at_ (by simp)
        simp only [vB, r1] at s1
        split at s1
        · rename_i hcond
          split at s1
          · rename_i l0 hl0
            cases s1
            obtain ⟨val, hval⟩ := r10.ok
            have hi0 : i0 < gb.num ∧ f0 < gb.str := by
              cases hval with
              | ptr _ _ _ a hk hh => exact ⟨(hh _ _ r1).1, (hh _ _ r1).2.1⟩
            obtain ⟨cs, f1, f2, f3, f4⟩ := ldF_sound h.hs r1 hi0.1 n f0 l0 hcond.2 hl0
            obtain ⟨n1, n2⟩ := s3.num
            have hnum0 : (Blk.vals n l0).num = 1 := by simp only [Blk.num, f2]; exact Nat.div_self hcond.1
            have hstr0 : (Blk.vals n l0).str = n := rfl
            obtain rfl : i = 0 := by omega
            refine ⟨by omega, by omega, ?_⟩
            rw [r4, r9]
            simp only [vP, r1]
            rw [r3]
            congr 1
            omega
          · cases s1
        · cases s1
      · exact .undef _
    · rw [blt_f hj]
      simp only
      obtain ⟨c1, c2, c3⟩ := h.new_known (by omega) hb
      refine .ptr _ i fo a c1 fun bk md hg => ?_
      obtain ⟨lb, d1, rfl, d2⟩ := c3 bk md hg
      obtain ⟨e1, e2, e3⟩ := hv lb md d1
      obtain ⟨g1, g2⟩ := gB_num (vsU vs L') (slOk H vs bs) bs.length q lb
      rw [c2]
      exact ⟨by omega, by omega, by rw [g2]; exact e3⟩
  | whole j a n cap hb hv =>
    simp only [gV]
    by_cases hj : j < bs.length
    · rw [blt_t hj]
      simp only
      split
      · rename_i b hsl hvu
        obtain ⟨hvj, hlv⟩ := vsU_at _ _ _ _ hvu
        obtain ⟨gb, md0, _, _, _, k1, _⟩ := h.known hj hvj rfl
        refine .whole b a n cap (h.old_known (hget_kn k1)) fun bk md hg => ?_
        obtain ⟨gb, md0, lb0, lb, mdl, r1, r2, r3, r3', r4, r5, r6, r7, r8, r9, r10⟩ := h.after hj hvj rfl hlv hg
        obtain ⟨e1, e2, e3, e4⟩ := hv lb mdl r6
        obtain ⟨gb2, md2, s1, s2, s3⟩ := r10.at_ (by simp)
        have s1' : hget H b = some (gb2, md2) := s1
        rw [r1] at s1'
        cases s1'
        obtain ⟨n1, n2⟩ := s3.num
        have hcap : md = .own → mdl = .own := by
          intro e
          subst e
          have hbs : bs[j]? = some bs[j] := by simp [hj]
          generalize hbe : bs[j] = z at hbs
          obtain ⟨sb, md9⟩ := z
          obtain ⟨lb9, v9, f1, f2, f3⟩ := h.ent j sb md9 hbs
          rw [r5] at f1
          cases f1
          simp only [slOk, hvj, hbs, vId, r1, ← r3'] at hsl
          cases mdl <;> simp [isOwn] at hsl ⊢
        refine ⟨by omega, by omega, fun hm => ?_, fun hc => ?_⟩
        · have := e3 (hcap hm)
          rw [r9, hcap hm] at this
          simp only [vP, r1, isOwn] at this
          rw [r4, r3, show gb.str = lb.str by omega]
          exact this
        · rw [e4 hc, r9, r4]; simp [vP, r1]
      · rename_i b off len hsl hvu
        obtain ⟨hvj, hlv⟩ := vsU_at _ _ _ _ hvu
        obtain ⟨gb, md0, _, _, _, k1, _⟩ := h.known hj hvj rfl
        refine .part b off len a n cap (h.old_known (hget_kn k1)) fun bk md hg => ?_
        obtain ⟨gb, md0, lb0, lb, mdl, r1, r2, r3, r3', r4, r5, r6, r7, r8, r9, r10⟩ := h.after hj hvj rfl hlv hg
        obtain ⟨e1, e2, e3, e4⟩ := hv lb mdl r6
        obtain ⟨gb2, md2, s1, s2, s3⟩ := r10.at_ (by simp)
        simp only [vB, r1] at s1
        cases s1
        obtain ⟨val, hval⟩ := r10.ok
        have hle : off + len ≤ gb.num := by
          cases hval with
          | part _ _ _ a n cap hk hh => exact (hh _ _ r1).1
        obtain ⟨t0, t1, t2, t3⟩ := sub_ld hle rfl (h.hs.blk b gb _ r1).1
        obtain ⟨n1, n2⟩ := s3.num
        have hcap : md = .own → mdl = .own := by
          intro e
          subst e
          have hbs : bs[j]? = some bs[j] := by simp [hj]
          generalize hbe : bs[j] = z at hbs
          obtain ⟨sb, md9⟩ := z
          obtain ⟨lb9, v9, f1, f2, f3⟩ := h.ent j sb md9 hbs
          rw [r5] at f1
          cases f1
          simp only [slOk, hvj, hbs, vId, r1, ← r3'] at hsl
          cases mdl <;> simp [isOwn] at hsl ⊢
        refine ⟨by omega, by omega, by omega, fun hm => ?_, fun hc => ?_⟩
        · have hown := hcap hm
          subst hown
          have hbs : bs[j]? = some bs[j] := by simp [hj]
          generalize hbe : bs[j] = z at hbs
          obtain ⟨sb, md9⟩ := z
          obtain ⟨lb9, v9, f1, f2, f3⟩ := h.ent j sb md9 hbs
          rw [r5] at f1
          cases f1
          exact absurd hbs (h.nosub j b off len hvj sb)
        · rw [e4 hc, r9, r4, r3]; simp [vP, r1]
      · exact .undef _
    · rw [blt_f hj]
      simp only
      obtain ⟨c1, c2, c3⟩ := h.new_known (by omega) hb
      refine .whole _ a n cap c1 fun bk md hg => ?_
      obtain ⟨lb, d1, rfl, d2⟩ := c3 bk md hg
      obtain ⟨e1, e2⟩ := hv lb md d1
      obtain ⟨g1, g2⟩ := gB_num (vsU vs L') (slOk H vs bs) bs.length q lb
      refine ⟨by omega, ?_⟩
      unfold SlAt at e2 ⊢
      rw [c2, g1, g2]
      exact e2
  | seg b i fo len a n cap hb hv => exact .undef _
  | acc j a n cap hb hv =>
    simp only [gV]
    by_cases hj : j < bs.length
    · rw [blt_t hj]
      simp only
      split
      · rename_i b hsl hvu
        obtain ⟨hvj, hlv⟩ := vsU_at _ _ _ _ hvu
        obtain ⟨gb, md0, _, _, _, k1, _⟩ := h.known hj hvj rfl
        refine .acc b a n cap (h.old_known (hget_kn k1)) fun bk md hg => ?_
        obtain ⟨gb, md0, lb0, lb, mdl, r1, r2, r3, r3', r4, r5, r6, r7, r8, r9, r10⟩ := h.after hj hvj rfl hlv hg
        obtain ⟨e1, e2, e3, e4⟩ := hv lb mdl r6
        obtain ⟨gb2, md2, s1, s2, s3⟩ := r10.at_ (by simp)
        have s1' : hget H b = some (gb2, md2) := s1
        rw [r1] at s1'
        cases s1'
        obtain ⟨n1, n2⟩ := s3.num
        have hcap : md = .own → mdl = .own := by
          intro e
          subst e
          have hbs : bs[j]? = some bs[j] := by simp [hj]
          generalize hbe : bs[j] = z at hbs
          obtain ⟨sb, md9⟩ := z
          obtain ⟨lb9, v9, f1, f2, f3⟩ := h.ent j sb md9 hbs
          rw [r5] at f1
          cases f1
          simp only [slOk, hvj, hbs, vId, r1, ← r3'] at hsl
          cases mdl <;> simp [isOwn] at hsl ⊢
        refine ⟨by omega, by omega, fun hm => ?_, fun hc => ?_⟩
        · have := e3 (hcap hm)
          rw [r9, hcap hm] at this
          simp only [vP, r1, isOwn] at this
          rw [r4, r3, show gb.str = lb.str by omega]
          exact this
        · rw [e4 hc, r9, r4]; simp [vP, r1]
      · exact .undef _
    · rw [blt_f hj]
      simp only
      obtain ⟨c1, c2, c3⟩ := h.new_known (by omega) hb
      refine .acc _ a n cap c1 fun bk md hg => ?_
      obtain ⟨lb, d1, rfl, d2⟩ := c3 bk md hg
      obtain ⟨e1, e2, e3, e4⟩ := hv lb md d1
      obtain ⟨g1, g2⟩ := gB_num (vsU vs L') (slOk H vs bs) bs.length q lb
      rw [c2]
      exact ⟨by omega, e2, by rw [g2]; exact e3, e4⟩
  | part j o l a n cap hb hv =>
    simp only [gV]
    by_cases hj : j < bs.length
    · rw [blt_t hj]
      simp only
      split
      · rename_i b hsl hvu
        obtain ⟨hvj, hlv⟩ := vsU_at _ _ _ _ hvu
        obtain ⟨gb, md0, _, _, _, k1, _⟩ := h.known hj hvj rfl
        refine .part b o l a n cap (h.old_known (hget_kn k1)) fun bk md hg => ?_
        obtain ⟨gb, md0, lb0, lb, mdl, r1, r2, r3, r3', r4, r5, r6, r7, r8, r9, r10⟩ := h.after hj hvj rfl hlv hg
        obtain ⟨e0, e1, e2, e3, e4⟩ := hv lb mdl r6
        obtain ⟨gb2, md2, s1, s2, s3⟩ := r10.at_ (by simp)
        have s1' : hget H b = some (gb2, md2) := s1
        rw [r1] at s1'
        cases s1'
        obtain ⟨n1, n2⟩ := s3.num
        have hcap : md = .own → mdl = .own := by
          intro e
          subst e
          have hbs : bs[j]? = some bs[j] := by simp [hj]
          generalize hbe : bs[j] = z at hbs
          obtain ⟨sb, md9⟩ := z
          obtain ⟨lb9, v9, f1, f2, f3⟩ := h.ent j sb md9 hbs
          rw [r5] at f1
          cases f1
          simp only [slOk, hvj, hbs, vId, r1, ← r3'] at hsl
          cases mdl <;> simp [isOwn] at hsl ⊢
        refine ⟨by omega, e1, e2, fun hm => ?_, fun hc => ?_⟩
        · have := e3 (hcap hm)
          rw [r9, hcap hm] at this
          simp only [vP, r1, isOwn] at this
          rw [r4, r3, show gb.str = lb.str by omega]
          exact this
        · rw [e4 hc, r9, r4, r3, show gb.str = lb.str by omega]; simp [vP, r1]
      · rename_i b off len hsl hvu
        obtain ⟨hvj, hlv⟩ := vsU_at _ _ _ _ hvu
        obtain ⟨gb, md0, _, _, _, k1, _⟩ := h.known hj hvj rfl
        refine .part b (off + o) l a n cap (h.old_known (hget_kn k1)) fun bk md hg => ?_
        obtain ⟨gb, md0, lb0, lb, mdl, r1, r2, r3, r3', r4, r5, r6, r7, r8, r9, r10⟩ := h.after hj hvj rfl hlv hg
        obtain ⟨e0, e1, e2, e3, e4⟩ := hv lb mdl r6
        obtain ⟨gb2, md2, s1, s2, s3⟩ := r10.at_ (by simp)
        simp only [vB, r1] at s1
        cases s1
        obtain ⟨val, hval⟩ := r10.ok
        have hle : off + len ≤ gb.num := by
          cases hval with
          | part _ _ _ a n cap hk hh => exact (hh _ _ r1).1
        obtain ⟨t0, t1, t2, t3⟩ := sub_ld hle rfl (h.hs.blk b gb _ r1).1
        obtain ⟨n1, n2⟩ := s3.num
        have hcap : md = .own → mdl = .own := by
          intro e
          subst e
          have hbs : bs[j]? = some bs[j] := by simp [hj]
          generalize hbe : bs[j] = z at hbs
          obtain ⟨sb, md9⟩ := z
          obtain ⟨lb9, v9, f1, f2, f3⟩ := h.ent j sb md9 hbs
          rw [r5] at f1
          cases f1
          simp only [slOk, hvj, hbs, vId, r1, ← r3'] at hsl
          cases mdl <;> simp [isOwn] at hsl ⊢
        refine ⟨by omega, e1, e2, fun hm => ?_, fun hc => ?_⟩
        · have hown := hcap hm
          subst hown
          have hbs : bs[j]? = some bs[j] := by simp [hj]
          generalize hbe : bs[j] = z at hbs
          obtain ⟨sb, md9⟩ := z
          obtain ⟨lb9, v9, f1, f2, f3⟩ := h.ent j sb md9 hbs
          rw [r5] at f1
          cases f1
          exact absurd hbs (h.nosub j b off len hvj sb)
        · rw [e4 hc, r9, r4, r3, show lb.str = gb.str by omega]
          simp [vP, r1, Nat.add_mul, Nat.add_assoc]
      · exact .undef _
    · rw [blt_f hj]
      simp only
      obtain ⟨c1, c2, c3⟩ := h.new_known (by omega) hb
      refine .part _ o l a n cap c1 fun bk md hg => ?_
      obtain ⟨lb, d1, rfl, d2⟩ := c3 bk md hg
      obtain ⟨e1, e2, e3⟩ := hv lb md d1
      obtain ⟨g1, g2⟩ := gB_num (vsU vs L') (slOk H vs bs) bs.length q lb
      refine ⟨by omega, e2, ?_⟩
      unfold SlAt at e3 ⊢
      rw [c2, g2]
      exact e3
  | func fn f c f' c' h1 h2 _ _ ih1 ih2 =>
    simp only [gV]
    refine .func fn _ _ f' c' (by rw [gVL_length]; exact h1) (by rw [gVL_length]; exact h2) (fun j x y hx hy => ?_) (fun j x y hx hy => ?_)
    · rw [gVL_at, Option.map_eq_some_iff] at hx
      obtain ⟨x', hx', rfl⟩ := hx
      exact ih1 j x' y hx' hy
    · rw [gVL_at, Option.map_eq_some_iff] at hx
      obtain ⟨x', hx', rfl⟩ := hx
      exact ih2 j x' y hx' hy
  | iface t x v _ ih => exact .iface t _ v ih
  | agg l cs h1 _ ih =>
    simp only [gV]
    refine .agg _ cs (by rw [gVL_length]; exact h1) fun j x y hx hy => ?_
    rw [gVL_at, Option.map_eq_some_iff] at hx
    obtain ⟨x', hx', rfl⟩ := hx
    exact ih j x' y hx' hy
  | tuple l cs h1 _ ih =>
    simp only [gV]
    refine .tuple _ cs (by rw [gVL_length]; exact h1) fun j x y hx hy => ?_
    rw [gVL_at, Option.map_eq_some_iff] at hx
    obtain ⟨x', hx', rfl⟩ := hx
    exact ih j x' y hx' hy

end
end Go.Ab
end

section
/- Behind a call: memory. No condition. -/
namespace Go.Ab
open Go

section
variable {m ml ml' : Map} {H L L' : Heap} {w w' : World} {vs : Vs} {q : Nat} {bs : List (SB × Md)} {D : Delta}

/-- a cell of ours that the call may write lies under a view of that block -/
theorem Ret.wr (h : Ret m ml ml' H L L' w w' vs q bs D) {x o : Nat} (hw : Wr ml L x o) : ∃ j v sb md lb b gb md0, bs[j]? = some (sb, md) ∧ md ≠ .ro ∧ vat vs j = some v ∧ vId v = some b ∧ hget H b = some (gb, md0) ∧ md0 ≠ .ro ∧ hat L j = .live lb md ∧ ml j = vP m H (isOwn md) v ∧
    (m b).1 = x ∧ (ml j).1 = x ∧ (ml j).2.1 ≤ o ∧ o < (ml j).2.1 + (ml j).2.2 ∧ (m b).2.1 ≤ (ml j).2.1 ∧ (ml j).2.1 + (ml j).2.2 ≤ (m b).2.1 + (m b).2.2 := by
  obtain ⟨j, lb, md, g1, g2, g3, g4, g5⟩ := hw
  have hj : j < bs.length := by
    apply Classical.byContradiction
    intro hn
    have := hat_of_hget g1
    rw [hat_len L j (by rw [h.len]; omega)] at this
    cases this
  have hbs : bs[j]? = some bs[j] := by simp [hj]
  generalize hbe : bs[j] = z at hbs
  obtain ⟨sb, md1⟩ := z
  obtain ⟨lb1, v, e1, e2, e3⟩ := h.ent j sb md1 hbs
  rw [hat_of_hget g1] at e1
  cases e1
  obtain ⟨v2, f1, f2, f3⟩ := h.sm.seen j lb md g1
  rw [e2] at f1
  cases f1
  by_cases hph : ∃ z, v = .ph z
  · obtain ⟨z, hph⟩ := hph
    subst hph
    rw [f3] at g4 g5
    simp [vP] at g4 g5
  · obtain ⟨gb, md0, k1, k2, k3⟩ := e3.at_ (fun z h => hph ⟨z, h⟩)
    obtain ⟨b, bk, i1, i2, i3, i4, i5⟩ := vP_in (md := md) h.hs k1 e3.ok
    rw [← f3] at i3 i4 i5
    exact ⟨j, v, sb, md, lb, b, bk, md0, hbs, g2, e2, i1, i2, mdFits_ro k2 g2, hat_of_hget g1, f3, by omega, g3, g4, g5, i4, i5⟩

theorem Ret.lt_len (h : Ret m ml ml' H L L' w w' vs q bs D) {j : Nat} {lb : Blk} {md : Md} (hl : hat L' j = .live lb md) : j < L'.length := by
  apply Classical.byContradiction
  intro hn
  rw [hat_len L' j (by omega)] at hl
  cases hl

/-- what the great heap's places are behind the call -/
theorem Ret.kinds (h : Ret m ml ml' H L L' w w' vs q bs D) {b : Nat} {bk : Blk} {md : Md} (hg : hget (hput H D) b = some (bk, md)) :
    (∃ j lb, bs.length ≤ j ∧ j < L'.length ∧ b = q + (j - bs.length) ∧ hat L' j = .live lb .own ∧ bk = gB (vsU vs L') (slOk H vs bs) bs.length q lb ∧ md = .own ∧ mBack m ml' bs.length L'.length q b = ml' j) ∨
    (∃ j gb, j < bs.length ∧ Back H vs (vsU vs L') (slOk H vs bs) bs.length q bs L' j b (.live bk md) ∧ hget H b = some (gb, md) ∧ mBack m ml' bs.length L'.length q b = m b) ∨
    ((∀ e, (b, e) ∉ D) ∧ hget H b = some (bk, md) ∧ mBack m ml' bs.length L'.length q b = m b) := by
  by_cases hm : ∃ e, (b, e) ∈ D
  · obtain ⟨e, hm⟩ := hm
    obtain ⟨j, e', hb, hh⟩ := h.hat_in hm
    rw [hat_of_hget hg] at hh
    subst hh
    by_cases hj : j < bs.length
    · right; left
      obtain ⟨v, sb, md1, h1, h2, h3, h4, h5, h6⟩ := h.viewed hb hj
      obtain ⟨gb, md0, _, _, _, k1, _⟩ := h.known hj h3 h4
      obtain ⟨s1, _⟩ := h.shape hb hj k1
      subst s1
      exact ⟨j, gb, hj, hb, k1, h.map_old h6⟩
    · left
      cases hb with
      | new lb h1 h2 =>
        have hlt := h.lt_len h2
        exact ⟨j, lb, h1, hlt, rfl, h2, rfl, rfl, h.map_new h1 hlt⟩
      | full => omega
      | sub => omega
      | el => omega
  · have ho := fun e he => hm ⟨e, he⟩
    rw [hget_of_hat (h.hat_out ho)] at hg
    exact .inr (.inr ⟨ho, hg, h.map_old (hget_kn hg)⟩)

/-- memory of a block: what stays of it -/
theorem Ret.cells (h : Ret m ml ml' H L L' w w' vs q bs D) {b : Nat} {gb : Blk} {md : Md} (hg : hget H b = some (gb, md)) (hp : 0 < (m b).2.2) :
    ∃ c c' e fr, w.heap[(m b).1]? = some (.cells c e fr) ∧ w'.heap[(m b).1]? = some (.cells c' e fr) ∧ c'.size = c.size ∧ ∀ o, ¬ Wr ml L (m b).1 o → c'[o]? = c[o]? := by
  obtain ⟨c, e, fr, g1, _⟩ := (h.hs.blk b gb md hg).2.2.2 hp
  rcases h.tr.frame (m b).1 (h.hs.lt hg hp) with hf | ⟨c1, c', e1, fr1, f1, f2, f3, f4⟩
  · exact ⟨c, c, e, fr, g1, by rw [hf]; exact g1, rfl, fun _ _ => rfl⟩
  · rw [g1] at f1
    cases f1
    exact ⟨c, c', e, fr, g1, f2, f3, f4⟩

theorem apart_of {p r : Nat × Nat × Nat} (h : ∀ o, p.1 = r.1 → p.2.1 ≤ o → o < p.2.1 + p.2.2 → r.2.1 ≤ o → o < r.2.1 + r.2.2 → False) : Ab.apart p r := by
  unfold Ab.apart
  by_cases h0 : p.2.2 = 0
  · exact .inl h0
  · by_cases h1 : r.2.2 = 0
    · exact .inr (.inl h1)
    · by_cases h2 : p.1 = r.1
      · right; right; right
        apply Classical.byContradiction
        intro hc
        by_cases h3 : p.2.1 ≤ r.2.1
        · exact h r.2.1 h2 h3 (by omega) (by omega) (by omega)
        · exact h p.2.1 h2 (by omega) (by omega) (by omega) (by omega)
      · exact .inr (.inr (.inl h2))

theorem Ret.sim (h : Ret m ml ml' H L L' w w' vs q bs D) : Sim (mBack m ml' bs.length L'.length q) (hput H D) w' where
  blk b bk md hg := by
    rcases h.kinds hg with ⟨j, lb, h1, h2, h3, h4, rfl, rfl, h5⟩ | ⟨j, gb, hj, hb, h3, h4⟩ | ⟨h1, h2, h3⟩
    · rw [h5]
      have hbr := h.hs'.blk j lb .own (hget_of_live h4)
      refine hbr.ren (gB_num _ _ _ _ _).1 (gB_num _ _ _ _ _).2 (gB_ok _ _ _ _ hbr.1) fun i fo x _ _ hx => ⟨_, gB_ld _ _ _ _ hx, fun v hv => h.vr hv⟩
    · rw [h4]
      obtain ⟨_, s2, s3, s4, lb, mdl, s5, s6, s7⟩ := h.shape hb hj h3
      obtain ⟨v, sb, md1, k1, k2, k3, k4, k5, k6⟩ := h.viewed hb hj
      refine (h.hs.blk b gb md h3).patch (h.hs'.blk j lb mdl s5) s2 s3 s4 (fun x v hx => hx.mono h.le) (fun x v hx => h.vr hx) s6 (fun hp => ?_) s7
      obtain ⟨c, c', e, fr, f1, f2, f3, f4⟩ := h.cells h3 hp
      refine ⟨c, c', e, fr, f1, f2, f3, fun o o1 o2 hn => f4 o fun hw => hn ?_⟩
      obtain ⟨j', v', sb', md', lb', b', gb', md0', r1, r2, r3, r4, r5, r6, r7, r8, r9, r10, r11, r12, r13, r14⟩ := h.wr hw
      have hbb : b' = b := by
        apply Classical.byContradiction
        intro hne
        have := h.hs.dis b' b _ _ _ _ r5 h3 hne (.inl r6)
        unfold Ab.apart at this
        omega
      subst hbb
      have hjj : j' = j := by
        apply Classical.byContradiction
        intro hne
        obtain ⟨lb2, u, e1, e2, e3⟩ := h.ent j sb md1 k1
        exact r2 (h.sm.apart j' j lb' md' lb2 md1 v' v b' (hget_of_live r7) (hget_of_live e1) hne r3 k3 r4 k4).1
      subst hjj
      obtain ⟨_, _, _, t4⟩ := h.stay r7 s5
      rw [t4]
      exact ⟨r11, r12⟩
    · rw [h3]
      refine (h.hs.blk b bk md h2).far (fun x v hx => hx.mono h.le) fun hp => ?_
      obtain ⟨c, c', e, fr, f1, f2, f3, f4⟩ := h.cells h2 hp
      refine .inr ⟨c, c', e, fr, f1, f2, f3, fun o o1 o2 => f4 o fun hw => ?_⟩
      obtain ⟨j', v', sb', md', lb', b', gb', md0', r1, r2, r3, r4, r5, r6, r7, r8, r9, r10, r11, r12, r13, r14⟩ := h.wr hw
      by_cases hne : b' = b
      · subst hne
        obtain ⟨n1, n2⟩ := h.live j' sb' md' r1
        obtain ⟨e, he⟩ := h.back.old j' sb' md' b' v' (Nat.zero_le _) (List.getElem?_eq_some_iff.1 r1).1 r1 n1 n2 r2 r3 r4
        exact h1 e he
      · have := h.hs.dis b' b _ _ _ _ r5 h2 hne (.inl r6)
        unfold Ab.apart at this
        omega
  dis b b' bk md bk' md' hg hg' hne hmm := by
    -- a new place and an old one
    have mixed : ∀ {b b' : Nat} {bk' : Blk} {md' : Md} {j : Nat} {lb : Blk}, bs.length ≤ j → hat L' j = .live lb .own → hget H b' = some (bk', md') → hget (hput H D) b' ≠ none → apart (ml' j) (m b') := by
      intro _ b' bk' md' j lb hj hl hg' hne'
      apply apart_of
      intro o e1 o1 o2 o3 o4
      have hw : Wr ml' L' (m b').1 o := ⟨j, lb, .own, hget_of_live hl, by simp, e1, o1, o2⟩
      rcases h.tr.own _ _ hw with hnew | hold
      · have := h.hs.lt hg' (by omega)
        omega
      · obtain ⟨j', v', sb', md2, lb', b2, gb', md0', r1, r2, r3, r4, r5, r6, r7, r8, r9, r10, r11, r12, r13, r14⟩ := h.wr hold
        have hj' := (List.getElem?_eq_some_iff.1 r1).1
        by_cases hbb : b2 = b'
        · subst hbb
          cases hgg : hget (hput H D) b2 with
          | none => exact hne' hgg
          | some z =>
            obtain ⟨nb, nmd⟩ := z
            obtain ⟨gb, md0, lb0, lb1, mdl, q1, q2, q3, _, q4, q5, q6, q7, q8, q9, q10⟩ := h.after hj' r3 r4 (h.alive hj' r3 r4 hgg r1 r2) hgg
            have hd := h.hs'.dis j j' lb .own lb1 mdl (hget_of_live hl) q6 (by omega) (.inl (by simp))
            rw [r7] at q5
            cases q5
            rw [q9, ← r8] at hd
            unfold Ab.apart at hd
            omega
        · have := h.hs.dis b2 b' _ _ _ _ r5 hg' hbb (.inl r6)
          unfold Ab.apart at this
          omega
    rcases h.kinds hg with ⟨j, lb, h1, h2, h3, h4, rfl, rfl, h5⟩ | ⟨j, gb, hj, hb, h3, h4⟩ | ⟨h1, h2, h3⟩ <;>
      rcases h.kinds hg' with ⟨j', lb', h1', h2', h3', h4', rfl, rfl, h5'⟩ | ⟨j', gb', hj', hb', h3', h4'⟩ | ⟨h1', h2', h3'⟩
    · rw [h5, h5']
      exact h.hs'.dis j j' lb .own lb' .own (hget_of_live h4) (hget_of_live h4') (by omega) hmm
    · rw [h5, h4']
      exact mixed (b := b) h1 h4 h3' (by rw [hg']; simp)
    · rw [h5, h3']
      exact mixed (b := b) h1 h4 h2' (by rw [hg']; simp)
    · rw [h4, h5']
      exact (mixed (b := b') h1' h4' h3 (by rw [hg]; simp)).symm
    · rw [h4, h4']
      exact h.hs.dis b b' _ _ _ _ h3 h3' hne hmm
    · rw [h4, h3']
      exact h.hs.dis b b' _ _ _ _ h3 h2' hne hmm
    · rw [h3, h5']
      exact (mixed (b := b') h1' h4' h2 (by rw [hg]; simp)).symm
    · rw [h3, h4']
      exact h.hs.dis b b' _ _ _ _ h2 h3' hne hmm
    · rw [h3, h3']
      exact h.hs.dis b b' _ _ _ _ h2 h2' hne hmm

theorem Ret.trans (h : Ret m ml ml' H L L' w w' vs q bs D) : Tr m H w (mBack m ml' bs.length L'.length q) (hput H D) w' where
  le := h.le
  os := h.tr.os
  tape := h.tr.tape
  output := h.tr.output
  drawn := h.tr.drawn
  size := h.tr.size
  frame b hb := by
    rcases h.tr.frame b hb with hf | ⟨c, c', e, fr, f1, f2, f3, f4⟩
    · exact .inl hf
    · refine .inr ⟨c, c', e, fr, f1, f2, f3, fun o ho => f4 o fun hw => ho ?_⟩
      obtain ⟨j', v', sb', md', lb', b', gb', md0', r1, r2, r3, r4, r5, r6, r7, r8, r9, r10, r11, r12, r13, r14⟩ := h.wr hw
      exact ⟨b', gb', md0', r5, r6, r9, by omega, by omega⟩
  own x o hw := by
    obtain ⟨b, bk, md, g1, g2, g3, g4, g5⟩ := hw
    rcases h.kinds g1 with ⟨j, lb, h1, h2, h3, h4, rfl, rfl, h5⟩ | ⟨j, gb, hj, hb, h3, h4⟩ | ⟨h1, h2, h3⟩
    · rw [h5] at g3 g4 g5
      rcases h.tr.own x o ⟨j, lb, .own, hget_of_live h4, by simp, g3, g4, g5⟩ with k | k
      · exact .inl k
      · obtain ⟨j', v', sb', md', lb', b', gb', md0', r1, r2, r3, r4, r5, r6, r7, r8, r9, r10, r11, r12, r13, r14⟩ := h.wr k
        exact .inr ⟨b', gb', md0', r5, r6, r9, by omega, by omega⟩
    · rw [h4] at g3 g4 g5
      exact .inr ⟨b, gb, md, h3, g2, g3, g4, g5⟩
    · rw [h3] at g3 g4 g5
      exact .inr ⟨b, bk, md, h2, g2, g3, g4, g5⟩

end
end Go.Ab
end

section
/- A function by a plain function: calls of it. No condition. -/
namespace Go.Ab
open Go

def resA (P : Program) (s : St) : ResultVar → Option AV
  | .tmp t => some (tget s.tmps t)
  | .cell a t => match tget s.tmps a with
    | .ptr b i fo => match hget s.heap b, isAggT P t with
      | some (bk, _), some false => bk.ld i fo
      | some (bk, _), some true => match sizeT P t with
        | some n => if fo + n ≤ bk.str then (match ldF bk i fo n with | some l => some (.agg l) | none => none) else none
        | none => none
      | _, _ => none
    | _ => none

def resL (P : Program) (s : St) : List ResultVar → Option (List AV)
  | [] => some []
  | r :: rs => match resA P s r with
    | some x => (match resL P s rs with | some xs => some (x :: xs) | none => none)
    | none => none

def resS (P : Program) (rs : List ResultVar) (s : St) : Option AV :=
  match resL P s rs with
  | some [x] => some x
  | some l => some (.tuple l)
  | none => none

def resM (a : Act) : ResultVar → Sem Value
  | .tmp t => pure (a.tmps.getD t Go.undef)
  | .cell b t => do loadVar t (← asAddr (a.tmps.getD b Go.undef))

theorem results_eq (fn : Func) (a : Act) : results fn a.tmps = (do let vs ← fn.results.mapM (resM a); pure (if h : vs.size = 1 then vs[0] else .tuple vs)) := by
  unfold results
  congr 1

theorem resA_sound {P : Program} {m : Map} {s : St} {a : Act} {w : World} (h : At m s a w) {r : ResultVar} {x : AV} (hr : resA P s r = some x) :
    ∃ v, VR m s.heap x v ∧ (resM a r).run P w = .ok v w := by
  cases r with
  | tmp t =>
    simp only [resA, Option.some.injEq] at hr
    subst hr
    exact ⟨_, h.tr.at_ t, rfl⟩
  | cell b t =>
    simp only [resA] at hr
    split at hr
    · rename_i c i fo hc
      have hv := h.tr.at_ b
      rw [hc] at hv
      generalize ha : a.tmps.getD b Go.undef = va at hv
      split at hr
      · rename_i bk md hb hagg
        obtain ⟨v, g1, g2⟩ := (load_sound (P := P) h.sim hv hb).1 _ hagg hr
        refine ⟨v, g1, ?_⟩
        cases hv
        simp only [resM, ha, Sem.run_bind, asAddr, Sem.run_pure, Result.andThen_ok]
        simpa [Instr.loadAt, Instr.sureAddr, Sem.run_bind] using g2
      · rename_i bk md hb hagg
        split at hr
        · rename_i n hn
          split at hr
          · rename_i hle
            split at hr
            · rename_i l hl
              cases hr
              obtain ⟨cs, g1, g2, g3⟩ := (load_sound (P := P) h.sim hv hb).2 n l hagg hn hle (by rw [← ldF_eq]; exact hl)
              refine ⟨.agg cs, .agg _ _ g1 g2, ?_⟩
              cases hv
              simp only [resM, ha, Sem.run_bind, asAddr, Sem.run_pure, Result.andThen_ok]
              simpa [Instr.loadAt, Instr.sureAddr, Sem.run_bind] using g3
            · cases hr
          · cases hr
        · cases hr
      · cases hr
    · cases hr

theorem resL_sound {P : Program} {m : Map} {s : St} {a : Act} {w : World} (h : At m s a w) : ∀ (rs : List ResultVar) (l : List AV), resL P s rs = some l →
    ∃ vs : List Value, l.length = vs.length ∧ (∀ (j : Nat) (x : AV) (v : Value), l[j]? = some x → vs[j]? = some v → VR m s.heap x v) ∧
      (rs.mapM (resM a)).run P w = .ok vs w
  | [], l, hr => by
    simp only [resL, Option.some.injEq] at hr
    subst hr
    exact ⟨[], rfl, fun j x v hx => by simp at hx, rfl⟩
  | r :: rs, l, hr => by
    simp only [resL] at hr
    split at hr
    · rename_i x hx
      split at hr
      · rename_i xs hxs
        cases hr
        obtain ⟨v, g1, g2⟩ := resA_sound h hx
        obtain ⟨vs, k1, k2, k3⟩ := resL_sound h rs xs hxs
        refine ⟨v :: vs, by simp [k1], fun j y u hy hu => ?_, ?_⟩
        · cases j with
          | zero => simp at hy hu; subst hy hu; exact g1
          | succ j => simp at hy hu; exact k2 j y u hy hu
        · rw [List.mapM_cons]
          simp only [Sem.run_bind, g2, Result.andThen_ok, k3, Sem.run_pure]
      · cases hr
    · cases hr

theorem resS_sound {P : Program} {m : Map} {s : St} {a : Act} {w : World} (h : At m s a w) {fn : Func} {x : AV} (hr : resS P fn.results.toList s = some x) : ∃ v, VR m s.heap x v ∧ (results fn a.tmps).run P w = .ok v w := by
  unfold resS at hr
  cases hl : resL P s fn.results.toList with
  | none => rw [hl] at hr; cases hr
  | some l =>
    obtain ⟨vs, k1, k2, k3⟩ := resL_sound h _ l hl
    have hrun : (results fn a.tmps).run P w = .ok (if h : vs.toArray.size = 1 then vs.toArray[0] else .tuple vs.toArray) w := by
      have hm : (fn.results.mapM (resM a)).run P w = .ok vs.toArray w := by
        rw [Array.mapM_eq_mapM_toList]
        rw [Sem.run_map, k3]
        rfl
      rw [results_eq]
      simp only [Sem.run_bind, hm, Result.andThen_ok, Sem.run_pure]
    rw [hl] at hr
    refine ⟨_, ?_, hrun⟩
    match l, vs, k1, k2, hr with
    | [y], [v], _, k2, hr =>
      simp only [Option.some.injEq] at hr
      subst hr
      exact k2 0 y v rfl rfl
    | [], [], _, k2, hr =>
      simp only [Option.some.injEq] at hr
      subst hr
      exact .tuple [] _ rfl fun j y u hy => by simp at hy
    | y :: y' :: l, v :: v' :: vs, k1, k2, hr =>
      simp only [Option.some.injEq] at hr
      subst hr
      have h1 : ¬ (v :: v' :: vs).toArray.size = 1 := by simp
      rw [dif_neg h1]
      exact .tuple _ _ (by simpa using k1) fun j y u hy hu => k2 j y u hy (by simpa using hu)

end Go.Ab
end

section
/- A function by a plain function: its calls. No condition. -/
namespace Go.Ab
open Go

theorem vB_mono {K H : Heap} (hs : SubH K H) {v : View} {r : Blk × Md} (h : vB K v = some r) : vB H v = some r := by
  cases v with
  | ph => cases h
  | full b => exact hs _ _ h
  | sub b off len =>
    simp only [vB] at h ⊢
    split at h
    · rename_i hg; simp only [hs _ _ hg]; exact h
    · cases h
  | el b i fo n =>
    simp only [vB] at h ⊢
    split at h
    · rename_i hg; simp only [hs _ _ hg]; exact h
    · cases h

theorem mB_le {K : Heap} {sb : SB} {md : Md} {v : View} {vs vs' : Vs} {ls : List Lf} (h : mB K sb md v vs = some (ls, vs')) : LeV vs vs' := by
  have key : mB1 K sb md v vs = some (ls, vs') → LeV vs vs' := by
    intro h
    unfold mB1 at h
    split at h
    · split at h
      · unfold mBk at h
        split at h
        · split at h
          · cases h; exact LeV.refl _
          · cases h
        · split at h
          · cases h; exact LeV.refl _
          · cases h
        · split at h
          · exact (mVL_spec _ _ _ _ _ h).le
          · cases h
        · cases h
      · cases h
    · cases h
  cases v with
  | ph z =>
    have h : mPh sb vs = some (ls, vs') := by cases z <;> cases md <;> first | exact h | cases h
    simp only [mPh] at h
    split at h
    · cases h; exact LeV.refl _
    · split at h
      · cases h; exact LeV.refl _
      · cases h
    · split at h
      · cases h; exact LeV.refl _
      · cases h
    · cases h
  | full b => exact key h
  | sub b off len => exact key h
  | el b i fo n => exact key h

theorem mB_mono {K H : Heap} (hs : SubH K H) {sb : SB} {md : Md} {v : View} {vs : Vs} {r : List Lf × Vs} (h : mB K sb md v vs = some r) : mB H sb md v vs = some r := by
  have key : mB1 K sb md v vs = some r → mB1 H sb md v vs = some r := by
    intro h
    unfold mB1 at h ⊢
    split at h
    · rename_i hb; simp only [vB_mono hs hb]; exact h
    · cases h
  cases v with
  | ph => exact h
  | full b => exact key h
  | sub b off len => exact key h
  | el b i fo n => exact key h

theorem mH_mono {K H : Heap} (hs : SubH K H) : ∀ (bs : List (SB × Md)) (j : Nat) (vs : Vs) (r : List Lf × Vs), mH K bs j vs = some r → mH H bs j vs = some r
  | [], _, _, _, h => h
  | (sb, md) :: bs, j, vs, r, h => by
    have live : (match vat vs j with
        | some v => match mB K sb md v vs with
          | some (l1, vs1) => match mH K bs (j + 1) vs1 with
            | some (l2, vs2) => some (l1 ++ l2, vs2)
            | none => none
          | none => none
        | none => none) = some r → (match vat vs j with
        | some v => match mB H sb md v vs with
          | some (l1, vs1) => match mH H bs (j + 1) vs1 with
            | some (l2, vs2) => some (l1 ++ l2, vs2)
            | none => none
          | none => none
        | none => none) = some r := by
      intro h
      cases hv : vat vs j with
      | none => rw [hv] at h; cases h
      | some v =>
        rw [hv] at h
        simp only at h ⊢
        cases hb : mB K sb md v vs with
        | none => rw [hb] at h; cases h
        | some p =>
          obtain ⟨l1, vs1⟩ := p
          rw [hb] at h
          rw [mB_mono hs hb]
          simp only at h ⊢
          cases hm : mH K bs (j + 1) vs1 with
          | none => rw [hm] at h; cases h
          | some p =>
            rw [hm] at h
            rw [mH_mono hs bs (j + 1) vs1 p hm]
            exact h
    cases sb with
    | hole => exact mH_mono hs bs (j + 1) vs r h
    | dead => exact mH_mono hs bs (j + 1) vs r h
    | ints k => exact live h
    | recs k => exact live h
    | vals n l => exact live h

theorem backOne_mono {K H : Heap} (hs : SubH K H) {vs vu : Vs} {f : Nat → Bool} {nL q : Nat} {v : Option View} {e : Ent} {r : Option (Nat × Ent)} (h : backOne K vs vu f nL q v e = some r) : backOne H vs vu f nL q v e = some r := by
  unfold backOne at h ⊢
  split at h
  · cases h
  · exact h
  · split at h
    · exact h
    · split at h
      · rename_i hg; simp only [hs _ _ hg]; exact h
      · cases h
    · cases h
  · split at h
    · split at h
      · rename_i hg; simp only [hs _ _ hg]; exact h
      · cases h
    · cases h
  · split at h
    · split at h
      · rename_i hg; simp only [hs _ _ hg]; exact h
      · cases h
    · cases h

theorem backD_mono {K H : Heap} (hs : SubH K H) {vs vu : Vs} {f : Nat → Bool} {nL q : Nat} : ∀ (bs : List (SB × Md)) (L : Heap) (j : Nat) (D : Delta), backD K vs vu f nL q bs L j = some D → backD H vs vu f nL q bs L j = some D
  | [], [], _, _, h => h
  | [], e :: L, j, D, h => by
    simp only [backD] at h ⊢
    split at h
    · obtain ⟨D', h1, rfl⟩ := consO_some h
      rw [backD_mono hs [] L (j + 1) D' h1]; rfl
    · obtain ⟨D', h1, rfl⟩ := consO_some h
      rw [backD_mono hs [] L (j + 1) D' h1]; rfl
    · cases h
  | _ :: _, [], _, _, h => by simp [backD] at h
  | (sb, md) :: bs, e :: L, j, D, h => by
    have main : (match backOne K vs vu f nL q (vat vs j) e with
        | some (some x) => consO x (backD K vs vu f nL q bs L (j + 1))
        | some none => backD K vs vu f nL q bs L (j + 1)
        | none => none) = some D → (match backOne H vs vu f nL q (vat vs j) e with
        | some (some x) => consO x (backD H vs vu f nL q bs L (j + 1))
        | some none => backD H vs vu f nL q bs L (j + 1)
        | none => none) = some D := by
      intro h
      cases hb : backOne K vs vu f nL q (vat vs j) e with
      | none => rw [hb] at h; cases h
      | some o =>
        rw [hb] at h
        rw [backOne_mono hs hb]
        cases o with
        | none => exact backD_mono hs bs L (j + 1) D h
        | some x =>
          obtain ⟨D', h1, rfl⟩ := consO_some h
          simp only
          rw [backD_mono hs bs L (j + 1) D' h1]; rfl
    have roCase : (match isHole e with | false => backD K vs vu f nL q bs L (j + 1) | true => none) = some D → (match isHole e with | false => backD H vs vu f nL q bs L (j + 1) | true => none) = some D := by
      intro h
      cases he : isHole e with
      | true => rw [he] at h; cases h
      | false => rw [he] at h; exact backD_mono hs bs L (j + 1) D h
    cases sb with
    | hole => exact backD_mono hs bs L (j + 1) D h
    | dead => exact backD_mono hs bs L (j + 1) D h
    | ints k => cases md with
      | ro => exact roCase h
      | rw => exact main h
      | own => exact main h
    | recs k => cases md with
      | ro => exact roCase h
      | rw => exact main h
      | own => exact main h
    | vals n l => cases md with
      | ro => exact roCase h
      | rw => exact main h
      | own => exact main h

def allLive : List (SB × Md) → Bool
  | [] => true
  | (.hole, _) :: _ => false
  | (.dead, _) :: _ => false
  | _ :: r => allLive r

theorem allLive_spec : ∀ (bs : List (SB × Md)), allLive bs = true → ∀ (j : Nat) (sb : SB) (md : Md), bs[j]? = some (sb, md) → sb ≠ .hole ∧ sb ≠ .dead
  | [], _, j, sb, md, h => by simp at h
  | (sb0, md0) :: r, ha, j, sb, md, h => by
    cases j with
    | zero => simp at h; obtain ⟨rfl, rfl⟩ := h; cases sb0 <;> simp [allLive] at ha ⊢
    | succ j => exact allLive_spec r (by cases sb0 <;> simp [allLive] at ha <;> exact ha) j sb md (by simpa using h)

/-- a part that may be appended to is not handed over -/
def subOk : List (SB × Md) → Nat → Vs → Bool
  | [], _, _ => true
  | (_, md) :: r, j, vs => (match isOwn md with | false => true | true => match vat vs j with | some (.sub _ _ _) => false | _ => true) && subOk r (j + 1) vs

theorem subOk_spec : ∀ (bs : List (SB × Md)) (j0 : Nat) (vs : Vs), subOk bs j0 vs = true → ∀ (j b off len : Nat), vat vs (j0 + j) = some (.sub b off len) → ∀ sb, bs[j]? ≠ some (sb, .own)
  | [], _, _, _, j, b, off, len, _, sb => by simp
  | (sb0, md0) :: r, j0, vs, h, j, b, off, len, hv, sb => by
    simp only [subOk, Bool.and_eq_true] at h
    cases j with
    | zero =>
      intro e
      simp at e
      obtain ⟨rfl, rfl⟩ := e
      rw [Nat.add_zero] at hv
      have := h.1
      simp only [isOwn, hv] at this
      cases this
    | succ j =>
      have := subOk_spec r (j0 + 1) vs h.2 j b off len (by rw [← hv]; congr 1; omega) sb
      simpa using this

/-- no places yet -/
def noV : List (SB × Md) → Vs
  | [] => []
  | _ :: r => none :: noV r

theorem noV_length : ∀ bs : List (SB × Md), (noV bs).length = bs.length
  | [] => rfl
  | _ :: r => by simp [noV, noV_length r]

theorem noV_at : ∀ (bs : List (SB × Md)) (j : Nat), vat (noV bs) j = none
  | [], _ => rfl
  | _ :: r, j => by cases j with
    | zero => rfl
    | succ j => exact noV_at r j

/-- the contract of a function: its arguments' pattern, its places' pattern; the plain function; what it answers and leaves -/
def callF {X O : Type} (ps : List SV) (bs : List (SB × Md)) (g : List Lf → Option O) (outK : O → (AV → Heap → Option X) → Option X) (args : List AV) (K : Heap) (q : Nat) (k : AV → Delta → Option X) : Option X :=
  match mVL ps args (noV bs) with
  | some (l1, vs1) => match mH K bs 0 vs1 with
    | some (l2, vs2) => match apartOk (idsOf bs 0 vs2) && (holesOk bs 0 vs2 && (allLive bs && subOk bs 0 vs2)) with
      | true => (g (l1 ++ l2)).bind fun o => outK o fun v L => match backD K vs2 (vsU vs2 L) (slOk K vs2 bs) bs.length q bs L 0 with
        | some D => k (gV (vsU vs2 L) (slOk K vs2 bs) bs.length q v) D
        | none => none
      | false => none
    | none => none
  | none => none

/-- where its body begins -/
def fiA (nt : Nat) (ps : List SV) (bs : List (SB × Md)) (d : List Lf) : St :=
  match fVL ps d with
  | (ys, d) => ⟨ys ++ List.replicate (nt - ys.length) .undef, (fH bs d).1⟩

/-- a contract that tells the truth -/
def CallOk (P : Program) (f : FuncId) (J : ∀ X : Type, List AV → Heap → Nat → (AV → Delta → Option X) → Option X) : Prop :=
  ∀ (X : Type) args K q k (r : X), J X args K q k = some r → ∃ v D, k v D = some r ∧ CallStep P f args K q v D

/-- what is left says no more than what is there -/
def GenR (n0 : Nat) (x : AV) (L : Heap) (y : AV) (L' : Heap) : Prop := Gen n0 ⟨[x], L⟩ ⟨[y], L'⟩

theorem tget_app (ys : List AV) (n t : Nat) : tget (ys ++ List.replicate n .undef) t = if t < ys.length then tget ys t else .undef := by
  simp only [tget_eq, List.getD_eq_getElem?_getD]
  by_cases h : t < ys.length
  · rw [if_pos h, List.getElem?_append_left h]
  · rw [if_neg h, List.getElem?_append_right (by omega), List.getElem?_replicate]
    split <;> rfl

theorem func_ok {O : Type} {c : Ctx O} (hc : CtxOk c) (hm : c.P.follows .mixedOrders = true) {f : FuncId} {fn : Func} {body : Code} (hf : c.P.funcs[f]? = some fn) (hbody : fn.body = some body) (hname : (fn.name == "runtime.NumGoroutine") = false)
    {ps : List SV} {bs : List (SB × Md)} (hfit : ∀ p ∈ fitsL c body, CodeOk c.P bs.length p.1 p.2) {g : List Lf → Option O} {out : O → AV × Heap} {outK : ∀ X : Type, O → (AV → Heap → Option X) → Option X} (hout : ∀ X o k, outK X o k = k (out o).1 (out o).2) {fin : St → Option O} (hnt : ps.length ≤ fn.ntmps)
    (hfin : ∀ s o, fin s = some o → ∃ x, resS c.P fn.results.toList s = some x ∧ GenR bs.length x s.heap (out o).1 (out o).2)
    (hg : ∀ d, evC c body (fun e s => match e with | .normal => fin s | .ret => fin s | _ => none) (fiA fn.ntmps ps bs d) = g d) :
    CallOk c.P f (fun X => callF ps bs g (outK X)) := by
  intro X args K q k r h
  simp only [callF] at h
  split at h
  · rename_i l1 vs1 h1
    split at h
    · rename_i l2 vs2 h2
      split at h
      · rename_i hck
        simp only [Option.bind_eq_some_iff] at h
        obtain ⟨o, hgo, h⟩ := h
        rw [hout] at h
        split at h
        · rename_i D hD
          refine ⟨_, D, h, ⟨fn, hf, by rw [hbody]; rfl, hname⟩, ?_⟩
          intro m H w args' hsub hfresh hsim hlen hargs
          simp only [Bool.and_eq_true] at hck
          obtain ⟨ha, hh, hal, hso⟩ := hck
          obtain ⟨a1, ⟨ys, b1, c1, d1⟩, e1⟩ := mVL_spec _ _ _ _ _ h1
          have hV1 : ∀ i u, vat vs1 i = some u → VOk m H u := by
            intro i u hi
            rcases e1 m H (fun j x hx => by
              have hj : j < args'.size := by rw [← hlen]; exact (List.getElem?_eq_some_iff.1 hx).1
              exact ⟨args'[j], hargs j x _ hx (by simp [hj])⟩) i u hi with p | p
            · rw [noV_at] at p; cases p
            · exact p
          obtain ⟨a2, b2, L, c2, d2, e2⟩ := mH_spec hsim bs 0 vs1 vs2 l2 hV1 (mH_mono hsub _ _ _ _ h2)
          have hvl : vs2.length = bs.length := by rw [a2.1, a1.1, noV_length]
          have hE : ∀ i sb md, bs[i]? = some (sb, md) → EntOk m H vs2 i sb md (hat L i) := fun i sb md hi => by have := e2 i sb md hi; rwa [Nat.zero_add] at this
          have hsm := small_of hsim hvl d2 hE ha hh
          have hlive := allLive_spec bs hal
          have hent : ∀ (j : Nat) (sb : SB) (md : Md), bs[j]? = some (sb, md) → ∃ lb v, hat L j = .live lb md ∧ vat vs2 j = some v ∧ Seen m H (vat vs2) lb md v := by
            intro j sb md hj
            have := hE j sb md hj
            obtain ⟨n1, n2⟩ := hlive j sb md hj
            cases sb with
            | hole => exact absurd rfl n1
            | dead => exact absurd rfl n2
            | ints k => exact this
            | recs k => exact this
            | vals n l => exact this
          -- where it begins
          have hfi : fiA fn.ntmps ps bs (l1 ++ l2) = ⟨ys ++ List.replicate (fn.ntmps - ys.length) .undef, L⟩ := by
            unfold fiA
            rw [b1]
            simp only
            have := c2 []
            rw [List.append_nil] at this
            rw [this]
          have hev := hg (l1 ++ l2)
          rw [hgo, hfi] at hev
          have hsl := hsm.sim hsim
          have hon : On ⟨mlOf m H vs2 bs, L, w, []⟩ (mlOf m H vs2 bs) ⟨ys ++ List.replicate (fn.ntmps - ys.length) .undef, L⟩ { tmps := args' ++ Array.replicate (fn.ntmps - args'.size) Go.undef, defers := [] } w := by
            refine ⟨⟨hsl, ⟨by simp; omega, fun t => ?_⟩⟩, Tr.refl _ _ _, rfl⟩
            rw [tget_app]
            by_cases ht : t < ys.length
            · rw [if_pos ht]
              have ht1 : t < args.length := by omega
              have ht2 : t < args'.size := by omega
              have e : (args' ++ Array.replicate (fn.ntmps - args'.size) Go.undef).getD t Go.undef = args'[t] := by
                simp [Array.getD_eq_getD_getElem?, Array.getElem?_append_left ht2, ht2]
              rw [e, tget_eq]
              have hl := d1 t args[t] (ys.getD t .undef) (by simp [ht1]) (by simp [List.getD_eq_getElem?_getD, ht])
              exact (hl.mono a2.2).vr hsim hsm _ (hargs t _ _ (by simp [ht1]) (by simp [ht2]))
            · rw [if_neg ht]; exact .undef _
          refine calls_of_wp hf hbody (evC_ok hc hm body hfit _ _ _ hev _ _ _ _ (by simp [d2]) hon _ fun e s' m' a' w' hk hon' _ => ?_)
          have fine : fin s' = some o → a'.defers = [] ∧ ∃ v, (results fn a'.tmps).run c.P w' = .ok v w' ∧ ∃ v' m', Ending.returned v = .returned v' ∧ Sim m' (hput H D) w' ∧ VR m' (hput H D) (gV (vsU vs2 (out o).2) (slOk K vs2 bs) bs.length q (out o).1) v' ∧ Tr m H w m' (hput H D) w' := by
            intro hk
            obtain ⟨x, hx, hgen⟩ := hfin s' o hk
            obtain ⟨v, g1, g2⟩ := resS_sound hon'.at_ hx
            refine ⟨hon'.defers, v, g2, v, ?_⟩
            obtain ⟨m'', hon2⟩ := hgen _ m' { tmps := #[v], defers := [] } w' (by simp [d2]) ⟨⟨hon'.at_.sim, ⟨by simp, fun t => by
              cases t with
              | zero => simpa [tget] using g1
              | succ t => simp only [tget]; exact .undef _⟩⟩, hon'.tr, rfl⟩
            have hslo : slOk K vs2 bs = slOk H vs2 bs := by
              funext j
              unfold slOk
              cases hv : vat vs2 j with
              | none => rfl
              | some v =>
                cases hb : bs[j]? with
                | none => rfl
                | some p =>
                  obtain ⟨sb, md⟩ := p
                  simp only
                  cases hid : vId v with
                  | none => rfl
                  | some b =>
                    simp only
                    have hkb : ∃ z, hget K b = some z := by
                      have hjj : vat vs2 (0 + j) = some v := by rw [Nat.zero_add]; exact hv
                      exact (show ∀ (bs' : List (SB × Md)) (i : Nat) (vs vs' : Vs) (ls : List Lf), mH K bs' i vs = some (ls, vs') → (∀ (j : Nat) sb md, bs'[j]? = some (sb, md) → sb ≠ .hole ∧ sb ≠ .dead) → ∀ (j : Nat) sb md v b, bs'[j]? = some (sb, md) → vat vs' (i + j) = some v → vId v = some b → ∃ z, hget K b = some z by
                        intro bs'
                        induction bs' with
                        | nil => intro i vs vs' ls _ _ j sb md v b hj; simp at hj
                        | cons p bs' ih =>
                          intro i vs vs' ls hm hlv j sb md v b hj hv hb
                          obtain ⟨sb0, md0⟩ := p
                          obtain ⟨n1, n2⟩ := hlv 0 sb0 md0 rfl
                          have hm' : (match vat vs i with
                            | some v => match mB K sb0 md0 v vs with
                              | some (l1, vs1) => match mH K bs' (i + 1) vs1 with
                                | some (l2, vs2) => some (l1 ++ l2, vs2)
                                | none => none
                              | none => none
                            | none => none) = some (ls, vs') := by
                            cases sb0 with
                            | hole => exact absurd rfl n1
                            | dead => exact absurd rfl n2
                            | ints k => exact hm
                            | recs k => exact hm
                            | vals n l => exact hm
                          split at hm'
                          · rename_i v0 hv0
                            split at hm'
                            · rename_i l1' vs1' hb1
                              split at hm'
                              · rename_i l2' vs2' hm2
                                cases hm'
                                cases j with
                                | zero =>
                                  -- the view at i stays
                                  have hle : ∀ (bs' : List (SB × Md)) (i : Nat) (vs vs' : Vs) (ls : List Lf), mH K bs' i vs = some (ls, vs') → LeV vs vs' := by
                                    intro bs'
                                    induction bs' with
                                    | nil => intro i vs vs' ls h; simp only [mH] at h; cases h; exact LeV.refl _
                                    | cons p bs' ih =>
                                      intro i vs vs' ls h
                                      obtain ⟨sb, md⟩ := p
                                      have live : (match vat vs i with
                                        | some v => match mB K sb md v vs with
                                          | some (l1, vs1) => match mH K bs' (i + 1) vs1 with
                                            | some (l2, vs2) => some (l1 ++ l2, vs2)
                                            | none => none
                                          | none => none
                                        | none => none) = some (ls, vs') → LeV vs vs' := by
                                        intro h
                                        split at h
                                        · rename_i v hv
                                          split at h
                                          · rename_i l1 vs1 hb
                                            split at h
                                            · rename_i l2 vs2 hm
                                              cases h
                                              exact (mB_le hb).trans (ih _ _ _ _ hm)
                                            · cases h
                                          · cases h
                                        · cases h
                                      cases sb with
                                      | hole => exact ih _ _ _ _ h
                                      | dead => exact ih _ _ _ _ h
                                      | ints k => exact live h
                                      | recs k => exact live h
                                      | vals n l => exact live h
                                  have h3 := ((mB_le hb1).trans (hle _ _ _ _ _ hm2)).2 _ _ hv0
                                  rw [Nat.add_zero, h3] at hv
                                  injection hv with hv
                                  subst hv
                                  have : ∃ p, vB K v0 = some p := by
                                    have hne : ∀ z, v0 ≠ .ph z := by rintro z rfl; cases hb
                                    have h1' : mB1 K sb0 md0 v0 vs = some (l1', vs1') := by
                                      cases v0 with
                                      | ph z => exact absurd rfl (hne z)
                                      | full b => exact hb1
                                      | sub b off len => exact hb1
                                      | el b i fo n => exact hb1
                                    unfold mB1 at h1'
                                    split at h1'
                                    · rename_i hq; exact ⟨_, hq⟩
                                    · cases h1'
                                  obtain ⟨⟨gb, md9⟩, hp⟩ := this
                                  obtain ⟨b', bk, i1, i2⟩ := vB_id hp
                                  rw [hb] at i1
                                  cases i1
                                  exact ⟨_, i2⟩
                                | succ j =>
                                  refine ih (i + 1) _ _ _ hm2 (fun j sb md hj => hlv (j + 1) sb md (by simpa using hj)) j sb md v b (by simpa using hj) (by rw [show i + 1 + j = i + (j + 1) by omega]; exact hv) hb
                              · cases hm'
                            · cases hm'
                          · cases hm') bs 0 vs1 vs2 l2 h2 hlive j sb md v b hb hjj hid
                    obtain ⟨z, hz⟩ := hkb
                    rw [hz, hsub _ _ hz]
            have hD' := backD_mono hsub _ _ _ _ hD
            rw [hslo] at hD' ⊢
            have hret : Ret m (mlOf m H vs2 bs) m'' H L (out o).2 w w' vs2 q bs D := {
              hs := hsim, sm := hsm, len := d2, vlen := hvl, live := hlive, ent := hent, hs' := hon2.at_.sim, tr := hon2.tr
              back := backD_spec bs (out o).2 0 D (fun i => by rw [Nat.zero_add]) (fun i => by rw [Nat.zero_add]) (by omega) (.inl (Nat.zero_le _)) hD'
              fresh := hfresh
              nosub := fun j b off len hv sb => subOk_spec bs 0 vs2 hso j b off len (by rw [Nat.zero_add]; exact hv) sb }
            refine ⟨_, rfl, hret.sim, hret.vr ?_, hret.trans⟩
            have := hon2.at_.tr.at_ 0
            simpa [tget] using this
          cases e with
          | normal => exact fine hk
          | ret => exact fine hk
          | exit i => cases hk
          | goto i => cases hk
          | panic i => cases hk
          | outgrown => cases hk
        · cases h
      · cases h
    · cases h
  · cases h

end Go.Ab
end

section
/- What a printed text says of a loop, a piece of code, a function: in a few lines. No condition. -/
namespace Go.Ab
open Go

abbrev FC := ∀ X : Type, List AV → Heap → Nat → (AV → Delta → Option X) → Option X

/-- a row of the table of functions that are called: its number; for what arguments; its contract -/
structure Row where
  f : FuncId
  ps : List SV
  bs : List (SB × Md)
  J : FC

def fitsA (ps : List SV) (bs : List (SB × Md)) (args : List AV) (K : Heap) : Bool :=
  match mVL ps args (noV bs) with
  | some (_, vs) => match mH K bs 0 vs with
    | some _ => true
    | none => false
  | none => false

def tabCall (X : Type) : List Row → FuncId → List AV → Heap → Nat → (AV → Delta → Option X) → Option X
  | [], _, _, _, _, _ => none
  | r :: T, f, args, K, q, k => match Nat.beq r.f f && fitsA r.ps r.bs args K with
    | true => r.J X args K q k
    | false => tabCall X T f args K q k

def tabBlk (X : Type) : List (Nat × (∀ X : Type, Contract X)) → Nat → Option (Contract X)
  | [], _ => none
  | (i, J) :: T, id => match Nat.beq i id with
    | true => some (J X)
    | false => tabBlk X T id

def mkCtx (P : Program) (T : List Row) (B C : List (Nat × (∀ X : Type, Contract X))) (X : Type) : Ctx X :=
  { P := P, call := tabCall X T, blk := tabBlk X B, cut := tabBlk X C }

def RowsOk (P : Program) (T : List Row) : Prop := ∀ r ∈ T, CallOk P r.f r.J

theorem ctx_ok {P : Program} {T : List Row} (h : RowsOk P T) (B C : List (Nat × (∀ X : Type, Contract X))) (X : Type) : CtxOk (mkCtx P T B C X) := by
  intro f args K q k r hr0
  have key : ∀ T, RowsOk P T → tabCall X T f args K q k = some r → ∃ v D, k v D = some r ∧ CallStep P f args K q v D := by
    intro T
    induction T with
    | nil => intro _ h; cases h
    | cons x T ih =>
      intro h hr
      simp only [tabCall] at hr
      split at hr
      · rename_i e
        simp only [Bool.and_eq_true] at e
        have e1 : x.f = f := by simpa using e.1
        subst e1
        exact h x List.mem_cons_self X args K q k r hr
      · exact ih (fun y hy => h y (List.mem_cons_of_mem _ hy)) hr
  exact key T h hr0

theorem rows_nil (P : Program) : RowsOk P [] := fun _ h => by cases h
theorem rows_cons {P : Program} {r : Row} {T : List Row} (h : CallOk P r.f r.J) (t : RowsOk P T) : RowsOk P (r :: T) := fun x hx => by
  rcases List.mem_cons.1 hx with rfl | hx
  · exact h
  · exact t x hx

def findB (id : Nat) : Code → Option Code
  | .seq a b => match findB id a with | some c => some c | none => findB id b
  | .cond _ a b => match findB id a with | some c => some c | none => findB id b
  | .block i b => match Nat.beq i id with | true => some b | false => findB id b
  | .loop b => findB id b
  | .scope b => findB id b
  | _ => none
/-- the body of the loop in the block id -/
def loopB (id : Nat) (c : Code) : Code := match findB id c with | some (.loop b) => b | _ => .skip
def bodyOf (fn : Func) : Code := match fn.body with | some c => c | none => .skip
/-- what follows where the code with head id begins -/
def findC (id : Nat) : Code → Option Code
  | .seq a b => match headId b with
    | some i => (match Nat.beq i id with | true => some b | false => match findC id a with | some c => some c | none => findC id b)
    | none => match findC id a with | some c => some c | none => findC id b
  | .cond _ a b => match findC id a with | some c => some c | none => findC id b
  | .block _ b => findC id b
  | .loop b => findC id b
  | .scope b => findC id b
  | _ => none
def cutB (id : Nat) (c : Code) : Code := match findC id c with | some b => b | none => .skip

def pt {I : Type} (sk : Sk) (cv : List Lf → Option I) (s : St) : Option I := (rdS sk s).bind cv

theorem pt_gen {I : Type} {sk : Sk} {cv : List Lf → Option I} {un : I → List Lf} (h : ∀ ls d, cv ls = some d → ls = un d) (s : St) (d : I) (hd : pt sk cv s = some d) : Gen sk.n0 s (fiS sk (un d)) := by
  unfold pt at hd
  simp only [Option.bind_eq_some_iff] at hd
  obtain ⟨ls, h1, h2⟩ := hd
  rw [← h ls d h2]
  exact rdS_gen h1

def tagIs (t : Nat) : Exit → Bool
  | .normal => Nat.beq t 0
  | .ret => Nat.beq t 1
  | .exit i => Nat.beq t (i + 2)
  | _ => false

def koE {O : Type} : List (Nat × Sk × (List Lf → Option O)) → Exit → St → Option O
  | [], _, _ => none
  | (t, sk, cv) :: r, e, s => match tagIs t e with
    | true => pt sk cv s
    | false => koE r e s

def exOf : Nat → Exit
  | 0 => .normal
  | 1 => .ret
  | i + 2 => .exit i

theorem tagIs_spec {t : Nat} {e : Exit} (h : tagIs t e = true) : e = exOf t := by
  cases e <;> simp [tagIs] at h <;> subst h <;> rfl

/-- the exits of a piece of code and what they answer -/
def ExOk {O : Type} (n0 : Nat) (exits : List (Nat × Sk × (List Lf → Option O))) (ex : O → Nat × Sk × List Lf) : Prop :=
  ∀ e ∈ exits, e.2.1.n0 = n0 ∧ ∀ ls o, e.2.2 ls = some o → ex o = (e.1, e.2.1, ls)

theorem exOk_nil {O : Type} {n0 : Nat} {ex : O → Nat × Sk × List Lf} : ExOk n0 [] ex := fun _ h => by cases h
theorem exOk_cons {O : Type} {n0 : Nat} {ex : O → Nat × Sk × List Lf} {t : Nat} {sk : Sk} {cv : List Lf → Option O} {r : List (Nat × Sk × (List Lf → Option O))} (h0 : sk.n0 = n0) (h : ∀ ls o, cv ls = some o → ex o = (t, sk, ls)) (k : ExOk n0 r ex) : ExOk n0 ((t, sk, cv) :: r) ex := fun e he => by
  rcases List.mem_cons.1 he with rfl | he
  · exact ⟨h0, h⟩
  · exact k e he

theorem koE_spec {O : Type} {n0 : Nat} {ex : O → Nat × Sk × List Lf} : ∀ (exits : List (Nat × Sk × (List Lf → Option O))), ExOk n0 exits ex → ∀ e s o, koE exits e s = some o → e = exOf (ex o).1 ∧ Gen n0 s (fiS (ex o).2.1 (ex o).2.2)
  | [], _, e, s, o, h => by cases h
  | (t, sk, cv) :: r, hE, e, s, o, h => by
    simp only [koE] at h
    split at h
    · rename_i ht
      obtain ⟨h0, h1⟩ := hE (t, sk, cv) List.mem_cons_self
      simp only at h0 h1
      unfold pt at h
      simp only [Option.bind_eq_some_iff] at h
      obtain ⟨ls, k1, k2⟩ := h
      rw [h1 ls o k2]
      have := rdS_gen k1
      rw [h0] at this
      exact ⟨tagIs_spec ht, this⟩
    · exact koE_spec r (fun e he => hE e (List.mem_cons_of_mem _ he)) e s o h

def backK {O : Type} (b : St → Option O) (exits : List (Nat × Sk × (List Lf → Option O))) : Exit → St → Option O
  | .normal, s => b s
  | e, s => koE exits e s

/-- round by round -/
def itN {I O : Type} (F : (I → Option O) → I → Option O) : Nat → I → Option O
  | 0, _ => none
  | n + 1, d => F (itN F n) d

theorem loop_mk {O I : Type} {c : ∀ X, Ctx X} (hc : ∀ X, CtxOk (c X)) {P : Program} (hP : (c O).P = P) (hm : P.follows .mixedOrders = true) {n0 id : Nat} {body : Code} (hfit : ∀ p ∈ fitsL (c O) body, CodeOk P n0 p.1 p.2)
    {sk : Sk} (hn0 : sk.n0 = n0) {cv : List Lf → Option I} {un : I → List Lf} (hcv : ∀ ls d, cv ls = some d → ls = un d) {l : Nat → I → Option O} {exits : List (Nat × Sk × (List Lf → Option O))} {ex : O → Nat × Sk × List Lf} (hex : ExOk n0 exits ex)
    (h0 : ∀ d, l 0 d = none) (hl : ∀ n d, evC (c O) body (backK (fun s => (pt sk cv s).bind (l n)) exits) (fiS sk (un d)) = l (n + 1) d)
    {exK : ∀ X : Type, O → (Exit → St → Option X) → Option X} (hK : ∀ X o k, exK X o k = k (leaveB id (exOf (ex o).1)) (fiS (ex o).2.1 (ex o).2.2)) (n : Nat) (X : Type) :
    CodeOk P n0 (.block id (.loop body)) (fun k s => (pt sk cv s).bind fun d => (l n d).bind fun o => exK X o k) := by
  subst hP hn0
  simp only [hK]
  exact loop_ok (hc O) hm hfit (pt_gen hcv) (ko := koE exits) (ex := fun o => (leaveB id (exOf (ex o).1), fiS (ex o).2.1 (ex o).2.2))
    (fun e s o h => by obtain ⟨h1, h2⟩ := koE_spec exits hex e s o h; subst h1; exact ⟨rfl, h2⟩) h0 (fun n d => by
      rw [← hl n d]
      congr 1
      funext e s
      cases e <;> rfl) n

theorem piece_mk {O I : Type} {c : ∀ X, Ctx X} (hc : ∀ X, CtxOk (c X)) {P : Program} (hP : (c O).P = P) (hm : P.follows .mixedOrders = true) {n0 : Nat} {body : Code} (hfit : ∀ p ∈ fitsL (c O) body, CodeOk P n0 p.1 p.2)
    {sk : Sk} (hn0 : sk.n0 = n0) {cv : List Lf → Option I} {un : I → List Lf} (hcv : ∀ ls d, cv ls = some d → ls = un d) {g : I → Option O} {exits : List (Nat × Sk × (List Lf → Option O))} {ex : O → Nat × Sk × List Lf} (hex : ExOk n0 exits ex)
    (hg : ∀ d, evC (c O) body (koE exits) (fiS sk (un d)) = g d)
    {exK : ∀ X : Type, O → (Exit → St → Option X) → Option X} (hK : ∀ X o k, exK X o k = k (exOf (ex o).1) (fiS (ex o).2.1 (ex o).2.2)) (X : Type) :
    CodeOk P n0 body (fun k s => (pt sk cv s).bind fun d => (g d).bind fun o => exK X o k) := by
  subst hP hn0
  simp only [hK]
  exact piece_ok (hc O) hm hfit (pt_gen hcv) (ko := koE exits) (ex := fun o => (exOf (ex o).1, fiS (ex o).2.1 (ex o).2.2)) (koE_spec exits hex) hg

/-- what a function answers: the first pattern that fits -/
def finE {O : Type} (P : Program) (rs : List ResultVar) : List (Sk × (List Lf → Option O)) → St → Option O
  | [], _ => none
  | (sk, cv) :: r, s => match resS P rs s with
    | some x => match rdS sk ⟨[x], s.heap⟩ with
      | some ls => cv ls
      | none => finE P rs r s
    | none => none

def funcK {O : Type} (P : Program) (rs : List ResultVar) (fins : List (Sk × (List Lf → Option O))) : Exit → St → Option O
  | .normal, s => finE P rs fins s
  | .ret, s => finE P rs fins s
  | _, _ => none

def FinOk {O : Type} (n0 : Nat) (fins : List (Sk × (List Lf → Option O))) (fx : O → Sk × List Lf) : Prop :=
  ∀ e ∈ fins, e.1.n0 = n0 ∧ e.1.nt = 1 ∧ ∀ ls o, e.2 ls = some o → fx o = (e.1, ls)

theorem finOk_nil {O : Type} {n0 : Nat} {fx : O → Sk × List Lf} : FinOk n0 [] fx := fun _ h => by cases h
theorem finOk_cons {O : Type} {n0 : Nat} {fx : O → Sk × List Lf} {sk : Sk} {cv : List Lf → Option O} {r : List (Sk × (List Lf → Option O))} (h0 : sk.n0 = n0) (h1 : sk.nt = 1) (h : ∀ ls o, cv ls = some o → fx o = (sk, ls)) (k : FinOk n0 r fx) : FinOk n0 ((sk, cv) :: r) fx := fun e he => by
  rcases List.mem_cons.1 he with rfl | he
  · exact ⟨h0, h1, h⟩
  · exact k e he

theorem one_tmp {l : List AV} (h : l.length = 1) : l = [tget l 0] := by
  match l, h with
  | [x], _ => rfl

theorem finE_spec {O : Type} {P : Program} {rs : List ResultVar} {n0 : Nat} {fx : O → Sk × List Lf} : ∀ (fins : List (Sk × (List Lf → Option O))), FinOk n0 fins fx → ∀ s o, finE P rs fins s = some o →
    ∃ x, resS P rs s = some x ∧ GenR n0 x s.heap (tget (fiS (fx o).1 (fx o).2).tmps 0) (fiS (fx o).1 (fx o).2).heap
  | [], _, s, o, h => by cases h
  | (sk, cv) :: r, hE, s, o, h => by
    simp only [finE] at h
    split at h
    · rename_i x hx
      split at h
      · rename_i ls hls
        obtain ⟨h0, h1, h2⟩ := hE (sk, cv) List.mem_cons_self
        simp only at h0 h1 h2
        refine ⟨x, hx, ?_⟩
        rw [h2 ls o h]
        have hg := rdS_gen hls
        rw [h0] at hg
        unfold GenR
        have hlen : (fiS sk ls).tmps.length = 1 := by
          unfold fiS
          simp only [putAll_length, List.length_replicate]
          exact h1
        have : (⟨[tget (fiS sk ls).tmps 0], (fiS sk ls).heap⟩ : St) = fiS sk ls := by rw [← one_tmp hlen]
        simp only
        rw [this]
        exact hg
      · exact finE_spec r (fun e he => hE e (List.mem_cons_of_mem _ he)) s o h
    · cases h

theorem func_mk {O I : Type} {c : ∀ X, Ctx X} (hc : ∀ X, CtxOk (c X)) {P : Program} (hP : (c O).P = P) (hm : P.follows .mixedOrders = true) {f : FuncId} {fn : Func} (hf : P.funcs[f]? = some fn) (hbody : fn.body.isSome = true) (hname : (fn.name == "runtime.NumGoroutine") = false)
    {ps : List SV} {bs : List (SB × Md)} {n0 : Nat} (hn0 : bs.length = n0) (hfit : ∀ p ∈ fitsL (c O) (bodyOf fn), CodeOk P n0 p.1 p.2) (hnt : ps.length ≤ fn.ntmps) {cv : List Lf → Option I} {un : I → List Lf} (hcv : ∀ ls d, cv ls = some d → ls = un d) {g : I → Option O}
    {fins : List (Sk × (List Lf → Option O))} {fx : O → Sk × List Lf} (hfx : FinOk n0 fins fx)
    (hg : ∀ d, evC (c O) (bodyOf fn) (funcK P fn.results.toList fins) (fiA fn.ntmps ps bs (un d)) = g d)
    {outK : ∀ X : Type, O → (AV → Heap → Option X) → Option X} (hK : ∀ X o k, outK X o k = k (tget (fiS (fx o).1 (fx o).2).tmps 0) (fiS (fx o).1 (fx o).2).heap) : CallOk P f (fun X => callF ps bs (fun ls => (cv ls).bind g) (outK X)) := by
  subst hP hn0
  have hb : fn.body = some (bodyOf fn) := by
    unfold bodyOf
    cases h : fn.body with
    | none => rw [h] at hbody; cases hbody
    | some b => rfl
  intro X args K q k r hr
  have hr : callF ps bs (fun ls => (cv ls).bind g) (outK X) args K q k = some r := hr
  have e : outK X = fun o k => k (tget (fiS (fx o).1 (fx o).2).tmps 0) (fiS (fx o).1 (fx o).2).heap := by funext o k; exact hK X o k
  rw [e] at hr
  -- a pattern that does not read: nothing is said
  have main := func_ok (c := c O) (hc O) hm hf hb hname (ps := ps) (bs := bs) hfit (g := fun ls => evC (c O) (bodyOf fn) (funcK (c O).P fn.results.toList fins) (fiA fn.ntmps ps bs ls))
    (out := fun o => (tget (fiS (fx o).1 (fx o).2).tmps 0, (fiS (fx o).1 (fx o).2).heap)) (outK := fun X o k => k (tget (fiS (fx o).1 (fx o).2).tmps 0) (fiS (fx o).1 (fx o).2).heap) (fun _ _ _ => rfl) hnt (finE_spec fins hfx) (fun d => by
      congr 1
      funext e s
      cases e <;> rfl)
  refine main X args K q k r ?_
  unfold callF at hr
  show callF _ _ _ _ args K q k = some r
  unfold callF
  cases h1 : mVL ps args (noV bs) with
  | none => rw [h1] at hr; cases hr
  | some p1 =>
    obtain ⟨l1, vs1⟩ := p1
    rw [h1] at hr
    dsimp only at hr ⊢
    cases h2 : mH K bs 0 vs1 with
    | none => rw [h2] at hr; cases hr
    | some p2 =>
      obtain ⟨l2, vs2⟩ := p2
      rw [h2] at hr
      dsimp only at hr ⊢
      cases h3 : (apartOk (idsOf bs 0 vs2) && (holesOk bs 0 vs2 && (allLive bs && subOk bs 0 vs2))) with
      | false => rw [h3] at hr; cases hr
      | true =>
        rw [h3] at hr
        dsimp only at hr ⊢
        cases h4 : cv (l1 ++ l2) with
        | none => rw [h4] at hr; cases hr
        | some d =>
          rw [h4, Option.bind_some] at hr
          rw [← hg d, ← hcv _ d h4] at hr
          exact hr

theorem fits_nil {X : Type} {P : Program} {n0 : Nat} : ∀ p ∈ ([] : List (Code × Contract X)), CodeOk P n0 p.1 p.2 := fun _ h => by cases h
theorem fits_cons {X : Type} {P : Program} {n0 : Nat} {b : Code} {J : Contract X} {l : List (Code × Contract X)} (h : CodeOk P n0 b J) (t : ∀ p ∈ l, CodeOk P n0 p.1 p.2) : ∀ p ∈ (b, J) :: l, CodeOk P n0 p.1 p.2 := fun p hp => by
  rcases List.mem_cons.1 hp with rfl | hp
  · exact h
  · exact t p hp
theorem fits_of {X : Type} {P : Program} {n0 : Nat} {c : Ctx X} {b : Code} {l : List (Code × Contract X)} (e : fitsL c b = l) (t : ∀ p ∈ l, CodeOk P n0 p.1 p.2) : ∀ p ∈ fitsL c b, CodeOk P n0 p.1 p.2 := by rw [e]; exact t

/-- no rounds, no answer: a function that calls itself -/
theorem func_zero {O : Type} {P : Program} {f : FuncId} {ps : List SV} {bs : List (SB × Md)} {outK : ∀ X : Type, O → (AV → Heap → Option X) → Option X} {g : List Lf → Option O} (h : ∀ ls, g ls = none) : CallOk P f (fun X => callF ps bs g (outK X)) := by
  intro X args K q k r hr
  have hr : callF ps bs g (outK X) args K q k = some r := hr
  unfold callF at hr
  split at hr
  · split at hr
    · split at hr
      · rw [h] at hr; cases hr
      · cases hr
    · cases hr
  · cases hr

end Go.Ab
end

section
/- A law's row: its arguments as the evaluator's, its answer as the row's. No condition. -/
namespace Go.Ab
open Go Go.ChangeShapes Go.WideShapes Go.RowKit

def yes (v : AV) (_ : Delta) : Option Unit := match v with | .bool true => some () | _ => none

theorem yes_spec {v : AV} {D : Delta} (h : yes v D = some ()) : v = .bool true := by
  unfold yes at h
  split at h
  · rfl
  · cases h

theorem law_calls {P : Program} {f : FuncId} {J : FC} (h : CallOk P f J) {args : List AV} {K : Heap} (hk : J Unit args K K.length yes = some ()) (hro : ∀ b bk md, hget K b = some (bk, md) → md = .ro) {m : Map} {w : World} {args' : Array Value} (hs : Sim m K w)
    (hl : args.length = args'.size) (hv : ∀ (j : Nat) (x : AV) (y : Value), args[j]? = some x → args'[j]? = some y → VR m K x y) : Calls P f args' w fun e w' => e = .returned (.bool true) ∧ Below w.heap.size w w' := by
  obtain ⟨v, D, h1, _, h2⟩ := h Unit args K K.length yes () hk
  have hv1 := yes_spec h1
  subst hv1
  refine (h2 m K w args' (SubH.refl _) (fun d _ hd => fresh_ge hd) hs hl hv).mono fun e w' ⟨v', m', he, _, hr, ht⟩ => ?_
  subst he
  cases hr
  refine ⟨rfl, ht.os, ht.tape, ht.output, ht.size, fun b hb => ?_⟩
  rcases ht.frame b hb with h3 | ⟨c, c', e, fr, f1, f2, f3, f4⟩
  · exact h3
  · have : c' = c := Array.ext f3 fun i h1 h2 => by
      have := f4 i (fun ⟨b', bk, md, g1, g2, _⟩ => g2 (hro b' bk md g1))
      simp [h1, h2] at this
      exact this
    rw [f1, f2, this]

/-- what an argument's slice holds -/
structure SlIs (k : IntKind) (w : World) (a : Option Addr) (len cap : Nat) (zs : List Int) : Prop where
  hlen : zs.length = len
  hle : len ≤ cap
  hwf : ∀ n ∈ zs, (Lit.int k n).wf = true
  hat_ : 0 < cap → ∃ b o, a = some ⟨b, o, none⟩ ∧ ∃ c e fr, w.heap[b]? = some (.cells c e fr) ∧ o + cap ≤ c.size ∧ ∀ i, i < len → c[o + i]? = some (.int k (zs.getD i 0))

theorem slIs_of {H : Type} {enc : TypeId × Value → H} {P : Program} {w : World} {held : Bool} {t e : TypeId} {k : IntKind} {a : Option Addr} {len cap : Nat} {d : DataW H} {ps : List MemPlace} (ht : P.underlying t = some (.slice e)) (he : P.underlying e = some (.int k)) (hc : P.cellsOf e = 1)
    (h : DataW.Trod enc P w 0 (fun _ => true) held t (.slice a len cap) d ps) : ∃ zs, SlIs k w a len cap zs := by
  obtain ⟨fuel, hf⟩ := h
  rcases open_ints ht he hc hf with ⟨hcs, _⟩ | ⟨x, l, c, zs, hcs, _, hl, _, hz, _, hcell, hwf⟩
  · simp [Value.cells] at hcs
    obtain ⟨rfl, rfl, rfl⟩ := hcs
    exact ⟨[], rfl, Nat.le_refl _, fun n hn => by simp at hn, fun h => absurd h (by omega)⟩
  · simp [Value.cells] at hcs
    obtain ⟨rfl, rfl, rfl⟩ := hcs
    simp only [if_true] at hz
    refine ⟨zs.take len, by simp; omega, hl, fun n hn => hwf n (List.mem_of_mem_take hn), fun hcap => ?_⟩
    have h0 := hcell 0 (by omega)
    obtain ⟨b, o, sp⟩ := x
    have hx0 : (⟨b, o, sp⟩ : Addr).add 0 = ⟨b, o, sp⟩ := rfl
    rw [hx0] at h0
    unfold World.cell? at h0
    split at h0
    · rename_i cc ee fr hh
      have hsp : sp = none := by
        cases sp with
        | none => rfl
        | some s => simp at h0
      subst hsp
      have each : ∀ i, i < zs.length → cc[o + i]? = some (.int k (zs.getD i 0)) := by
        intro i hi
        have h1 := hcell i hi
        rw [addr_add] at h1
        simpa [World.cell?, hh] using h1
      refine ⟨b, o, rfl, cc, ee, fr, hh, ?_, fun i hi => ?_⟩
      · have := each (cap - 1) (by omega)
        have hlt := (Array.getElem?_eq_some_iff.1 this).1
        omega
      · rw [each i (by omega)]
        congr 2
        simp only [List.getD_eq_getElem?_getD, List.getElem?_take, if_pos hi]
    · cases h0

theorem sized_sl {H : Type} {enc : TypeId × Value → H} {P : Program} {w : World} {held : Bool} {t e : TypeId} {k : IntKind} {a : Option Addr} {len cap : Nat} {d : DataW H} {ps : List MemPlace} {ts : List TypeId} {ds : List (DataW H)} {j : Nat}
    (hsz : (DataW.weightsEach P ts ds).all (· ≤ reachBytes) = true) (h1 : ts[j]? = some t) (h2 : ds[j]? = some d) (ht : P.underlying t = some (.slice e)) (he : P.underlying e = some (.int k)) (hc : P.cellsOf e = 1) {B : Nat} (hB : P.bytesOf e = B)
    (h : DataW.Trod enc P w 0 (fun _ => true) held t (.slice a len cap) d ps) : len * B ≤ 140737488351232 := by
  obtain ⟨fuel, hf⟩ := h
  rcases open_ints ht he hc hf with ⟨hcs, _⟩ | ⟨x, l, c, zs, hcs, _, hl, _, hz, hx, _, _⟩
  · simp [Value.cells] at hcs
    obtain ⟨_, rfl, _⟩ := hcs
    omega
  · simp [Value.cells] at hcs
    obtain ⟨rfl, rfl, rfl⟩ := hcs
    simp only [if_true] at hz
    cases hx
    have := sized_slice hsz h1 h2 ht
    simp only [lits, List.length_map, List.length_take, List.length_drop, hB] at this
    refine Nat.le_trans (Nat.mul_le_mul_right B ?_) this
    omega

/-- the arguments' slices as a heap of read places -/
def roH (l : List (IntKind × List Int)) : Heap := l.map fun p => .live (.ints p.1 p.2) .ro

theorem roH_at (l : List (IntKind × List Int)) (b : Nat) (bk : Blk) (md : Md) (h : hget (roH l) b = some (bk, md)) : ∃ k z, l[b]? = some (k, z) ∧ bk = .ints k z ∧ md = .ro := by
  have key : ∀ (l : List (IntKind × List Int)) (b : Nat), hat (roH l) b = match l[b]? with | some p => .live (.ints p.1 p.2) .ro | none => .hole := by
    intro l
    induction l with
    | nil => intro b; rfl
    | cons x xs ih => intro b; cases b with
      | zero => rfl
      | succ b => simpa [roH, hat] using ih b
  unfold hget at h
  rw [key] at h
  cases hl : l[b]? with
  | none => rw [hl] at h; cases h
  | some p => rw [hl] at h; cases h; exact ⟨p.1, p.2, rfl, rfl, rfl⟩

def roM (A : Nat → Option Addr) (l : List (IntKind × List Int)) : Map := fun i =>
  match A i with
  | some x => (x.block, x.off, ((l.getD i (.i64, [])).2).length)
  | none => (0, 0, 0)

theorem roH_kn (l : List (IntKind × List Int)) (b : Nat) (h : b < l.length) : hkn (roH l) b = true := by
  induction l generalizing b with
  | nil => simp at h
  | cons x xs ih => cases b with
    | zero => rfl
    | succ b => exact ih b (by simpa using h)

theorem ro_sim {w : World} {A : Nat → Option Addr} {C : Nat → Nat} {l : List (IntKind × List Int)} (h : ∀ i k z, l[i]? = some (k, z) → SlIs k w (A i) z.length (C i) z) : Sim (roM A l) (roH l) w where
  blk b bk md hg := by
    obtain ⟨k, z, h1, rfl, rfl⟩ := roH_at l b bk md hg
    have s := h b k z h1
    have hz : (l.getD b (.i64, [])).2 = z := by simp [List.getD_eq_getElem?_getD, h1]
    by_cases hz0 : z.length = 0
    · have : (roM A l b).2.2 = 0 := by unfold roM; rw [hz]; split <;> simp [hz0]
      exact ⟨trivial, by simp [Blk.num, hz0], fun _ => by rw [this]; simp [Blk.num, hz0], fun hp => by omega⟩
    · have hle := s.hle
      obtain ⟨bb, o, ha, c, e, fr, g1, g2, g3⟩ := s.hat_ (by omega)
      have hm : roM A l b = (bb, o, z.length) := by unfold roM; rw [ha, hz]
      rw [hm]
      refine ⟨trivial, by simp [Blk.num, Blk.str], fun _ => by simp [Blk.num, Blk.str], fun _ => ⟨c, e, fr, g1, by simp only; omega, fun h => absurd rfl h, fun j x y v hv => ?_, fun i fo hi hf => ?_⟩⟩
      · simp only at x y
        have := g3 (j - o) (by omega)
        rw [show o + (j - o) = j by omega, hv] at this
        cases this
        rfl
      · simp only [Blk.num] at hi
        simp only [Blk.str] at hf
        obtain rfl : fo = 0 := by omega
        exact ⟨_, _, rfl, by simpa [Blk.str] using g3 i hi, .int _ _⟩
  dis b b' bk md bk' md' hg hg' _ hm := by
    obtain ⟨_, _, _, _, r1⟩ := roH_at l b bk md hg
    obtain ⟨_, _, _, _, r2⟩ := roH_at l b' bk' md' hg'
    rcases hm with q | q
    · exact absurd r1 q
    · exact absurd r2 q

theorem ro_vr {w : World} {A : Nat → Option Addr} {C : Nat → Nat} {l : List (IntKind × List Int)} (h : ∀ i k z, l[i]? = some (k, z) → SlIs k w (A i) z.length (C i) z) {i : Nat} {k : IntKind} {z : List Int} (hi : l[i]? = some (k, z)) : VR (roM A l) (roH l) (.whole i) (.slice (A i) z.length (C i)) := by
  have hlt : i < l.length := (List.getElem?_eq_some_iff.1 hi).1
  refine .whole i (A i) z.length (C i) (roH_kn l i hlt) fun bk md hg => ?_
  obtain ⟨k', z', h1, rfl, rfl⟩ := roH_at l i bk md hg
  rw [hi] at h1
  cases h1
  have s := h i k z hi
  refine ⟨rfl, s.hle, fun hmd => (by cases hmd), fun hc => ?_⟩
  obtain ⟨bb, o, ha, _⟩ := s.hat_ hc
  rw [ha]
  unfold roM
  rw [ha]
  simp

end Go.Ab
end

