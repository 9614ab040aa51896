/- Concrete runs: new slices; append. No condition. -/
import Derived.Test.YtnhbohcjmdfmiaaGreatC10
set_option linter.unusedVariables false
set_option linter.unusedSimpArgs false
namespace Go.Ab
open Go
noncomputable section
variable {e k : Nat} {P : Program} {E : EM} {dst : Option Tmp} {ty : TypeId} {pos : String} {after : Array Edge} {guard : Option (Nat × Bool)}

/-! structs -/
theorem fillC_inv {plf : Nat → Option (Nat × Nat)} {len : Nat} : ∀ (is : List Nat) (pl : List (Nat × Nat)) (vs : List CV) (l : List AV) (f : List AV → Out e), is.mapM (fun i => match plf i with | some (off, sz) => if off + sz ≤ len then some (off, sz) else none | none => none) = some pl → l.length = len →
      fillC pl vs l f ≠ .bad → ∃ r, fillC pl vs l f = f r ∧ fillAgg plf (is.zip (vs.map CV.av)) l = some r
  | [], pl, vs, l, f, hm, hl, h => by
    simp only [List.mapM_nil] at hm
    cases hm
    cases vs with
    | nil => exact ⟨l, rfl, rfl⟩
    | cons v vs => exact absurd rfl h
  | i :: is, pl, vs, l, f, hm, hl, h => by
    rw [List.mapM_cons] at hm
    simp only [Option.bind_eq_bind, Option.bind_eq_some_iff] at hm
    obtain ⟨p, hp, ps, hps, hq⟩ := hm
    cases hq
    obtain ⟨off, sz⟩ := p
    cases vs with
    | nil => exact absurd rfl h
    | cons v vs =>
      split at hp
      · rename_i off' sz' hpl
        split at hp
        · rename_i hle
          cases hp
          simp only [fillC] at h ⊢
          obtain ⟨h1, h2⟩ := chk_inv h
          rw [h2] at h ⊢
          obtain ⟨h3, h4⟩ := chk_inv h
          rw [h4] at h ⊢
          have hco : avs (cellsC v) = cellsOf v.av := by rw [avs_eq, cellsC_av]
          have hlen : (cellsOf v.av).length = sz := by rw [← cellsC_av, List.length_map]; exact Nat.eq_of_beq_eq_true h1
          have hall : (cellsOf v.av).all isCell = true := by rw [← cellsC_av]; exact all_cells h3
          obtain ⟨r, h5, h6⟩ := fillC_inv is ps vs (splice l off (avs (cellsC v))) f hps (by rw [splice_length _ _ _ (by rw [hco, hlen]; omega)]; exact hl) h
          refine ⟨r, h5, ?_⟩
          rw [hco] at h6
          simp only [List.map_cons, List.zip_cons_cons, fillAgg, hpl]
          rw [if_pos ⟨hlen, by omega, hall⟩]
          exact h6
        · cases hp
      · cases hp

theorem good_build (t : TypeId) (parts : Array (Nat × Operand)) : OpGood P E k (op_build (e := e) P E k t parts) ⟨dst, .build t parts, ty, pos, after, guard⟩ := by
  intro c st tm T n K hc hT h
  generalize hF : op_build P E k t parts = F at h ⊢
  unfold op_build at hF
  split at hF
  · rename_i vs h1
    split at hF
    · rename_i pl h2
      subst hF
      dsimp only [OpC.run] at h ⊢
      unfold plOf at h2
      split at h2
      · rename_i plf h3
        obtain ⟨r, h4, h5⟩ := fillC_inv _ _ _ _ _ h2 rfl h
        rw [h4]
        refine ⟨_, T, n, [], rfl, Ran.pure (by intro x; simp [clsOf]) fun KH hK => ?_⟩
        refine st_build h1 h3 ?_
        rw [evs_args, List.map_map] at h5
        rw [← h5]
        congr 1
        apply List.ext_getElem?
        intro i
        simp only [List.getElem?_map, List.getElem?_zip_eq_some, List.zip, List.getElem?_zipWith]
        cases parts.toList[i]? <;> rfl
      · cases h2
    · subst hF; exact absurd rfl h
  · subst hF; exact absurd rfl h

/-! new slices -/
theorem dDec_zero : dDec 0 = 0 := rfl
theorem recs_eqv {ks : List IntKind} {rows : List (List Int)} {l : List AV} (hk : 0 < ks.length) (hl : l.length = rows.length * ks.length) (h : ∀ i j kd, i < rows.length → ks[j]? = some kd → l[i * ks.length + j]? = some (.int kd ((rows.getD i []).getD j 0))) : (Blk.recs ks rows).eqv (.vals ks.length l) := by
  refine ⟨?_, rfl, fun _ => ⟨hk, by rw [hl]; exact Nat.mul_mod_left _ _⟩, fun i fo hi hf => ?_⟩
  · show rows.length = l.length / ks.length
    rw [hl, Nat.mul_div_cancel _ hk]
  · have hi' : i < rows.length := hi
    have hf' : fo < ks.length := hf
    have hkd := List.getElem?_eq_getElem hf'
    show (match ks[fo]? with | some k => some (AV.int k ((rows.getD i []).getD fo 0)) | none => none) = l[i * ks.length + fo]?
    rw [hkd, h i fo _ hi' hkd]

theorem zk_pos {el : TypeId} {z : ZK} (h : zk P el = some z) : 0 < (newB z 0).str := by
  obtain ⟨vs, h1, h2⟩ := zk_sound h
  obtain ⟨hok, _⟩ := h2 (fun _ => (0, 0, 0)) [] 0
  exact hok.pos

theorem zeroL_inv {el : TypeId} {z : ZK} (hz : zk P el = some z) {m : Nat} {T : HT} {n : Nat} {f : Nat → HT → Nat → Out e} (h : zeroL z m T n f ≠ .bad) : ∃ x : HE, n < 65536 ∧ zeroL z m T n f = f n (runS (setC 8 n) x T) (n + 1) ∧ x.md? = some .own ∧ ¬ x.older n ∧ (∀ w num d c md s, x = .cells w num d c md s → num * w ≤ 4 ^ d) ∧
    ∃ bk, x.ent = .live bk .own ∧ (newB z m).eqv bk := by
  have hpos := zk_pos hz
  cases z with
  | ints ki =>
    obtain ⟨h1, h2⟩ := newH_inv h
    refine ⟨_, h1, h2, rfl, Nat.lt_irrefl _, (fun w num d c md s he => by cases he), _, rfl, ?_⟩
    have : newB (.ints ki) m = intsBlk ki m 0 := by
      unfold intsBlk
      show Blk.ints ki (List.replicate m 0) = _
      congr 1
      apply List.ext_getElem (by simp)
      intro i h3 h4
      simp [dGet_zero, dDec_zero]
    rw [this]; exact .refl _
  | vals zs =>
    obtain ⟨h1, h2, d, h3, h4⟩ := newL_inv h
    refine ⟨_, h1, h4, rfl, Nat.lt_irrefl _, (fun w num d c md s he => by cases he; exact h3), _, rfl, ?_⟩
    rw [cells_putL h2 h3]
    have : (List.replicate m (cvs zs)).flatten.map CV.av = (List.replicate m zs).flatten := by
      rw [List.map_flatten, List.map_replicate, cvs_eq, map_toC]
    rw [this]; exact .refl _
  | recs ks =>
    have hk : 0 < ks.length := hpos
    have rows : ∀ (l : List AV), l.length = m * ks.length → (∀ i j kd, i < m → ks[j]? = some kd → l[i * ks.length + j]? = some (.int kd 0)) → (newB (.recs ks) m).eqv (.vals ks.length l) := by
      intro l hl hh
      refine recs_eqv hk (by simpa using hl) fun i j kd hi hj => ?_
      have hi' : i < m := by simpa using hi
      rw [hh i j kd hi' hj]
      congr 2
      have hj' : j < ks.length := (List.getElem?_eq_some_iff.1 hj).1
      simp [List.getD_eq_getElem?_getD, hi', hj']
    simp only [zeroL] at h ⊢
    cases hall : all64 ks with
    | false =>
      simp only [hall] at h ⊢
      obtain ⟨h1, h2, d, h3, h4⟩ := newL_inv h
      refine ⟨_, h1, h4, rfl, Nat.lt_irrefl _, (fun w num d c md s he => by cases he; exact h3), _, rfl, ?_⟩
      rw [cells_putL h2 h3]
      refine rows _ (by rw [List.length_map]; exact h2) fun i j kd hi hj => ?_
      have hj' : j < ks.length := (List.getElem?_eq_some_iff.1 hj).1
      have hfl := flat_rep (ks.map fun k => cI k 0) m i j (by simpa using hj') hi
      rw [List.length_map] at hfl
      rw [List.getElem?_map, hfl, List.getElem?_map, hj]
      simp [cI_av]
    | true =>
      simp only [hall, natK_eq] at h ⊢
      obtain ⟨h1, h2⟩ := chk_inv h
      rw [h2] at h ⊢
      obtain ⟨h3, h4⟩ := newH_inv h
      have hle : m * ks.length ≤ 4 ^ (deep 12 (m * ks.length)) := Nat.le_of_ble_eq_true h1
      refine ⟨_, h3, h4, rfl, Nat.lt_irrefl _, (fun w num d c md s he => by cases he; exact hle), _, rfl, ?_⟩
      refine rows _ (by simp) fun i j kd hi hj => ?_
      have hj' : j < ks.length := (List.getElem?_eq_some_iff.1 hj).1
      have hlt : i * ks.length + j < m * ks.length := by
        have : (i + 1) * ks.length ≤ m * ks.length := Nat.mul_le_mul_right _ hi
        rw [Nat.add_mul] at this; omega
      have hkd : kd = .i64 := by
        have := List.all_eq_true.1 hall kd (List.mem_of_getElem? hj)
        exact kix_0 this
      subst hkd
      simp only [List.getElem?_map, List.getElem?_range hlt, Option.map_some]
      rw [QT.get_fill]; rfl

/-- make, with room -/
theorem make_sound2 {m : Map} {H : Heap} {w : World} (h : Sim m H w) {q : Nat} (hq : hkn H q = false) {t el : TypeId} {z : ZK} {i : TypeInfo} {k k' : IntKind} {n c : Int} (ht : P.underlying t = some (.slice el)) (hz : zk P el = some z) (hi : P.info? el = some i)
    (h0 : 0 ≤ n) (hnc : n ≤ c) (hb : i.bytes * c ≤ 281474976710656) (h63 : c ≤ 9223372036854775807) :
    ∃ v m' w', (Instr.makeSlice t (.int k n) (.int k' c)).run P w = .ok v w' ∧ Sim m' (hfill H q (.live (newB z n.toNat) .own)) w' ∧ VR m' (hfill H q (.live (newB z n.toNat) .own)) (.whole q) v ∧ Tr m H w m' (hfill H q (.live (newB z n.toNat) .own)) w' := by
  obtain ⟨vs, hvs, hnew⟩ := zk_sound hz
  obtain ⟨i', zv, h1, h2, h3, h4, h5, h6⟩ := zerosOf_sound hvs
  rw [hi] at h1
  cases h1
  obtain ⟨n1, n2, n3, n4⟩ := hnew m H n.toNat
  have hlen : vs.length = i.size := by rw [h5]; simp [h3]
  have hr := run_make (P := P) w t el i zv ht hi h2 k k' n c h0 hnc hb h63
  have hnc' : n.toNat ≤ c.toNat := by omega
  have hsz : (madeCells zv.cells (c.toNat * i.size)).size = c.toNat * i.size := size_madeCells _ _
  obtain ⟨s1, s2⟩ := h.new hq (w' := w.alloc (.cells (madeCells zv.cells (c.toNat * i.size)) el)) (bk := newB z n.toNat) (c := madeCells zv.cells (c.toNat * i.size)) (e := el) n1 (by rw [n2, n3, hsz, hlen]; exact Nat.mul_le_mul_right _ hnc') rfl rfl rfl rfl (Nat.le_refl _)
    (fun j v hv => madeCells_one _ _ (by rw [← h5]; exact h6) (by omega) j v hv) (fun j fo hj hf => by
      rw [n2] at hj
      rw [n3] at hf
      obtain ⟨x, v, k1, k2, k3⟩ := n4 j fo hj hf
      refine ⟨x, v, k1, ?_, k3⟩
      rw [n3, hlen, madeCells_get zv.cells c.toNat i.size j fo h3 (by omega) (by omega)]
      rw [h5] at k2
      simpa using k2)
  refine ⟨_, _, _, hr, s1, ?_, s2⟩
  have := VR.newWhole (m := m) (H := H) (n := q) (bk := newB z n.toNat) (g := w.heap.size) (s := (madeCells zv.cells (c.toNat * i.size)).size) (cap := c.toNat) (a := some ⟨w.heap.size, 0, none⟩) (by rw [n2]; exact hnc') (by rw [n3, hsz, hlen]) n1 (fun _ => rfl) (by simp)
  rw [n2] at this
  exact this
theorem st_makeSlice2 {ev : Operand → AV} {KH : Heap} {q : Nat} {t el : TypeId} {x y : Operand} {z : ZK} {i : TypeInfo} {k k' : IntKind} {n c : Int} (h1 : P.underlying t = some (.slice el)) (h2 : ev x = .int k n) (h3 : ev y = .int k' c) (h4 : zk P el = some z) (h5 : P.info? el = some i)
    (h6 : 0 ≤ n) (h9 : n ≤ c) (h7 : i.bytes * c ≤ 281474976710656) (h8 : c ≤ 9223372036854775807) : Step P ⟨dst, .makeSlice t x y, ty, pos, after, guard⟩ ev KH q (.whole q) [(q, .live (newB z n.toNat) .own)] := by
  refine step_val fun m H a w hs hq hsim hx => ?_
  have hvx := hx x (by simp [Op.operands])
  have hvy := hx y (by simp [Op.operands])
  rw [h2] at hvx
  rw [h3] at hvy
  generalize hax : a.eval x = vx at hvx
  generalize hay : a.eval y = vy at hvy
  cases hvx
  cases hvy
  obtain ⟨v, m', w', g1, g2, g3, g4⟩ := make_sound2 (P := P) hsim (hq (q, .live (newB z n.toNat) .own) (by simp) (Nat.le_refl _)) (k := k) (k' := k') h1 h4 h5 h6 h9 h7 h8
  exact ⟨v, m', w', by simp [execOp, hax, hay, g1], g2, g3, g4⟩

theorem good_makeSlice (t : TypeId) (len cap : Operand) : OpGood P E k (op_makeSlice (e := e) P E k t len cap) ⟨dst, .makeSlice t len cap, ty, pos, after, guard⟩ := by
  intro c st tm T n K hc hT h
  generalize hF : op_makeSlice P E k t len cap = F at h ⊢
  unfold op_makeSlice at hF
  split at hF
  · rename_i el f g h1 h2 h3
    split at hF
    · rename_i z i hz hi
      subst hF
      dsimp only [OpC.run] at h ⊢
      obtain ⟨k1, l, h4, h5⟩ := natI_inv h
      rw [h5] at h ⊢
      obtain ⟨k2, cp, h6, h7⟩ := natI_inv h
      rw [h7] at h ⊢
      obtain ⟨h8, h9⟩ := chk_inv h
      rw [h9] at h ⊢
      obtain ⟨h10, h11⟩ := chk_inv h
      rw [h11] at h ⊢
      obtain ⟨h12, h13⟩ := chk_inv h
      rw [h13] at h ⊢
      have hlc : l ≤ cp := Nat.le_of_ble_eq_true h8
      obtain ⟨x, hn, h14, h15, h16, h17, bk, h18, h19⟩ := zeroL_inv hz h
      rw [h14]
      refine ⟨_, _, _, [n], rfl, Ran.new1 hn h15 h16 h17 (fun b hb => by obtain rfl := List.mem_singleton.1 hb; exact ⟨rfl, Nat.le_refl _⟩) fun KH hK => ?_⟩
      rw [h18]
      have b1 : i.bytes * cp ≤ 281474976710656 := Nat.le_of_ble_eq_true h10
      have b2 : cp ≤ 9223372036854775807 := Nat.le_of_ble_eq_true h12
      refine Step.one ?_ h19
      exact st_makeSlice2 (n := (Int.ofNat l)) (c := (Int.ofNat cp)) h1 (show (valO E k st tm len).av = .int k1 (.ofNat l) by rw [valO_of h2, h4]) (show (valO E k st tm cap).av = .int k2 (.ofNat cp) by rw [valO_of h3, h6]) hz hi (Int.natCast_nonneg _) (by show ((l : Nat) : Int) ≤ ((cp : Nat) : Int); omega) (by
        show ((i.bytes : Int)) * ((cp : Nat) : Int) ≤ 281474976710656
        have : ((i.bytes * cp : Nat) : Int) ≤ 281474976710656 := by omega
        rwa [Int.natCast_mul] at this) (by show ((cp : Nat) : Int) ≤ _; omega)
    · subst hF; exact absurd rfl h
  · subst hF; exact absurd rfl h

/-! slices of told parts -/
theorem inOrder_spec : ∀ (l : List Nat) (j i : Nat), inOrder l j = true → ∀ x, l[i]? = some x → x = j + i
  | [], j, i, _, x, hx => by simp at hx
  | y :: l, j, i, h, x, hx => by
    simp only [inOrder, Bool.and_eq_true] at h
    cases i with
    | zero => simp at hx; subst hx; exact Nat.eq_of_beq_eq_true h.1
    | succ i => have := inOrder_spec l (j + 1) i h.2 x (by simpa using hx); omega

theorem digs_inv {ki : IntKind} : ∀ {l : List CV} {f : Nat → Out e}, digs ki l f ≠ .bad → ∃ (a : Nat) (ns : List Int), digs ki l f = f a ∧ l.map CV.av = ns.map (AV.int ki) ∧ ∀ i, i < ns.length → dDec (dGet a i) = ns.getD i 0
  | [], f, h => ⟨0, [], rfl, rfl, fun i hi => by simp at hi⟩
  | x :: l, f, h => by
    have step : ∀ (n0 : Int) (v : Nat), x.av = .int ki n0 → enc? n0 = some v → digs ki l (fun a => f (Nat.add v (Nat.mul a 73786976294838206464))) ≠ .bad →
        ∃ (a : Nat) (ns : List Int), digs ki l (fun a => f (Nat.add v (Nat.mul a 73786976294838206464))) = f a ∧ (x :: l).map CV.av = ns.map (AV.int ki) ∧ ∀ i, i < ns.length → dDec (dGet a i) = ns.getD i 0 := by
      intro n0 v hx hv hb
      obtain ⟨a, ns, h1, h2, h3⟩ := digs_inv hb
      refine ⟨v + a * dB, n0 :: ns, h1, by rw [List.map_cons, h2, hx]; rfl, fun i hi => ?_⟩
      obtain ⟨hv1, hv2⟩ := enc_dec hv
      cases i with
      | zero =>
        have := dGet_lo (a := v) (k := 1) (i := 0) a (by omega)
        rw [Nat.pow_one] at this
        rw [this, dGet_eq]
        simp [Nat.mod_eq_of_lt hv1, hv2]
      | succ i =>
        have := dGet_hi (a := v) (k := 1) (by simpa using hv1) a i
        rw [Nat.pow_one, Nat.add_comm 1 i] at this
        rw [this]
        simpa using h3 i (by simpa using hi)
    rcases onInt_inv (show onInt _ _ x ≠ .bad from h) with ⟨n0, hx, h1⟩ | ⟨kx, n0, hx, h1⟩
    · change digs ki (x :: l) f = _ at h1
      rw [h1] at h ⊢
      obtain ⟨h2, h3⟩ := chk_inv h
      rw [h3] at h ⊢
      obtain ⟨v, h4, h5⟩ := decK_inv h
      rw [h5] at h ⊢
      exact step n0 v (by rw [hx, kix_0 h2]; rfl) h4 h
    · change digs ki (x :: l) f = _ at h1
      rw [h1] at h ⊢
      obtain ⟨h2, h3⟩ := chk_inv h
      rw [h3] at h ⊢
      obtain ⟨v, h4, h5⟩ := decK_inv h
      rw [h5] at h ⊢
      exact step n0 v (by rw [hx, kix_inj h2]; rfl) h4 h

theorem fillB_ints (ki : IntKind) : ∀ (parts : List (Nat × AV)) (ns : List Int) (done : List Int) (r : Nat), parts.map (·.2) = ns.map (AV.int ki) → (∀ (i : Nat) (p : Nat × AV), parts[i]? = some p → p.1 = done.length + i) → r = ns.length →
    fillB parts (.ints ki (done ++ List.replicate r 0)) = some (.ints ki (done ++ ns))
  | [], ns, done, r, h1, _, hr => by
    cases ns with
    | nil => subst hr; simp [fillB]
    | cons n ns => simp at h1
  | p :: parts, ns, done, r, h1, h2, hr => by
    cases ns with
    | nil => simp at h1
    | cons n ns =>
      simp only [List.map_cons, List.cons.injEq] at h1
      obtain ⟨i, v⟩ := p
      have hi : i = done.length := by have := h2 0 (i, v) rfl; simpa using this
      obtain ⟨hv, h1⟩ := h1
      simp only at hv
      subst hv hi hr
      unfold fillB
      rw [if_pos (by simp [Blk.num, Blk.str, cellsOf])]
      have e1 : stA done.length (cellsOf (.int ki n)) 0 (.ints ki (done ++ List.replicate (n :: ns).length 0)) = some (.ints ki ((done ++ [n]) ++ List.replicate ns.length 0)) := by
        simp only [cellsOf, stA, stn, stx, if_true]
        congr 2
        rw [List.set_append_right _ _ (Nat.le_refl _), Nat.sub_self, List.length_cons, List.replicate_succ, List.set_cons_zero, List.append_assoc]; rfl
      rw [e1]
      simp only
      rw [fillB_ints ki parts ns (done ++ [n]) ns.length h1 (fun i p hp => by
        have := h2 (i + 1) p (by simpa using hp)
        simp; omega) rfl, List.append_assoc]; rfl

theorem catC_inv {w : Nat} : ∀ {vs : List CV} {f : List CV → Out e}, catC w vs f ≠ .bad → ∃ l, catC w vs f = f l ∧ l = (vs.map cellsC).flatten ∧ ∀ v ∈ vs, (cellsC v).length = w ∧ allX (cellsC v) = true
  | [], f, h => ⟨[], rfl, rfl, fun v hv => by cases hv⟩
  | v :: vs, f, h => by
    simp only [catC] at h ⊢
    obtain ⟨h1, h2⟩ := chk_inv h
    rw [h2] at h ⊢
    obtain ⟨h3, h4⟩ := chk_inv h
    rw [h4] at h ⊢
    obtain ⟨l, h5, h6, h7⟩ := catC_inv h
    refine ⟨cellsC v ++ l, h5, by rw [h6]; rfl, fun u hu => ?_⟩
    rcases List.mem_cons.1 hu with rfl | hu
    · exact ⟨Nat.eq_of_beq_eq_true h1, h3⟩
    · exact h7 u hu

theorem fillB_vals (zs : List AV) (hw : 0 < zs.length) : ∀ (parts : List (Nat × AV)) (vs : List CV) (done : List AV) (m r : Nat), parts.map (·.2) = vs.map CV.av → (∀ (i : Nat) (p : Nat × AV), parts[i]? = some p → p.1 = m + i) → done.length = m * zs.length → r = vs.length →
    (∀ v ∈ vs, (cellsC v).length = zs.length ∧ allX (cellsC v) = true) → fillB parts (.vals zs.length (done ++ (List.replicate r zs).flatten)) = some (.vals zs.length (done ++ ((vs.map cellsC).flatten.map CV.av)))
  | [], vs, done, m, r, h1, _, _, hr, _ => by
    cases vs with
    | nil => subst hr; simp [fillB]
    | cons n ns => simp at h1
  | p :: parts, vs, done, m, r, h1, h2, hd, hr, hv => by
    cases vs with
    | nil => simp at h1
    | cons v vs =>
      simp only [List.map_cons, List.cons.injEq] at h1
      obtain ⟨i, u⟩ := p
      have hi : i = m := by have := h2 0 (i, u) rfl; simpa using this
      obtain ⟨hu, h1⟩ := h1
      simp only at hu
      subst hu hi hr
      obtain ⟨hc1, hc2⟩ := hv v (by simp)
      have hcl : (cellsOf v.av).length = zs.length := by rw [← cellsC_av, List.length_map]; exact hc1
      have hL : (List.replicate (v :: vs).length zs).flatten = zs ++ (List.replicate vs.length zs).flatten := by rw [List.length_cons, List.replicate_succ]; rfl
      have hlen : (done ++ (List.replicate (v :: vs).length zs).flatten).length = (i + (vs.length + 1)) * zs.length := by
        rw [List.length_append, flat_rep_length, hd, List.length_cons, ← Nat.add_mul]
      unfold fillB
      rw [if_pos ⟨by
        show i < (done ++ (List.replicate (v :: vs).length zs).flatten).length / zs.length
        rw [hlen, Nat.mul_div_cancel _ hw]; omega, hcl⟩]
      have e1 : stA i (cellsOf v.av) 0 (.vals zs.length (done ++ (List.replicate (v :: vs).length zs).flatten)) = some (.vals zs.length ((done ++ cellsOf v.av) ++ (List.replicate vs.length zs).flatten)) := by
        show stn i (cellsOf v.av) 0 _ = _
        rw [hL, ← List.append_assoc]
        exact stn_vals (cellsOf v.av) 0 done zs _ (fun x hx => by
          rw [← cellsC_av] at hx
          obtain ⟨y, hy, rfl⟩ := List.mem_map.1 hx
          exact cellX_av (allX_spec _ hc2 y hy)) (by omega) hcl.symm
      rw [e1]
      simp only
      rw [fillB_vals zs hw parts vs (done ++ cellsOf v.av) (i + 1) vs.length h1 (fun j p hp => by
        have := h2 (j + 1) p (by simpa using hp)
        omega) (by rw [List.length_append, hd, hcl, Nat.add_mul]; omega) rfl (fun u hu => hv u (by simp [hu]))]
      rw [← cellsC_av, List.append_assoc]
      simp

theorem rowC_spec : ∀ {ks : List IntKind} {xs : List CV}, op_buildSlice.rowC ks xs = true → ∃ ns : List Int, xs.map CV.av = List.zipWith AV.int ks ns ∧ ns.length = ks.length ∧ rowOf ks (xs.map CV.av) = some ns
  | [], [], _ => ⟨[], rfl, rfl, rfl⟩
  | [], x :: xs, h => by cases h
  | k0 :: ks, [], h => by cases h
  | k0 :: ks, x :: xs, h => by
    unfold op_buildSlice.rowC at h
    rw [Bool.and_eq_true] at h
    obtain ⟨h1, h2⟩ := h
    obtain ⟨ns, h3, h4, h5⟩ := rowC_spec h2
    have key : ∃ n, x.av = .int k0 n := by
      cases x with
      | i n => exact ⟨n, by rw [kix_0 h1]; rfl⟩
      | oth v => cases v with
        | int k' n => exact ⟨n, by rw [kix_inj h1]; rfl⟩
        | _ => cases h1
      | _ => cases h1
    obtain ⟨n, hn⟩ := key
    refine ⟨n :: ns, by rw [List.map_cons, hn, h3]; rfl, by simp [h4], ?_⟩
    rw [List.map_cons, hn]
    simp only [rowOf, if_true, h5]

theorem catR_inv {ks : List IntKind} : ∀ {vs : List CV} {f : List CV → Out e}, op_buildSlice.catR ks vs f ≠ .bad → ∃ l, op_buildSlice.catR ks vs f = f l ∧ l = (vs.map cellsC).flatten ∧ ∀ v ∈ vs, op_buildSlice.rowC ks (cellsC v) = true
  | [], f, h => ⟨[], rfl, rfl, fun v hv => by cases hv⟩
  | v :: vs, f, h => by
    unfold op_buildSlice.catR at h ⊢
    obtain ⟨h1, h2⟩ := chk_inv h
    rw [h2] at h ⊢
    obtain ⟨l, h5, h6, h7⟩ := catR_inv h
    refine ⟨cellsC v ++ l, h5, by rw [h6]; rfl, fun u hu => ?_⟩
    rcases List.mem_cons.1 hu with rfl | hu
    · exact h1
    · exact h7 u hu

theorem fillB_recs (ks : List IntKind) : ∀ (parts : List (Nat × AV)) (vs : List CV) (done : List (List Int)) (r : Nat), parts.map (·.2) = vs.map CV.av → (∀ (i : Nat) (p : Nat × AV), parts[i]? = some p → p.1 = done.length + i) → r = vs.length → (∀ v ∈ vs, op_buildSlice.rowC ks (cellsC v) = true) →
    ∃ rows : List (List Int), fillB parts (.recs ks (done ++ List.replicate r (ks.map fun _ => 0))) = some (.recs ks (done ++ rows)) ∧ rows.length = vs.length ∧ ∀ (i : Nat) (v : CV), vs[i]? = some v → ∃ ns : List Int, rows[i]? = some ns ∧ ns.length = ks.length ∧ (cellsC v).map CV.av = List.zipWith AV.int ks ns
  | [], vs, done, r, h1, _, hr, _ => by
    cases vs with
    | nil => subst hr; exact ⟨[], by simp [fillB], rfl, fun i v hv => by simp at hv⟩
    | cons n ns => simp at h1
  | p :: parts, vs, done, r, h1, h2, hr, hv => by
    cases vs with
    | nil => simp at h1
    | cons v vs =>
      simp only [List.map_cons, List.cons.injEq] at h1
      obtain ⟨i, u⟩ := p
      have hi : i = done.length := by have := h2 0 (i, u) rfl; simpa using this
      obtain ⟨hu, h1⟩ := h1
      simp only at hu
      subst hu hi hr
      obtain ⟨ns, q1, q2, q3⟩ := rowC_spec (hv v (by simp))
      have hcl : (cellsOf v.av).length = ks.length := by rw [← cellsC_av, q1]; simp [q2]
      obtain ⟨rows, r1, r2, r3⟩ := fillB_recs ks parts vs (done ++ [ns]) vs.length h1 (fun j p hp => by
        have := h2 (j + 1) p (by simpa using hp)
        simp; omega) rfl (fun u hu => hv u (by simp [hu]))
      refine ⟨ns :: rows, ?_, by simp [r2], fun j y hy => ?_⟩
      · unfold fillB
        rw [if_pos ⟨by simp [Blk.num], hcl⟩]
        have e1 : stA done.length (cellsOf v.av) 0 (.recs ks (done ++ List.replicate (v :: vs).length (ks.map fun _ => 0))) = some (.recs ks ((done ++ [ns]) ++ List.replicate vs.length (ks.map fun _ => 0))) := by
          simp only [stA]
          rw [← cellsC_av, q3]
          simp only
          congr 2
          rw [List.set_append_right _ _ (Nat.le_refl _), Nat.sub_self, List.length_cons, List.replicate_succ, List.set_cons_zero, List.append_assoc]; rfl
        rw [e1]
        simp only
        rw [r1, List.append_assoc]; rfl
      · cases j with
        | zero => simp at hy; subst hy; exact ⟨ns, rfl, q2, q1⟩
        | succ j =>
          obtain ⟨ms, m1, m2, m3⟩ := r3 j y (by simpa using hy)
          exact ⟨ms, by simpa using m1, m2, m3⟩

theorem flat_at {α : Type} {w : Nat} : ∀ (L : List (List α)), (∀ x ∈ L, x.length = w) → ∀ i j, i < L.length → j < w → L.flatten[i * w + j]? = (L.getD i [])[j]?
  | [], _, i, j, h, _ => by simp at h
  | x :: L, hx, i, j, hi, hj => by
    have hxl := hx x (by simp)
    cases i with
    | zero =>
      rw [List.flatten_cons, List.getElem?_append_left (by omega)]
      simp
    | succ i =>
      have e1 : (i + 1) * w + j = x.length + (i * w + j) := by rw [hxl, Nat.add_mul]; omega
      rw [List.flatten_cons, e1, List.getElem?_append_right (Nat.le_add_right _ _), Nat.add_sub_cancel_left, flat_at L (fun y hy => hx y (by simp [hy])) i j (by simpa using hi) hj]
      simp

theorem good_buildSlice (t : TypeId) (len : Nat) (parts : Array (Nat × Operand)) : OpGood P E k (op_buildSlice (e := e) P E k t len parts) ⟨dst, .buildSlice t len parts, ty, pos, after, guard⟩ := by
  intro c st tm T n K hc hT h
  generalize hF : op_buildSlice P E k t len parts = F at h ⊢
  unfold op_buildSlice at hF
  split at hF
  · rename_i el h1 h2
    rw [Bool.and_eq_true] at h2
    obtain ⟨hord, hlen⟩ := h2
    have hlen : parts.toList.length = len := Nat.eq_of_beq_eq_true hlen
    split at hF
    · rename_i z hz
      split at hF
      · rename_i hle
        have hle' : len * (newB z 0).str ≤ 16777216 := Nat.le_of_ble_eq_true hle
        have hw := zk_pos hz
        have hvs : (evs (argsC (e := e) E k (parts.toList.map (·.2))) st tm).map CV.av = (parts.toList.map fun p => (p.1, (valO E k st tm p.2).av)).map (·.2) := by
          rw [evs_args, List.map_map, List.map_map, List.map_map]; rfl
        have hvl : (evs (argsC (e := e) E k (parts.toList.map (·.2))) st tm).length = len := by rw [evs_args]; simpa using hlen
        have hix : ∀ (i : Nat) (p : Nat × AV), (parts.toList.map fun p => (p.1, (valO E k st tm p.2).av))[i]? = some p → p.1 = 0 + i := by
          intro i p hp
          rw [List.getElem?_map] at hp
          cases hq : parts.toList[i]? with
          | none => rw [hq] at hp; cases hp
          | some q =>
            rw [hq] at hp
            cases hp
            exact inOrder_spec _ 0 i hord q.1 (by rw [List.getElem?_map, hq]; rfl)
        have fin : ∀ (x : HE) (bk bk2 : Blk), n < 65536 → x.md? = some .own → ¬ x.older n → (∀ w num d c md s, x = .cells w num d c md s → num * w ≤ 4 ^ d) → x.ent = .live bk2 .own → bk.eqv bk2 → fillB (parts.toList.map fun p => (p.1, (valO E k st tm p.2).av)) (newB z len) = some bk →
            Ran P ⟨dst, .buildSlice t len parts, ty, pos, after, guard⟩ (fun x => (valO E k st tm x).av) T n (CV.whole n).av (runS (setC 8 n) x T) (n + 1) [n] := by
          intro x bk bk2 hn hx1 hx2 hx3 hx4 heq hf
          refine Ran.new1 hn hx1 hx2 hx3 (fun b hb => by obtain rfl := List.mem_singleton.1 hb; exact ⟨rfl, Nat.le_refl _⟩) fun KH hK => ?_
          rw [hx4]
          exact Step.one (st_buildSlice h1 hz hle' hf) heq
        cases z with
        | ints ki =>
          simp only at hF
          subst hF
          dsimp only [OpC.run] at h ⊢
          obtain ⟨a, ns, h4, h5, h6⟩ := digs_inv h
          rw [h4] at h ⊢
          obtain ⟨h7, h8⟩ := newH_inv h
          rw [h8]
          have hnl : ns.length = len := by have := congrArg List.length h5; simp at this; omega
          refine ⟨_, _, _, [n], rfl, fin _ _ _ h7 rfl (Nat.lt_irrefl _) (fun w num d c md s he => by cases he) rfl (.refl _) ?_⟩
          have := fillB_ints ki _ ns [] len (by rw [← hvs, h5]) (fun i p hp => by simpa using hix i p hp) hnl.symm
          simp only [List.nil_append] at this
          show fillB _ (.ints ki (List.replicate len 0)) = _
          rw [this]
          congr 1
          unfold intsBlk
          congr 1
          apply List.ext_getElem (by simp [hnl])
          intro i q1 q2
          have := h6 i (by simpa using q1)
          simp [this, List.getD_eq_getElem?_getD, q1]
        | vals zs =>
          simp only at hF
          subst hF
          dsimp only [OpC.run] at h ⊢
          obtain ⟨l, h4, h5, h6⟩ := catC_inv h
          rw [h4] at h ⊢
          obtain ⟨h7, h8, d, h9, h10⟩ := newL_inv h
          rw [h10]
          refine ⟨_, _, _, [n], rfl, fin _ _ _ h7 rfl (Nat.lt_irrefl _) (fun w num d c md s he => by cases he; exact h9) rfl (.refl _) ?_⟩
          rw [cells_putL h8 h9]
          have := fillB_vals zs hw _ _ [] 0 len hvs.symm hix (by simp) hvl.symm h6
          simp only [List.nil_append] at this
          rw [h5]
          exact this
        | recs ks =>
          simp only at hF
          subst hF
          dsimp only [OpC.run] at h ⊢
          obtain ⟨l, h4, h5, h6⟩ := catR_inv h
          rw [h4] at h ⊢
          obtain ⟨h7, h8, d, h9, h10⟩ := newL_inv h
          rw [h10]
          obtain ⟨rows, r1, r2, r3⟩ := fillB_recs ks _ _ [] len hvs.symm (fun i p hp => by simpa using hix i p hp) hvl.symm h6
          simp only [List.nil_append] at r1
          refine ⟨_, _, _, [n], rfl, fin _ _ _ h7 rfl (Nat.lt_irrefl _) (fun w num d c md s he => by cases he; exact h9) rfl ?_ r1⟩
          rw [cells_putL h8 h9]
          refine recs_eqv hw (by rw [List.length_map, h8, r2, hvl]) fun i j kd hi hj => ?_
          have hj' : j < ks.length := (List.getElem?_eq_some_iff.1 hj).1
          have hi' : i < (evs (argsC (e := e) E k (parts.toList.map (·.2))) st tm).length := by omega
          obtain ⟨ns, m1, m2, m3⟩ := r3 i _ (List.getElem?_eq_getElem hi')
          rw [List.getElem?_map, h5]
          rw [flat_at (w := ks.length) _ (fun x hx => by
            obtain ⟨v, hv, rfl⟩ := List.mem_map.1 hx
            obtain ⟨ns', p1, p2, _⟩ := rowC_spec (h6 v hv)
            have := congrArg List.length p1
            simpa [p2] using this) i j (by simpa using hi') hj']
          have e1 : (List.map cellsC (evs (argsC (e := e) E k (parts.toList.map (·.2))) st tm)).getD i [] = cellsC (evs (argsC (e := e) E k (parts.toList.map (·.2))) st tm)[i] := by
            simp [List.getD_eq_getElem?_getD, hi']
          rw [e1, ← List.getElem?_map, m3, List.getElem?_zipWith, hj]
          have e2 : rows.getD i [] = ns := by simp [List.getD_eq_getElem?_getD, m1]
          have hjn : j < ns.length := by omega
          rw [e2]
          simp [hjn, List.getD_eq_getElem?_getD]
      · subst hF; exact absurd rfl h
    · subst hF; exact absurd rfl h
  · subst hF; exact absurd rfl h
end
end Go.Ab
