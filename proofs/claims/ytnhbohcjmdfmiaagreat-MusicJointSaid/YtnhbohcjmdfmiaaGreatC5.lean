/- Concrete runs: steps of operations, told for them. No condition. -/
import Derived.Test.YtnhbohcjmdfmiaaGreatC4
import Derived.ChangeKeysEq
set_option linter.unusedVariables false
set_option linter.unusedSimpArgs false
namespace Go.Ab
open Go

theorem Heap.eqv.symm {H K : Heap} (h : H.eqv K) (h' : ∀ b, ((hat K b).eqv (hat H b))) : K.eqv H := h'

theorem Step.mono {P : Program} {o : Oper} {e : Operand → AV} {K K' : Heap} {q : Nat} {v : AV} {D : Delta} (h : Step P o e K q v D) (hs : SubH K K') : Step P o e K' q v D :=
  fun m H a w hk => h m H a w fun b x hb => hk b x (hs b x hb)

theorem Step.eqvD {P : Program} {o : Oper} {e : Operand → AV} {K : Heap} {q : Nat} {v : AV} {D D' : Delta} (h : Step P o e K q v D) (hk : ∀ d ∈ D, q ≤ d.1 → ∃ d' ∈ D', d'.1 = d.1)
    (he : ∀ H, SubH K H → (hput H D).eqv (hput H D')) : Step P o e K q v D' := by
  intro m H a w hs hq hsim hx next Q hn
  refine h m H a w hs (fun d hd hle => ?_) hsim hx next Q fun v' m' w' g1 g2 g3 => hn v' m' w' (g1.eqv (he H hs)) (g2.eqv (he H hs)) (g3.eqv (he H hs))
  obtain ⟨d', h1, h2⟩ := hk d hd hle
  rw [← h2]
  exact hq d' h1 (by rw [h2]; exact hle)

section
variable {P : Program} {e : Operand → AV} {K : Heap} {q : Nat} {dst : Option Tmp} {ty : TypeId} {pos : String} {after : Array Edge} {guard : Option (Nat × Bool)}

theorem st_nilCheck' {x : Operand} {b i fo : Nat} (h1 : e x = .ptr b i fo) : Step P ⟨dst, .nilCheck x, ty, pos, after, guard⟩ e K q (.ptr b i fo) [] := by
  refine step_pure fun m H a w hs _ hx => ?_
  have hv := hx x (by simp [Op.operands])
  rw [h1] at hv
  generalize ha : a.eval x = vx at hv
  cases hv with
  | ptr _ _ _ ad hb hh => exact ⟨_, by simp [execOp, ha], .ptr b i fo ad hb hh⟩

theorem VR.bounds {m : Map} {H : Heap} {b i fo : Nat} {v : Value} (h : VR m H (.ptr b i fo) v) {bk : Blk} {md : Md} (hg : hget H b = some (bk, md)) : i < bk.num ∧ fo < bk.str := by
  cases h with
  | ptr _ _ _ a _ hh => exact ⟨(hh bk md hg).1, (hh bk md hg).2.1⟩

theorem st_load_b {t : TypeId} {x : Operand} {b i fo : Nat} {bk : Blk} {md : Md} {v : AV} (h1 : e x = .ptr b i fo) (h2 : hget K b = some (bk, md)) (h3 : isAggT P t = some false) (h4 : i < bk.num → fo < bk.str → bk.ld i fo = some v) :
    Step P ⟨dst, .load t x, ty, pos, after, guard⟩ e K q v [] := by
  refine step_pure fun m H a w hs hsim hx => ?_
  have hv := hx x (by simp [Op.operands])
  rw [h1] at hv
  obtain ⟨b1, b2⟩ := hv.bounds (hs _ _ h2)
  obtain ⟨v', g1, g2⟩ := (load_sound (P := P) hsim hv (hs _ _ h2)).1 v h3 (h4 b1 b2)
  exact ⟨v', by simp [execOp, g2], g1⟩

theorem st_loadAgg_b {t : TypeId} {x : Operand} {b i fo n : Nat} {bk : Blk} {md : Md} {l : List AV} (h1 : e x = .ptr b i fo) (h2 : hget K b = some (bk, md)) (h3 : isAggT P t = some true) (h4 : sizeT P t = some n) (h5 : fo + n ≤ bk.str) (h6 : i < bk.num → fo < bk.str → ldn bk i fo n = some l) :
    Step P ⟨dst, .load t x, ty, pos, after, guard⟩ e K q (.agg l) [] := by
  refine step_pure fun m H a w hs hsim hx => ?_
  have hv := hx x (by simp [Op.operands])
  rw [h1] at hv
  obtain ⟨b1, b2⟩ := hv.bounds (hs _ _ h2)
  obtain ⟨cs, g1, g2, g3⟩ := (load_sound (P := P) hsim hv (hs _ _ h2)).2 n l h3 h4 h5 (h6 b1 b2)
  exact ⟨.agg cs, by simp [execOp, g3], .agg l cs g1 g2⟩

theorem st_store_b {t : TypeId} {ad x : Operand} {b i fo n : Nat} {bk bk2 : Blk} {md : Md} (h1 : e ad = .ptr b i fo) (h2 : hget K b = some (bk, md)) (h3 : md ≠ .ro) (h4 : sizeT P t = some n) (h5 : (cellsOf (e x)).length = n)
    (h7 : i < bk.num → fo < bk.str → fo + n ≤ bk.str ∧ ∃ bk', stA i (cellsOf (e x)) fo bk = some bk' ∧ bk'.eqv bk2) : Step P ⟨dst, .store t ad x, ty, pos, after, guard⟩ e K q (.tuple []) [(b, .live bk2 md)] := by
  intro m H a w hs _ hsim hx next Q hn
  have hv := hx ad (by simp [Op.operands])
  have hv2 := hx x (by simp [Op.operands])
  rw [h1] at hv
  obtain ⟨b1, b2⟩ := hv.bounds (hs _ _ h2)
  obtain ⟨h6, bk', h8, h9⟩ := h7 b1 b2
  obtain ⟨w', g1, g2, g3⟩ := store_sound (P := P) hsim hv hv2 (hs _ _ h2) h3 h4 h5 h6 h8
  have he : (hfill H b (.live bk' md)).eqv (hput H [(b, .live bk2 md)]) := fun c => by
    simp only [hput, hat_fill]
    by_cases hc : c = b
    · rw [if_pos hc, if_pos hc]; exact ⟨rfl, h9⟩
    · rw [if_neg hc, if_neg hc]; exact .refl _
  refine wp_skip' (w' := w') (by simp [execOp, g1]) (hn undef m w' (g2.eqv he) ?_ (g3.eqv he))
  exact .tuple [] _ rfl fun j x y h => by simp at h

/-- a slice of an array -/
theorem st_sliceArr {t el : TypeId} {N : Nat} {x : Operand} {lo hi : Option Operand} {b i fo l u : Nat} {bk : Blk} {md : Md} (h1 : P.underlying t = some (.array N el)) (h2 : e x = .ptr b i fo) (h3 : sizeT P el = some 1) (h4 : hget K b = some (bk, md)) (h5 : fo + N ≤ bk.str)
    (hb : bnd N (lo.map e) (hi.map e) (fun l h => some (l, h)) = some ((l : Int), (u : Int))) : Step P ⟨dst, .slice t x lo hi none, ty, pos, after, guard⟩ e K q (.seg b i (fo + l) (u - l)) [] := by
  refine step_pure fun m H a w hs hsim hx => ?_
  have hv := hx x (by simp [Op.operands])
  rw [h2] at hv
  obtain ⟨l1, l2⟩ := opt_rel (m := m) (H := H) (e := e) (a := a) (lo := lo) fun y hy => hx y (by simp [Op.operands] at hy ⊢; simp [hy])
  obtain ⟨k1, k2⟩ := opt_rel (m := m) (H := H) (e := e) (a := a) (lo := hi) fun y hy => hx y (by simp [Op.operands] at hy ⊢; simp [hy])
  obtain ⟨l', u', p1, p2, p3, p4, hbd⟩ := bnd_sound (P := P) (w := w) (cap := N) (Nat.le_refl _) false l1 l2 k1 k2 hb
  simp only [Option.some.injEq, Prod.mk.injEq] at p4
  obtain ⟨rfl, rfl⟩ := p4
  simp only [Int.toNat_natCast] at hbd
  have q1 : l ≤ u := by omega
  have q2 : u ≤ N := by omega
  generalize ha : a.eval x = vx at hv
  cases hv with
  | ptr _ _ _ ad hbk hh =>
    obtain ⟨r1, r2, rfl⟩ := hh bk md (hs _ _ h4)
    refine ⟨.slice (some (if N = l then ⟨(m b).1, (m b).2.1 + (i * bk.str + fo), none⟩ else Addr.add ⟨(m b).1, (m b).2.1 + (i * bk.str + fo), none⟩ (l * 1))) (u - l) (N - l), by simp [execOp, ha, Instr.sliceAt, run_underlying h1, hbd, run_sizeOf' h3, Instr.sureAddr], .seg _ _ _ _ _ _ _ hbk fun bk' md' hg => ?_⟩
    rw [hs _ _ h4] at hg
    cases hg
    refine ⟨r1, by omega, rfl, by omega, fun hc => ?_⟩
    rw [if_neg (by omega)]
    simp [addr_add, Nat.add_assoc]

theorem st_sliceSeg {t el : TypeId} {x : Operand} {lo hi : Option Operand} {b i fo len l u : Nat} {bk : Blk} {md : Md} (h1 : P.underlying t = some (.slice el)) (h2 : e x = .seg b i fo len) (h3 : sizeT P el = some 1) (h4 : hget K b = some (bk, md))
    (hb : bnd len (lo.map e) (hi.map e) (fun l h => some (l, h)) = some ((l : Int), (u : Int))) : Step P ⟨dst, .slice t x lo hi none, ty, pos, after, guard⟩ e K q (.seg b i (fo + l) (u - l)) [] := by
  refine step_pure fun m H a w hs hsim hx => ?_
  have hv := hx x (by simp [Op.operands])
  rw [h2] at hv
  obtain ⟨l1, l2⟩ := opt_rel (m := m) (H := H) (e := e) (a := a) (lo := lo) fun y hy => hx y (by simp [Op.operands] at hy ⊢; simp [hy])
  obtain ⟨k1, k2⟩ := opt_rel (m := m) (H := H) (e := e) (a := a) (lo := hi) fun y hy => hx y (by simp [Op.operands] at hy ⊢; simp [hy])
  generalize ha : a.eval x = vx at hv
  cases hv with
  | seg _ _ _ _ ad n0 cap hbk hh =>
    obtain ⟨r1, r2, rfl, r3, r4⟩ := hh bk md (hs _ _ h4)
    obtain ⟨l', u', p1, p2, p3, p4, hbd⟩ := bnd_sound (P := P) (w := w) (cap := cap) r3 true l1 l2 k1 k2 hb
    simp only [Option.some.injEq, Prod.mk.injEq] at p4
    obtain ⟨rfl, rfl⟩ := p4
    simp only [Int.toNat_natCast] at hbd
    have q1 : l ≤ u := by omega
    have q2 : u ≤ n0 := by omega
    refine ⟨.slice (if cap = l then ad else ad.map (·.add (l * 1))) (u - l) (cap - l), by simp [execOp, ha, Instr.sliceAt, Instr.slice, run_underlying h1, hbd, run_sizeOf' h3], .seg _ _ _ _ _ _ _ hbk fun bk' md' hg => ?_⟩
    rw [hs _ _ h4] at hg
    cases hg
    refine ⟨r1, by omega, rfl, by omega, fun hc => ?_⟩
    rw [if_neg (by omega), r4 (by omega)]
    simp [addr_add, Nat.add_assoc]

theorem st_indexAddrSeg {t el : TypeId} {x ix : Operand} {k : IntKind} {i : Int} {b j fo len : Nat} {bk : Blk} {md : Md} (h1 : P.underlying t = some (.slice el)) (h2 : e ix = .int k i) (h3 : e x = .seg b j fo len) (h4 : sizeT P el = some 1) (h5 : hget K b = some (bk, md))
    (h7 : 0 ≤ i ∧ i < len) : Step P ⟨dst, .indexAddr t x ix, ty, pos, after, guard⟩ e K q (.ptr b j (fo + i.toNat)) [] := by
  refine step_pure fun m H a w hs hsim hx => ?_
  have hv := hx x (by simp [Op.operands])
  have hi := hx ix (by simp [Op.operands])
  rw [h3] at hv
  rw [h2] at hi
  generalize ha : a.eval x = vx at hv
  generalize hai : a.eval ix = vi at hi
  cases hi
  have hg := hs _ _ h5
  cases hv with
  | seg _ _ _ _ ad n0 cap hb hh =>
    obtain ⟨q1, q2, rfl, q3, q4⟩ := hh bk md hg
    obtain ⟨g1, g2⟩ := h7
    obtain rfl := q4 (by omega)
    refine ⟨_, by simp [execOp, ha, hai, Instr.indexAt, asIntOf, run_underlying h1, g1, g2, run_sizeOf' h4]; rfl, .ptr _ _ _ _ hb fun bk' md' hg' => ?_⟩
    rw [hg] at hg'
    cases hg'
    exact ⟨q1, by omega, by simp [addr_add, Nat.add_assoc]⟩

theorem st_lenSeg {c : Call} {t el : TypeId} {b i fo n : Nat} {bm : Blk × Md} (h1 : c.callee = .builtin .len) (h2 : c.args.toList.map e = [.seg b i fo n]) (h3 : c.argTypes[0]? = some t) (h4 : P.underlying t = some (.slice el)) (h5 : hget K b = some bm) :
    Step P ⟨dst, .call c, ty, pos, after, guard⟩ e K q (.int .i64 n) [] := by
  obtain ⟨cal, args, ats⟩ := c
  simp only at h1 h2 h3
  subst h1
  obtain ⟨o, rfl, ho⟩ := one_arg h2
  refine step_pure fun m H a w hs hsim hx => ?_
  have hv := hx o (by simp [Op.operands, Call.operands])
  rw [ho] at hv
  generalize ha : a.eval o = vo at hv
  cases hv with
  | seg _ _ _ _ ad n0 cap hb hh =>
    obtain ⟨bk, md⟩ := bm
    obtain ⟨q1, q2, rfl, q3, q4⟩ := hh bk md (hs _ _ h5)
    refine ⟨.int .i64 n0, ?_, .int _ _⟩
    simp [execOp, resolve, invoke, builtin, Builtin.len_, h3, ha, run_underlying h4, goInt]

/-- an element of an array that is a value -/
theorem st_indexArr {t el : TypeId} {N : Nat} {x ix : Operand} {k : IntKind} {i : Int} {l : List AV} {v : AV} (h1 : P.underlying t = some (.array N el)) (h2 : e ix = .int k i) (h3 : e x = .agg l) (h4 : isAggT P el = some false) (h4' : sizeT P el = some 1) (h7 : 0 ≤ i ∧ i < N) (h8 : l[i.toNat]? = some v) :
    Step P ⟨dst, .index t x ix, ty, pos, after, guard⟩ e K q v [] := by
  refine step_pure fun m H a w hs hsim hx => ?_
  have hv := hx x (by simp [Op.operands])
  have hi := hx ix (by simp [Op.operands])
  rw [h3] at hv
  rw [h2] at hi
  generalize ha : a.eval x = vx at hv
  generalize hai : a.eval ix = vi at hi
  cases hi
  cases hv with
  | agg _ cs hl hh =>
    obtain ⟨g1, g2⟩ := h7
    have hlt : i.toNat < cs.size := by
      rw [← hl]
      exact (List.getElem?_eq_some_iff.1 h8).1
    refine ⟨cs[i.toNat], ?_, hh _ v _ h8 (by simp [hlt])⟩
    simp [execOp, ha, hai, Instr.index, asIntOf, run_underlying h1, g1, g2, part, run_isAgg' h4, run_sizeOf' h4', asAgg, hlt]
theorem st_indexArrAgg {t el : TypeId} {N n : Nat} {x ix : Operand} {k : IntKind} {i : Int} {l : List AV} (h1 : P.underlying t = some (.array N el)) (h2 : e ix = .int k i) (h3 : e x = .agg l) (h4 : isAggT P el = some true) (h4' : sizeT P el = some n) (h7 : 0 ≤ i ∧ i < N) (h8 : i.toNat * n + n ≤ l.length) :
    Step P ⟨dst, .index t x ix, ty, pos, after, guard⟩ e K q (.agg ((l.drop (i.toNat * n)).take n)) [] := by
  refine step_pure fun m H a w hs hsim hx => ?_
  have hv := hx x (by simp [Op.operands])
  have hi := hx ix (by simp [Op.operands])
  rw [h3] at hv
  rw [h2] at hi
  generalize ha : a.eval x = vx at hv
  generalize hai : a.eval ix = vi at hi
  cases hi
  cases hv with
  | agg _ cs hl hh =>
    obtain ⟨g1, g2⟩ := h7
    refine ⟨.agg (cs.extract (i.toNat * n) (i.toNat * n + n)), ?_, .agg _ _ (by simp; omega) fun j y u hy hu => ?_⟩
    · simp [execOp, ha, hai, Instr.index, asIntOf, run_underlying h1, g1, g2, part, run_isAgg' h4, run_sizeOf' h4', asAgg]
    · simp only [List.getElem?_take, List.getElem?_drop] at hy
      simp only [Array.getElem?_extract] at hu
      split at hy
      · rw [if_pos (by omega)] at hu
        exact hh _ y u hy hu
      · cases hy
end

/-! two structs with arrays in them -/
theorem eqA2_succ {P : Program} {el : TypeId} {n : Nat} {xs ys : List AV} {b : Bool} (h : eqA2 P el (n + 1) xs ys = some b) : ∃ x y xs' ys' a r, xs = x :: xs' ∧ ys = y :: ys' ∧ eqC P el x y = some a ∧ eqA2 P el n xs' ys' = some r ∧ b = (a && r) := by
  cases xs with
  | nil => cases h
  | cons x xs =>
    cases ys with
    | nil => cases h
    | cons y ys =>
      have e : eqA2 P el (n + 1) (x :: xs) (y :: ys) = match eqC P el x y with
        | some a => Option.rec none (fun r => some (Bool.rec false r a)) (eqA2 P el n xs ys)
        | none => none := rfl
      rw [e] at h
      cases h1 : eqC P el x y with
      | none => rw [h1] at h; cases h
      | some a =>
        rw [h1] at h
        cases h2 : eqA2 P el n xs ys with
        | none => rw [h2] at h; cases h
        | some r =>
          rw [h2] at h
          cases h
          exact ⟨x, y, xs, ys, a, r, rfl, rfl, h1, h2, by cases a <;> rfl⟩

theorem eqA2_sound {P : Program} {m : Map} {H : Heap} {el : TypeId} {xs' ys' : Array Value} (w : World) (d : Nat) : ∀ (n i : Nat) (xs ys : List AV) (b : Bool), eqA2 P el n xs ys = some b → i + n ≤ xs'.size → i + n ≤ ys'.size →
    (∀ (j : Nat) (x : AV) (y : Value), xs[j]? = some x → xs'[i + j]? = some y → VR m H x y) → (∀ (j : Nat) (x : AV) (y : Value), ys[j]? = some x → ys'[i + j]? = some y → VR m H x y) →
    (Op.eqItems (d + 1) el 1 xs' ys' (List.range' i n)).run P w = .ok b w
  | 0, i, xs, ys, b, h, _, _, _, _ => by cases h; simp [Op.eqItems]
  | n + 1, i, xs, ys, b, h, l1, l2, hx, hy => by
    obtain ⟨x, y, xs2, ys2, a, r, rfl, rfl, h1, h2, rfl⟩ := eqA2_succ h
    have k1 : i < xs'.size := by omega
    have k2 : i < ys'.size := by omega
    have v1 := hx 0 x xs'[i] rfl (by simp [k1])
    have v2 := hy 0 y ys'[i] rfl (by simp [k2])
    obtain ⟨e1, e2⟩ := eqC_sound w d h1 v1 v2
    have p1 : (part el xs' (i * 1)).run P w = .ok xs'[i] w := by unfold part; simp [e2, k1]
    have p2 : (part el ys' (i * 1)).run P w = .ok ys'[i] w := by unfold part; simp [e2, k2]
    have e3 := eqA2_sound (m := m) (H := H) (xs' := xs') (ys' := ys') w d n (i + 1) xs2 ys2 r h2 (by omega) (by omega) (fun j x y q1 q2 => hx (j + 1) x y (by simpa using q1) (by rw [show i + (j + 1) = i + 1 + j by omega]; exact q2)) (fun j x y q1 q2 => hy (j + 1) x y (by simpa using q1) (by rw [show i + (j + 1) = i + 1 + j by omega]; exact q2))
    rw [List.range'_succ]
    simp only [Op.eqItems, Sem.run_bind, p1, p2, e1, Result.andThen_ok]
    cases a
    · simp
    · simpa using e3

theorem eqF2_sound {P : Program} {m : Map} {H : Heap} {xs ys : List AV} {xs' ys' : Array Value} (w : World) (d : Nat) (hxl : xs.length = xs'.size) (hyl : ys.length = ys'.size)
    (hx : ∀ (j : Nat) (x : AV) (y : Value), xs[j]? = some x → xs'[j]? = some y → VR m H x y) (hy : ∀ (j : Nat) (x : AV) (y : Value), ys[j]? = some x → ys'[j]? = some y → VR m H x y) :
    ∀ (fs : List Field) (b : Bool), eqF2 P xs ys fs = some b → (Op.eqFields (d + 1 + 1) xs' ys' fs).run P w = .ok b w := by
  intro fs
  induction fs with
  | nil => intro b h; simp only [eqF2] at h; cases h; rfl
  | cons f fs ih =>
    intro b h
    simp only [eqF2] at h
    split at h
    · cases h
    · rename_i hn
      split at h
      · rename_i a ha
        split at h
        · rename_i r hr
          cases h
          have e3 := ih r hr
          have key : ∃ p q, (part f.type xs' f.offset).run P w = .ok p w ∧ (part f.type ys' f.offset).run P w = .ok q w ∧ (Op.equalIn (d + 1 + 1) f.type p q).run P w = .ok a w := by
            split at ha
            · rename_i n el hu
              split at ha
              · rename_i hc
                obtain ⟨c1, c2, c3, c4, c5⟩ := hc
                obtain ⟨i, hi⟩ : ∃ i, P.info? el = some i := by
                  unfold sizeT at c3
                  split at c3
                  · rename_i i hi; exact ⟨i, hi⟩
                  · cases c3
                have hce : P.cellsOf el = 1 := by
                  have q1 := run_sizeOf' c3 w
                  have q2 := run_sizeOf (P := P) w hi
                  rw [q1] at q2
                  injection q2 with q3
                  exact q3.symm
                refine ⟨.agg (xs'.extract f.offset (f.offset + n)), .agg (ys'.extract f.offset (f.offset + n)), ?_, ?_, ?_⟩
                · unfold part; simp only [Sem.run_bind, run_isAgg' c1, Result.andThen_ok, if_true, run_sizeOf' c2, Sem.run_pure]
                · unfold part; simp only [Sem.run_bind, run_isAgg' c1, Result.andThen_ok, if_true, run_sizeOf' c2, Sem.run_pure]
                · rw [run_equalIn_array w (d + 1) _ _ hu hi, hce, List.range_eq_range']
                  refine eqA2_sound (m := m) (H := H) w d n 0 _ _ a ha (by simp; omega) (by simp; omega) (fun j x y q1 q2 => ?_) fun j x y q1 q2 => ?_
                  · rw [List.getElem?_drop] at q1
                    rw [Nat.zero_add, Array.getElem?_extract] at q2
                    split at q2
                    · exact hx _ x y q1 q2
                    · cases q2
                  · rw [List.getElem?_drop] at q1
                    rw [Nat.zero_add, Array.getElem?_extract] at q2
                    split at q2
                    · exact hy _ x y q1 q2
                    · cases q2
              · cases ha
            · split at ha
              · rename_i x y h1 h2
                have l1 : f.offset < xs'.size := by rw [← hxl]; exact (List.getElem?_eq_some_iff.1 h1).1
                have l2 : f.offset < ys'.size := by rw [← hyl]; exact (List.getElem?_eq_some_iff.1 h2).1
                have v1 := hx f.offset x xs'[f.offset] h1 (by simp [l1])
                have v2 := hy f.offset y ys'[f.offset] h2 (by simp [l2])
                obtain ⟨e1, e2⟩ := eqC_sound w (d + 1) ha v1 v2
                exact ⟨_, _, by unfold part; simp [e2, l1], by unfold part; simp [e2, l2], e1⟩
              · cases ha
          obtain ⟨p, q, p1, p2, e1⟩ := key
          simp only [Op.eqFields, Sem.run_ite, if_pos (show f.name ≠ "_" from hn), Sem.run_bind, p1, p2, e1, Result.andThen_ok]
          cases a
          · simp
          · simp [e3]
        · cases h
      · cases h

theorem eqS2_sound {P : Program} {t : TypeId} {m : Map} {H : Heap} {xs ys : List AV} {x' y' : Value} {b : Bool} {op : BinOp} (w : World) (X0 Y0 : Operand) (ho : op = .eql ∨ op = .neq) (h : eqS2 P t xs ys = some b) (hx : VR m H (.agg xs) x') (hy : VR m H (.agg ys) y') :
    (do eqGuard op t X0 Y0 x' y'; binOp op t x' y' : Sem Value).run P w = .ok (.bool (if op = .eql then b else !b)) w := by
  unfold eqS2 at h
  split at h
  · rename_i fs hf
    split at h
    · rename_i hs
      unfold Ab.fieldsOf at hf
      split at hf
      · rename_i fs' hu
        injection hf with hf
        subst hf
        cases hx with
        | agg _ cs hl hv =>
          cases hy with
          | agg _ cs' hl' hv' =>
            have hfo : P.fieldsOf t = fs' := by unfold Program.fieldsOf; rw [hu]
            have e := run_equalIn_agg (P := P) w 9999 t cs cs' (by rw [hfo]; exact hu) hs.1
            rw [hfo] at e
            have e2 := eqF2_sound w 9997 hl hl' hv hv' fs'.toList b h
            rw [Sem.run_bind, run_eqGuard_agg w op t X0 Y0 cs cs' hs.2, Result.andThen_ok]
            rcases ho with rfl | rfl
            · rw [run_eql_struct, show (10000 : Nat) = 9999 + 1 from rfl, e, e2]; rfl
            · rw [run_neq_struct, show (10000 : Nat) = 9999 + 1 from rfl, e, e2]; rfl
      · cases hf
    · cases h
  · cases h
theorem st_binAgg {P : Program} {e : Operand → AV} {K : Heap} {q : Nat} {dst : Option Tmp} {ty : TypeId} {pos : String} {after : Array Edge} {guard : Option (Nat × Bool)} {op : BinOp} {t ty' : TypeId} {x y : Operand} {xs ys : List AV} {b : Bool} (h1 : e x = .agg xs) (h2 : e y = .agg ys) (h : eqS2 P t xs ys = some b) (ho : op = .eql ∨ op = .neq) :
    Step P ⟨dst, .binOp op t x y ty', ty, pos, after, guard⟩ e K q (.bool (if op = .eql then b else !b)) [] := by
  refine step_pure fun m H a w hs _ hx => ?_
  have hvx := hx x (by simp [Op.operands])
  have hvy := hx y (by simp [Op.operands])
  rw [h1] at hvx
  rw [h2] at hvy
  have h3 := eqS2_sound w x y ho h hvx hvy
  refine ⟨_, ?_, .bool _⟩
  simp only [execOp]
  simp only [Sem.run_bind] at h3 ⊢
  rw [h3]
  simp
theorem VR.str_inv {m : Map} {H : Heap} {s : ByteArray} {v : Value} (h : VR m H (.str s) v) : v = .string s := by cases h; rfl
theorem st_binStr {P : Program} {e : Operand → AV} {K : Heap} {q : Nat} {dst : Option Tmp} {ty : TypeId} {pos : String} {after : Array Edge} {guard : Option (Nat × Bool)} {op : BinOp} {t ty' : TypeId} {x y : Operand} {a b : ByteArray} (h1 : e x = .str a) (h2 : e y = .str b) (ho : op = .eql ∨ op = .neq) :
    Step P ⟨dst, .binOp op t x y ty', ty, pos, after, guard⟩ e K q (.bool (if op = .eql then a.data.toList == b.data.toList else !(a.data.toList == b.data.toList))) [] := by
  refine step_pure fun m H a0 w hs _ hx => ?_
  have hvx := hx x (by simp [Op.operands])
  have hvy := hx y (by simp [Op.operands])
  rw [h1] at hvx
  rw [h2] at hvy
  have ex := hvx.str_inv
  have ey := hvy.str_inv
  refine ⟨_, ?_, .bool _⟩
  rcases ho with rfl | rfl
  · simp only [execOp, ex, ey, binOp_string_eql, ByteArray.toList_eq]; rfl
  · simp only [execOp, ex, ey, binOp_string_neq, ByteArray.toList_eq]; rfl
theorem st_binStrAdd {P : Program} {e : Operand → AV} {K : Heap} {q : Nat} {dst : Option Tmp} {ty : TypeId} {pos : String} {after : Array Edge} {guard : Option (Nat × Bool)} {t ty' : TypeId} {x y : Operand} {a b : ByteArray} (h1 : e x = .str a) (h2 : e y = .str b) (hn : a.size + b.size ≤ 9223372036854775807) :
    Step P ⟨dst, .binOp .add t x y ty', ty, pos, after, guard⟩ e K q (.str (a ++ b)) [] := by
  refine step_pure fun m H a0 w hs _ hx => ?_
  have hvx := hx x (by simp [Op.operands])
  have hvy := hx y (by simp [Op.operands])
  rw [h1] at hvx
  rw [h2] at hvy
  have ex := hvx.str_inv
  have ey := hvy.str_inv
  refine ⟨_, ?_, .str _⟩
  have hr := run_string_add_sum (P := P) w a b hn
  simp only [execOp, ex, ey, binOp_string_add, eqGuard]
  simp [hr, Result.andThen]
end Go.Ab
