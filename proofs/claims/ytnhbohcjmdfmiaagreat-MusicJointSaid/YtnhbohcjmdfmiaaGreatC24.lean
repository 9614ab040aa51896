/- Concrete runs: math/bits.Add64, a function without a body. No condition. -/
import Derived.Test.YtnhbohcjmdfmiaaGreatC19
import Derived.Laws.Externs
set_option linter.unusedVariables false
set_option linter.unusedSimpArgs false
namespace Go.Ab
open Go
noncomputable section
variable {e k : Nat} {P : Program} {E : EM}
theorem add_rows : Extern.allGenericRows.lookup "math/bits.Add64" = none ∧ Extern.allTypedRows.lookup "math/bits.Add64" = none ∧ Extern.allNextRows.lookup "math/bits.Add64" = none ∧ Extern.allNextRows.lookup "" = none := ⟨by kernel_rfl, by kernel_rfl, by kernel_rfl, by kernel_rfl⟩
theorem add_row : Extern.allRows.lookup "math/bits.Add64" = some add64Entry := by kernel_rfl
theorem add_call {g : FuncId} (h : isAdd P g = true) (args : Array Value) (w : World) : (callFunc g args).run P w = ((add64Entry args).run P w).andThen fun v w' => .ok (.value v) w' := by
  unfold isAdd at h
  split at h
  · rename_i fn hf
    split at h
    · rename_i hb
      rw [Bool.and_eq_true, beq_iff_eq, beq_iff_eq] at h
      obtain ⟨h1, h2⟩ := h
      obtain ⟨r1, r2, r3, r4⟩ := add_rows
      refine run_callFunc_extern hf (by rw [h1]; rfl) (by rw [hb]; rfl) ?_ ?_ args w
      · unfold Extern.findNext
        rw [h1, h2]
        simp only [r3, r4, Option.map_none]
        rfl
      · unfold Extern.find
        rw [h1, h2]
        simp only [r1, r2, add_row, Option.map_none]
        rfl
    · cases h
  · cases h
theorem u64C_inv {f : Int → Out e} {v : CV} (h : u64C v f ≠ .bad) : ∃ a, v = .oth (.int .u64 a) ∧ 0 ≤ a ∧ u64C v f = f a := by
  rcases onInt_inv h with ⟨n, rfl, h1⟩ | ⟨kd, n, rfl, h1⟩
  · change u64C (.i n) f = _ at h1
    rw [h1] at h; exact absurd rfl h
  · change u64C (.oth (.int kd n)) f = _ at h1
    rw [h1] at h
    obtain ⟨h2, h3⟩ := chk_inv h
    rw [h3] at h
    obtain ⟨h4, h5⟩ := chk_inv h
    have hk : kd = .u64 := by
      cases kd <;> first | rfl | (exact absurd h2 (by decide))
    subst hk
    refine ⟨n, rfl, ?_, by rw [h1, h3, h5]⟩
    rw [ltI_eq] at h4
    by_cases hn : n < 0
    · rw [decide_eq_true hn] at h4; cases h4
    · omega
theorem vr_int {m : Map} {H : Heap} {k : IntKind} {n : Int} {v : Value} (h : VR m H (.int k n) v) : v = .int k n := by cases h; rfl
theorem good_add (cl : Call) (g : FuncId) (hcal : cl.callee = .value (.func g)) (hg : isAdd P g = true) {dst : Option Tmp} {ty : TypeId} {pos : String} {after : Array Edge} {guard : Option (Nat × Bool)} : OpGood P E k (op_add (e := e) E k cl) ⟨dst, .call cl, ty, pos, after, guard⟩ := by
  intro c st tm T n K hc hT h
  generalize hF : op_add E k cl = F at h ⊢
  unfold op_add at hF
  split at hF
  · rename_i f1 f2 f3 hargs
    subst hF
    change u64C (f1 st tm) _ ≠ .bad at h
    obtain ⟨x, hx, hx0, h1⟩ := u64C_inv h
    rw [h1] at h
    obtain ⟨y, hy, hy0, h2⟩ := u64C_inv h
    rw [h2] at h
    obtain ⟨z, hz, hz0, h3⟩ := u64C_inv h
    rw [h3] at h
    obtain ⟨h4, h5⟩ := chk_inv h
    have hz1 : z ≤ 1 := by
      rw [ltI_eq] at h4
      by_cases hn : 1 < z
      · rw [decide_eq_true hn] at h4; cases h4
      · omega
    have hcl : clsOf P (.call cl) = .x := by simp only [clsOf, hcal]
    have hev : cl.args.toList.map (fun x => (valO E k st tm x).av) = [.int .u64 x, .int .u64 y, .int .u64 z] := by
      have := evs_av (E := E) (k := k) (e := e) cl.args.toList st tm
      rw [hargs] at this
      rw [← this]
      show [CV.av (f1 st tm), CV.av (f2 st tm), CV.av (f3 st tm)] = _
      rw [hx, hy, hz]; rfl
    have hst : Step P ⟨dst, .call cl, ty, pos, after, guard⟩ (fun x => (valO E k st tm x).av) (absH T) n (.tuple [.int .u64 ((x + y + z) % 18446744073709551616), .int .u64 ((x + y + z) / 18446744073709551616)]) [] := by
      obtain ⟨cal, args, ats⟩ := cl
      simp only at hcal hev
      subst hcal
      refine step_pure fun m H a w hs hsim hxx => ?_
      have har := arr_rel (m := m) (H := H) (e := fun x => (valO E k st tm x).av) (a := a) (xs := args) fun x hm => hxx x (by simp [Op.operands, Call.operands, hm])
      rw [hev] at har
      have hargs2 : args.map a.eval = #[.int .u64 x, .int .u64 y, .int .u64 z] := by
        have hl : (args.map a.eval).size = 3 := har.1.symm
        refine Array.ext (by rw [hl]; rfl) fun i i1 i2 => ?_
        have hi : i < 3 := by rw [hl] at i1; exact i1
        match i, hi with
        | 0, _ => exact vr_int (har.2 0 _ _ rfl (Array.getElem?_eq_getElem i1))
        | 1, _ => exact vr_int (har.2 1 _ _ rfl (Array.getElem?_eq_getElem i1))
        | 2, _ => exact vr_int (har.2 2 _ _ rfl (Array.getElem?_eq_getElem i1))
      refine ⟨.tuple #[.int .u64 ((x + y + z) % 18446744073709551616), .int .u64 ((x + y + z) / 18446744073709551616)], ?_, .tuple _ _ rfl fun j u v hu hv => ?_⟩
      · have hag : a.eval (.func g) = .func (.func g) #[] #[] := rfl
        simp [execOp, resolve, hag, Deferred.ofValue, invoke, hargs2, add_call hg, run_add64 x y z hx0 hy0 hz0 hz1]
      · match j, hu, hv with
        | 0, hu, hv => simp at hu hv; subst hu hv; exact .int _ _
        | 1, hu, hv => simp at hu hv; subst hu hv; exact .int _ _
    have hL := Ran.call (P := P) (o := ⟨dst, .call cl, ty, pos, after, guard⟩) (ev := fun x => (valO E k st tm x).av) (v := .tuple [.int .u64 ((x + y + z) % 18446744073709551616), .int .u64 ((x + y + z) / 18446744073709551616)]) (T' := T) (n' := n) hT hcl (.refl _ _) (by
      have e0 : Lof T n T n = [] := List.eq_nil_iff_forall_not_mem.2 fun b hb => by
        obtain ⟨_, q2, q3⟩ := mem_Lof.1 hb
        rcases q3 with q3 | q3
        · omega
        · exact q3 rfl
      rw [e0]; exact hst)
    exact ⟨.oth (.tuple [.int .u64 ((x + y + z) % 18446744073709551616), .int .u64 ((x + y + z) / 18446744073709551616)]), T, n, _, by show u64C (f1 st tm) _ = _; rw [h1, h2, h3, h5], hL⟩
  · subst hF; exact absurd rfl h
/-- append([]T{}, x[:]...), x an array in a struct -/
theorem st_appSeg {cl : Call} {s x : Operand} {t t' el el' : TypeId} {i : TypeInfo} {zs : List Value} {ev : Operand → AV} {K : Heap} {q b' b j fo len w num d a a' : Nat} {c : QT CV d} {md : Md} {ki : IntKind} {ns : List Int} (hcal : cl.callee = .builtin .append) (ha : cl.args.toList = [s, x]) (ht0 : cl.argTypes[0]? = some t) (ht1 : cl.argTypes[1]? = some t') (hsz : cl.argTypes.size = 2)
    (ht : P.underlying t = some (.slice el)) (ht' : P.underlying t' = some (.slice el')) (hi : P.info? el = some i) (hz : zerosOf P el = some zs) (hbytes : 0 < i.bytes) (hi1 : i.size = 1)
    (hes : ev s = .whole b') (hgs : hget K b' = some (intsBlk ki 0 a', .own)) (hex : ev x = .seg b j fo len) (hgx : hget K b = some (cellsBlk w num d c, md)) (hj : j < num) (hw : fo + len ≤ w) (hlen : 0 < len) (hns : ns.length = len)
    (hl : (cellsL c (j * w + fo) len).map CV.av = ns.map (AV.int ki)) (hdec : ∀ i, i < ns.length → dDec (dGet a i) = ns.getD i 0) (hfit : len * i.bytes ≤ 140737488355328) {dst : Option Tmp} {ty : TypeId} {pos : String} {after : Array Edge} {guard : Option (Nat × Bool)} :
    Step P ⟨dst, .call cl, ty, pos, after, guard⟩ ev K q (.whole q) [(b', .dead), (q, .live (intsBlk ki len a) .own)] := by
  obtain ⟨cal, args, ats⟩ := cl
  simp only at hcal ha ht0 ht1 hsz
  subst hcal
  obtain ⟨args⟩ := args
  simp only at ha
  subst ha
  have hat : ats = #[t, t'] := by
    obtain ⟨l⟩ := ats
    match l, hsz with
    | [y, y'], _ => simp at ht0 ht1; rw [ht0, ht1]
  subst hat
  obtain ⟨i', z, hi', hz', hzs, hpos, hzl, hz1⟩ := zerosOf_sound hz
  rw [hi] at hi'
  cases hi'
  have hz1' : ∀ v ∈ z.cells.toList, v.oneCell' = true := by rw [← hzl]; exact hz1
  refine step_val fun m H act wd hs hq hsim hxx => ?_
  have hv := hxx s (by simp [Op.operands, Call.operands])
  have hv' := hxx x (by simp [Op.operands, Call.operands])
  rw [hes] at hv
  rw [hex] at hv'
  have hq0 : hkn H q = false := hq (q, .live (intsBlk ki len a) .own) (by simp) (Nat.le_refl _)
  have hg1 := hs _ _ hgs
  have hg2 := hs _ _ hgx
  generalize hvs : act.eval s = vs at hv
  generalize hvx : act.eval x = vx at hv'
  have hw0 : 0 < w := by omega
  cases hv with
  | whole _ a0 n0 cap0 hk0 hv0 =>
    obtain ⟨z1, z2, z3, z4⟩ := hv0 _ _ hg1
    rw [ints_num] at z1
    subst z1
    cases hv' with
    | seg _ _ _ _ a2 n2 cap2 hk2 hv2 =>
      obtain ⟨y1, y2, y3, y4, y5⟩ := hv2 _ _ hg2
      subst y3
      have hstr : (cellsBlk w num d c).str = w := rfl
      obtain ⟨cs, c1, _, c2, c4⟩ := ldn_sound hsim hg2 y1 n2 fo ((cellsL c (j * w + fo) n2).map CV.av) hw (by rw [ldn_cells y1 n2 fo hw, avs_eq])
      have hcs : ∀ (p : Nat), p < n2 → cs[p]? = some (.int ki (ns.getD p 0)) := fun p hp => by
        have e1 : ((cellsL c (j * w + fo) n2).map CV.av)[p]? = some (.int ki (ns.getD p 0)) := by
          rw [hl, List.getElem?_map, List.getElem?_eq_getElem (by omega)]
          simp [List.getD_eq_getElem?_getD, hns, hp]
        have hcp : p < cs.length := by rw [c1]; exact hp
        have := c4 p _ _ e1 (List.getElem?_eq_getElem hcp)
        rw [List.getElem?_eq_getElem hcp, vr_int this]
      have hone : ∀ v ∈ cs, v.oneCell' = true := fun v hvm => by
        obtain ⟨p, hp⟩ := List.mem_iff_getElem?.1 hvm
        have hlt := (List.getElem?_eq_some_iff.1 hp).1
        rw [hcs p (by rw [← c1]; exact hlt)] at hp
        cases hp; rfl
      have hrd : RD m H wd (intsBlk ki n2 a) a2 n2 cs := by
        refine ⟨trivial, (ints_num _ _ _).symm, by rw [c1]; exact (Nat.mul_one _).symm, fun h0 => ?_, hone, fun p f hp hf => ?_⟩
        · have hc0 : 0 < cap2 := by omega
          refine ⟨_, y5 hc0, fun p v hpv => ?_⟩
          have := c2 p v hpv
          rw [addr_add]
          exact this
        · have hf1 : f < 1 := hf
          obtain rfl : f = 0 := by omega
          rw [ints_num] at hp
          refine ⟨_, _, ints_ld (by rw [ints_num]; exact hp) Nat.one_pos, ?_, .int _ _⟩
          have e1 : (intsBlk ki n2 a).str = 1 := rfl
          rw [e1, Nat.mul_one, Nat.add_zero, hcs p hp, hdec p (by omega)]
      have hqK : hkn (hfill H b' .dead) q = false := by
        rw [hkn_fill]
        by_cases e : q = b'
        · subst e
          rw [hget_kn hg1] at hq0; cases hq0
        · rw [if_neg e]; exact hq0
      have hext := z3 rfl
      have e1 : (intsBlk ki 0 a').str = 1 := rfl
      have e2 : (intsBlk ki n2 a).str = 1 := rfl
      obtain ⟨v', m', w', r1, r2, r3, r4⟩ := append_core (P := P) (K := hfill H b' .dead) (ty := ty) hsim hqK ht ht' (by simp) hi hz' hzs hz1' hpos hbytes (bk := intsBlk ki n2 a) trivial (by rw [e2, hi1]) (a := a0) (sLen := 0) (cap := cap0) (Nat.zero_le _) (olds := []) (news := cs) (x := .slice a2 n2 cap2) (n := n2)
        (by rw [ints_num]; omega) (by simp) (by rw [c1, hi1, Nat.mul_one]) (by simp) hone rfl (fun w2 hw2 => by have := hrd.first (P := P) (cap := cap2) w2 hw2; rw [e2] at this; rw [hi1]; exact this)
        (fun w2 hw2 => by
          have := (RD.empty (m := m) (H := H) (w := wd) (bk := intsBlk ki 0 a') (a := a0) trivial (ints_num _ _ _)).first (P := P) (cap := cap0) w2 hw2
          rw [e1] at this; rw [hi1]; exact this)
        (by simpa using hrd.at_) (.blk b' _ 0 hg1 rfl (by rw [e1, hi1]) (by rw [hi1, Nat.zero_mul, Nat.mul_one, Nat.zero_add]; have := hext.1; rw [e1, Nat.mul_one, Nat.zero_add] at this; exact this) (fun hc => by rw [z4 hc, e1, hi1]) (by simp)) (by rw [ints_num]; exact hfit) (.inl ⟨rfl, .inl (by omega)⟩)
      refine ⟨v', m', w', ?_, r2, r3, r4⟩
      simp [execOp, resolve, invoke, builtin, hvs, hvx, r1]
theorem good_append0 (cl : Call) (hcal : cl.callee = .builtin .append) {dst : Option Tmp} {ty : TypeId} {pos : String} {after : Array Edge} {guard : Option (Nat × Bool)} : OpGood P E k (op_append0 (e := e) P E k cl) ⟨dst, .call cl, ty, pos, after, guard⟩ := by
  intro c st tm T n K hc hT h
  generalize hF : op_append0 P E k cl = F at h ⊢
  have hcl : clsOf P (.call cl) = .x := by simp only [clsOf, hcal]
  unfold op_append0 at hF
  split at hF
  · rename_i s x t t' ha ht ht' hsz
    split at hF
    · rename_i el ik f g hu hu' hs hx
      split at hF
      · rename_i i hi
        simp only [natK_eq] at hF
        subst hF
        dsimp only [OpC.run] at h ⊢
        obtain ⟨kd, mm, hgv, h1⟩ := natI_inv h
        rw [h1] at h ⊢
        obtain ⟨h2, h3⟩ := chk_inv h
        rw [h3] at h ⊢
        obtain ⟨h4, h5⟩ := strS_inv h
        rw [h4]
        obtain rfl := Nat.eq_of_beq_eq_true h2
        refine ⟨_, T, n, [], rfl, Ran.pure (by rw [hcl]; simp) fun KH hK => ?_⟩
        have hK' : ∀ b, hget KH b = hget (absH T) b := by rw [hcl] at hK; exact hK
        obtain ⟨cal, args, ats⟩ := cl
        simp only at hcal ha ht ht' hsz
        subst hcal
        obtain ⟨args⟩ := args
        simp only at ha
        subst ha
        have hat : ats = #[t, t'] := by
          obtain ⟨l⟩ := ats
          have hsz' := Nat.eq_of_beq_eq_true hsz
          match l, hsz' with
          | [y, y'], _ => simp at ht ht'; rw [ht, ht']
        subst hat
        refine step_pure fun m' H a w hs' hsim hxx => ?_
        have hv := hxx s (by simp [Op.operands, Call.operands])
        have hv' := hxx x (by simp [Op.operands, Call.operands])
        simp only [valO_of hs] at hv
        simp only [valO_of hx, hgv] at hv'
        have hvx : a.eval x = .int kd (.ofNat 0) := vr_int hv'
        have hsl : ∃ b l cp, a.eval s = .slice b l cp ∧ l ≤ cp := by
          generalize a.eval s = vs at hv
          rcases h5 with h5 | ⟨b, bk, md, q1, q2, q3, q4⟩
          · rw [h5] at hv
            have hv2 : VR m' H .nilSlice vs := hv
            cases hv2
            exact ⟨none, 0, 0, rfl, Nat.le_refl _⟩
          · have hgH : hget H b = some (bk, md) := hs' _ _ (by rw [hK' b]; exact q3)
            rcases q4 with ⟨q4 | ⟨o, l, q4⟩, _⟩ | ⟨⟨i', o, l, q4⟩, _⟩
            · rw [q4] at hv
              have hv2 : VR m' H (.whole b) vs := hv
              cases hv2 with
              | whole _ a0 n0 cap hk hvv =>
                obtain ⟨z1, z2⟩ := hvv _ _ hgH
                exact ⟨a0, n0, cap, rfl, by rw [z1]; exact z2.1⟩
            · rw [q4] at hv
              have hv2 : VR m' H (.part b o l) vs := hv
              cases hv2 with
              | part _ _ _ a0 n0 cap hk hvv =>
                obtain ⟨_, z1, z2⟩ := hvv _ _ hgH
                exact ⟨a0, n0, cap, rfl, by rw [z1]; exact z2.1⟩
            · rw [q4] at hv
              have hv2 : VR m' H (.seg b i' o l) vs := hv
              cases hv2 with
              | seg _ _ _ _ a0 n0 cap hk hvv =>
                obtain ⟨_, _, z1, z2, _⟩ := hvv _ _ hgH
                exact ⟨a0, n0, cap, rfl, by rw [z1]; exact z2⟩
        obtain ⟨b, l, cp, hvs, hle⟩ := hsl
        refine ⟨.slice b l cp, ?_, by rw [← hvs]; exact hv⟩
        have hw0 : IntKind.i64.wrap 0 = 0 := by decide
        cases b <;> simp [execOp, resolve, invoke, builtin, hvs, hvx, Builtin.append_, run_underlying hu, run_underlying hu', sizeOf, typeInfo, hi, asInt, asIntOf, hw0, hle, storeCells]
      · subst hF; exact absurd rfl h
    · subst hF; exact absurd rfl h
  · subst hF; exact absurd rfl h
theorem good_appSeg (cl : Call) (hcal : cl.callee = .builtin .append) {dst : Option Tmp} {ty : TypeId} {pos : String} {after : Array Edge} {guard : Option (Nat × Bool)} : OpGood P E k (op_appSeg (e := e) P E k cl) ⟨dst, .call cl, ty, pos, after, guard⟩ := by
  have hgood : OpGood P E k (op_append (e := e) P E k cl) ⟨dst, .call cl, ty, pos, after, guard⟩ := good_append cl hcal
  have hcl : clsOf P (.call cl) = .x := by simp only [clsOf, hcal]
  unfold op_appSeg
  split
  · rename_i s x t t' ha ht0 ht1 hsz
    split
    · rename_i el el' f g ht ht' hs hx
      split
      · rename_i i zs F hi hz hF
        rw [hF] at hgood
        split
        · rename_i hb hsz1
          rw [natK_eq]
          intro c st tm T n K hc hT h
          dsimp only [OpC.run] at h ⊢
          cases hgx : g st tm with
          | seg b j fo len =>
            rw [hgx] at h
            change appSeg T n i.bytes (f st tm) b j fo len K ≠ .bad at h
            show ∃ v T' n' L, appSeg T n i.bytes (f st tm) b j fo len K = K v T' n' ∧ _
            cases hfx : f st tm with
            | whole b' =>
              rw [hfx] at h
              have e0 : appSeg T n i.bytes (.whole b') b j fo len K = atB T b' (fun _ _ _ _ _ _ => .bad) (fun ki num' _ md _ => chk (ownOk md) (chk (Nat.beq num' 0) (chk (fit1 i.bytes len)
                  (atB T b (fun w num _ c _ _ => chk (Nat.ble (Nat.add fo len) w) (chk (Nat.ble (Nat.succ j) num) (natK (Nat.add (Nat.mul j w) fo) fun j => digs ki (cellsL c j len) fun a => newH (fun n => .ints ki len a .own n) (killB T b') n fun q T n => K (.whole q) T n)))
                    (fun _ _ _ _ _ => .bad))))) := rfl
              rw [e0] at h ⊢
              obtain ⟨hb', ⟨w1, num1, d1, cc1, md1, s1, h1, h2⟩ | ⟨ki, num', a', md1, s1, h1, h2⟩⟩ := atB_inv h
              · rw [h2] at h; exact absurd rfl h
              · rw [h2] at h ⊢
                obtain ⟨h3, h4⟩ := chk_inv h
                rw [h4] at h ⊢
                obtain ⟨h5, h6⟩ := chk_inv h
                rw [h6] at h ⊢
                obtain ⟨h7, h8⟩ := chk_inv h
                rw [h8] at h ⊢
                have hown : md1 = .own := by cases md1 <;> first | rfl | cases h3
                subst hown
                obtain rfl := Nat.eq_of_beq_eq_true h5
                obtain ⟨hbb, ⟨w, num, d, cc, md2, s2, g1, g2⟩ | ⟨kd, num2, a2, md2, s2, g1, g2⟩⟩ := atB_inv h
                · rw [g2] at h ⊢
                  obtain ⟨k1, k2⟩ := chk_inv h
                  rw [k2] at h ⊢
                  obtain ⟨k3, k4⟩ := chk_inv h
                  rw [k4, natK_eq] at h ⊢
                  obtain ⟨a, ns, k5, k6, k7⟩ := digs_inv h
                  rw [k5] at h ⊢
                  obtain ⟨hn, k8⟩ := newH_inv h
                  rw [k8]
                  have hns : ns.length = len := by
                    have := congrArg List.length k6
                    rw [List.length_map, List.length_map, cellsL_len] at this
                    exact this.symm
                  have hfit : len * i.bytes ≤ 140737488355328 ∧ 0 < len := by
                    unfold fit1 at h7
                    cases hq : fitB i.bytes len with
                    | false => rw [hq] at h7; cases h7
                    | true => rw [hq] at h7; exact ⟨Nat.le_of_ble_eq_true hq, Nat.le_of_ble_eq_true h7⟩
                  refine ⟨_, _, _, [b', n], rfl, Ran.app hT hb' (by rw [h1]; rfl) hn rfl (Nat.lt_irrefl _) (fun w num d c md s he => by cases he) hcl fun KH hK => ?_⟩
                  exact st_appSeg (s := s) (x := x) hcal ha ht0 ht1 (Nat.eq_of_beq_eq_true hsz) ht ht' hi hz (Nat.le_of_ble_eq_true hb) (Nat.eq_of_beq_eq_true hsz1)
                    (by simp only [valO_of hs, hfx]; rfl) (by rw [hK]; exact blk_old hb' h1 rfl) (by simp only [valO_of hx, hgx]; rfl) (by rw [hK]; exact blk_old hbb g1 rfl) (Nat.le_of_ble_eq_true k3) (Nat.le_of_ble_eq_true k1) hfit.2 hns k6 k7 hfit.1
                · rw [g2] at h; exact absurd rfl h
            | i _ => rw [hfx] at h; exact absurd rfl h
            | bool _ => rw [hfx] at h; exact absurd rfl h
            | ptr _ _ _ => rw [hfx] at h; exact absurd rfl h
            | sl _ _ _ => rw [hfx] at h; exact absurd rfl h
            | seg _ _ _ _ => rw [hfx] at h; exact absurd rfl h
            | oth _ => rw [hfx] at h; exact absurd rfl h
          | i _ => rw [hgx] at h; exact hgood c st tm T n K hc hT h
          | bool _ => rw [hgx] at h; exact hgood c st tm T n K hc hT h
          | ptr _ _ _ => rw [hgx] at h; exact hgood c st tm T n K hc hT h
          | whole _ => rw [hgx] at h; exact hgood c st tm T n K hc hT h
          | sl _ _ _ => rw [hgx] at h; exact hgood c st tm T n K hc hT h
          | oth _ => rw [hgx] at h; exact hgood c st tm T n K hc hT h
        · exact hgood
      · exact hgood
    · exact hgood
  · exact hgood
theorem good_app2 (cl : Call) (hcal : cl.callee = .builtin .append) {dst : Option Tmp} {ty : TypeId} {pos : String} {after : Array Edge} {guard : Option (Nat × Bool)} : OpGood P E k (op_app2 (e := e) P E k cl) ⟨dst, .call cl, ty, pos, after, guard⟩ := by
  unfold op_app2
  cases hg : isMk P cl with
  | true => exact good_append0 cl hcal
  | false => exact good_appSeg cl hcal
/-! functions without a body, done in place -/
def extE : Nat → Array Value → Sem Value
  | 0 => Extern.BytealgIndexByte.indexByte
  | 1 => Extern.BytealgCount.count
  | _ => Extern.AbiNoEscape.same
theorem ext_rows : (Extern.allGenericRows.lookup "internal/bytealg.IndexByteString" = none ∧ Extern.allTypedRows.lookup "internal/bytealg.IndexByteString" = none ∧ Extern.allNextRows.lookup "internal/bytealg.IndexByteString" = none ∧ Extern.allRows.lookup "internal/bytealg.IndexByteString" = some (extE 0)) ∧
    (Extern.allGenericRows.lookup "internal/bytealg.CountString" = none ∧ Extern.allTypedRows.lookup "internal/bytealg.CountString" = none ∧ Extern.allNextRows.lookup "internal/bytealg.CountString" = none ∧ Extern.allRows.lookup "internal/bytealg.CountString" = some (extE 1)) ∧
    (Extern.allGenericRows.lookup "internal/abi.NoEscape" = none ∧ Extern.allTypedRows.lookup "internal/abi.NoEscape" = none ∧ Extern.allNextRows.lookup "internal/abi.NoEscape" = none ∧ Extern.allRows.lookup "internal/abi.NoEscape" = some (extE 2)) ∧ Extern.allNextRows.lookup "" = none :=
  ⟨⟨by kernel_rfl, by kernel_rfl, by kernel_rfl, by kernel_rfl⟩, ⟨by kernel_rfl, by kernel_rfl, by kernel_rfl, by kernel_rfl⟩, ⟨by kernel_rfl, by kernel_rfl, by kernel_rfl, by kernel_rfl⟩, by kernel_rfl⟩
theorem extK_spec {g : FuncId} {i : Nat} (h : extK P g = some i) : ∃ fn name, P.funcs[g]? = some fn ∧ fn.body = none ∧ fn.origin = "" ∧ fn.name = name ∧
    ((i = 0 ∧ name = "internal/bytealg.IndexByteString") ∨ (i = 1 ∧ name = "internal/bytealg.CountString") ∨ (i = 2 ∧ name = "internal/abi.NoEscape")) := by
  unfold extK at h
  split at h
  · rename_i fn hf
    split at h
    · rename_i hb ho
      refine ⟨fn, fn.name, hf, hb, by simpa using ho, rfl, ?_⟩
      cases h1 : fn.name == "internal/bytealg.IndexByteString" with
      | true => rw [h1] at h; cases h; exact .inl ⟨rfl, by simpa using h1⟩
      | false =>
        rw [h1] at h
        cases h2 : fn.name == "internal/bytealg.CountString" with
        | true => rw [h2] at h; cases h; exact .inr (.inl ⟨rfl, by simpa using h2⟩)
        | false =>
          rw [h2] at h
          cases h3 : fn.name == "internal/abi.NoEscape" with
          | true => rw [h3] at h; cases h; exact .inr (.inr ⟨rfl, by simpa using h3⟩)
          | false => rw [h3] at h; cases h
    · cases h
  · cases h
theorem ext_call {g : FuncId} {i : Nat} (h : extK P g = some i) (args : Array Value) (w : World) : (callFunc g args).run P w = ((extE i args).run P w).andThen fun v w' => .ok (.value v) w' := by
  obtain ⟨fn, name, hf, hb, h2, h1, hi⟩ := extK_spec h
  obtain ⟨⟨a1, a2, a3, a4⟩, ⟨b1, b2, b3, b4⟩, ⟨c1, c2, c3, c4⟩, d⟩ := ext_rows
  rcases hi with ⟨rfl, rfl⟩ | ⟨rfl, rfl⟩ | ⟨rfl, rfl⟩
  · refine run_callFunc_extern hf (by rw [h1]; rfl) (by rw [hb]; rfl) ?_ ?_ args w
    · unfold Extern.findNext; rw [h1, h2]; simp only [a3, d, Option.map_none]; rfl
    · unfold Extern.find; rw [h1, h2]; simp only [a1, a2, a4, Option.map_none]; rfl
  · refine run_callFunc_extern hf (by rw [h1]; rfl) (by rw [hb]; rfl) ?_ ?_ args w
    · unfold Extern.findNext; rw [h1, h2]; simp only [b3, d, Option.map_none]; rfl
    · unfold Extern.find; rw [h1, h2]; simp only [b1, b2, b4, Option.map_none]; rfl
  · refine run_callFunc_extern hf (by rw [h1]; rfl) (by rw [hb]; rfl) ?_ ?_ args w
    · unfold Extern.findNext; rw [h1, h2]; simp only [c3, d, Option.map_none]; rfl
    · unfold Extern.find; rw [h1, h2]; simp only [c1, c2, c4, Option.map_none]; rfl
theorem extF_run {i : Nat} {l : List AV} {v : AV} (h : extF i l = some v) {m : Map} {H : Heap} {args : Array Value} (hl : l.length = args.size) (hv : ∀ (j : Nat) (x : AV) (y : Value), l[j]? = some x → args[j]? = some y → VR m H x y) (w : World) : ∃ u, (extE i args).run P w = .ok u w ∧ VR m H v u := by
  unfold extF at h
  split at h
  · rename_i s c
    cases h
    have e : args = #[.string s, .int .u8 c] := by
      refine Array.ext hl.symm fun j i1 i2 => ?_
      have hj : j < 2 := i2
      match j, hj with
      | 0, _ => exact (hv 0 _ _ rfl (Array.getElem?_eq_getElem i1)).str_inv
      | 1, _ => exact vr_int (hv 1 _ _ rfl (Array.getElem?_eq_getElem i1))
    subst e
    exact ⟨_, run_indexByte_string s c w, .int _ _⟩
  · rename_i s c
    cases h
    have e : args = #[.string s, .int .u8 c] := by
      refine Array.ext hl.symm fun j i1 i2 => ?_
      have hj : j < 2 := i2
      match j, hj with
      | 0, _ => exact (hv 0 _ _ rfl (Array.getElem?_eq_getElem i1)).str_inv
      | 1, _ => exact vr_int (hv 1 _ _ rfl (Array.getElem?_eq_getElem i1))
    subst e
    refine ⟨.int .i64 (countB s c.toNat.toUInt8), ?_, .int _ _⟩
    change Sem.run P (do
      let b ← Extern.Bytes.bytesOf (.string s)
      let c' ← Extern.Bytes.asByte (.int .u8 c)
      pure (goInt (b.foldl (fun n x => if x == c' then n + 1 else n) (0 : Nat)))) w = _
    simp only [Extern.Bytes.bytesOf, Extern.Bytes.asByte, Sem.run_bind, Sem.run_pure, Result.andThen]
    rfl
  · rename_i x
    cases h
    obtain ⟨la⟩ := args
    match la, hl with
    | [y], _ => exact ⟨y, rfl, hv 0 _ _ rfl rfl⟩
  · cases h
theorem good_ext (cl : Call) (g : FuncId) (i : Nat) (hcal : cl.callee = .value (.func g)) (hg : extK P g = some i) {dst : Option Tmp} {ty : TypeId} {pos : String} {after : Array Edge} {guard : Option (Nat × Bool)} : OpGood P E k (op_ext (e := e) E k cl i) ⟨dst, .call cl, ty, pos, after, guard⟩ := by
  intro c st tm T n K hc hT h
  change (match extF i (avs (evs (argsC E k cl.args.toList) st tm)) with | some v => K (toC v) T n | none => .bad) ≠ .bad at h
  rw [avs_eq, evs_av] at h
  cases hx : extF i (cl.args.toList.map fun x => (valO E k st tm x).av) with
  | none => rw [hx] at h; exact absurd rfl h
  | some v =>
    have hcl : clsOf P (.call cl) = .x := by simp only [clsOf, hcal]
    have hst : Step P ⟨dst, .call cl, ty, pos, after, guard⟩ (fun x => (valO E k st tm x).av) (absH T) n v [] := by
      obtain ⟨cal, args, ats⟩ := cl
      simp only at hcal hx
      subst hcal
      refine step_pure fun m H a w hs hsim hxx => ?_
      have har := arr_rel (m := m) (H := H) (e := fun x => (valO E k st tm x).av) (a := a) (xs := args) fun x hm => hxx x (by simp [Op.operands, Call.operands, hm])
      obtain ⟨u, hu1, hu2⟩ := extF_run (P := P) hx har.1 har.2 w
      refine ⟨u, ?_, hu2⟩
      have hag : a.eval (.func g) = .func (.func g) #[] #[] := rfl
      simp [execOp, resolve, hag, Deferred.ofValue, invoke, ext_call hg, hu1]
    have hL := Ran.call (P := P) (o := ⟨dst, .call cl, ty, pos, after, guard⟩) (ev := fun x => (valO E k st tm x).av) (v := v) (T' := T) (n' := n) hT hcl (.refl _ _) (by
      have e0 : Lof T n T n = [] := List.eq_nil_iff_forall_not_mem.2 fun b hb => by
        obtain ⟨_, q2, q3⟩ := mem_Lof.1 hb
        rcases q3 with q3 | q3
        · omega
        · exact q3 rfl
      rw [e0]; exact hst)
    refine ⟨toC v, T, n, _, ?_, by rw [toC_av]; exact hL⟩
    show (match extF i (avs (evs (argsC E k cl.args.toList) st tm)) with | some v => K (toC v) T n | none => .bad) = _
    rw [avs_eq, evs_av, hx]
theorem good_callG (cl : Call) (g : FuncId) (hcal : cl.callee = .value (.func g)) {dst : Option Tmp} {ty : TypeId} {pos : String} {after : Array Edge} {guard : Option (Nat × Bool)} : OpGood P E k (op_callG (e := e) P E k cl g) ⟨dst, .call cl, ty, pos, after, guard⟩ := by
  unfold op_callG
  cases hg : isAdd P g with
  | true => exact good_add cl g hcal hg
  | false =>
    simp only
    cases hx : extK P g with
    | none => exact good_callF cl g hcal
    | some i => exact good_ext cl g i hcal hx
end
end Go.Ab
