/- An evaluator for the model's code over typed, abstract blocks, with its soundness, part 3 of 6: laws of any program; their conditions stand in each. -/
import Derived.Test.YtnhbohcjmdfmiaaGreatBb2
set_option linter.unusedVariables false
set_option linter.unusedSimpArgs false
section
/- Calls, and all operations together. No condition. -/
namespace Go.Ab
open Go

section
variable {X : Type} {P : Program} {e : Operand → AV} {K : Heap} {q : Nat} {dst : Option Tmp} {ty : TypeId} {pos : String} {after : Array Edge} {guard : Option (Nat × Bool)}

theorem one_arg {xs : Array Operand} {x : AV} (h : xs.toList.map e = [x]) : ∃ o, xs = #[o] ∧ e o = x := by
  obtain ⟨l⟩ := xs
  cases l with
  | nil => simp at h
  | cons o l => cases l with
    | nil => simp at h; exact ⟨o, rfl, h⟩
    | cons => simp at h

theorem two_args {xs : Array Operand} {x y : AV} (h : xs.toList.map e = [x, y]) : ∃ o o', xs = #[o, o'] ∧ e o = x ∧ e o' = y := by
  obtain ⟨l⟩ := xs
  cases l with
  | nil => simp at h
  | cons o l => cases l with
    | nil => simp at h
    | cons o' l => cases l with
      | nil => simp at h; exact ⟨o, o', rfl, h.1, h.2⟩
      | cons => simp at h

theorem wholeLen_val {m : Map} {H : Heap} {x : AV} {v : Value} {n : Nat} (hv : VR m H x v) (h : wholeLen H x = some n) (hs : ∀ s, x ≠ .str s) : ∃ a c, v = .slice a n c := by
  unfold wholeLen at h
  split at h
  · cases hv with
    | whole _ a k cap hb hh =>
      split at h
      · rename_i bk md hg
        cases h
        obtain ⟨rfl, _⟩ := hh _ _ hg
        exact ⟨a, cap, rfl⟩
      · cases h
  · cases hv with
    | acc _ a k cap hb hh =>
      split at h
      · rename_i bk md hg
        cases h
        obtain ⟨rfl, _⟩ := hh _ _ hg
        exact ⟨a, cap, rfl⟩
      · cases h
  · cases hv with
    | part _ _ _ a k cap hb hh =>
      split at h
      · rename_i bm hg
        obtain ⟨bk, md⟩ := bm
        cases h
        obtain ⟨_, rfl, _⟩ := hh _ _ hg
        exact ⟨a, cap, rfl⟩
      · cases h
  · cases hv
    cases h
    exact ⟨none, 0, rfl⟩
  · exact absurd rfl (hs _)
  · cases h

theorem st_len {c : Call} {t el : TypeId} {x : AV} {n : Nat} (h1 : c.callee = .builtin .len) (h2 : c.args.toList.map e = [x]) (h3 : c.argTypes[0]? = some t) (h4 : P.underlying t = some (.slice el)) (h5 : wholeLen K x = some n) (h6 : ∀ s, x ≠ .str s) :
    Step P ⟨dst, .call c, ty, pos, after, guard⟩ e K q (.int .i64 n) [] := by
  obtain ⟨cal, args, ats⟩ := c
  simp only at h1 h2 h3
  subst h1
  obtain ⟨o, rfl, rfl⟩ := one_arg h2
  refine step_pure fun m H a w hs hsim hx => ?_
  have hv := hx o (by simp [Op.operands, Call.operands])
  obtain ⟨ad, cp, hv'⟩ := wholeLen_val hv (wholeLen_mono hs h5) h6
  refine ⟨.int .i64 n, ?_, .int _ _⟩
  simp [execOp, resolve, invoke, builtin, Builtin.len_, h3, hv', run_underlying h4, goInt]

theorem st_lenStr {c : Call} {t : TypeId} {s : ByteArray} (h1 : c.callee = .builtin .len) (h2 : c.args.toList.map e = [.str s]) (h3 : c.argTypes[0]? = some t) (h4 : P.underlying t = some .string) :
    Step P ⟨dst, .call c, ty, pos, after, guard⟩ e K q (.int .i64 s.size) [] := by
  obtain ⟨cal, args, ats⟩ := c
  simp only at h1 h2 h3
  subst h1
  obtain ⟨o, rfl, ho⟩ := one_arg h2
  refine step_pure fun m H a w hs hsim hx => ?_
  have hv := hx o (by simp [Op.operands, Call.operands])
  rw [ho] at hv
  generalize ha : a.eval o = vo at hv
  cases hv
  refine ⟨.int .i64 s.size, ?_, .int _ _⟩
  simp [execOp, resolve, invoke, builtin, Builtin.len_, h3, ha, run_underlying h4, goInt]

theorem st_append {c : Call} {t t' el el' : TypeId} {i : TypeInfo} {zs : List Value} {s x v : AV} {D : Delta} (h1 : c.callee = .builtin .append) (h2 : c.args.toList.map e = [s, x]) (h3 : c.argTypes[0]? = some t) (h4 : c.argTypes[1]? = some t') (h2' : c.argTypes.size = 2)
    (h5 : P.underlying t = some (.slice el)) (h6 : P.underlying t' = some (.slice el')) (h7 : P.info? el = some i) (h8 : zerosOf P el = some zs) (h9 : 0 < i.bytes) (h10 : strIs K x i.size = true) (h11 : strIs K s i.size = true)
    (h12 : app K i.bytes s x q (fun v D => some (v, D)) = some (v, D)) : Step P ⟨dst, .call c, ty, pos, after, guard⟩ e K q v D := by
  obtain ⟨cal, args, ats⟩ := c
  simp only at h1 h2 h3 h4 h2'
  subst h1
  obtain ⟨o, o', rfl, rfl, rfl⟩ := two_args h2
  have hat : ats = #[t, t'] := by
    obtain ⟨l⟩ := ats
    match l, h2' with
    | [y, y'], _ => simp at h3 h4; rw [h3, h4]
  subst hat
  refine step_val fun m H a w hs hq hsim hx => ?_
  have hv := hx o (by simp [Op.operands, Call.operands])
  have hv' := hx o' (by simp [Op.operands, Call.operands])
  have happ := app_mono hs h12
  by_cases hnil : (v, D) = (AV.nilSlice, [])
  · cases hnil
    have hcc : content H (e o) = some none ∧ content H (e o') = some none := by
      unfold app at happ
      split at happ
      · rename_i c1 c2; exact ⟨c1, c2⟩
      · split at happ
        · cases ha : isAcc (e o) with
          | true => rw [ha] at happ; have := (need_some happ).2; simp at this
          | false => rw [ha] at happ; have := (need_some happ).2; simp at this
        · cases happ
      · cases happ
    rcases content_sound hsim hv hcc.1 with ⟨_, _, e1⟩ | ⟨_, _, _, _, _, e1, _⟩
    · rcases content_sound hsim hv' hcc.2 with ⟨_, _, e2⟩ | ⟨_, _, _, _, _, e2, _⟩
      · refine ⟨.slice none 0 0, m, w, ?_, hsim, .nilSlice, Tr.refl _ _ _⟩
        simp [execOp, resolve, invoke, builtin, e1, e2, Builtin.append_, run_underlying h5, run_underlying h6, sizeOf, typeInfo, h7, Builtin.lenOf, Builtin.firstCells]
      · cases e2
    · cases e1
  · have hq' : hkn H q = false := by
      have : (q, Ent.live (Blk.ints .i64 []) .own) ∈ D ∨ ∃ bk, (q, Ent.live bk .own) ∈ D := by
        unfold app at happ
        split at happ
        · simp at happ; exact absurd (by rw [happ.1, happ.2]) hnil
        · split at happ
          · cases ha : isAcc (e o) with
            | true =>
              rw [ha] at happ
              have := (need_some happ).2
              simp only [Option.some.injEq, Prod.mk.injEq] at this
              rw [← this.2]
              exact .inr ⟨_, List.mem_append.2 (.inr (by simp; rfl))⟩
            | false =>
              rw [ha] at happ
              have := (need_some happ).2
              simp only [Option.some.injEq, Prod.mk.injEq] at this
              rw [← this.2]
              exact .inr ⟨_, List.mem_append.2 (.inr (by simp; rfl))⟩
          · cases happ
        · cases happ
      rcases this with h | ⟨bk, h⟩
      · exact hq _ h (Nat.le_refl _)
      · exact hq _ h (Nat.le_refl _)
    obtain ⟨v1, D1, v', m', w', g1, g2, g3, g4, g5⟩ := app_sound (ty := ty) hsim hq' h5 h6 h7 h8 h9 (strIs_mono hs h10) (strIs_mono hs h11) hv hv' happ
    cases g1
    exact ⟨v', m', w', by simp [execOp, resolve, invoke, builtin, g2], g3, g4, g5⟩

theorem fold2_sound {m : Map} {H : Heap} {f : AV → AV → Option AV} {g : Value → Value → Sem Value} {w : World} (hf : ∀ x y z u v, VR m H x u → VR m H y v → f x y = some z → ∃ r, VR m H z r ∧ (g u v).run P w = .ok r w) :
    ∀ (xs : List AV) (vs : List Value) (x : AV) (u : Value) (z : AV), VR m H x u → xs.length = vs.length → (∀ (j : Nat) (x : AV) (y : Value), xs[j]? = some x → vs[j]? = some y → VR m H x y) → fold2 f x xs = some z →
      ∃ r, VR m H z r ∧ (vs.foldlM g u).run P w = .ok r w
  | [], vs, x, u, z, hx, hl, _, h => by
    obtain rfl : vs = [] := List.eq_nil_of_length_eq_zero (by simpa using hl.symm)
    simp only [fold2, Option.some.injEq] at h
    subst h
    exact ⟨u, hx, by simp⟩
  | y :: xs, vs, x, u, z, hx, hl, hv, h => by
    cases vs with
    | nil => simp at hl
    | cons v vs =>
      simp only [fold2] at h
      split at h
      · rename_i z1 h1
        obtain ⟨r, hr1, hr2⟩ := hf x y z1 u v hx (hv 0 y v rfl rfl) h1
        obtain ⟨r2, k1, k2⟩ := fold2_sound hf xs vs z1 r z hr1 (by simpa using hl) (fun j => by have := hv (j + 1); simpa using this) h
        exact ⟨r2, k1, by simp [List.foldlM_cons, Sem.run_bind, hr2, k2]⟩
      · cases h

theorem args_cons {xs : Array Operand} {x : AV} {l : List AV} (h : xs.toList.map e = x :: l) : ∃ o os, xs = (o :: os).toArray ∧ e o = x ∧ os.map e = l := by
  obtain ⟨ys⟩ := xs
  cases ys with
  | nil => simp at h
  | cons o os => simp at h; exact ⟨o, os, rfl, h.1, h.2⟩

theorem list_rel {m : Map} {H : Heap} {a : Act} {os : List Operand} (hx : ∀ x ∈ os, VR m H (e x) (a.eval x)) (j : Nat) (x : AV) (y : Value) (h1 : (os.map e)[j]? = some x) (h2 : (os.map a.eval)[j]? = some y) : VR m H x y := by
  simp only [List.getElem?_map, Option.map_eq_some_iff] at h1 h2
  obtain ⟨p, hp, rfl⟩ := h1
  obtain ⟨p', hp', rfl⟩ := h2
  rw [hp] at hp'
  cases hp'
  exact hx _ (List.mem_of_getElem? hp)

theorem st_min {c : Call} {x v : AV} {xs : List AV} (h1 : c.callee = .builtin .min) (h2 : c.args.toList.map e = x :: xs) (h3 : fold2 min2 x xs = some v) : Step P ⟨dst, .call c, ty, pos, after, guard⟩ e K q v [] := by
  obtain ⟨cal, args, ats⟩ := c
  simp only at h1 h2
  subst h1
  obtain ⟨o, os, rfl, rfl, rfl⟩ := args_cons h2
  refine step_pure fun m H a w hs hsim hx => ?_
  have hx' : ∀ y ∈ o :: os, VR m H (e y) (a.eval y) := fun y hy => hx y (by simp [Op.operands, Call.operands] at hy ⊢; exact hy)
  obtain ⟨r, k1, k2⟩ := fold2_sound (P := P) (w := w) (m := m) (H := H) (f := min2) (g := Builtin.min2) (fun x y z u v hx hy hz => by
    unfold min2 at hz
    split at hz
    · cases hx; cases hy
      split at hz
      · cases hz; exact ⟨_, .int _ _, by simp [Builtin.min2]⟩
      · cases hz
    · cases hz) (os.map e) (os.map a.eval) (e o) (a.eval o) v (hx' o (by simp)) (by simp) (fun j x y => list_rel (fun z hz => hx' z (by simp [hz])) j x y) h3
  exact ⟨r, by simp [execOp, resolve, invoke, builtin, Builtin.min_, k2], k1⟩

theorem st_max {c : Call} {x v : AV} {xs : List AV} (h1 : c.callee = .builtin .max) (h2 : c.args.toList.map e = x :: xs) (h3 : fold2 max2 x xs = some v) : Step P ⟨dst, .call c, ty, pos, after, guard⟩ e K q v [] := by
  obtain ⟨cal, args, ats⟩ := c
  simp only at h1 h2
  subst h1
  obtain ⟨o, os, rfl, rfl, rfl⟩ := args_cons h2
  refine step_pure fun m H a w hs hsim hx => ?_
  have hx' : ∀ y ∈ o :: os, VR m H (e y) (a.eval y) := fun y hy => hx y (by simp [Op.operands, Call.operands] at hy ⊢; exact hy)
  obtain ⟨r, k1, k2⟩ := fold2_sound (P := P) (w := w) (m := m) (H := H) (f := max2) (g := Builtin.max2) (fun x y z u v hx hy hz => by
    unfold max2 at hz
    split at hz
    · cases hx; cases hy
      split at hz
      · cases hz; exact ⟨_, .int _ _, by simp [Builtin.max2]⟩
      · cases hz
    · cases hz) (os.map e) (os.map a.eval) (e o) (a.eval o) v (hx' o (by simp)) (by simp) (fun j x y => list_rel (fun z hz => hx' z (by simp [hz])) j x y) h3
  exact ⟨r, by simp [execOp, resolve, invoke, builtin, Builtin.max_, k2], k1⟩

theorem wp_enter' {o : Oper} {a : Act} {w w' : World} {f : FuncId} {args : Array Value} {next : Act → World → Prop} {Q : Exit → Act → World → Prop} (h : (execOp a.eval o).run P w = .ok (.enter f args) w')
    {R : Ending → World → Prop} (hc : Calls P f args w' R) (hR : ∀ e w'', R e w'' → ∃ v, e = .returned v ∧ next (a.put o.dst v) w'') : o.wp P a w next Q := by
  unfold Oper.wp
  rw [h, Oper.upon_enter]
  refine hc.mono fun e w'' hr => ?_
  obtain ⟨v, rfl, hn⟩ := hR e w'' hr
  exact hn

theorem run_callFunc {f : FuncId} (h : EnterOk P f) (args : Array Value) (w : World) : (callFunc f args).run P w = .ok (.enter f args) w := by
  obtain ⟨fn, h1, h2, h3⟩ := h
  have e1 : fn.name ≠ "runtime.NumGoroutine" := by simpa using h3
  have e2 : fn.body ≠ none := by intro h; rw [h] at h2; simp at h2
  simp [callFunc, h1, e1, e2]

theorem st_callValue {c : Call} {g : Operand} {f : FuncId} {first cap : List AV} {v : AV} {D : Delta} (h1 : c.callee = .value g) (h2 : e g = .func (.func f) first cap) (h3 : CallStep P f (first ++ c.args.toList.map e ++ cap) K q v D) :
    Step P ⟨dst, .call c, ty, pos, after, guard⟩ e K q v D := by
  obtain ⟨cal, args, ats⟩ := c
  simp only at h1
  subst h1
  obtain ⟨hen, hcall⟩ := h3
  intro m H a w hs hq hsim hx next Q hn
  have hg := hx g (by simp [Op.operands, Call.operands])
  rw [h2] at hg
  generalize hag : a.eval g = vg at hg
  cases hg with
  | func _ _ _ first' cap' l1 l2 r1 r2 =>
    have har := arr_rel (m := m) (H := H) (e := e) (a := a) (xs := args) fun x hm => hx x (by simp [Op.operands, Call.operands, hm])
    have hr : (execOp a.eval ⟨dst, .call ⟨.value g, args, ats⟩, ty, pos, after, guard⟩).run P w = .ok (.enter f (first' ++ args.map a.eval ++ cap')) w := by
      simp [execOp, resolve, hag, Deferred.ofValue, invoke, run_callFunc hen]
    refine wp_enter' hr (hcall m H w _ hs hq hsim (by simp [l1, l2]) fun j x y hx' hy' => ?_) (fun e w'' hr' => ?_)
    · simp only [List.getElem?_append, Array.getElem?_append, List.length_append, Array.size_append, List.length_map, Array.size_map, Array.length_toList, l1] at hx' hy'
      by_cases c1 : j < first'.size + args.size
      · rw [if_pos c1] at hx' hy'
        by_cases c2 : j < first'.size
        · rw [if_pos c2] at hx' hy'; exact r1 _ _ _ hx' hy'
        · rw [if_neg c2] at hx' hy'
          exact har.2 _ _ _ hx' hy'
      · rw [if_neg c1] at hx' hy'
        exact r2 _ _ _ hx' hy'
    · obtain ⟨v', m', rfl, g1, g2, g3⟩ := hr'
      exact ⟨v', rfl, hn v' m' w'' g1 g2 g3⟩

end
end Go.Ab
end

section
/- All operations together. No condition. -/
namespace Go.Ab
open Go

theorem run_prog {P : Program} (w : World) : (program : Sem Program).run P w = .ok P w := rfl

theorem wrapNil (ts : Array TypeId) (t : TypeId) (a : Addr) (s m : ByteArray) : Builtin.ssaWrapNilChk_ ts t #[.pointer (some a), .string s, .string m] = Pure.pure (Value.pointer (some a)) := rfl

theorem method_at {P : Program} {t : TypeId} {v' : Value} {name : String} {i : TypeInfo} {mt : Method} {f : FuncId} {b : Bool} (hi : P.info? t = some i) (hm : i.methods.find? (·.name == name) = some mt) (hp : mt.path.toList = []) (hg : mt.func = some (f, b)) (n : Nat) (w : World) {r : Value}
    (hr : ∀ wr, (receiverAt t (.val v') b wr).run P w = .ok r w) : (method (n + 1) t v' name).run P w = .ok (f, r) w := by
  rw [method]
  have ht : (typeInfo t).run P w = .ok i w := by simp [typeInfo, hi]
  simp only [Sem.run_bind, ht, Result.andThen_ok, hm, hp, follow, Sem.run_pure, hg, hr]

theorem method_sound {P : Program} {m : Map} {K H : Heap} {w : World} (hs : SubH K H) (hsim : Sim m H w) {t : TypeId} {v x : AV} {v' : Value} {name : String} {f : FuncId} (hv : VR m H v v') (h : methodOf P K t v name = some (f, x)) :
    ∃ x', (method (P.types.size + Made.depth) t v' name).run P w = .ok (f, x') w ∧ VR m H x x' := by
  have hd : P.types.size + Made.depth = (P.types.size + 99) + 1 := rfl
  rw [hd]
  unfold methodOf at h
  split at h
  · rename_i i hi
    split at h
    · rename_i mt hm
      split at h
      · rename_i hpath
        have hp : mt.path.toList = [] := by simpa using hpath
        split at h
        · rename_i g hg
          split at h
          · rename_i el hu
            cases h
            refine ⟨v', method_at hi hm hp hg _ w fun wr => ?_, hv⟩
            simp only [receiverAt, Sem.run_bind, run_underlying hu, Result.andThen_ok, Place.get, Sem.run_pure]
          · cases h
        · rename_i g hg
          split at h
          · rename_i el hu
            split at h
            · rename_i b j fo
              split at h
              · rename_i bk md n hb hn
                cases hv with
                | ptr _ _ _ a hb' hh =>
                have hvr : VR m H (.ptr b j fo) (.pointer (some a)) := .ptr b j fo a hb' hh
                split at h
                · rename_i ha
                  split at h
                  · rename_i y hy
                    cases h
                    obtain ⟨u, g1, g2⟩ := (load_sound (P := P) hsim hvr (hs _ _ hb)).1 _ ha hy
                    simp only [Instr.loadAt, Instr.sureAddr, Sem.run_bind, Sem.run_pure, Result.andThen_ok] at g2
                    refine ⟨u, method_at hi hm hp hg _ w fun wr => ?_, g1⟩
                    cases wr <;> simp only [receiverAt, Sem.run_bind, run_underlying hu, Result.andThen_ok, Place.get, Sem.run_pure, wrapNil, strVal, asAddr, g2]
                  · cases h
                · rename_i ha
                  split at h
                  · rename_i hle
                    split at h
                    · rename_i l hl
                      cases h
                      obtain ⟨cs, g1, g2, g3⟩ := (load_sound (P := P) hsim hvr (hs _ _ hb)).2 n l ha hn hle hl
                      simp only [Instr.loadAt, Instr.sureAddr, Sem.run_bind, Sem.run_pure, Result.andThen_ok] at g3
                      refine ⟨.agg cs, method_at hi hm hp hg _ w fun wr => ?_, .agg _ _ g1 g2⟩
                      cases wr <;> simp only [receiverAt, Sem.run_bind, run_underlying hu, Result.andThen_ok, Place.get, Sem.run_pure, wrapNil, strVal, asAddr, g3]
                    · cases h
                  · cases h
                · cases h
              · cases h
            · cases h
          · rename_i d hu hq
            cases h
            refine ⟨v', method_at hi hm hp hg _ w fun wr => ?_, hv⟩
            cases d <;> first
              | exact absurd rfl (hu _)
              | simp only [receiverAt, Sem.run_bind, run_underlying hq, Result.andThen_ok, Place.get, Sem.run_pure]
          · cases h
        · cases h
      · cases h
    · cases h
  · cases h

section
variable {X : Type} {P : Program} {e : Operand → AV} {K : Heap} {q : Nat} {dst : Option Tmp} {ty : TypeId} {pos : String} {after : Array Edge} {guard : Option (Nat × Bool)}

theorem st_invoke {c : Call} {r : Operand} {name : String} {t : TypeId} {u x : AV} {f : FuncId} {v : AV} {D : Delta} (h1 : c.callee = .invoke r name) (h2 : e r = .iface t u) (h2' : methodOf P K t u name = some (f, x)) (h3 : CallStep P f (x :: c.args.toList.map e) K q v D) :
    Step P ⟨dst, .call c, ty, pos, after, guard⟩ e K q v D := by
  obtain ⟨cal, args, ats⟩ := c
  simp only at h1
  subst h1
  obtain ⟨hen, hcall⟩ := h3
  intro m H a w hs hq hsim hx next Q hn
  have hg := hx r (by simp [Op.operands, Call.operands])
  rw [h2] at hg
  generalize hag : a.eval r = vg at hg
  cases hg with
  | iface _ _ u' hu =>
    obtain ⟨x', hm, hvx⟩ := method_sound hs hsim hu h2'
    have har := arr_rel (m := m) (H := H) (e := e) (a := a) (xs := args) fun x hm => hx x (by simp [Op.operands, Call.operands, hm])
    have hr : (execOp a.eval ⟨dst, .call ⟨.invoke r name, args, ats⟩, ty, pos, after, guard⟩).run P w = .ok (.enter f (#[x'] ++ args.map a.eval)) w := by
      have e1 : (#[Value.iface t u'] ++ args.map a.eval)[0]? = some (Value.iface t u') := by rw [Array.getElem?_append_left (by simp)]; rfl
      have e2 : (#[Value.iface t u'] ++ args.map a.eval).extract 1 (#[Value.iface t u'] ++ args.map a.eval).size = args.map a.eval := by
        apply Array.ext
        · simp
        · intro i h1 h2
          simp
      simp only [execOp, resolve, hag, invoke, Sem.run_bind, Sem.run_pure, Result.andThen_ok, e1, e2, callMethod, run_prog, hm, run_callFunc hen]
    refine wp_enter' hr (hcall m H w _ hs hq hsim (by simp; omega) fun j x y hx' hy' => ?_) (fun e w'' hr' => ?_)
    · cases j with
      | zero =>
        rw [Array.getElem?_append_left (by simp)] at hy'
        simp at hx' hy'
        subst hx' hy'
        exact hvx
      | succ j =>
        rw [List.getElem?_cons_succ] at hx'
        rw [Array.getElem?_append_right (by simp)] at hy'
        simp only [List.size_toArray, List.length_cons, List.length_nil] at hy'
        exact har.2 j _ _ hx' (by simpa using hy')
    · obtain ⟨v', m', rfl, g1, g2, g3⟩ := hr'
      exact ⟨v', rfl, hn v' m' w'' g1 g2 g3⟩

end

/-- the cell at a place, told from the block's first one -/
def Blk.fl (bk : Blk) (p : Nat) : Option AV := bk.ld (p / bk.str) (p % bk.str)

theorem Lin.vr {m : Map} {H : Heap} {x : AV} {v : Value} {b s l : Nat} (hv : VR m H x v) (h : Lin H x = some (b, s, l)) : ∃ bk md, hget H b = some (bk, md) ∧ ∃ a cap, v = .slice a l cap ∧ l ≤ cap ∧ (0 < cap → a = some ⟨(m b).1, (m b).2.1 + s, none⟩) ∧ s + l ≤ bk.num * bk.str := by
  unfold Lin at h
  split at h
  · rename_i b0
    cases hv with
    | whole _ a n cap hk hh =>
      split at h
      · rename_i bk md hg
        split at h
        · rename_i hs
          cases h
          obtain ⟨rfl, h1, h2, h3⟩ := hh bk md hg
          exact ⟨bk, md, hg, a, cap, rfl, h1, fun hc => by have := h3 hc; simpa using this, by rw [hs]; omega⟩
        · cases h
      · cases h
  · rename_i b0 off len
    cases hv with
    | part _ _ _ a n cap hk hh =>
      split at h
      · rename_i bk md hg
        split at h
        · rename_i hs
          cases h
          obtain ⟨h0, rfl, h1, h2, h3⟩ := hh bk md hg
          exact ⟨bk, md, hg, a, cap, rfl, h1, fun hc => by have := h3 hc; rw [hs] at this; simpa using this, by rw [hs]; omega⟩
        · cases h
      · cases h
  · rename_i b0 i fo len
    cases hv with
    | seg _ _ _ _ a n cap hk hh =>
      split at h
      · rename_i bk md hg
        cases h
        obtain ⟨h0, h1, rfl, h2, h3⟩ := hh bk md hg
        refine ⟨bk, md, hg, a, cap, rfl, h2, h3, ?_⟩
        have : (i + 1) * bk.str ≤ bk.num * bk.str := Nat.mul_le_mul_right _ h0
        rw [Nat.add_mul] at this
        omega
      · cases h
  · cases h

theorem Lin.mono {K H : Heap} (hs : SubH K H) {x : AV} {r : Nat × Nat × Nat} (h : Lin K x = some r) : Lin H x = some r := by
  unfold Lin at h ⊢
  split at h
  · split at h
    · rename_i hg; simp only [hs _ _ hg]; exact h
    · cases h
  · split at h
    · rename_i hg; simp only [hs _ _ hg]; exact h
    · cases h
  · split at h
    · rename_i hg; simp only [hs _ _ hg]; exact h
    · cases h
  · cases h

/-- so many cells, from one on -/
theorem read_cells {m : Map} {H : Heap} {w : World} (h : Sim m H w) {b : Nat} {bk : Blk} {md : Md} (hb : hget H b = some (bk, md)) (s : Nat) : ∀ l, s + l ≤ bk.num * bk.str →
    ∃ vs : List Value, vs.length = l ∧ (∀ i v, vs[i]? = some v → w.cell? ⟨(m b).1, (m b).2.1 + s + i, none⟩ = some v ∧ v.oneCell' = true) ∧ ∀ i, i < l → ∃ x v, bk.fl (s + i) = some x ∧ vs[i]? = some v ∧ VR m H x v
  | 0, _ => ⟨[], rfl, fun i v h => by simp at h, fun i h => by omega⟩
  | l + 1, hl => by
    obtain ⟨vs, h1, h2, h3⟩ := read_cells h hb s l (by omega)
    have hpos : 0 < bk.str := (h.blk b bk md hb).1.pos
    have hi : (s + l) / bk.str < bk.num := (Nat.div_lt_iff_lt_mul hpos).2 (by omega)
    have hf : (s + l) % bk.str < bk.str := Nat.mod_lt _ hpos
    obtain ⟨x, v, g1, g2, g3, g4⟩ := h.cell hb hi hf
    have e1 : (s + l) / bk.str * bk.str + (s + l) % bk.str = s + l := by rw [Nat.mul_comm]; exact Nat.div_add_mod _ _
    rw [e1] at g2
    refine ⟨vs ++ [v], by simp [h1], fun i u hu => ?_, fun i hi' => ?_⟩
    · by_cases hil : i < vs.length
      · rw [List.getElem?_append_left hil] at hu; exact h2 i u hu
      · have : i = l := by
          have := (List.getElem?_eq_some_iff.1 hu).1
          simp at this; omega
        subst this
        rw [List.getElem?_append_right (by omega), h1, Nat.sub_self] at hu
        simp at hu; subst hu
        exact ⟨by rw [Nat.add_assoc]; exact g2, g4⟩
    · by_cases hil : i < l
      · obtain ⟨x', v', k1, k2, k3⟩ := h3 i hil
        exact ⟨x', v', k1, by rw [List.getElem?_append_left (by omega)]; exact k2, k3⟩
      · have : i = l := by omega
        subst this
        exact ⟨x, v, g1, by rw [List.getElem?_append_right (by omega), h1, Nat.sub_self]; rfl, g3⟩

section
variable {P : Program} {e : Operand → AV} {K : Heap} {q : Nat} {dst : Option Tmp} {ty : TypeId} {pos : String} {after : Array Edge} {guard : Option (Nat × Bool)}

theorem st_copy {c : Call} {t el : TypeId} {x y : AV} {bx sx lx by_ sy ly : Nat} {bkx bky bk2 : Blk} {mdx mdy : Md} (h1 : c.callee = .builtin .copy) (h2 : c.args.toList.map e = [x, y]) (h3 : c.argTypes[0]? = some t) (h4 : P.underlying t = some (.slice el)) (h5 : sizeT P el = some 1)
    (hx1 : Lin K x = some (bx, sx, lx)) (hx2 : hget K bx = some (bkx, mdx)) (hmd : mdx ≠ .ro) (hy1 : Lin K y = some (by_, sy, ly)) (hy2 : hget K by_ = some (bky, mdy))
    (h6 : bkx.ok → bky.ok → sx + min ly lx ≤ bkx.num * bkx.str → sy + min ly lx ≤ bky.num * bky.str → bk2.num = bkx.num ∧ bk2.str = bkx.str ∧ bk2.ok) (h7 : bkx.ok → bky.ok → sx + min ly lx ≤ bkx.num * bkx.str → sy + min ly lx ≤ bky.num * bky.str → ∀ p, p < bkx.num * bkx.str → bk2.fl p = if sx ≤ p ∧ p < sx + min ly lx then bky.fl (sy + (p - sx)) else bkx.fl p) :
    Step P ⟨dst, .call c, ty, pos, after, guard⟩ e K q (.int .i64 ((min ly lx : Nat) : Int)) [(bx, .live bk2 mdx)] := by
  obtain ⟨cal, args, ats⟩ := c
  simp only at h1 h2 h3
  subst h1
  obtain ⟨ox, oy, rfl, rfl, rfl⟩ := two_args h2
  intro m H a w hs _ hsim hxs next Q hn
  have hvx := hxs ox (by simp [Op.operands, Call.operands])
  have hvy := hxs oy (by simp [Op.operands, Call.operands])
  obtain ⟨bkx', mdx', gx, ax, cx, ex1, ex2, ex3, ex4⟩ := Lin.vr hvx (Lin.mono hs hx1)
  obtain ⟨bky', mdy', gy, ay, cy, ey1, ey2, ey3, ey4⟩ := Lin.vr hvy (Lin.mono hs hy1)
  rw [hs _ _ hx2] at gx; cases gx
  rw [hs _ _ hy2] at gy; cases gy
  have hgx := hs _ _ hx2
  have hgy := hs _ _ hy2
  have hlx : sx + min ly lx ≤ bkx.num * bkx.str := by omega
  have hly : sy + min ly lx ≤ bky.num * bky.str := by omega
  obtain ⟨B1, B2, B3, B5⟩ := hsim.blk bx bkx mdx hgx
  have oky := (hsim.blk by_ bky mdy hgy).1
  obtain ⟨k1, k2, k3⟩ := h6 B1 oky hlx hly
  have hfl := h7 B1 oky hlx hly
  obtain ⟨vs, v1, v2, v3⟩ := read_cells hsim hgy sy (min ly lx) hly
  have hpos := B1.pos
  have hfirst : (Builtin.firstCells 1 (min ly lx) (.slice ay ly cy)).run P w = .ok vs.toArray w := by
    by_cases h0 : 0 < cy
    · obtain rfl := ey3 h0
      exact run_firstCells_some w 1 _ _ _ _ vs (by rw [v1]; omega) fun j v hj => by rw [addr_add]; exact (v2 j v hj).1
    · have : min ly lx = 0 := by omega
      have hvs : vs = [] := List.eq_nil_of_length_eq_zero (by rw [v1, this])
      subst hvs
      cases ay with
      | none => exact run_firstCells_none w _ _ _ _
      | some ad => exact run_firstCells_some w 1 _ ad _ _ [] (by rw [this]; rfl) fun j v hj => by simp at hj
  -- what is written
  have hwrite : ∃ w', (match ax with | some a => storeCells a vs | none => Pure.pure () : Sem Unit).run P w = .ok () w' ∧ Sim m (hfill H bx (.live bk2 mdx)) w' ∧ Tr m H w m (hfill H bx (.live bk2 mdx)) w' := by
    have same : vs = [] → Sim m (hfill H bx (.live bk2 mdx)) w ∧ Tr m H w m (hfill H bx (.live bk2 mdx)) w := by
      intro hnil
      have h0 : min ly lx = 0 := by rw [← v1, hnil]; rfl
      refine hsim.write (w' := w) (vs := []) hgx hmd k1 k2 k3 (o := (m bx).2.1) ⟨rfl, rfl, rfl, rfl, rfl, fun _ => rfl, fun _ _ => rfl, fun c e fr hc => ⟨c, hc, rfl, fun j => by rw [if_neg (by simp only [List.length_nil]; omega)]⟩⟩ (Nat.le_refl _) (by simp) (by simp) fun c c' hc hc' i fo hi hf => ?_
      have hin := cell_in hi hf
      obtain ⟨y, v, q1, q2, q3⟩ := hc i fo hi hf
      refine ⟨y, v, ?_, by rw [hc' _ (by omega), if_neg (by simp only [List.length_nil]; omega)]; exact q2, q3⟩
      have hp := hfl (i * bkx.str + fo) hin
      rw [if_neg (by omega)] at hp
      have d1 : (i * bkx.str + fo) / bkx.str = i := by rw [Nat.add_comm, Nat.add_mul_div_right _ _ hpos, Nat.div_eq_of_lt hf, Nat.zero_add]
      have d2 : (i * bkx.str + fo) % bkx.str = fo := by rw [Nat.add_comm, Nat.add_mul_mod_self_right, Nat.mod_eq_of_lt hf]
      unfold Blk.fl at hp
      rw [k2, d1, d2] at hp
      rw [hp]; exact q1
    by_cases h0 : 0 < cx
    · obtain rfl := ex3 h0
      by_cases hm0 : min ly lx = 0
      · have hvs : vs = [] := List.eq_nil_of_length_eq_zero (by rw [v1, hm0])
        subst hvs
        obtain ⟨s1, s2⟩ := same rfl
        exact ⟨w, rfl, s1, s2⟩
      · obtain ⟨cc, ee, fr, g1, g2, g3, g4, g5⟩ := B5 (by omega)
        obtain ⟨w', w1, w2⟩ := storeCells_writes (P := P) (w := w) (g := (m bx).1) (o := (m bx).2.1 + sx) (vs := vs) (fun j hj => by simp only [World.cell?, g1]; simp; omega) (fun j hj => g3 hmd _ (by omega) (by omega)) (fun v hv => by
          obtain ⟨i, hi, rfl⟩ := List.mem_iff_getElem.1 hv
          exact (v2 i _ (List.getElem?_eq_getElem hi)).2)
        refine ⟨w', w1, ?_⟩
        refine hsim.write hgx hmd k1 k2 k3 w2 (by omega) (by omega) (fun v hv => by
          obtain ⟨i, hi, rfl⟩ := List.mem_iff_getElem.1 hv
          exact (v2 i _ (List.getElem?_eq_getElem hi)).2) fun c c' hc hc' i fo hi hf => ?_
        have hin := cell_in hi hf
        have d1 : (i * bkx.str + fo) / bkx.str = i := by rw [Nat.add_comm, Nat.add_mul_div_right _ _ hpos, Nat.div_eq_of_lt hf, Nat.zero_add]
        have d2 : (i * bkx.str + fo) % bkx.str = fo := by rw [Nat.add_comm, Nat.add_mul_mod_self_right, Nat.mod_eq_of_lt hf]
        have hp := hfl (i * bkx.str + fo) hin
        unfold Blk.fl at hp
        rw [k2, d1, d2] at hp
        rw [hp, hc' _ (by omega)]
        by_cases hr : sx ≤ i * bkx.str + fo ∧ i * bkx.str + fo < sx + min ly lx
        · rw [if_pos hr, if_pos (by rw [v1]; omega)]
          obtain ⟨y, v, q1, q2, q3⟩ := v3 (i * bkx.str + fo - sx) (by omega)
          refine ⟨y, v, q1, ?_, q3⟩
          rw [show (m bx).2.1 + (i * bkx.str + fo) - ((m bx).2.1 + sx) = i * bkx.str + fo - sx by omega]
          exact q2
        · rw [if_neg hr, if_neg (by rw [v1]; omega)]
          exact hc i fo hi hf
    · have hm0 : min ly lx = 0 := by omega
      have hvs : vs = [] := List.eq_nil_of_length_eq_zero (by rw [v1, hm0])
      obtain ⟨s1, s2⟩ := same hvs
      subst hvs
      refine ⟨w, ?_, s1, s2⟩
      cases ax <;> rfl
  obtain ⟨w', w1, w2, w3⟩ := hwrite
  refine wp_value (v := .int .i64 ((min ly lx : Nat) : Int)) (w' := w') ?_ (hn _ m w' w2 (.int _ _) w3)
  have hmin : Nat.min ly lx = min ly lx := rfl
  simp only [execOp, resolve, invoke, builtin]
  cases ax with
  | none => simp [Builtin.copy_, h3, ex1, ey1, run_underlying h4, run_sizeOf' h5, hmin, hfirst, Builtin.lenOf, goInt] at w1 ⊢; exact w1
  | some ad => simp [Builtin.copy_, h3, ex1, ey1, run_underlying h4, run_sizeOf' h5, hmin, hfirst, Builtin.lenOf, goInt] at w1 ⊢; simp [w1]
end

theorem copyB_spec {bkx bky bk2 : Blk} {sx sy n : Nat} (h : copyB bkx sx bky sy n = some bk2) :
    (sx + n ≤ bkx.num * bkx.str → sy + n ≤ bky.num * bky.str → bk2.num = bkx.num ∧ bk2.str = bkx.str ∧ bk2.ok) ∧
    (sx + n ≤ bkx.num * bkx.str → sy + n ≤ bky.num * bky.str → ∀ p, p < bkx.num * bkx.str → bk2.fl p = if sx ≤ p ∧ p < sx + n then bky.fl (sy + (p - sx)) else bkx.fl p) := by
  cases bkx with
  | recs => cases h
  | vals => cases h
  | ints k l => cases bky with
    | recs => cases h
    | vals => cases h
    | ints k' l' =>
      simp only [copyB] at h
      split at h
      · rename_i e
        subst e
        cases h
        simp only [Blk.num, Blk.str, Nat.mul_one]
        have hlen : ∀ (_ : sy + n ≤ l'.length), ((l'.drop sy).take n).length = n := fun h => by simp; omega
        refine ⟨fun h1 h2 => ⟨splice_length _ _ _ (by rw [hlen h2]; exact h1), trivial, trivial⟩, fun h1 h2 p hp => ?_⟩
        simp only [Blk.fl, Blk.str, Nat.div_one, Nat.mod_one, Blk.ld, List.getD_eq_getElem?_getD]
        rw [splice_get _ _ _ (by rw [hlen h2]; exact h1), hlen h2]
        by_cases hc : sx ≤ p ∧ p < sx + n
        · rw [if_pos hc, if_pos hc, List.getElem?_take, if_pos (by omega), List.getElem?_drop]
        · rw [if_neg hc, if_neg hc]
      · cases h

end Go.Ab
end

section
/- What the evaluator answers of an operation is a step of the model's. No condition. -/
namespace Go.Ab
open Go

theorem br_some {X : Type} {b : Bool} {t e : Option X} {x : X} (h : br b t e = some x) : (b = true ∧ t = some x) ∨ (b = false ∧ e = some x) := by
  cases b
  · exact .inr ⟨rfl, h⟩
  · exact .inl ⟨rfl, h⟩

theorem opX_step {X : Type} {c : Ctx X} (hc : CtxOk c) (o : Oper) {e : Operand → AV} {K : Heap} {q : Nat} {k : AV → Delta → Option X} {r : X} (h : opX c o.op e K q k = some r) :
    ∃ v D, k v D = some r ∧ Step c.P o e K q v D := by
  obtain ⟨dst, op, ty, pos, after, guard⟩ := o
  cases op <;> simp only [opX] at h
  case move x => exact ⟨_, _, h, st_move x⟩
  case assign x => exact ⟨_, _, h, st_assign x⟩
  case pick b x y =>
    split at h
    · rename_i t hb
      rcases br_some h with ⟨rfl, h1⟩ | ⟨rfl, h1⟩
      · exact ⟨_, _, h1, st_pick hb⟩
      · exact ⟨_, _, h1, st_pick hb⟩
    · cases h
  case alloc t =>
    split at h
    · rename_i vs hvs
      split at h
      · exact ⟨_, _, h, st_alloc hvs⟩
      · cases h
    · cases h
  case box t x =>
    split at h
    · rename_i hb; exact ⟨_, _, h, st_box hb.1 hb.2⟩
    · cases h
  case build t parts =>
    split at h
    · rename_i vs pl h1 h2
      split at h
      · rename_i l hl; exact ⟨_, _, h, st_build h1 h2 hl⟩
      · cases h
    · cases h
  case buildSlice t len parts =>
    split at h
    · rename_i el hu
      split at h
      · rename_i z hz
        split at h
        · rename_i hle
          split at h
          · rename_i bk hbk; exact ⟨_, _, h, st_buildSlice hu hz hle hbk⟩
          · cases h
        · cases h
      · cases h
    · cases h
  case load t a =>
    split at h
    · rename_i b i fo ha
      split at h
      · rename_i bk md hb hagg
        split at h
        · rename_i v hv; exact ⟨_, _, h, st_load ha hb hagg hv⟩
        · cases h
      · rename_i bk md hb hagg
        split at h
        · rename_i n hn
          split at h
          · rename_i hle
            split at h
            · rename_i l hl; exact ⟨_, _, h, st_loadAgg ha hb hagg hn hle (by rw [← ldF_eq]; exact hl)⟩
            · cases h
          · cases h
        · cases h
      · cases h
    · cases h
  case store t a x =>
    split at h
    · rename_i b i fo n ha hn
      split at h
      · rename_i bk md hb
        split at h
        · rename_i hcond
          split at h
          · rename_i bk' hst; exact ⟨_, _, h, st_store ha hb hcond.1 hn hcond.2.1 hcond.2.2 (by rw [← stAF_eq]; exact hst)⟩
          · cases h
        · cases h
      · cases h
    · cases h
  case nilCheck x =>
    split at h
    · rename_i b i fo ha
      split at h
      · rename_i bm hb; exact ⟨_, _, h, st_nilCheck ha hb⟩
      · cases h
    · cases h
  case binOp op t x y ty' =>
    obtain ⟨v, h1, h2⟩ := bin_det (SubH.refl K) h
    refine ⟨v, _, h2, st_bin fun H hs => ?_⟩
    obtain ⟨v', h3, h4⟩ := bin_det hs h1
    cases h4
    exact h3
  case unOp op t x =>
    obtain ⟨v, h1, h2⟩ := un_det h
    exact ⟨v, _, h2, st_un h1⟩
  case convert s d x =>
    split at h
    · rename_i ks kd ki n h1 h2 h3; exact ⟨_, _, h, st_convert h1 h2 h3⟩
    · cases h
  case makeInterface t x =>
    split at h
    · cases h
    · rename_i d hu hne; exact ⟨_, _, h, st_makeInterface hne fun ms hd => hu ms hd⟩
    · cases h
  case makeFunc fn first cap => exact ⟨_, _, h, st_makeFunc⟩
  case makeSlice t l c' =>
    split at h
    · rename_i el k1 n k2 n' hu h1 h2
      split at h
      · rename_i z i hz hi
        obtain ⟨⟨p1, rfl, p2, p3⟩, hk⟩ := need_some h
        exact ⟨_, _, hk, st_makeSlice hu h1 h2 hz hi p1 p2 p3⟩
      · cases h
    · cases h
  case slice t x lo hi mx =>
    cases mx with
    | some _ => simp only at h; cases h
    | none =>
      simp only at h
      split at h
      · rename_i el hu
        split at h
        · rename_i n hn
          split at h
          · rename_i hst
            obtain ⟨y, h1, h2⟩ := sliceOp_det h
            refine ⟨y, _, h2, st_slice hu hn hst (fun s hs => ?_) h1⟩
            rw [hs] at hst
            simp [strIs, content] at hst
          · cases h
        · cases h
      · rename_i hu
        split at h
        · rename_i s hs
          obtain ⟨y, h1, h2⟩ := sliceOp_det h
          exact ⟨y, _, h2, st_sliceStr hu hs h1⟩
        · cases h
      · cases h
  case fieldAddr s x f =>
    split at h
    · rename_i fs b i fo h1 h2
      split at h
      · rename_i fd bk md h3 h4
        split at h
        · rename_i sz h5
          split at h
          · rename_i h6; exact ⟨_, _, h, st_fieldAddr h1 h2 h3 h4 h5 h6⟩
          · cases h
        · cases h
      · cases h
    · cases h
  case field s x f =>
    split at h
    · rename_i fs l h1 h2
      split at h
      · rename_i fd h3
        split at h
        · rename_i h4
          split at h
          · rename_i v h5; exact ⟨_, _, h, st_field h1 h2 h3 h4 h5⟩
          · cases h
        · rename_i n h4 h5
          split at h
          · rename_i h6; exact ⟨_, _, h, st_fieldAgg h1 h2 h3 h4 h5 h6⟩
          · cases h
        · cases h
      · cases h
    · cases h
  case indexAddr t x ix =>
    split at h
    · rename_i el k1 i h1 h2
      split at h
      · rename_i b n h3 h4
        split at h
        · rename_i bk md h5
          split at h
          · rename_i h6
            obtain ⟨h7, h⟩ := need_some h
            exact ⟨_, _, h, st_indexAddr h1 h2 h3 h4 h5 h6 h7⟩
          · cases h
        · cases h
      · rename_i b n h3 h4
        split at h
        · rename_i bk md h5
          split at h
          · rename_i h6
            obtain ⟨h7, h⟩ := need_some h
            exact ⟨_, _, h, st_indexAddrC h1 h2 h3 h4 h5 h6 h7⟩
          · cases h
        · cases h
      · rename_i b off len n h3 h4
        split at h
        · rename_i bk md h5
          split at h
          · rename_i h6
            obtain ⟨h7, h⟩ := need_some h
            exact ⟨_, _, h, st_indexAddrP h1 h2 h3 h4 h5 h6 h7⟩
          · cases h
        · cases h
      · cases h
    · rename_i len el k1 i h1 h2
      split at h
      · rename_i b j fo n h3 h4
        split at h
        · rename_i bk md h5
          split at h
          · rename_i h6
            obtain ⟨h7, h⟩ := need_some h
            exact ⟨_, _, forkI_some h7 h, st_indexAddrA h1 h2 h3 h4 h5 h6 h7⟩
          · cases h
        · cases h
      · cases h
    · cases h
  case index t x ix =>
    split at h
    · rename_i s k1 i h1 h2 h3
      obtain ⟨h7, h⟩ := need_some h
      exact ⟨_, _, h, st_indexStr h1 h3 h2 h7⟩
    · rename_i N el l k1 i h1 h2 h3
      split at h
      · rename_i kd zs h4 h5 h6
        split at h
        · rename_i h7
          obtain ⟨h8, h⟩ := need_some h
          exact ⟨_, _, h, st_indexArrS h1 h3 h2 h4 h5 h8 (intsOf_at h6 _ (by omega))⟩
        · cases h
      · cases h
    · cases h
  case typeAssert x xt t ok =>
    split at h
    · cases h
    · rename_i d t' v hne hu h1
      split at h
      · rename_i ht
        subst ht
        exact ⟨_, _, h, st_typeAssert hu (fun ms hd => hne ms hd) h1⟩
      · cases h
    · cases h
  case extract x i =>
    split at h
    · rename_i l hl
      split at h
      · rename_i v hv; exact ⟨_, _, h, st_extract hl hv⟩
      · cases h
    · cases h
  case call cl =>
    split at h
    · rename_i x hcal hargs
      split at h
      · rename_i t ht
        split at h
        · rename_i el hu
          split at h
          · cases h
          · rename_i x' hne
            split at h
            · rename_i n hn; exact ⟨_, _, h, st_len hcal hargs ht hu hn (fun s hs => hne s hs)⟩
            · cases h
        · rename_i hu
          split at h
          · rename_i s; exact ⟨_, _, h, st_lenStr hcal hargs ht hu⟩
          · cases h
        · cases h
      · cases h
    · rename_i s x hcal hargs
      split at h
      · rename_i t t' ht ht'
        split at h
        · rename_i el el' hu hu'
          split at h
          · rename_i i zs hi hz
            split at h
            · rename_i hcond
              obtain ⟨v, D, h1, h2⟩ := app_det h
              exact ⟨v, D, h2, st_append hcal hargs ht ht' hcond.2.2.2 hu hu' hi hz hcond.1 hcond.2.1 hcond.2.2.1 h1⟩
            · cases h
          · cases h
        · cases h
      · cases h
    · rename_i x y hcal hargs
      split at h
      · rename_i t ht
        split at h
        · rename_i el hu
          split at h
          · rename_i bx sx lx by_ sy ly h1 h2 h3
            split at h
            · rename_i bkx mdx bky mdy h4 h5
              split at h
              · rename_i hmd
                split at h
                · rename_i bk2 h6
                  obtain ⟨q1, q2⟩ := copyB_spec h6
                  exact ⟨_, _, h, st_copy hcal hargs ht hu h1 h2 h4 hmd h3 h5 (fun _ _ => q1) fun _ _ => q2⟩
                · cases h
              · cases h
            · cases h
          · cases h
        · cases h
      · cases h
    · rename_i x xs hcal hargs
      split at h
      · rename_i v hv; exact ⟨_, _, h, st_min hcal hargs hv⟩
      · cases h
    · rename_i x xs hcal hargs
      split at h
      · rename_i v hv; exact ⟨_, _, h, st_max hcal hargs hv⟩
      · cases h
    · rename_i f args hcal
      split at h
      · rename_i fn first cap hf
        obtain ⟨v, D, h1, h2⟩ := hc _ _ _ _ _ _ h
        exact ⟨v, D, h1, st_callValue hcal hf h2⟩
      · cases h
    · rename_i rc name args hcal
      split at h
      · rename_i t v hr
        split at h
        · rename_i f x hm
          obtain ⟨v, D, h1, h2⟩ := hc _ _ _ _ _ _ h
          exact ⟨v, D, h1, st_invoke hcal hr hm h2⟩
        · cases h
      · cases h
    · cases h
  all_goals cases h

end Go.Ab
end

section
/- Regions, one operation behind the other. No condition. -/
namespace Go.Ab
open Go

def dstOf (all : List Oper) (j : Nat) : Option Nat := match all[j]? with | some o => o.dst | none => none

section
variable {X : Type}

def opS (c : Ctx X) (o : Oper) (s : St) (k : St → Option X) : Option X :=
  opX c o.op (ev s.tmps) s.heap s.heap.length fun v D => k ⟨tput s.tmps o.dst v, hput s.heap D⟩

/-- run or left out, as its guard says -/
def guardS (all : List Oper) (o : Oper) (tm : List AV) (run skip : List AV → Option X) : Option X :=
  match o.guard with
  | none => run tm
  | some (j, want) => match dstOf all j with
    | none => none
    | some d => match tget tm d with
      | .bool b => br b
        (match want with | true => run (tset tm d (.bool true)) | false => skip (tset tm d (.bool true)))
        (match want with | false => run (tset tm d (.bool false)) | true => skip (tset tm d (.bool false)))
      | .tuple [] => skip tm
      | _ => none

def regS (c : Ctx X) (all : List Oper) : List Oper → (St → Option X) → St → Option X
  | [], k, s => k s
  | o :: rest, k, s => guardS all o s.tmps (fun tm => opS c o ⟨tm, s.heap⟩ (regS c all rest k)) (fun tm => regS c all rest k ⟨tput tm o.dst (.tuple []), s.heap⟩)

theorem tset_same (l : List AV) (d : Nat) (v : AV) (h : tget l d = v) (hv : v ≠ .undef) : tset l d v = l := by
  induction l generalizing d with
  | nil => rfl
  | cons x xs ih => cases d with
    | zero => simp only [tget] at h; simp [tset, h]
    | succ n => simp only [tget] at h; simp only [tset]; rw [ih n h]

/-- what a guard says, of the model's side -/
theorem guard_sound {all : List Oper} {ops : Array Oper} (hall : all = ops.toList) {o : Oper} {tm : List AV} {run skip : List AV → Option X} {r : X} (h : guardS all o tm run skip = some r) :
    (run tm = some r ∧ ∀ m H a tm', (∀ t ∈ o.looksAt ops, tget tm' t = tget tm t) → TR m H tm' a → Region.wanted o (yielded ops a.tmps) = true) ∨
    (skip tm = some r ∧ ∀ m H a tm', (∀ t ∈ o.looksAt ops, tget tm' t = tget tm t) → TR m H tm' a → Region.wanted o (yielded ops a.tmps) = false) := by
  subst hall
  unfold guardS at h
  split at h
  · rename_i hg
    exact .inl ⟨h, fun m H a _ _ _ => by simp [Region.wanted, hg]⟩
  · rename_i j want hg
    split at h
    · cases h
    · rename_i d hd
      have hdst : (ops[j]?).bind (·.dst) = some d := by
        unfold dstOf at hd
        rw [Array.getElem?_toList] at hd
        split at hd
        · rename_i e; simp [e, hd]
        · cases hd
      have hlk : d ∈ o.looksAt ops := by simp [Oper.looksAt, hg, hdst]
      have hy : ∀ m H a tm' b, (∀ t ∈ o.looksAt ops, tget tm' t = tget tm t) → TR m H tm' a → tget tm d = .bool b → yielded ops a.tmps j = some b := by
        intro m H a tm' b hag htr hb
        have := htr.at_ d
        rw [hag d hlk, hb] at this
        unfold yielded
        rw [hdst]
        simp only [Option.bind_some]
        cases hv : a.tmps[d]? with
        | none => simp [Array.getD_eq_getD_getElem?, hv] at this; cases this
        | some v => simp [Array.getD_eq_getD_getElem?, hv] at this; cases this; rfl
      split at h
      · rename_i b hb
        rcases br_some h with ⟨rfl, h1⟩ | ⟨rfl, h1⟩
        · rw [tset_same tm d _ hb (by simp)] at h1
          cases want
          · exact .inr ⟨h1, fun m H a tm' hag htr => by simp [Region.wanted, hg, hy m H a tm' true hag htr hb]⟩
          · exact .inl ⟨h1, fun m H a tm' hag htr => by simp [Region.wanted, hg, hy m H a tm' true hag htr hb]⟩
        · rw [tset_same tm d _ hb (by simp)] at h1
          cases want
          · exact .inl ⟨h1, fun m H a tm' hag htr => by simp [Region.wanted, hg, hy m H a tm' false hag htr hb]⟩
          · exact .inr ⟨h1, fun m H a tm' hag htr => by simp [Region.wanted, hg, hy m H a tm' false hag htr hb]⟩
      · rename_i hb
        refine .inr ⟨h, fun m H a tm' hag htr => ?_⟩
        have := htr.at_ d
        rw [hag d hlk, hb] at this
        have hn : yielded ops a.tmps j = none := by
          unfold yielded
          rw [hdst]
          simp only [Option.bind_some]
          cases hv : a.tmps[d]? with
          | none => rfl
          | some v => simp [Array.getD_eq_getD_getElem?, hv] at this; cases this; rfl
        simp [Region.wanted, hg, hn]
      · cases h

theorem VR.unit (m : Map) (H : Heap) : VR m H (.tuple []) Go.undef := .tuple [] _ rfl fun j x y h => by simp at h

/-- where the evaluator is: the model is -/
structure At (m : Map) (s : St) (a : Act) (w : World) : Prop where
  sim : Sim m s.heap w
  tr : TR m s.heap s.tmps a

/-- from one place to a later one -/
structure To (m : Map) (H : Heap) (a : Act) (w : World) (m' : Map) (s' : St) (a' : Act) (w' : World) : Prop where
  at_ : At m' s' a' w'
  tr : Tr m H w m' s'.heap w'
  defers : a'.defers = a.defers

theorem To.trans {m m1 m2 : Map} {H : Heap} {a a1 a2 : Act} {w w1 w2 : World} {s1 s2 : St} (h : To m H a w m1 s1 a1 w1) (k : To m1 s1.heap a1 w1 m2 s2 a2 w2) : To m H a w m2 s2 a2 w2 :=
  ⟨k.at_, h.tr.trans k.tr, k.defers.trans h.defers⟩

theorem fresh_ge {H : Heap} {b : Nat} (h : H.length ≤ b) : hkn H b = false := by unfold hkn; rw [hat_len H b h]

theorem put_defers (a : Act) (d : Option Tmp) (v : Value) : (a.put d v).defers = a.defers := by cases d <;> rfl

/-- temporaries outside S are what they were -/
def Keep (S : Nat → Bool) (a a' : Act) : Prop := a'.tmps.size = a.tmps.size ∧ ∀ t, S t = false → a'.tmps.getD t Go.undef = a.tmps.getD t Go.undef
theorem Keep.refl (S : Nat → Bool) (a : Act) : Keep S a a := ⟨rfl, fun _ _ => rfl⟩
theorem Keep.trans {S : Nat → Bool} {a b c : Act} (h : Keep S a b) (k : Keep S b c) : Keep S a c := ⟨k.1.trans h.1, fun t ht => (k.2 t ht).trans (h.2 t ht)⟩
theorem Keep.more {S S' : Nat → Bool} {a b : Act} (h : Keep S a b) (hs : ∀ t, S t = true → S' t = true) : Keep S' a b := ⟨h.1, fun t ht => h.2 t (by
  cases e : S t with
  | false => rfl
  | true => rw [hs t e] at ht; cases ht)⟩
theorem Keep.put {S : Nat → Bool} (a : Act) (d : Option Tmp) (v : Value) (h : ∀ t, d = some t → S t = true) : Keep S a (a.put d v) := by
  cases d with
  | none => exact Keep.refl _ _
  | some u =>
    refine ⟨by simp only [Act.put, Array.size_setIfInBounds], fun t ht => ?_⟩
    have hne : u ≠ t := fun e => by rw [← e, h u rfl] at ht; cases ht
    simp only [Act.put, Array.getD_eq_getD_getElem?, Array.getElem?_setIfInBounds]
    rw [if_neg hne]

theorem regS_sound {c : Ctx X} (hc : CtxOk c) {ops : Array Oper} {Q : Exit → Act → World → Prop} {r : X} {k : St → Option X} {S : Nat → Bool} : ∀ (l : List Oper) (s : St) {m : Map} {a : Act} {w : World}, (∀ o ∈ l, ∀ t, o.dst = some t → S t = true) → regS c ops.toList l k s = some r → At m s a w →
    (∀ m' s' a' w', k s' = some r → To m s.heap a w m' s' a' w' → Keep S a a' → Q .normal a' w') → wpList c.P ops Q l a w
  | [], s, m, a, w, _, h, hat, hk => hk m s a w h ⟨hat, Tr.refl _ _ _, rfl⟩ (Keep.refl _ _)
  | o :: rest, s, m, a, w, hS, h, hat, hk => by
    have hS' : ∀ o ∈ rest, ∀ t, o.dst = some t → S t = true := fun o ho => hS o (List.mem_cons_of_mem _ ho)
    have hS0 := hS o List.mem_cons_self
    simp only [regS] at h
    rcases guard_sound rfl h with ⟨h1, h2⟩ | ⟨h1, h2⟩
    · unfold wpList
      rw [if_pos (h2 _ _ _ _ (fun _ _ => rfl) hat.tr)]
      left
      obtain ⟨v, D, h3, h4⟩ := opX_step hc o h1
      refine h4 m s.heap a w (SubH.refl _) (fun d _ hd => fresh_ge hd) hat.sim (fun x _ => hat.tr.ev x) _ _ fun v' m' w' g1 g2 g3 => ?_
      refine regS_sound hc rest _ hS' h3 ⟨g1, ?_⟩ fun m'' s'' a'' w'' e1 e2 e3 => hk m'' s'' a'' w'' e1 ?_ ((Keep.put a o.dst v' hS0).trans e3)
      · exact (hat.tr.mono g3.ext).put o.dst g2
      · exact ⟨e2.at_, g3.trans e2.tr, by rw [e2.defers, put_defers]⟩
    · unfold wpList
      rw [if_neg (by rw [h2 _ _ _ _ (fun _ _ => rfl) hat.tr]; simp)]
      refine regS_sound hc rest _ hS' h1 ⟨hat.sim, hat.tr.put o.dst (VR.unit _ _)⟩ fun m'' s'' a'' w'' e1 e2 e3 => hk m'' s'' a'' w'' e1 ?_ ((Keep.put a o.dst _ hS0).trans e3)
      exact ⟨e2.at_, e2.tr, by rw [e2.defers, put_defers]⟩

end
end Go.Ab
end

section
/- Regions that draw their order: one order serves for all. No condition. -/
namespace Go.Ab
open Go

/-- the last word of a delta on a place -/
def dlook : Delta → Nat → Option Ent
  | [], _ => none
  | (c, e) :: D, b => match dlook D b with | some x => some x | none => if c = b then some e else none

theorem hat_hput (D : Delta) (H : Heap) (b : Nat) : hat (hput H D) b = (dlook D b).getD (hat H b) := by
  induction D generalizing H with
  | nil => rfl
  | cons d D ih =>
    obtain ⟨c, e⟩ := d
    simp only [hput, ih, dlook]
    cases dlook D b with
    | some x => rfl
    | none =>
      simp only [Option.getD_none, hat_fill]
      by_cases h : c = b
      · rw [if_pos h.symm, if_pos h]; rfl
      · rw [if_neg (fun e => h e.symm), if_neg h]; rfl

theorem dlook_none (D : Delta) (b : Nat) : dlook D b = none ↔ b ∉ D.map (·.1) := by
  induction D with
  | nil => simp [dlook]
  | cons d D ih =>
    obtain ⟨c, e⟩ := d
    simp only [dlook, List.map_cons, List.mem_cons]
    cases h : dlook D b with
    | some x =>
      have : b ∈ D.map (·.1) := by
        apply Classical.byContradiction
        intro hn
        rw [ih.2 hn] at h
        cases h
      simp [this]
    | none =>
      have := ih.1 h
      by_cases hc : c = b
      · subst hc; simp
      · simp [hc, this]
        exact fun e => hc e.symm

theorem hget_of_hat {H K : Heap} {b : Nat} (h : hat H b = hat K b) : hget H b = hget K b := by unfold hget; rw [h]
theorem hkn_of_hat {H K : Heap} {b : Nat} (h : hat H b = hat K b) : hkn H b = hkn K b := by unfold hkn; rw [h]

theorem Le.congr {m : Map} {H K : Heap} (h : ∀ b, hat H b = hat K b) : Le m H m K :=
  ⟨fun b hb => by rw [← hkn_of_hat (h b)]; exact hb, fun b bk' md' _ hg => ⟨bk', by rw [hget_of_hat (h b)]; exact hg, rfl, rfl, rfl⟩⟩

theorem Sim.congr {m : Map} {H K : Heap} {w : World} (h : ∀ b, hat H b = hat K b) (hs : Sim m H w) : Sim m K w where
  blk b bk md hg := (hs.blk b bk md (by rw [hget_of_hat (h b)]; exact hg)).far (fun x v hx => hx.mono (Le.congr h)) fun _ => .inl rfl
  dis b b' bk md bk' md' hg hg' := hs.dis b b' bk md bk' md' (by rw [hget_of_hat (h b)]; exact hg) (by rw [hget_of_hat (h b')]; exact hg')

theorem Wr.congr {m : Map} {H K : Heap} (h : ∀ b, hat H b = hat K b) {x o : Nat} (hw : Wr m H x o) : Wr m K x o := by
  obtain ⟨b, bk, md, hg, q⟩ := hw
  exact ⟨b, bk, md, by rw [← hget_of_hat (h b)]; exact hg, q⟩

theorem Tr.congr {m0 m : Map} {H0 H K : Heap} {w0 w : World} (h : ∀ b, hat H b = hat K b) (ht : Tr m0 H0 w0 m H w) : Tr m0 H0 w0 m K w where
  le := ht.le.trans (Le.congr h)
  os := ht.os
  tape := ht.tape
  output := ht.output
  drawn := ht.drawn
  size := ht.size
  frame := ht.frame
  own b o hw := ht.own b o (hw.congr fun b => (h b).symm)

/-- what was seen of one operation: its answer, what turned, what it looked at -/
structure Rec where
  o : Oper
  v : AV
  D : Delta
  fp : List Nat

def Rec.tc (r : Rec) : List Nat := r.D.map (·.1)

def disj (a b : List Nat) : Bool := a.all fun x => !b.contains x

theorem disj_spec {a b : List Nat} (h : disj a b = true) {x : Nat} (hx : x ∈ a) : x ∉ b := by
  unfold disj at h
  have := List.all_eq_true.1 h x hx
  simpa using this

/-- the heap behind the operations of a set -/
def hpS (S : Nat → Bool) (C : Heap) : List Rec → Nat → Heap
  | [], _ => C
  | r :: rs, i => hpS S (cond (S i) (hput C r.D) C) rs (i + 1)

def tmS (S : Nat → Bool) (T : List AV) : List Rec → Nat → List AV
  | [], _ => T
  | r :: rs, i => tmS S (cond (S i) (tput T r.o.dst r.v) T) rs (i + 1)

/-- two sets that part only in operations that do not touch a place: the place is the same -/
theorem hpS_same {S S' : Nat → Bool} {b : Nat} : ∀ (rs : List Rec) (C C' : Heap) (i : Nat), hat C b = hat C' b → (∀ (j : Nat) (r : Rec), rs[j]? = some r → S (i + j) = S' (i + j) ∨ b ∉ r.tc) → hat (hpS S C rs i) b = hat (hpS S' C' rs i) b
  | [], C, C', i, h, _ => h
  | r :: rs, C, C', i, h, hk => by
    simp only [hpS]
    refine hpS_same rs _ _ _ ?_ fun j r' hr => by have := hk (j + 1) r' (by simpa using hr); rwa [show i + (j + 1) = i + 1 + j by omega] at this
    have ht : ∀ (q : Bool) (D : Heap), hat (cond q (hput D r.D) D) b = cond q ((dlook r.D b).getD (hat D b)) (hat D b) := by
      intro q D; cases q
      · rfl
      · simp [hat_hput]
    rw [ht, ht, h]
    rcases hk 0 r rfl with e | e
    · rw [Nat.add_zero] at e; rw [e]
    · have : dlook r.D b = none := (dlook_none _ _).2 e
      rw [this]; simp

theorem tget_tput_of {T T' : List AV} {d : Option Nat} {v : AV} {t : Nat} (hl : T.length = T'.length) (h : tget T t = tget T' t) : tget (tput T d v) t = tget (tput T' d v) t := by
  cases d with
  | none => exact h
  | some u => simp only [tput, tget_tset, hl, h]

theorem tput_length (T : List AV) (d : Option Nat) (v : AV) : (tput T d v).length = T.length := by cases d <;> simp [tput, tset_length]

theorem tmS_length {S : Nat → Bool} : ∀ (rs : List Rec) (T : List AV) (i : Nat), (tmS S T rs i).length = T.length
  | [], _, _ => rfl
  | r :: rs, T, i => by
    simp only [tmS, tmS_length rs]
    cases S i
    · rfl
    · exact tput_length _ _ _

theorem tmS_same {S S' : Nat → Bool} {t : Nat} : ∀ (rs : List Rec) (T T' : List AV) (i : Nat), T.length = T'.length → tget T t = tget T' t → (∀ (j : Nat) (r : Rec), rs[j]? = some r → S (i + j) = S' (i + j) ∨ r.o.dst ≠ some t) → tget (tmS S T rs i) t = tget (tmS S' T' rs i) t
  | [], T, T', i, _, h, _ => h
  | r :: rs, T, T', i, hl, h, hk => by
    simp only [tmS]
    refine tmS_same rs _ _ _ ?_ ?_ fun j r' hr => by have := hk (j + 1) r' (by simpa using hr); rwa [show i + (j + 1) = i + 1 + j by omega] at this
    · cases S i <;> cases S' i <;> simp [tput_length, hl]
    · rcases hk 0 r rfl with e | e
      · rw [Nat.add_zero] at e
        rw [e]
        cases S' i
        · exact h
        · exact tget_tput_of hl h
      · have hn : ∀ U : List AV, tget (tput U r.o.dst r.v) t = tget U t := by
          intro U
          cases hd : r.o.dst with
          | none => rfl
          | some u =>
            simp only [tput, tget_tset]
            rw [if_neg]
            rintro rfl
            exact e hd
        cases S i <;> cases S' i <;> simp [hn, h]

/-- one more operation, at its place or at the end: the same -/
theorem hpS_add {S : Nat → Bool} {n : Nat} {rn : Rec} {b : Nat} : ∀ (rs : List Rec) (C : Heap) (i : Nat), i ≤ n → rs[n - i]? = some rn → S n = false → (∀ (j : Nat) (r : Rec), rs[j]? = some r → n < i + j → S (i + j) = true → b ∈ rn.tc → b ∉ r.tc) →
      hat (hpS (fun j => S j || j == n) C rs i) b = hat (hput (hpS S C rs i) rn.D) b
  | [], C, i, _, h, _, _ => by simp at h
  | r :: rs, C, i, hi, h, hn, hk => by
    simp only [hpS]
    by_cases e : i = n
    · subst e
      simp at h
      subst h
      rw [hn]
      simp only [Bool.false_or, BEq.rfl, cond_true, cond_false]
      rw [hat_hput]
      cases hd : dlook r.D b with
      | none =>
        have hb : b ∉ r.tc := (dlook_none _ _).1 hd
        simp only [Option.getD_none]
        refine hpS_same rs _ _ _ (by rw [hat_hput, hd]; rfl) fun j r' hr => .inl ?_
        have : (i + 1 + j == i) = false := by simp; omega
        simp [this]
      | some x =>
        have hb : b ∈ r.tc := by
          apply Classical.byContradiction
          intro hc
          rw [(dlook_none _ _).2 hc] at hd
          cases hd
        simp only [Option.getD_some]
        have := hpS_same (S := fun j => S j || j == i) (S' := fun _ => false) (b := b) rs (hput C r.D) (hput C r.D) (i + 1) rfl (fun j r' hr => by
          by_cases hs : S (i + 1 + j) = true
          · exact .inr (hk (j + 1) r' (by simpa using hr) (by omega) (by rw [show i + (j + 1) = i + 1 + j by omega]; exact hs) hb)
          · left
            have : (i + 1 + j == i) = false := by simp; omega
            simp [this, hs])
        rw [this]
        have hfalse : ∀ (rs : List Rec) (C : Heap) (i : Nat), hpS (fun _ => false) C rs i = C := by
          intro rs
          induction rs with
          | nil => intro C i; rfl
          | cons r rs ih => intro C i; simp [hpS, ih]
        rw [hfalse, hat_hput, hd]; rfl
    · have e2 : (i == n) = false := by simpa using e
      simp only [e2, Bool.or_false]
      refine hpS_add rs _ (i + 1) (by omega) ?_ hn fun j r' hr hlt hs hb => hk (j + 1) r' (by simpa using hr) (by omega) (by rw [show i + (j + 1) = i + 1 + j by omega]; exact hs) hb
      rw [show n - i = n - (i + 1) + 1 by omega] at h
      simpa using h

theorem tmS_add {S : Nat → Bool} {n : Nat} {rn : Rec} {t : Nat} : ∀ (rs : List Rec) (T : List AV) (i : Nat), i ≤ n → rs[n - i]? = some rn → S n = false → (∀ (j : Nat) (r : Rec), rs[j]? = some r → n < i + j → S (i + j) = true → rn.o.dst = some t → r.o.dst ≠ some t) →
      tget (tmS (fun j => S j || j == n) T rs i) t = tget (tput (tmS S T rs i) rn.o.dst rn.v) t
  | [], T, i, _, h, _, _ => by simp at h
  | r :: rs, T, i, hi, h, hn, hk => by
    simp only [tmS]
    by_cases e : i = n
    · subst e
      simp at h
      subst h
      rw [hn]
      simp only [Bool.false_or, BEq.rfl, cond_true, cond_false]
      by_cases hd : r.o.dst = some t
      · have hfalse : ∀ (rs : List Rec) (T : List AV) (i : Nat), tmS (fun _ => false) T rs i = T := by
          intro rs
          induction rs with
          | nil => intro C i; rfl
          | cons r rs ih => intro C i; simp [tmS, ih]
        have := tmS_same (S := fun j => S j || j == i) (S' := fun _ => false) (t := t) rs (tput T r.o.dst r.v) (tput T r.o.dst r.v) (i + 1) rfl rfl (fun j r' hr => by
          by_cases hs : S (i + 1 + j) = true
          · exact .inr (hk (j + 1) r' (by simpa using hr) (by omega) (by rw [show i + (j + 1) = i + 1 + j by omega]; exact hs) hd)
          · left
            have : (i + 1 + j == i) = false := by simp; omega
            simp [this, hs])
        rw [this, hfalse, hd]
        simp only [tput, tget_tset, tmS_length]
        simp
      · have hn' : ∀ U : List AV, tget (tput U r.o.dst r.v) t = tget U t := by
          intro U
          cases hd' : r.o.dst with
          | none => rfl
          | some u =>
            simp only [tput, tget_tset]
            rw [if_neg]
            rintro rfl
            exact hd hd'
        rw [hn']
        refine tmS_same rs _ _ _ (tput_length _ _ _) (hn' T) fun j r' hr => .inl ?_
        have : (i + 1 + j == i) = false := by simp; omega
        simp [this]
    · have e2 : (i == n) = false := by simpa using e
      simp only [e2, Bool.or_false]
      refine tmS_add rs _ (i + 1) (by omega) ?_ hn fun j r' hr hlt hs hb => hk (j + 1) r' (by simpa using hr) (by omega) (by rw [show i + (j + 1) = i + 1 + j by omega]; exact hs) hb
      rw [show n - i = n - (i + 1) + 1 by omega] at h
      simpa using h

end Go.Ab
end

section
/- Regions that draw their order: the evaluator goes through once. No condition. -/
namespace Go.Ab
open Go

def predsOf (o : Oper) : List Nat := o.after.toList.filterMap fun e => if Region.binds .any e then some e.on else none

/-- all that stands ahead of an operation, as bits -/
def ancOf (ms : List Nat) : List Nat → Nat
  | [] => 0
  | p :: ps => (2 ^ p ||| ms.getD p 0) ||| ancOf ms ps

theorem ancOf_spec (ms : List Nat) (i : Nat) : ∀ ps : List Nat, (ancOf ms ps).testBit i = true ↔ ∃ p ∈ ps, i = p ∨ (ms.getD p 0).testBit i = true
  | [] => by simp [ancOf]
  | p :: ps => by
    simp only [ancOf, Nat.testBit_or, Bool.or_eq_true, ancOf_spec ms i ps, Nat.testBit_two_pow, List.mem_cons, exists_eq_or_imp, decide_eq_true_eq]
    constructor
    · rintro ((h | h) | h)
      · exact .inl (.inl h.symm)
      · exact .inl (.inr h)
      · exact .inr h
    · rintro ((h | h) | h)
      · exact .inl (.inl h.symm)
      · exact .inl (.inr h)
      · exact .inr h

/-- those of the operations so far that do not stand ahead -/
def unl (A : Nat) : List Rec → Nat → List Rec
  | [], _ => []
  | r :: rs, i => match A.testBit i with | true => unl A rs (i + 1) | false => r :: unl A rs (i + 1)

theorem unl_mem {A : Nat} : ∀ (rs : List Rec) (i j : Nat) (r : Rec), rs[j]? = some r → A.testBit (i + j) = false → r ∈ unl A rs i
  | [], _, _, _, h, _ => by simp at h
  | x :: rs, i, j, r, h, hb => by
    simp only [unl]
    cases j with
    | zero =>
      simp at h
      subst h
      rw [Nat.add_zero] at hb
      rw [hb]
      exact List.mem_cons_self
    | succ j =>
      have := unl_mem rs (i + 1) j r (by simpa using h) (by rw [show i + 1 + j = i + (j + 1) by omega]; exact hb)
      split
      · exact this
      · exact List.mem_cons_of_mem _ this

/-- a heap of some places alone -/
def keep (f : Nat → Bool) : Heap → Nat → Heap
  | [], _ => []
  | e :: H, i => (match f i with | true => e | false => .hole) :: keep f H (i + 1)

theorem hat_keep (f : Nat → Bool) : ∀ (H : Heap) (i b : Nat), hat (keep f H i) b = if f (i + b) then hat H b else .hole
  | [], i, b => by simp [keep, hat]
  | e :: H, i, b => by
    cases b with
    | zero => simp only [keep, hat, Nat.add_zero]; cases f i <;> rfl
    | succ b =>
      simp only [keep, hat]
      rw [hat_keep f H (i + 1) b, show i + 1 + b = i + (b + 1) by omega]

mutual
/-- places that a value names -/
def blocksOf : AV → List Nat
  | .ptr b _ _ => [b]
  | .whole b => [b]
  | .acc b => [b]
  | .part b _ _ => [b]
  | .seg b _ _ _ => [b]
  | .func _ first cap => blocksOfL first ++ blocksOfL cap
  | .iface _ v => blocksOf v
  | .agg l => blocksOfL l
  | .tuple l => blocksOfL l
  | _ => []
def blocksOfL : List AV → List Nat
  | [] => []
  | x :: xs => blocksOf x ++ blocksOfL xs
end

/-- and those that are named there -/
def reach (H : Heap) : Nat → List Nat → List Nat → List Nat
  | 0, _, seen => seen
  | _ + 1, [], seen => seen
  | n + 1, b :: todo, seen => if seen.contains b then reach H n todo seen else
    match hat H b with
    | .live (.vals _ l) _ => reach H n (blocksOfL l ++ todo) (b :: seen)
    | _ => reach H n todo (b :: seen)

/-- what an operation may look at -/
def foot (e : Operand → AV) (o : Oper) (H : Heap) : List Nat :=
  match o.op with
  | .load _ a => blocksOf (e a)
  | .store _ a _ => blocksOf (e a)
  | .nilCheck a => blocksOf (e a)
  | .fieldAddr _ a _ => blocksOf (e a)
  | .indexAddr _ a _ => blocksOf (e a)
  | .slice _ a _ _ _ => blocksOf (e a)
  | .binOp _ _ x y _ => blocksOf (e x) ++ blocksOf (e y)
  | .call c => match c.callee with
    | .builtin _ => blocksOfL (c.args.toList.map e)
    | _ => reach H 1000 (blocksOfL (o.op.operands.toList.map e)) []
  | _ => []

section
variable {X : Type}

def regD (c : Ctx X) (ops : Array Oper) : List Oper → List Rec → List Nat → (St → Option X) → St → Option X
  | [], _, _, k, s => k s
  | o :: rest, recs, ms, k, s =>
    if (predsOf o).all (fun p => decide (p < recs.length)) && (unl (ancOf ms (predsOf o)) recs 0).all (fun r => r.o.apart ops o) then
      guardS ops.toList o s.tmps
        (fun tm => opX c o.op (ev tm) (keep (fun b => (foot (ev tm) o s.heap).contains b && (unl (ancOf ms (predsOf o)) recs 0).all fun r => !r.tc.contains b) s.heap 0) s.heap.length fun v D =>
          if (unl (ancOf ms (predsOf o)) recs 0).all (fun r => disj (D.map (·.1)) r.fp && disj (D.map (·.1)) r.tc) then
            regD c ops rest (recs ++ [⟨o, v, D, foot (ev tm) o s.heap⟩]) (ms ++ [ancOf ms (predsOf o)]) k ⟨tput tm o.dst v, hput s.heap D⟩
          else none)
        (fun tm => regD c ops rest (recs ++ [⟨o, .tuple [], [], []⟩]) (ms ++ [ancOf ms (predsOf o)]) k ⟨tput tm o.dst (.tuple []), s.heap⟩)
    else none

/-- what is known of one operation of the walk -/
structure Fact (P : Program) (ops : Array Oper) (T0 : List AV) (C0 : Heap) (R : List Rec) (ms : List Nat) (j : Nat) (r : Rec) : Prop where
  op : ops[j]? = some r.o
  preds : ∀ p ∈ predsOf r.o, p < j
  anc : ms[j]? = some (ancOf (ms.take j) (predsOf r.o))
  un : ∀ i r', i < j → R[i]? = some r' → (ancOf (ms.take j) (predsOf r.o)).testBit i = false → r'.o.apart ops r.o = true ∧ ∀ b ∈ r.tc, b ∉ r'.fp ∧ b ∉ r'.tc
  run : ((∀ m H a tm', (∀ t ∈ r.o.looksAt ops, tget tm' t = tget (tmS (fun _ => true) T0 (R.take j) 0) t) → TR m H tm' a → Region.wanted r.o (yielded ops a.tmps) = true) ∧
      ∃ K, Step P r.o (ev (tmS (fun _ => true) T0 (R.take j) 0)) K (hpS (fun _ => true) C0 (R.take j) 0).length r.v r.D ∧
        ∀ b x, hget K b = some x → hget (hpS (fun _ => true) C0 (R.take j) 0) b = some x ∧ b ∈ r.fp ∧ ∀ i r', i < j → R[i]? = some r' → (ancOf (ms.take j) (predsOf r.o)).testBit i = false → b ∉ r'.tc) ∨
    ((∀ m H a tm', (∀ t ∈ r.o.looksAt ops, tget tm' t = tget (tmS (fun _ => true) T0 (R.take j) 0) t) → TR m H tm' a → Region.wanted r.o (yielded ops a.tmps) = false) ∧ r.v = .tuple [] ∧ r.D = [])

theorem Fact.more {P : Program} {ops : Array Oper} {T0 : List AV} {C0 : Heap} {R : List Rec} {ms : List Nat} {j : Nat} {r : Rec} (h : Fact P ops T0 C0 R ms j r) (hR : j ≤ R.length) (hm : ms.length = R.length) (r1 : Rec) (m1 : Nat) (hj : j < R.length) :
    Fact P ops T0 C0 (R ++ [r1]) (ms ++ [m1]) j r := by
  have e1 : (ms ++ [m1]).take j = ms.take j := List.take_append_of_le_length (by omega)
  have e2 : (R ++ [r1]).take j = R.take j := List.take_append_of_le_length hR
  have e3 : ∀ i, i < j → (R ++ [r1])[i]? = R[i]? := fun i hi => List.getElem?_append_left (by omega)
  refine ⟨h.op, h.preds, ?_, ?_, ?_⟩
  · rw [e1, List.getElem?_append_left (by omega)]; exact h.anc
  · intro i r' hi hr
    rw [e1]
    rw [e3 i hi] at hr
    exact h.un i r' hi hr
  · rw [e1, e2]
    rcases h.run with ⟨a1, K, a2, a3⟩ | a
    · refine .inl ⟨a1, K, a2, fun b x hb => ?_⟩
      obtain ⟨b1, b2, b3⟩ := a3 b x hb
      refine ⟨b1, b2, fun i r' hi hr => ?_⟩
      rw [e3 i hi] at hr
      exact b3 i r' hi hr
    · exact .inr a

theorem tmS_snoc (S : Nat → Bool) : ∀ (rs : List Rec) (T : List AV) (i : Nat) (r : Rec), tmS S T (rs ++ [r]) i = cond (S (i + rs.length)) (tput (tmS S T rs i) r.o.dst r.v) (tmS S T rs i)
  | [], T, i, r => by simp [tmS]
  | x :: rs, T, i, r => by
    simp only [List.cons_append, tmS, List.length_cons]
    rw [tmS_snoc S rs, show i + 1 + rs.length = i + (rs.length + 1) by omega]

theorem hpS_snoc (S : Nat → Bool) : ∀ (rs : List Rec) (T : Heap) (i : Nat) (r : Rec), hpS S T (rs ++ [r]) i = cond (S (i + rs.length)) (hput (hpS S T rs i) r.D) (hpS S T rs i)
  | [], T, i, r => by simp [hpS]
  | x :: rs, T, i, r => by
    simp only [List.cons_append, hpS, List.length_cons]
    rw [hpS_snoc S rs, show i + 1 + rs.length = i + (rs.length + 1) by omega]

/-- the walk gives the facts -/
theorem regD_facts {c : Ctx X} (hc : CtxOk c) {ops : Array Oper} {T0 : List AV} {C0 : Heap} {k : St → Option X} {x : X} : ∀ (l : List Oper) (R : List Rec) (ms : List Nat) (s : St), (∀ j, l[j]? = ops[R.length + j]?) → ms.length = R.length →
    (∀ j r, R[j]? = some r → Fact c.P ops T0 C0 R ms j r) → s = ⟨tmS (fun _ => true) T0 R 0, hpS (fun _ => true) C0 R 0⟩ → regD c ops l R ms k s = some x →
    ∃ R' ms', R'.length = R.length + l.length ∧ ms'.length = R'.length ∧ (∀ j r, R'[j]? = some r → Fact c.P ops T0 C0 R' ms' j r) ∧ k ⟨tmS (fun _ => true) T0 R' 0, hpS (fun _ => true) C0 R' 0⟩ = some x
  | [], R, ms, s, hl, hm, hF, hs, h => ⟨R, ms, by simp, hm, hF, by rw [← hs]; exact h⟩
  | o :: rest, R, ms, s, hl, hm, hF, hs, h => by
    subst hs
    simp only [regD] at h
    split at h
    · rename_i hcond
      simp only [Bool.and_eq_true] at hcond
      obtain ⟨hp, hap⟩ := hcond
      have hpreds : ∀ p ∈ predsOf o, p < R.length := fun p hp' => by have := List.all_eq_true.1 hp p hp'; simpa using this
      have hop : ops[R.length]? = some o := by have := hl 0; simpa using this.symm
      have hunl : ∀ i r', i < R.length → R[i]? = some r' → (ancOf ms (predsOf o)).testBit i = false → r' ∈ unl (ancOf ms (predsOf o)) R 0 := fun i r' _ hr hb => unl_mem R 0 i r' hr (by rw [Nat.zero_add]; exact hb)
      have step : ∀ (r : Rec), r.o = o → (∀ i r', i < R.length → R[i]? = some r' → (ancOf ms (predsOf o)).testBit i = false → ∀ b ∈ r.tc, b ∉ r'.fp ∧ b ∉ r'.tc) →
          (((∀ m H a tm', (∀ t ∈ r.o.looksAt ops, tget tm' t = tget (tmS (fun _ => true) T0 R 0) t) → TR m H tm' a → Region.wanted r.o (yielded ops a.tmps) = true) ∧
            ∃ K, Step c.P r.o (ev (tmS (fun _ => true) T0 R 0)) K (hpS (fun _ => true) C0 R 0).length r.v r.D ∧
              ∀ b x, hget K b = some x → hget (hpS (fun _ => true) C0 R 0) b = some x ∧ b ∈ r.fp ∧ ∀ i r', i < R.length → R[i]? = some r' → (ancOf ms (predsOf o)).testBit i = false → b ∉ r'.tc) ∨
          ((∀ m H a tm', (∀ t ∈ r.o.looksAt ops, tget tm' t = tget (tmS (fun _ => true) T0 R 0) t) → TR m H tm' a → Region.wanted r.o (yielded ops a.tmps) = false) ∧ r.v = .tuple [] ∧ r.D = [])) →
          regD c ops rest (R ++ [r]) (ms ++ [ancOf ms (predsOf o)]) k ⟨tput (tmS (fun _ => true) T0 R 0) o.dst r.v, hput (hpS (fun _ => true) C0 R 0) r.D⟩ = some x →
          ∃ R' ms', R'.length = R.length + (o :: rest).length ∧ ms'.length = R'.length ∧ (∀ j r, R'[j]? = some r → Fact c.P ops T0 C0 R' ms' j r) ∧ k ⟨tmS (fun _ => true) T0 R' 0, hpS (fun _ => true) C0 R' 0⟩ = some x := by
        intro r hro hun hrun hgo
        have e1 : (ms ++ [ancOf ms (predsOf o)]).take R.length = ms := by rw [← hm]; exact List.take_left
        have e2 : (R ++ [r]).take R.length = R := List.take_left
        have hfact : Fact c.P ops T0 C0 (R ++ [r]) (ms ++ [ancOf ms (predsOf o)]) R.length r := by
          refine ⟨by rw [hro]; exact hop, by rw [hro]; exact hpreds, by rw [e1, ← hm, hro]; simp, ?_, ?_⟩
          · intro i r' hi hr
            rw [e1, hro]
            rw [List.getElem?_append_left hi] at hr
            intro hb
            exact ⟨List.all_eq_true.1 hap r' (hunl i r' hi hr hb), hun i r' hi hr hb⟩
          · rw [e1, e2, hro]
            rw [hro] at hrun
            rcases hrun with ⟨a1, K, a2, a3⟩ | a
            · refine .inl ⟨a1, K, a2, fun b y hb => ?_⟩
              obtain ⟨b1, b2, b3⟩ := a3 b y hb
              refine ⟨b1, b2, fun i r' hi hr => ?_⟩
              rw [List.getElem?_append_left hi] at hr
              exact b3 i r' hi hr
            · exact .inr a
        obtain ⟨R', ms', h1, h2, h3, h4⟩ := regD_facts hc rest (R ++ [r]) (ms ++ [ancOf ms (predsOf o)]) _ (fun j => by
            have := hl (j + 1)
            rw [List.length_append, List.length_singleton, Nat.add_assoc, Nat.add_comm 1 j]
            simpa using this) (by simp [hm]) (fun j r1 hr1 => by
            by_cases hj : j < R.length
            · rw [List.getElem?_append_left hj] at hr1
              exact (hF j r1 hr1).more (by omega) hm r _ hj
            · have : j = R.length := by
                have := (List.getElem?_eq_some_iff.1 hr1).1
                simp at this
                omega
              subst this
              rw [List.getElem?_append_right (Nat.le_refl _)] at hr1
              simp at hr1
              subst hr1
              exact hfact) (by rw [tmS_snoc, hpS_snoc, hro]; rfl) hgo
        exact ⟨R', ms', by simp at h1; simp; omega, h2, h3, h4⟩
      rcases guard_sound rfl h with ⟨g1, g2⟩ | ⟨g1, g2⟩
      · obtain ⟨v, D, k1, k2⟩ := opX_step hc o g1
        split at k1
        · rename_i hdis
          refine step ⟨o, v, D, foot (ev (tmS (fun _ => true) T0 R 0)) o (hpS (fun _ => true) C0 R 0)⟩ rfl (fun i r' hi hr hb b hbt => ?_) (.inl ⟨fun m H a tm' hag htr => g2 m H a tm' hag htr, _, k2, fun b y hb => ?_⟩) k1
          · have := List.all_eq_true.1 hdis r' (hunl i r' hi hr hb)
            simp only [Bool.and_eq_true] at this
            exact ⟨disj_spec this.1 hbt, disj_spec this.2 hbt⟩
          · have hk := hat_keep (fun b => (foot (ev (tmS (fun _ => true) T0 R 0)) o (hpS (fun _ => true) C0 R 0)).contains b && (unl (ancOf ms (predsOf o)) R 0).all fun r => !r.tc.contains b) (hpS (fun _ => true) C0 R 0) 0 b
            rw [Nat.zero_add] at hk
            by_cases hq : ((foot (ev (tmS (fun _ => true) T0 R 0)) o (hpS (fun _ => true) C0 R 0)).contains b && (unl (ancOf ms (predsOf o)) R 0).all fun r => !r.tc.contains b) = true
            · rw [if_pos hq] at hk
              rw [hget_of_hat hk] at hb
              simp only [Bool.and_eq_true] at hq
              refine ⟨hb, by simpa using hq.1, fun i r' hi hr hbit => ?_⟩
              have := List.all_eq_true.1 hq.2 r' (hunl i r' hi hr hbit)
              simpa using this
            · rw [if_neg hq] at hk
              unfold hget at hb
              rw [hk] at hb
              cases hb
        · cases k1
      · refine step ⟨o, .tuple [], [], []⟩ rfl (fun i r' hi hr hb b hbt => by simp [Rec.tc] at hbt) (.inr ⟨fun m H a tm' hag htr => g2 m H a tm' hag htr, rfl, rfl⟩) g1
    · cases h

end
end Go.Ab
end

section
/- Regions that draw their order: every order comes to what the walk says. No condition. -/
namespace Go.Ab
open Go

theorem hpS_take (C : Heap) : ∀ (rs : List Rec) (i j : Nat), i ≤ j → hpS (fun x => decide (x < j)) C rs i = hpS (fun _ => true) C (rs.take (j - i)) i
  | [], i, j, _ => by simp [hpS]
  | r :: rs, i, j, h => by
    by_cases e : i < j
    · rw [show j - i = (j - (i + 1)) + 1 by omega, List.take_succ_cons]
      simp only [hpS, e, decide_true, cond_true]
      rw [← hpS_take _ rs (i + 1) j (by omega)]
    · rw [show j - i = 0 by omega, List.take_zero]
      simp only [hpS]
      have : decide (i < j) = false := by simpa using e
      simp only [this, cond_false]
      have hall : ∀ (rs : List Rec) (C : Heap) (i : Nat), j ≤ i → hpS (fun x => decide (x < j)) C rs i = C := by
        intro rs
        induction rs with
        | nil => intro C i _; rfl
        | cons r rs ih =>
          intro C i hi
          have : decide (i < j) = false := by simp; omega
          simp only [hpS, this, cond_false]
          exact ih C (i + 1) (by omega)
      exact hall rs C (i + 1) (by omega)

theorem tmS_take (T : List AV) : ∀ (rs : List Rec) (i j : Nat), i ≤ j → tmS (fun x => decide (x < j)) T rs i = tmS (fun _ => true) T (rs.take (j - i)) i
  | [], i, j, _ => by simp [tmS]
  | r :: rs, i, j, h => by
    by_cases e : i < j
    · rw [show j - i = (j - (i + 1)) + 1 by omega, List.take_succ_cons]
      simp only [tmS, e, decide_true, cond_true]
      rw [← tmS_take _ rs (i + 1) j (by omega)]
    · rw [show j - i = 0 by omega, List.take_zero]
      simp only [tmS]
      have : decide (i < j) = false := by simpa using e
      simp only [this, cond_false]
      have hall : ∀ (rs : List Rec) (T : List AV) (i : Nat), j ≤ i → tmS (fun x => decide (x < j)) T rs i = T := by
        intro rs
        induction rs with
        | nil => intro C i _; rfl
        | cons r rs ih =>
          intro C i hi
          have : decide (i < j) = false := by simp; omega
          simp only [tmS, this, cond_false]
          exact ih C (i + 1) (by omega)
      exact hall rs T (i + 1) (by omega)

/-- which are done -/
def cnt (l : Array Bool) : Nat := l.toList.count true

theorem cnt_set (l : Array Bool) (j : Nat) (hj : j < l.size) (h : l.getD j false = false) : cnt (l.setIfInBounds j true) = cnt l + 1 := by
  have key : ∀ (xs : List Bool) (j : Nat), j < xs.length → xs[j]? = some false → (xs.set j true).count true = xs.count true + 1 := by
    intro xs
    induction xs with
    | nil => intro j hj; simp at hj
    | cons x xs ih =>
      intro j hj hx
      cases j with
      | zero => simp at hx; subst hx; simp
      | succ j => simp at hx hj; simp only [List.set_cons_succ, List.count_cons, ih j hj hx]; omega
  unfold cnt
  rw [Array.toList_setIfInBounds]
  apply key
  · simpa using hj
  · rw [Array.getElem?_toList]
    have : l[j]? = some (l[j]) := by simp [hj]
    rw [this]
    simp [Array.getD, hj] at h
    rw [h]

theorem cnt_le (l : Array Bool) : cnt l ≤ l.size := by
  unfold cnt
  exact List.count_le_length

theorem cnt_full (l : Array Bool) (h : cnt l = l.size) (j : Nat) (hj : j < l.size) : l.getD j false = true := by
  unfold cnt at h
  rw [← Array.length_toList] at h
  have := List.count_eq_length.1 h
  have hm := this (l[j]) (by simp [Array.getElem_mem_toList])
  simp [Array.getD, hj]
  exact hm.symm

theorem orders {P : Program} {ops : Array Oper} {Q : Exit → Act → World → Prop} {T0 : List AV} {C0 : Heap} {R : List Rec} {ms : List Nat} {m0 : Map} {a0 : Act} {w0 : World} {S : Nat → Bool} (hS : ∀ (j : Nat) (r : Rec), R[j]? = some r → ∀ t, r.o.dst = some t → S t = true) (hn : R.length = ops.size) (hms : ms.length = R.length) (hF : ∀ j r, R[j]? = some r → Fact P ops T0 C0 R ms j r)
    (hQ : ∀ m a w, To m0 C0 a0 w0 m ⟨tmS (fun _ => true) T0 R 0, hpS (fun _ => true) C0 R 0⟩ a w → Keep S a0 a → Q .normal a w) :
    ∀ (fuel : Nat) (listed : Array Bool) (m : Map) (a : Act) (w : World), listed.size = ops.size → ops.size ≤ cnt listed + fuel →
      (∀ j A, ms[j]? = some A → listed.getD j false = true → ∀ i, A.testBit i = true → listed.getD i false = true) →
      To m0 C0 a0 w0 m ⟨tmS (fun i => listed.getD i false) T0 R 0, hpS (fun i => listed.getD i false) C0 R 0⟩ a w → Keep S a0 a → wpAny P .any ops Q fuel listed a w := by
  intro fuel
  -- where nothing is ready all is done
  have hall : ∀ (listed : Array Bool), listed.size = ops.size → Region.ready .any ops listed = [] → ∀ j, j < ops.size → listed.getD j false = true := by
    intro listed hs hr j
    induction j using Nat.strongRecOn with
    | ind j ih =>
      intro hj
      apply Classical.byContradiction
      intro hno
      have hR : R[j]? = some R[j] := List.getElem?_eq_getElem (by omega)
      have f := hF j _ hR
      have : j ∈ Region.ready .any ops listed := by
        unfold Region.ready
        rw [List.mem_filter]
        refine ⟨List.mem_range.2 hj, ?_⟩
        have e1 : listed.getD j true = false := by
          have hlt : j < listed.size := by omega
          simp [Array.getD, hlt] at hno ⊢
          exact hno
        rw [e1, f.op]
        simp only [Bool.not_false, Bool.true_and, Option.map_some, Option.getD_some]
        rw [Array.all_eq_true']
        intro e he
        by_cases hb : Region.binds .any e = true
        · have hp : e.on ∈ predsOf (R[j]).o := by
            unfold predsOf
            rw [List.mem_filterMap]
            exact ⟨e, by simpa using he, by simp [hb]⟩
          have := ih e.on (f.preds _ hp) (by have := f.preds _ hp; omega)
          simp [this]
        · simp [hb]
      rw [hr] at this
      cases this
  have hfin : ∀ (listed : Array Bool) (m : Map) (a : Act) (w : World), listed.size = ops.size → Region.ready .any ops listed = [] → To m0 C0 a0 w0 m ⟨tmS (fun i => listed.getD i false) T0 R 0, hpS (fun i => listed.getD i false) C0 R 0⟩ a w → Keep S a0 a → Q .normal a w := by
    intro listed m a w hs hr hto hkp
    have hl := hall listed hs hr
    have hh : ∀ b, hat (hpS (fun i => listed.getD i false) C0 R 0) b = hat (hpS (fun _ => true) C0 R 0) b := fun b => hpS_same R C0 C0 0 rfl fun j r hj => .inl (by
      rw [Nat.zero_add]
      exact hl j (by have := (List.getElem?_eq_some_iff.1 hj).1; omega))
    have ht : ∀ t, tget (tmS (fun i => listed.getD i false) T0 R 0) t = tget (tmS (fun _ => true) T0 R 0) t := fun t => tmS_same R T0 T0 0 rfl rfl fun j r hj => .inl (by
      rw [Nat.zero_add]
      exact hl j (by have := (List.getElem?_eq_some_iff.1 hj).1; omega))
    refine hQ m a w ⟨⟨hto.at_.sim.congr hh, ⟨?_, fun t => ?_⟩⟩, hto.tr.congr hh, hto.defers⟩ hkp
    · have := hto.at_.tr.len
      rw [tmS_length] at this ⊢
      exact this
    · have := hto.at_.tr.at_ t
      rw [ht t] at this
      exact this.mono (Le.congr hh)
  induction fuel with
  | zero =>
    intro listed m a w hs hc _ hto hkp
    have hr : Region.ready .any ops listed = [] := by
      have hcf : cnt listed = listed.size := by have := cnt_le listed; omega
      unfold Region.ready
      rw [List.filter_eq_nil_iff]
      intro j hj
      have hj' : j < listed.size := by have := List.mem_range.1 hj; omega
      have := cnt_full listed hcf j hj'
      simp [Array.getD, hj'] at this ⊢
      simp [this]
    exact ⟨hr, hfin listed m a w hs hr hto hkp⟩
  | succ fuel ih =>
    intro listed m a w hs hc hcl hto hkp
    refine ⟨fun hr => hfin listed m a w hs hr hto hkp, fun j hj => ?_⟩
    -- j is ready
    unfold Region.ready at hj
    rw [List.mem_filter] at hj
    obtain ⟨hj1, hj2⟩ := hj
    have hjn : j < ops.size := List.mem_range.1 hj1
    have hjl : j < listed.size := by omega
    simp only [Bool.and_eq_true, Bool.not_eq_true'] at hj2
    have hno : listed.getD j false = false := by
      have := hj2.1
      simp [Array.getD, hjl] at this ⊢
      exact this
    have hR : R[j]? = some R[j] := List.getElem?_eq_getElem (by omega)
    generalize hr : R[j] = r at hR
    have f := hF j r hR
    have hA := f.anc
    generalize hAe : ancOf (ms.take j) (predsOf r.o) = A at hA
    have hpl : ∀ p ∈ predsOf r.o, listed.getD p false = true := by
      intro p hp
      unfold predsOf at hp
      rw [List.mem_filterMap] at hp
      obtain ⟨e, he, hb⟩ := hp
      split at hb
      · rename_i hbb
        cases hb
        have h2 := hj2.2
        rw [f.op] at h2
        simp only [Option.map_some, Option.getD_some] at h2
        rw [Array.all_eq_true'] at h2
        have := h2 e (by simpa using he)
        simpa [hbb] using this
      · cases hb
    have hAl : ∀ i, A.testBit i = true → listed.getD i false = true := by
      intro i hi
      rw [← hAe, ancOf_spec] at hi
      obtain ⟨p, hp, h1 | h1⟩ := hi
      · subst h1; exact hpl _ hp
      · have hpj := f.preds p hp
        have hpm : p < ms.length := by omega
        have e1 : (ms.take j).getD p 0 = ms[p] := by
          simp [List.getD_eq_getElem?_getD, List.getElem?_take, hpj, hpm]
        rw [e1] at h1
        exact hcl p ms[p] (by simp [hpm]) (hpl p hp) i h1
    -- pairs
    have hun : ∀ (i : Nat) (r' : Rec), R[i]? = some r' → listed.getD i false = decide (i < j) ∨ (r'.o.apart ops r.o = true ∧ (∀ b ∈ r.tc, b ∉ r'.fp ∧ b ∉ r'.tc) ∧ i < j ∧ A.testBit i = false) ∨ (r.o.apart ops r'.o = true ∧ ∀ b ∈ r'.tc, b ∉ r.fp ∧ b ∉ r.tc) := by
      intro i r' hi
      by_cases h1 : i < j
      · cases hb : A.testBit i with
        | true => left; rw [hAl i hb]; simp [h1]
        | false =>
          obtain ⟨g1, g2⟩ := f.un i r' h1 hi (by rw [hAe]; exact hb)
          exact .inr (.inl ⟨g1, g2, h1, rfl⟩)
      · by_cases h2 : i = j
        · subst h2; left; rw [hno]; simp
        · cases hl : listed.getD i false with
          | false => left; simp [h1]
          | true =>
            have fi := hF i r' hi
            right; right
            refine fi.un j r (by omega) hR ?_
            cases hb : (ancOf (ms.take i) (predsOf r'.o)).testBit j with
            | false => rfl
            | true =>
              have := hcl i _ fi.anc hl j hb
              rw [hno] at this
              cases this
    have htm : ∀ t ∈ r.o.looksAt ops, tget (tmS (fun i => listed.getD i false) T0 R 0) t = tget (tmS (fun _ => true) T0 (R.take j) 0) t := by
      intro t ht
      have e := tmS_take T0 R 0 j (Nat.zero_le _)
      rw [Nat.sub_zero] at e
      rw [← e]
      refine tmS_same R T0 T0 0 rfl rfl fun i r' hi => ?_
      rw [Nat.zero_add]
      rcases hun i r' hi with h | ⟨h, _⟩ | ⟨h, _⟩
      · exact .inl h
      · exact .inr fun hd => (Oper.apart_spec h).1 t hd ht
      · exact .inr fun hd => (Oper.apart_spec h).2.2 t hd ht
    have hhp : ∀ b, (∀ (i : Nat) (r' : Rec), R[i]? = some r' → i < j → A.testBit i = false → b ∉ r'.tc) → (b ∈ r.fp ∨ b ∈ r.tc) → hat (hpS (fun i => listed.getD i false) C0 R 0) b = hat (hpS (fun _ => true) C0 (R.take j) 0) b := by
      intro b hb1 hb2
      have e := hpS_take C0 R 0 j (Nat.zero_le _)
      rw [Nat.sub_zero] at e
      rw [← e]
      refine hpS_same R C0 C0 0 rfl fun i r' hi => ?_
      rw [Nat.zero_add]
      rcases hun i r' hi with h | ⟨_, _, h1, h2⟩ | ⟨_, h⟩
      · exact .inl h
      · exact .inr (hb1 i r' hi h1 h2)
      · refine .inr fun hbt => ?_
        rcases hb2 with h3 | h3
        · exact (h b hbt).1 h3
        · exact (h b hbt).2 h3
    -- the next set
    have hset : ∀ i, (listed.setIfInBounds j true).getD i false = (listed.getD i false || i == j) := by
      intro i
      simp only [Array.getD_eq_getD_getElem?, Array.getElem?_setIfInBounds]
      by_cases h1 : j = i
      · subst h1; simp [hjl]
      · rw [if_neg h1]
        have : (i == j) = false := by simp; exact fun e => h1 e.symm
        simp [this]
    have hclose : ∀ i A', ms[i]? = some A' → (listed.setIfInBounds j true).getD i false = true → ∀ x, A'.testBit x = true → (listed.setIfInBounds j true).getD x false = true := by
      intro i A' hi hl x hx
      rw [hset] at hl ⊢
      simp only [Bool.or_eq_true, beq_iff_eq] at hl ⊢
      left
      rcases hl with hl | rfl
      · exact hcl i A' hi hl x hx
      · rw [hA] at hi
        cases hi
        exact hAl x hx
    have hfun : (fun i => (listed.setIfInBounds j true).getD i false) = fun i => listed.getD i false || i == j := funext hset
    have htadd : ∀ t, tget (tmS (fun i => listed.getD i false || i == j) T0 R 0) t = tget (tput (tmS (fun i => listed.getD i false) T0 R 0) r.o.dst r.v) t := fun t =>
      tmS_add (n := j) (rn := r) R T0 0 (Nat.zero_le _) (by simpa using hR) hno fun i r' hi hlt hl hd => by
        rw [Nat.zero_add] at hlt hl
        rcases hun i r' hi with h | ⟨_, _, h1, _⟩ | ⟨h, _⟩
        · rw [hl] at h
          have : i < j := by simpa using h.symm
          omega
        · omega
        · exact fun hd' => (Oper.apart_spec h).2.1 t hd hd'
    have hhadd : ∀ b, hat (hput (hpS (fun i => listed.getD i false) C0 R 0) r.D) b = hat (hpS (fun i => listed.getD i false || i == j) C0 R 0) b := fun b =>
      (hpS_add (n := j) (rn := r) R C0 0 (Nat.zero_le _) (by simpa using hR) hno fun i r' hi hlt hl hb hb' => by
        rw [Nat.zero_add] at hlt hl
        rcases hun i r' hi with h | ⟨_, _, h1, _⟩ | ⟨_, h⟩
        · rw [hl] at h
          have : i < j := by simpa using h.symm
          omega
        · omega
        · exact (h b hb').2 hb).symm
    have hnext : ∀ m' a' w' v', Sim m' (hput (hpS (fun i => listed.getD i false) C0 R 0) r.D) w' → VR m' (hput (hpS (fun i => listed.getD i false) C0 R 0) r.D) r.v v' → Tr m (hpS (fun i => listed.getD i false) C0 R 0) w m' (hput (hpS (fun i => listed.getD i false) C0 R 0) r.D) w' →
        a' = a.put r.o.dst v' → wpAny P .any ops Q fuel (listed.setIfInBounds j true) a' w' := by
      intro m' a' w' v' g1 g2 g3 ha
      subst ha
      refine ih _ m' _ w' (by simp [hs]) (by rw [cnt_set listed j hjl hno]; omega) hclose ?_ (hkp.trans (Keep.put a r.o.dst v' (hS j r hR)))
      rw [hfun]
      have htr := (hto.at_.tr.mono g3.ext).put r.o.dst g2
      refine ⟨⟨g1.congr hhadd, ⟨?_, fun t => ?_⟩⟩, (hto.tr.trans g3).congr hhadd, by rw [put_defers]; exact hto.defers⟩
      · have := htr.len
        simp only [tput_length, tmS_length] at this ⊢
        exact this
      · have := htr.at_ t
        simp only [← htadd t] at this
        exact this.mono (Le.congr hhadd)
    unfold wpOp
    rw [f.op]
    rcases f.run with ⟨h1, K, h2, h3⟩ | ⟨h1, h2, h3⟩
    · simp only [h1 m _ a _ htm hto.at_.tr, if_true]
      left
      refine h2 m _ a w (fun b x hb => ?_) (fun d hd hq => ?_) hto.at_.sim (fun x hx => ?_) _ _ fun v' m' w' g1 g2 g3 => hnext m' _ w' v' g1 g2 g3 rfl
      · obtain ⟨k1, k2, k3⟩ := h3 b x hb
        rw [hget_of_hat (hhp b (fun i r' hi hij hbit => k3 i r' hij hi (by rw [hAe]; exact hbit)) (.inl k2))]
        exact k1
      · have hdt : d.1 ∈ r.tc := List.mem_map_of_mem hd
        rw [hkn_of_hat (hhp d.1 (fun i r' hi hij hbit => (f.un i r' hij hi (by rw [hAe]; exact hbit)).2 _ hdt |>.2) (.inr hdt))]
        exact fresh_ge hq
      · have hv := hto.at_.tr.ev x
        have : ev (tmS (fun i => listed.getD i false) T0 R 0) x = ev (tmS (fun _ => true) T0 (R.take j) 0) x := by
          cases x with
          | tmp t => exact htm t (by unfold Oper.looksAt; rw [List.mem_append]; left; rw [List.mem_filterMap]; exact ⟨.tmp t, by simpa using hx, rfl⟩)
          | const v => rfl
          | global g => rfl
          | func g => rfl
        rw [this] at hv
        exact hv
    · simp only [h1 m _ a _ htm hto.at_.tr]
      refine hnext m _ w Go.undef ?_ ?_ ?_ rfl
      · rw [h3]; exact hto.at_.sim
      · rw [h2]; exact VR.unit _ _
      · rw [h3]; exact Tr.refl _ _ _

end Go.Ab
end

section
/- The evaluator of code, and that it tells the truth. No condition. -/
namespace Go.Ab
open Go

def headId : Code → Option Nat
  | .seq a _ => headId a
  | .region id _ _ => some id
  | .block id _ => some (id + 1000000)
  | _ => none

abbrev Contract (X : Type) := (Exit → St → Option X) → St → Option X

section
variable {X : Type}

def cutOf (c : Ctx X) (b : Code) : Option (Contract X) := match headId b with | some id => c.cut id | none => none

/-- round by round, so many at most -/
def roll (J : Contract X) (k : Exit → St → Option X) : Nat → St → Option X
  | 0, _ => none
  | n + 1, s => J (fun e s => match e with | .normal => roll J k n s | e => k e s) s

def evC (c : Ctx X) : Code → Contract X
  | .skip => fun k s => k .normal s
  | .label _ => fun k s => k .normal s
  | .region _ ops draw => fun k s => match draw with
    | false => regS c ops.toList ops.toList (k .normal) s
    | true => regD c ops ops.toList [] [] (k .normal) s
  | .seq a b => fun k s => match cutOf c b with
    | none => evC c a (fun e s => match e with | .normal => evC c b k s | e => k e s) s
    | some J => evC c a (fun e s => match e with | .normal => J k s | e => k e s) s
  | .cond x a b => fun k s => match ev s.tmps x with
    | .bool t => br t (evC c a k s) (evC c b k s)
    | _ => none
  | .block id b => fun k s => match c.blk id with
    | none => evC c b (fun e s => match e with | .exit id' => if id' = id then k .normal s else k (.exit id') s | e => k e s) s
    | some J => J k s
  | .exit id => fun k s => k (.exit id) s
  | .ret => fun k s => k .ret s
  | .loop b => fun k s => roll (evC c b) k 64 s
  | _ => fun _ _ => none

/-- the blocks that stand for themselves -/
def fitsL (c : Ctx X) : Code → List (Code × Contract X)
  | .seq a b => fitsL c a ++ (match cutOf c b with | none => fitsL c b | some J => [(b, J)])
  | .cond _ a b => fitsL c a ++ fitsL c b
  | .block id b => match c.blk id with | none => fitsL c b | some J => [(.block id b, J)]
  | .loop b => fitsL c b
  | _ => []

/-- where a call began -/
structure Base where
  m : Map
  H : Heap
  w : World
  defers : List Deferred

structure On (B : Base) (m : Map) (s : St) (a : Act) (w : World) : Prop where
  at_ : At m s a w
  tr : Tr B.m B.H B.w m s.heap w
  defers : a.defers = B.defers

theorem On.to {B : Base} {m : Map} {s : St} {a : Act} {w : World} (h : On B m s a w) {m' : Map} {s' : St} {a' : Act} {w' : World} (k : To m s.heap a w m' s' a' w') : On B m' s' a' w' :=
  ⟨k.at_, h.tr.trans k.tr, k.defers.trans h.defers⟩

/-- what code may assign -/
def asgB : Code → Nat → Bool
  | .skip, _ => false
  | .label _, _ => false
  | .exit _, _ => false
  | .ret, _ => false
  | .region _ ops _, t => ops.toList.any fun o => match o.dst with | some d => Nat.beq d t | none => false
  | .seq a b, t => asgB a t || asgB b t
  | .cond _ a b, t => asgB a t || asgB b t
  | .block _ b, t => asgB b t
  | .loop b, t => asgB b t
  | _, _ => true

/-- a word for code that tells the truth -/
def CodeOk (P : Program) (n0 : Nat) (code : Code) (J : Contract X) : Prop :=
  ∀ k s r, J k s = some r → ∀ B m a w, B.H.length ≤ n0 → On B m s a w → ∀ Q : Exit → Act → World → Prop, (∀ e s' m' a' w', k e s' = some r → On B m' s' a' w' → Keep (asgB code) a a' → Q e a' w') → code.wp P Q a w

theorem asg_region {id : Nat} {ops : Array Oper} {dr : Bool} : ∀ o ∈ ops.toList, ∀ t, o.dst = some t → asgB (.region id ops dr) t = true := fun o ho t ht => by
  unfold asgB
  rw [List.any_eq_true]
  exact ⟨o, ho, by rw [ht]; simp⟩

def drewW (w : World) : World := { w with drawn := w.drawn + 1 }

theorem Sim.drew {m : Map} {H : Heap} {w : World} (h : Sim m H w) : Sim m H (drewW w) where
  blk b bk md hg := (h.blk b bk md hg).far (fun _ _ hx => hx) fun _ => .inl rfl
  dis := h.dis

theorem Tr.drew (m : Map) (H : Heap) (w : World) : Tr m H w m H (drewW w) :=
  ⟨Le.refl _ _, rfl, rfl, rfl, trivial, Nat.le_refl _, fun _ _ => .inl rfl, fun _ _ h => .inr h⟩

theorem regD_sound {c : Ctx X} (hc : CtxOk c) (hm : c.P.follows .mixedOrders = true) {id : Nat} {ops : Array Oper} {k : St → Option X} {s : St} {r : X} (h : regD c ops ops.toList [] [] k s = some r) {m : Map} {a : Act} {w : World} (hat : At m s a w)
    {S : Nat → Bool} (hS : ∀ o ∈ ops.toList, ∀ t, o.dst = some t → S t = true) {Q : Exit → Act → World → Prop} (hQ : ∀ m' s' a' w', k s' = some r → To m s.heap a w m' s' a' w' → Keep S a a' → Q .normal a' w') : (Code.region id ops true).wp c.P Q a w := by
  obtain ⟨R, ms, h1, h2, h3, h4⟩ := regD_facts hc (ops := ops) (T0 := s.tmps) (C0 := s.heap) ops.toList [] [] s (by simp) rfl (fun j r hj => by simp at hj) rfl h
  refine wp_region_any hm ?_
  refine orders (m0 := m) (a0 := a) (w0 := w) (S := S) (fun j r hj => hS _ (by have := (h3 j r hj).op; exact List.mem_of_getElem? (by rw [Array.getElem?_toList]; exact this))) (by simpa using h1) h2 h3 (fun m' a' w' ht hk => hQ m' _ a' w' h4 ht hk) ops.size (Array.replicate ops.size false) m a (drewW w) (by simp) (by omega) (fun j A _ hl => ?_) ?_ (Keep.refl _ _)
  · simp [Array.getD] at hl
  · have hz : ∀ i, (Array.replicate ops.size false).getD i false = false := by
      intro i
      simp [Array.getD]
    have hf : (fun i => (Array.replicate ops.size false).getD i false) = fun _ => false := funext hz
    rw [hf]
    have e1 : ∀ (rs : List Rec) (C : Heap) (i : Nat), hpS (fun _ => false) C rs i = C := by
      intro rs
      induction rs with
      | nil => intro C i; rfl
      | cons r rs ih => intro C i; simp [hpS, ih]
    have e2 : ∀ (rs : List Rec) (C : List AV) (i : Nat), tmS (fun _ => false) C rs i = C := by
      intro rs
      induction rs with
      | nil => intro C i; rfl
      | cons r rs ih => intro C i; simp [tmS, ih]
    rw [e1, e2]
    exact ⟨⟨hat.sim.drew, hat.tr⟩, Tr.drew _ _ _, rfl⟩

theorem evC_ok {c : Ctx X} (hc : CtxOk c) (hm : c.P.follows .mixedOrders = true) {n0 : Nat} : ∀ (code : Code), (∀ p ∈ fitsL c code, CodeOk c.P n0 p.1 p.2) → CodeOk c.P n0 code (evC c code)
  | .skip, _, k, s, r, h, B, m, a, w, _, hon, Q, hQ => wp_skip (hQ _ _ _ _ _ h hon (Keep.refl _ _))
  | .label _, _, k, s, r, h, B, m, a, w, _, hon, Q, hQ => wp_label (hQ _ _ _ _ _ h hon (Keep.refl _ _))
  | .exit id, _, k, s, r, h, B, m, a, w, _, hon, Q, hQ => wp_exit (hQ _ _ _ _ _ h hon (Keep.refl _ _))
  | .ret, _, k, s, r, h, B, m, a, w, _, hon, Q, hQ => wp_ret (hQ _ _ _ _ _ h hon (Keep.refl _ _))
  | .region id ops false, _, k, s, r, h, B, m, a, w, _, hon, Q, hQ =>
    wp_region_list (regS_sound hc ops.toList s (asg_region (id := id) (dr := false)) h hon.at_ fun m' s' a' w' hk ht hkp => hQ _ _ _ _ _ hk (hon.to ht) hkp)
  | .region id ops true, _, k, s, r, h, B, m, a, w, _, hon, Q, hQ =>
    regD_sound hc hm h hon.at_ (asg_region (id := id) (dr := true)) fun m' s' a' w' hk ht hkp => hQ _ _ _ _ _ hk (hon.to ht) hkp
  | .seq x y, hf, k, s, r, h, B, m, a, w, hn, hon, Q, hQ => by
    simp only [evC] at h
    simp only [fitsL] at hf
    have left : ∀ {a b : Act}, Keep (asgB x) a b → Keep (asgB (.seq x y)) a b := fun h => h.more fun t ht => by simp [asgB, ht]
    have right : ∀ {a b : Act}, Keep (asgB y) a b → Keep (asgB (.seq x y)) a b := fun h => h.more fun t ht => by simp [asgB, ht]
    split at h
    · rename_i hcut
      rw [hcut] at hf
      refine wp_seq (evC_ok hc hm x (fun p hp => hf p (List.mem_append.2 (.inl hp))) _ _ _ h B m a w hn hon _ fun e s' m' a' w' hk hon' hkp => ?_)
      cases e with
      | normal => exact evC_ok hc hm y (fun p hp => hf p (List.mem_append.2 (.inr hp))) _ _ _ hk B m' a' w' hn hon' Q fun e s2 m2 a2 w2 h1 h2 h3 => hQ e s2 m2 a2 w2 h1 h2 ((left hkp).trans (right h3))
      | exit id => exact hQ _ _ _ _ _ hk hon' (left hkp)
      | goto l => exact hQ _ _ _ _ _ hk hon' (left hkp)
      | ret => exact hQ _ _ _ _ _ hk hon' (left hkp)
      | panic c => exact hQ _ _ _ _ _ hk hon' (left hkp)
      | outgrown => exact hQ _ _ _ _ _ hk hon' (left hkp)
    · rename_i J hcut
      rw [hcut] at hf
      refine wp_seq (evC_ok hc hm x (fun p hp => hf p (List.mem_append.2 (.inl hp))) _ _ _ h B m a w hn hon _ fun e s' m' a' w' hk hon' hkp => ?_)
      cases e with
      | normal => exact hf (y, J) (List.mem_append.2 (.inr (by simp))) _ _ _ hk B m' a' w' hn hon' Q fun e s2 m2 a2 w2 h1 h2 h3 => hQ e s2 m2 a2 w2 h1 h2 ((left hkp).trans (right h3))
      | exit id => exact hQ _ _ _ _ _ hk hon' (left hkp)
      | goto l => exact hQ _ _ _ _ _ hk hon' (left hkp)
      | ret => exact hQ _ _ _ _ _ hk hon' (left hkp)
      | panic c => exact hQ _ _ _ _ _ hk hon' (left hkp)
      | outgrown => exact hQ _ _ _ _ _ hk hon' (left hkp)
  | .cond x t f, hf, k, s, r, h, B, m, a, w, hn, hon, Q, hQ => by
    simp only [evC] at h
    simp only [fitsL] at hf
    split at h
    · rename_i b hb
      have hv := hon.at_.tr.ev x
      rw [hb] at hv
      generalize ha : a.eval x = v at hv
      cases hv
      rcases br_some h with ⟨rfl, h1⟩ | ⟨rfl, h1⟩
      · exact wp_cond_true ha (evC_ok hc hm t (fun p hp => hf p (List.mem_append.2 (.inl hp))) _ _ _ h1 B m a w hn hon Q fun e s2 m2 a2 w2 h1 h2 h3 => hQ e s2 m2 a2 w2 h1 h2 (h3.more fun t ht => by simp [asgB, ht]))
      · exact wp_cond_false ha (evC_ok hc hm f (fun p hp => hf p (List.mem_append.2 (.inr hp))) _ _ _ h1 B m a w hn hon Q fun e s2 m2 a2 w2 h1 h2 h3 => hQ e s2 m2 a2 w2 h1 h2 (h3.more fun t ht => by simp [asgB, ht]))
    · cases h
  | .block id b, hf, k, s, r, h, B, m, a, w, hn, hon, Q, hQ => by
    simp only [evC] at h
    simp only [fitsL] at hf
    split at h
    · rename_i hblk
      rw [hblk] at hf
      refine wp_block (evC_ok hc hm b hf _ _ _ h B m a w hn hon _ fun e s' m' a' w' hk hon' hkp => ?_)
      have hkp : Keep (asgB (.block id b)) a a' := hkp
      cases e with
      | normal => exact hQ _ _ _ _ _ hk hon' hkp
      | exit id' =>
        simp only [Exit.inBlock]
        simp only at hk
        by_cases e : id' = id
        · rw [if_pos e] at hk ⊢; exact hQ _ _ _ _ _ hk hon' hkp
        · rw [if_neg e] at hk ⊢; exact hQ _ _ _ _ _ hk hon' hkp
      | goto l => exact hQ _ _ _ _ _ hk hon' hkp
      | ret => exact hQ _ _ _ _ _ hk hon' hkp
      | panic c => exact hQ _ _ _ _ _ hk hon' hkp
      | outgrown => exact hQ _ _ _ _ _ hk hon' hkp
    · rename_i J hblk
      rw [hblk] at hf
      exact hf (.block id b, J) (by simp) _ _ _ h B m a w hn hon Q hQ
  | .loop b, hf, k, s, r, h, B, m, a, w, hn, hon, Q, hQ => by
    refine wp_loop_rounds 64 ?_
    have key : ∀ n s m a' w, roll (evC c b) k n s = some r → On B m s a' w → Keep (asgB b) a a' → Code.rounds c.P b Q n a' w := by
      intro n
      induction n with
      | zero => intro s m a w h; cases h
      | succ n ih =>
        intro s m a1 w h hon hkp
        unfold Code.rounds
        refine evC_ok hc hm b hf _ _ _ h B m a1 w hn hon _ fun e s' m' a' w' hk hon' hk2 => ?_
        have hkp : Keep (asgB (.loop b)) a a' := hkp.trans hk2
        cases e with
        | normal => exact ih s' m' a' w' hk hon' hkp
        | exit id => exact hQ _ _ _ _ _ hk hon' hkp
        | goto l => exact hQ _ _ _ _ _ hk hon' hkp
        | ret => exact hQ _ _ _ _ _ hk hon' hkp
        | panic c => exact hQ _ _ _ _ _ hk hon' hkp
        | outgrown => exact hQ _ _ _ _ _ hk hon' hkp
    exact key 64 s m a w h hon (Keep.refl _ _)
  | .rangeFunc .., _, k, s, r, h, _, _, _, _, _, _, _, _ => by cases h
  | .scope _, _, k, s, r, h, _, _, _, _, _, _, _, _ => by cases h
  | .goto _, _, k, s, r, h, _, _, _, _, _, _, _, _ => by cases h
  | .refuse _, _, k, s, r, h, _, _, _, _, _, _, _, _ => by cases h

/-- how a block is left -/
def leaveB (id : Nat) : Exit → Exit
  | .exit i => if i = id then .normal else .exit i
  | e => e

/-- s' says less than s -/
def Gen (n0 : Nat) (s s' : St) : Prop := ∀ B m a w, B.H.length ≤ n0 → On B m s a w → ∃ m', On B m' s' a w

theorem Gen.refl (n0 : Nat) (s : St) : Gen n0 s s := fun _ m _ _ _ h => ⟨m, h⟩

/-- a piece of code with a plain function that tells what it comes to -/
theorem piece_ok {O I : Type} {c : Ctx O} (hc : CtxOk c) (hm : c.P.follows .mixedOrders = true) {n0 : Nat} {code : Code} (hf : ∀ p ∈ fitsL c code, CodeOk c.P n0 p.1 p.2)
    {rd : St → Option I} {fi : I → St} (hrd : ∀ s d, rd s = some d → Gen n0 s (fi d)) {g : I → Option O} {ko : Exit → St → Option O} {ex : O → Exit × St}
    (hko : ∀ e s o, ko e s = some o → e = (ex o).1 ∧ Gen n0 s (ex o).2) (hg : ∀ d, evC c code ko (fi d) = g d) :
    CodeOk c.P n0 code (fun (k : Exit → St → Option X) s => (rd s).bind fun d => (g d).bind fun o => k (ex o).1 (ex o).2) := by
  intro k s r h B m a w hn hon Q hQ
  simp only [Option.bind_eq_some_iff] at h
  obtain ⟨d, h1, o, h2, h3⟩ := h
  obtain ⟨m1, hon1⟩ := hrd s d h1 B m a w hn hon
  rw [← hg d] at h2
  refine evC_ok hc hm code hf _ _ _ h2 B m1 a w hn hon1 Q fun e s' m' a' w' hk hon' hkp => ?_
  obtain ⟨rfl, hgen⟩ := hko e s' o hk
  obtain ⟨m2, hon2⟩ := hgen B m' a' w' hn hon'
  exact hQ _ _ m2 _ _ h3 hon2 hkp

/-- a loop with a plain function that tells what it comes to -/
theorem loop_ok {O I : Type} {c : Ctx O} (hc : CtxOk c) (hm : c.P.follows .mixedOrders = true) {n0 : Nat} {id : Nat} {body : Code} (hf : ∀ p ∈ fitsL c body, CodeOk c.P n0 p.1 p.2)
    {rd : St → Option I} {fi : I → St} (hrd : ∀ s d, rd s = some d → Gen n0 s (fi d)) {l : Nat → I → Option O} {ko : Exit → St → Option O} {ex : O → Exit × St}
    (hko : ∀ e s o, ko e s = some o → leaveB id e = (ex o).1 ∧ Gen n0 s (ex o).2) (h0 : ∀ d, l 0 d = none)
    (hl : ∀ n d, evC c body (fun e s => match e with | .normal => (rd s).bind (l n) | e => ko e s) (fi d) = l (n + 1) d) (n : Nat) :
    CodeOk c.P n0 (.block id (.loop body)) (fun (k : Exit → St → Option X) s => (rd s).bind fun d => (l n d).bind fun o => k (ex o).1 (ex o).2) := by
  intro k s r h B m a w hn hon Q hQ
  simp only [Option.bind_eq_some_iff] at h
  obtain ⟨d, h1, o, h2, h3⟩ := h
  obtain ⟨m1, hon1⟩ := hrd s d h1 B m a w hn hon
  refine wp_block (wp_loop_rounds n ?_)
  have key : ∀ n d m a1 w, l n d = some o → On B m (fi d) a1 w → Keep (asgB body) a a1 → Code.rounds c.P body (Exit.inBlock id Q) n a1 w := by
    intro n
    induction n with
    | zero => intro d m a w h; rw [h0] at h; cases h
    | succ n ih =>
      intro d m a1 w h hon hkp
      rw [← hl n d] at h
      unfold Code.rounds
      refine evC_ok hc hm body hf _ _ _ h B m a1 w hn hon _ fun e s' m' a' w' hk hon' hk2 => ?_
      have hkp : Keep (asgB (.block id (.loop body))) a a' := hkp.trans hk2
      have out : ∀ e', leaveB id e' = (ex o).1 → Gen n0 s' (ex o).2 → e' ≠ .normal → Exit.inBlock id Q e' a' w' := by
        intro e' he hgen hne
        obtain ⟨m2, hon2⟩ := hgen B m' a' w' hn hon'
        have hq := hQ _ _ m2 a' w' h3 hon2 hkp
        rw [← he] at hq
        cases e' with
        | normal => exact absurd rfl hne
        | exit i =>
          simp only [Exit.inBlock]
          simp only [leaveB] at hq
          by_cases e : i = id
          · rw [if_pos e] at hq ⊢; exact hq
          · rw [if_neg e] at hq ⊢; exact hq
        | goto l => exact hq
        | ret => exact hq
        | panic c => exact hq
        | outgrown => exact hq
      cases e with
      | normal =>
        simp only [Option.bind_eq_some_iff] at hk
        obtain ⟨d', k1, k2⟩ := hk
        obtain ⟨m2, hon2⟩ := hrd s' d' k1 B m' a' w' hn hon'
        exact ih d' m2 a' w' k2 hon2 hkp
      | exit i => obtain ⟨q1, q2⟩ := hko _ _ _ hk; exact out (.exit i) q1 q2 (by simp)
      | goto i => obtain ⟨q1, q2⟩ := hko _ _ _ hk; exact out (.goto i) q1 q2 (by simp)
      | ret => obtain ⟨q1, q2⟩ := hko _ _ _ hk; exact out .ret q1 q2 (by simp)
      | panic i => obtain ⟨q1, q2⟩ := hko _ _ _ hk; exact out (.panic i) q1 q2 (by simp)
      | outgrown => obtain ⟨q1, q2⟩ := hko _ _ _ hk; exact out .outgrown q1 q2 (by simp)
  exact key n d m1 a w h2 hon1 (Keep.refl _ _)

theorem CodeOk.congr {P : Program} {n0 : Nat} {code : Code} {J J' : Contract X} (h : CodeOk P n0 code J) (e : ∀ k s, J' k s = J k s) : CodeOk P n0 code J' :=
  fun k s r hr => h k s r (by rw [← e]; exact hr)

end
end Go.Ab
end

