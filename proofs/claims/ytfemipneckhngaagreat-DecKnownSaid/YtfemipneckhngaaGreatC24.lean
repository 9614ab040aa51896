/- Concrete runs: math/bits.Add64, a function without a body. No condition. -/
import Derived.Test.YtfemipneckhngaaGreatC19
import Derived.Laws.Externs
set_option linter.unusedVariables false
set_option linter.unusedSimpArgs false
namespace Go.Ab
open Go
noncomputable section
variable {e k : Nat} {P : Program} {E : EM}
theorem add_rows : Extern.allGenericRows.lookup "math/bits.Add64" = none ∧ Extern.allTypedRows.lookup "math/bits.Add64" = none ∧ Extern.allNextRows.lookup "math/bits.Add64" = none ∧ Extern.allNextRows.lookup "" = none := ⟨by kernel_rfl, by kernel_rfl, by kernel_rfl, by kernel_rfl⟩
theorem add_row : Extern.allRows.lookup "math/bits.Add64" = some add64Entry := by kernel_rfl
theorem add_call {g : FuncId} (h : isAdd P g = true) (args : Array Value) (w : World) : (callFunc g args).run P w = ((add64Entry args).run P w).andThen fun v w' => .ok (.value v) w' := by
  unfold isAdd at h
  split at h
  · rename_i fn hf
    split at h
    · rename_i hb
      rw [Bool.and_eq_true, beq_iff_eq, beq_iff_eq] at h
      obtain ⟨h1, h2⟩ := h
      obtain ⟨r1, r2, r3, r4⟩ := add_rows
      refine run_callFunc_extern hf (by rw [h1]; rfl) (by rw [hb]; rfl) ?_ ?_ args w
      · unfold Extern.findNext
        rw [h1, h2]
        simp only [r3, r4, Option.map_none]
        rfl
      · unfold Extern.find
        rw [h1, h2]
        simp only [r1, r2, add_row, Option.map_none]
        rfl
    · cases h
  · cases h
theorem u64C_inv {f : Int → Out e} {v : CV} (h : u64C v f ≠ .bad) : ∃ a, v = .oth (.int .u64 a) ∧ 0 ≤ a ∧ u64C v f = f a := by
  rcases onInt_inv h with ⟨n, rfl, h1⟩ | ⟨kd, n, rfl, h1⟩
  · change u64C (.i n) f = _ at h1
    rw [h1] at h; exact absurd rfl h
  · change u64C (.oth (.int kd n)) f = _ at h1
    rw [h1] at h
    obtain ⟨h2, h3⟩ := chk_inv h
    rw [h3] at h
    obtain ⟨h4, h5⟩ := chk_inv h
    have hk : kd = .u64 := by
      cases kd <;> first | rfl | (exact absurd h2 (by decide))
    subst hk
    refine ⟨n, rfl, ?_, by rw [h1, h3, h5]⟩
    rw [ltI_eq] at h4
    by_cases hn : n < 0
    · rw [decide_eq_true hn] at h4; cases h4
    · omega
theorem vr_int {m : Map} {H : Heap} {k : IntKind} {n : Int} {v : Value} (h : VR m H (.int k n) v) : v = .int k n := by cases h; rfl
theorem good_add (cl : Call) (g : FuncId) (hcal : cl.callee = .value (.func g)) (hg : isAdd P g = true) {dst : Option Tmp} {ty : TypeId} {pos : String} {after : Array Edge} {guard : Option (Nat × Bool)} : OpGood P E k (op_add (e := e) E k cl) ⟨dst, .call cl, ty, pos, after, guard⟩ := by
  intro c st tm T n K hc hT h
  generalize hF : op_add E k cl = F at h ⊢
  unfold op_add at hF
  split at hF
  · rename_i f1 f2 f3 hargs
    subst hF
    change u64C (f1 st tm) _ ≠ .bad at h
    obtain ⟨x, hx, hx0, h1⟩ := u64C_inv h
    rw [h1] at h
    obtain ⟨y, hy, hy0, h2⟩ := u64C_inv h
    rw [h2] at h
    obtain ⟨z, hz, hz0, h3⟩ := u64C_inv h
    rw [h3] at h
    obtain ⟨h4, h5⟩ := chk_inv h
    have hz1 : z ≤ 1 := by
      rw [ltI_eq] at h4
      by_cases hn : 1 < z
      · rw [decide_eq_true hn] at h4; cases h4
      · omega
    have hcl : clsOf P (.call cl) = .x := by simp only [clsOf, hcal]
    have hev : cl.args.toList.map (fun x => (valO E k st tm x).av) = [.int .u64 x, .int .u64 y, .int .u64 z] := by
      have := evs_av (E := E) (k := k) (e := e) cl.args.toList st tm
      rw [hargs] at this
      rw [← this]
      show [CV.av (f1 st tm), CV.av (f2 st tm), CV.av (f3 st tm)] = _
      rw [hx, hy, hz]; rfl
    have hst : Step P ⟨dst, .call cl, ty, pos, after, guard⟩ (fun x => (valO E k st tm x).av) (absH T) n (.tuple [.int .u64 ((x + y + z) % 18446744073709551616), .int .u64 ((x + y + z) / 18446744073709551616)]) [] := by
      obtain ⟨cal, args, ats⟩ := cl
      simp only at hcal hev
      subst hcal
      refine step_pure fun m H a w hs hsim hxx => ?_
      have har := arr_rel (m := m) (H := H) (e := fun x => (valO E k st tm x).av) (a := a) (xs := args) fun x hm => hxx x (by simp [Op.operands, Call.operands, hm])
      rw [hev] at har
      have hargs2 : args.map a.eval = #[.int .u64 x, .int .u64 y, .int .u64 z] := by
        have hl : (args.map a.eval).size = 3 := har.1.symm
        refine Array.ext (by rw [hl]; rfl) fun i i1 i2 => ?_
        have hi : i < 3 := by rw [hl] at i1; exact i1
        match i, hi with
        | 0, _ => exact vr_int (har.2 0 _ _ rfl (Array.getElem?_eq_getElem i1))
        | 1, _ => exact vr_int (har.2 1 _ _ rfl (Array.getElem?_eq_getElem i1))
        | 2, _ => exact vr_int (har.2 2 _ _ rfl (Array.getElem?_eq_getElem i1))
      refine ⟨.tuple #[.int .u64 ((x + y + z) % 18446744073709551616), .int .u64 ((x + y + z) / 18446744073709551616)], ?_, .tuple _ _ rfl fun j u v hu hv => ?_⟩
      · have hag : a.eval (.func g) = .func (.func g) #[] #[] := rfl
        simp [execOp, resolve, hag, Deferred.ofValue, invoke, hargs2, add_call hg, run_add64 x y z hx0 hy0 hz0 hz1]
      · match j, hu, hv with
        | 0, hu, hv => simp at hu hv; subst hu hv; exact .int _ _
        | 1, hu, hv => simp at hu hv; subst hu hv; exact .int _ _
    have hL := Ran.call (P := P) (o := ⟨dst, .call cl, ty, pos, after, guard⟩) (ev := fun x => (valO E k st tm x).av) (v := .tuple [.int .u64 ((x + y + z) % 18446744073709551616), .int .u64 ((x + y + z) / 18446744073709551616)]) (T' := T) (n' := n) hT hcl (.refl _ _) (by
      have e0 : Lof T n T n = [] := List.eq_nil_iff_forall_not_mem.2 fun b hb => by
        obtain ⟨_, q2, q3⟩ := mem_Lof.1 hb
        rcases q3 with q3 | q3
        · omega
        · exact q3 rfl
      rw [e0]; exact hst)
    exact ⟨.oth (.tuple [.int .u64 ((x + y + z) % 18446744073709551616), .int .u64 ((x + y + z) / 18446744073709551616)]), T, n, _, by show u64C (f1 st tm) _ = _; rw [h1, h2, h3, h5], hL⟩
  · subst hF; exact absurd rfl h
theorem good_callG (cl : Call) (g : FuncId) (hcal : cl.callee = .value (.func g)) {dst : Option Tmp} {ty : TypeId} {pos : String} {after : Array Edge} {guard : Option (Nat × Bool)} : OpGood P E k (op_callG (e := e) P E k cl g) ⟨dst, .call cl, ty, pos, after, guard⟩ := by
  unfold op_callG
  cases hg : isAdd P g with
  | true => exact good_add cl g hcal hg
  | false => exact good_callF cl g hcal
end
end Go.Ab
