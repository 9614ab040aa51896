/- The statement PlcFades: the code of the law returns true. Conditions: none ahead of the given statement. -/
import Derived.Test.YtblaikeffnpagaaBb5
import Derived.Test.YtblaikeffnpagaaRF
import Derived.Test.YtblaikeffnpagaaR9
set_option linter.unusedVariables false
set_option linter.unusedSimpArgs false
namespace Go.Proofs.Ytblaikeffnpagaa.plcFades
open Go Go.Ab Go.ChangeShapes Go.WideShapes Go.ChangeAt Go.RowKit
open Go.ChangeMaps (open_string shut_string)
theorem own : ownKnob Try.prog.godebug = none := by kernel_rfl
theorem laidOut : laidOutB Try.prog = true := by kernel_rfl
theorem said (k : Nat) (a0 : Int) (a2 : Int) (a3 : Int) (z1 : List Int) {r1 : List Int} (h : madrigallaw23_PlcFades k a0 a2 a3 z1 = some (true, r1)) : (madrigallaw23_PlcFades.fn k).r.J Unit [.int .i64 a0, .whole 0, .int .i64 a2, .int .i64 a3] (roH [(.i64, z1)]) (roH [(.i64, z1)]).length yes = some () := by
  have e : (madrigallaw23_PlcFades.fn k).r.J Unit [.int .i64 a0, .whole 0, .int .i64 a2, .int .i64 a3] (roH [(.i64, z1)]) (roH [(.i64, z1)]).length yes = (madrigallaw23_PlcFades k a0 a2 a3 z1).bind (fun o => match o with | (r, _) => yes (.bool r) []) := by kernel_rfl
  rw [e, h]; rfl
set_option maxRecDepth 100000 in
theorem lifted (os : Os) (started : os.Started) (H : Type) (enc : TypeId × Value → H) :
    ReturnsInHanded {} Try.checked os 5 .any (Rows.plcFadesSpec.pre6 enc Try.prog Try.f5 Rows.plcFadesRow.domain false) (Rows.plcFadesSpec.post enc Try.prog Try.f5 false true false false) := by
  refine returnsInHanded_of_change_sized (C := Try.checked) own started (by kernel_rfl) Try.func5
    (ChangeSpec.witness6 (enc := enc) (C := Try.checked) false ⟨#[], #[.int .i64 0, .slice none 0 0, .int .i64 0, .int .i64 0], []⟩ 8 (by kernel_rfl) (by kernel_rfl) (by kernel_rfl) (by kernel_rfl)) ?_
  intro W base args ds gs before hval0 hW _hcnd hsz0 _
  have _hsz : (DataW.weightsEach Try.prog (Try.f5.params.toList ++ Rows.plcFadesSpec.plain.varTypes Try.prog) (ds ++ gs)).all (· ≤ reachBytes) = true := hsz0
  have hval : ∀ (j : Nat) t v, Try.f5.params[j]? = some t → args[j]? = some v → Value.okWide Try.prog W .any base t v := hval0
  have hW' := hW
  obtain ⟨p, q, hA0, hV, rfl, hfz, hnd⟩ := hW
  have hA : DataW.TrodAll enc Try.prog W 0 (fun _ => true) true Try.f5.params.toList args.toList ds p := hA0
  rw [Try.params5] at hA hval _hsz
  obtain ⟨v0, vs0, d0, ds0, p0, q0, hargs, rfl, rfl, h0, r0⟩ := trodAll_cons hA
  obtain ⟨v1, vs1, d1, ds1, p1, q1, rfl, rfl, rfl, h1, r1⟩ := trodAll_cons r0
  obtain ⟨v2, vs2, d2, ds2, p2, q2, rfl, rfl, rfl, h2, r2⟩ := trodAll_cons r1
  obtain ⟨v3, vs3, d3, ds3, p3, q3, rfl, rfl, rfl, h3, r3⟩ := trodAll_cons r2
  obtain ⟨rfl, rfl, rfl⟩ := trodAll_nil r3
  obtain rfl : args = #[v0, v1, v2, v3] := by cases args; simp_all
  obtain ⟨rfl, rfl⟩ := trodVars_none hV
  obtain ⟨a0, rfl, rfl, rfl, w0⟩ := open_int Try.underlying3 (hval 0 3 v0 rfl rfl) h0
  obtain ⟨a1, len1, cap1, rfl⟩ := okWide_slice Try.underlying27 (hval 1 27 v1 rfl rfl)
  have k1 := h1
  have lt1 : ∀ x ∈ p1, x.block < W.heap.size := by obtain ⟨m, hm⟩ := k1; exact DataW.trod_lt m _ _ _ hm
  obtain ⟨z1, w1⟩ := slIs_of Try.underlying27 Try.underlying2 (by kernel_rfl) h1
  have y1 : len1 * 8 ≤ 140737488351232 := sized_sl _hsz (j := 1) (t := 27) rfl rfl Try.underlying27 Try.underlying2 (by kernel_rfl) (by kernel_rfl) h1
  obtain rfl := w1.hlen
  obtain ⟨a2, rfl, rfl, rfl, w2⟩ := open_int Try.underlying3 (hval 2 3 v2 rfl rfl) h2
  obtain ⟨a3, rfl, rfl, rfl, w3⟩ := open_int Try.underlying3 (hval 3 3 v3 rfl rfl) h3
  clear hA0 hval0 hsz0 _hsz
  obtain ⟨k, r1, hp⟩ := Pure.PlcFades a0 a2 a3 z1 w0 w2 w3 w1.hwf y1
  have hS : ∀ i k z, ([(.i64, z1)] : List (IntKind × List Int))[i]? = some (k, z) → SlIs k W ((fun i => match i with | 0 => a1 | _ => none) i) z.length ((fun i => match i with | 0 => cap1 | _ => 0) i) z := by
    intro i k z hi
    match i, hi with
    | 0, hi => cases hi; exact w1
    | _ + 1, hi => simp at hi
  have hsim := ro_sim hS
  refine (law_calls (f := 5) (madrigallaw23_PlcFades.fn k).ok (said k a0 a2 a3 z1 hp) (fun b bk md hg => by obtain ⟨_, _, _, _, r⟩ := roH_at _ b bk md hg; exact r) hsim (args' := #[.int .i64 a0, .slice a1 z1.length cap1, .int .i64 a2, .int .i64 a3]) rfl fun j x y hx hy => ?_).mono fun e W' ⟨he, bel⟩ => ?_
  · match j, hx, hy with
    | 0, hx, hy => cases hx; cases hy; constructor
    | 1, hx, hy => cases hx; cases hy; exact ro_vr hS (i := 0) rfl
    | 2, hx, hy => cases hx; cases hy; constructor
    | 3, hx, hy => cases hx; cases hy; constructor
    | _ + 4, hx, hy => simp at hx
  · subst he
    exact ⟨_, rfl, _, _, _, [], _, [], hW', trodAll_mk1 (shut_bool Try.underlying4 _), (trodAll_cons_mk (shut_int Try.underlying3 w0) (trodAll_cons_mk (Below.trod laidOut (by kernel_rfl) (of_decide_eq_true (by kernel_rfl)) k1 bel lt1) (trodAll_cons_mk (shut_int Try.underlying3 w2) (trodAll_cons_mk (shut_int Try.underlying3 w3) trodAll_mk0)))), rfl, bel.frame _, fun h => by cases h⟩
theorem over : Rows.plcFadesRow.holds Try.pinned (OpenSpec.ofChange Rows.plcFadesSpec) :=
  OpenClaim.holds_of_wide 5 Try.f5 rfl rfl rfl rfl rfl rfl rfl ⟨rfl, rfl, rfl, rfl, rfl⟩ rfl rfl rfl rfl rfl (by kernel_rfl) Try.func5 (by kernel_rfl)
    (of_decide_eq_true (by kernel_rfl)) (by unfold Func.isWrapper; first | (rw [if_pos (by decide +kernel)]; kernel_rfl) | (rw [if_neg (by decide +kernel)]; exact ⟨rfl, rfl⟩))
    (fun os started H enc _ => lifted os started H enc)
end Go.Proofs.Ytblaikeffnpagaa.plcFades
namespace Go.Proofs.Ytblaikeffnpagaa
theorem plcFades_holds : Rows.PlcFadesSaid := plcFades.over
#print axioms plcFades_holds
end Go.Proofs.Ytblaikeffnpagaa
