/- The statement PlcSofter: the code of the law returns true. Conditions: none ahead of the given statement. -/
import Derived.Test.YtblaikeffnpagaaBb5
import Derived.Test.YtblaikeffnpagaaRF
import Derived.Test.YtblaikeffnpagaaR9
set_option linter.unusedVariables false
set_option linter.unusedSimpArgs false
namespace Go.Proofs.Ytblaikeffnpagaa.plcSofter
open Go Go.Ab Go.ChangeShapes Go.WideShapes Go.ChangeAt Go.RowKit
open Go.ChangeMaps (open_string shut_string)
theorem own : ownKnob Try.prog.godebug = none := by kernel_rfl
theorem laidOut : laidOutB Try.prog = true := by kernel_rfl
theorem said (k : Nat) (a0 : Int) (z1 : List Int) (z2 : List Int) {r1 : List Int} {r2 : List Int} (h : madrigallaw23_PlcSofter k a0 z1 z2 = some (true, r1, r2)) : (madrigallaw23_PlcSofter.fn k).r.J Unit [.int .i64 a0, .whole 0, .whole 1] (roH [(.i64, z1), (.i64, z2)]) (roH [(.i64, z1), (.i64, z2)]).length yes = some () := by
  have e : (madrigallaw23_PlcSofter.fn k).r.J Unit [.int .i64 a0, .whole 0, .whole 1] (roH [(.i64, z1), (.i64, z2)]) (roH [(.i64, z1), (.i64, z2)]).length yes = (madrigallaw23_PlcSofter k a0 z1 z2).bind (fun o => match o with | (r, _, _) => yes (.bool r) []) := by kernel_rfl
  rw [e, h]; rfl
set_option maxRecDepth 100000 in
theorem lifted (os : Os) (started : os.Started) (H : Type) (enc : TypeId × Value → H) :
    ReturnsInHanded {} Try.checked os 6 .any (Rows.plcSofterSpec.pre6 enc Try.prog Try.f6 Rows.plcSofterRow.domain false) (Rows.plcSofterSpec.post enc Try.prog Try.f6 false true false false) := by
  refine returnsInHanded_of_change_sized (C := Try.checked) own started (by kernel_rfl) Try.func6
    (ChangeSpec.witness6 (enc := enc) (C := Try.checked) false ⟨#[], #[.int .i64 0, .slice none 0 0, .slice none 0 0], []⟩ 8 (by kernel_rfl) (by kernel_rfl) (by kernel_rfl) (by kernel_rfl)) ?_
  intro W base args ds gs before hval0 hW _hcnd hsz0 _
  have _hsz : (DataW.weightsEach Try.prog (Try.f6.params.toList ++ Rows.plcSofterSpec.plain.varTypes Try.prog) (ds ++ gs)).all (· ≤ reachBytes) = true := hsz0
  have hval : ∀ (j : Nat) t v, Try.f6.params[j]? = some t → args[j]? = some v → Value.okWide Try.prog W .any base t v := hval0
  have hW' := hW
  obtain ⟨p, q, hA0, hV, rfl, hfz, hnd⟩ := hW
  have hA : DataW.TrodAll enc Try.prog W 0 (fun _ => true) true Try.f6.params.toList args.toList ds p := hA0
  rw [Try.params6] at hA hval _hsz
  obtain ⟨v0, vs0, d0, ds0, p0, q0, hargs, rfl, rfl, h0, r0⟩ := trodAll_cons hA
  obtain ⟨v1, vs1, d1, ds1, p1, q1, rfl, rfl, rfl, h1, r1⟩ := trodAll_cons r0
  obtain ⟨v2, vs2, d2, ds2, p2, q2, rfl, rfl, rfl, h2, r2⟩ := trodAll_cons r1
  obtain ⟨rfl, rfl, rfl⟩ := trodAll_nil r2
  obtain rfl : args = #[v0, v1, v2] := by cases args; simp_all
  obtain ⟨rfl, rfl⟩ := trodVars_none hV
  obtain ⟨a0, rfl, rfl, rfl, w0⟩ := open_int Try.underlying3 (hval 0 3 v0 rfl rfl) h0
  obtain ⟨a1, len1, cap1, rfl⟩ := okWide_slice Try.underlying27 (hval 1 27 v1 rfl rfl)
  have k1 := h1
  have lt1 : ∀ x ∈ p1, x.block < W.heap.size := by obtain ⟨m, hm⟩ := k1; exact DataW.trod_lt m _ _ _ hm
  obtain ⟨z1, w1⟩ := slIs_of Try.underlying27 Try.underlying2 (by kernel_rfl) h1
  have y1 : len1 * 8 ≤ 140737488351232 := sized_sl _hsz (j := 1) (t := 27) rfl rfl Try.underlying27 Try.underlying2 (by kernel_rfl) (by kernel_rfl) h1
  obtain rfl := w1.hlen
  obtain ⟨a2, len2, cap2, rfl⟩ := okWide_slice Try.underlying27 (hval 2 27 v2 rfl rfl)
  have k2 := h2
  have lt2 : ∀ x ∈ p2, x.block < W.heap.size := by obtain ⟨m, hm⟩ := k2; exact DataW.trod_lt m _ _ _ hm
  obtain ⟨z2, w2⟩ := slIs_of Try.underlying27 Try.underlying2 (by kernel_rfl) h2
  have y2 : len2 * 8 ≤ 140737488351232 := sized_sl _hsz (j := 2) (t := 27) rfl rfl Try.underlying27 Try.underlying2 (by kernel_rfl) (by kernel_rfl) h2
  obtain rfl := w2.hlen
  clear hA0 hval0 hsz0 _hsz
  obtain ⟨k, r1, r2, hp⟩ := Pure.PlcSofter a0 z1 z2 w0 w1.hwf y1 w2.hwf y2
  have hS : ∀ i k z, ([(.i64, z1), (.i64, z2)] : List (IntKind × List Int))[i]? = some (k, z) → SlIs k W ((fun i => match i with | 0 => a1 | 1 => a2 | _ => none) i) z.length ((fun i => match i with | 0 => cap1 | 1 => cap2 | _ => 0) i) z := by
    intro i k z hi
    match i, hi with
    | 0, hi => cases hi; exact w1
    | 1, hi => cases hi; exact w2
    | _ + 2, hi => simp at hi
  have hsim := ro_sim hS
  refine (law_calls (f := 6) (madrigallaw23_PlcSofter.fn k).ok (said k a0 z1 z2 hp) (fun b bk md hg => by obtain ⟨_, _, _, _, r⟩ := roH_at _ b bk md hg; exact r) hsim (args' := #[.int .i64 a0, .slice a1 z1.length cap1, .slice a2 z2.length cap2]) rfl fun j x y hx hy => ?_).mono fun e W' ⟨he, bel⟩ => ?_
  · match j, hx, hy with
    | 0, hx, hy => cases hx; cases hy; constructor
    | 1, hx, hy => cases hx; cases hy; exact ro_vr hS (i := 0) rfl
    | 2, hx, hy => cases hx; cases hy; exact ro_vr hS (i := 1) rfl
    | _ + 3, hx, hy => simp at hx
  · subst he
    exact ⟨_, rfl, _, _, _, [], _, [], hW', trodAll_mk1 (shut_bool Try.underlying4 _), (trodAll_cons_mk (shut_int Try.underlying3 w0) (trodAll_cons_mk (Below.trod laidOut (by kernel_rfl) (of_decide_eq_true (by kernel_rfl)) k1 bel lt1) (trodAll_cons_mk (Below.trod laidOut (by kernel_rfl) (of_decide_eq_true (by kernel_rfl)) k2 bel lt2) trodAll_mk0))), rfl, bel.frame _, fun h => by cases h⟩
theorem over : Rows.plcSofterRow.holds Try.pinned (OpenSpec.ofChange Rows.plcSofterSpec) :=
  OpenClaim.holds_of_wide 6 Try.f6 rfl rfl rfl rfl rfl rfl rfl ⟨rfl, rfl, rfl, rfl, rfl⟩ rfl rfl rfl rfl rfl (by kernel_rfl) Try.func6 (by kernel_rfl)
    (of_decide_eq_true (by kernel_rfl)) (by unfold Func.isWrapper; first | (rw [if_pos (by decide +kernel)]; kernel_rfl) | (rw [if_neg (by decide +kernel)]; exact ⟨rfl, rfl⟩))
    (fun os started H enc _ => lifted os started H enc)
end Go.Proofs.Ytblaikeffnpagaa.plcSofter
namespace Go.Proofs.Ytblaikeffnpagaa
theorem plcSofter_holds : Rows.PlcSofterSaid := plcSofter.over
#print axioms plcSofter_holds
end Go.Proofs.Ytblaikeffnpagaa
