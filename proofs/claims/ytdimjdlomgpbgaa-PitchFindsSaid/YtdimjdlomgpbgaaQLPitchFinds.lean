/- The statement PitchFinds: the code of the law returns true. Conditions: none ahead of the given statement. -/
import Derived.Test.YtdimjdlomgpbgaaBb5
import Derived.Test.YtdimjdlomgpbgaaQF
import Derived.Test.YtdimjdlomgpbgaaQ4
set_option linter.unusedVariables false
set_option linter.unusedSimpArgs false
namespace Go.Proofs.Ytdimjdlomgpbgaa.pitchFinds
open Go Go.Ab Go.ChangeShapes Go.WideShapes Go.ChangeAt Go.RowKit
open Go.ChangeMaps (open_string shut_string)
theorem own : ownKnob Try.prog.godebug = none := by kernel_rfl
theorem laidOut : laidOutB Try.prog = true := by kernel_rfl
theorem said (k : Nat) (a1 : Int) (a2 : Int) (z0 : List Int) {r1 : List Int} (h : madrigallaw11_PitchFinds k a1 a2 z0 = some (true, r1)) : (madrigallaw11_PitchFinds.fn k).r.J Unit [.whole 0, .int .i64 a1, .int .i64 a2] (roH [(.i64, z0)]) (roH [(.i64, z0)]).length yes = some () := by
  have e : (madrigallaw11_PitchFinds.fn k).r.J Unit [.whole 0, .int .i64 a1, .int .i64 a2] (roH [(.i64, z0)]) (roH [(.i64, z0)]).length yes = (madrigallaw11_PitchFinds k a1 a2 z0).bind (fun o => match o with | (r, _) => yes (.bool r) []) := by kernel_rfl
  rw [e, h]; rfl
set_option maxRecDepth 100000 in
theorem lifted (os : Os) (started : os.Started) (H : Type) (enc : TypeId × Value → H) :
    ReturnsInHanded {} Try.checked os 11 .any (Rows.pitchFindsSpec.pre6 enc Try.prog Try.f11 Rows.pitchFindsRow.domain false) (Rows.pitchFindsSpec.post enc Try.prog Try.f11 false true false false) := by
  refine returnsInHanded_of_change_sized (C := Try.checked) own started (by kernel_rfl) Try.func11
    (ChangeSpec.witness6 (enc := enc) (C := Try.checked) false ⟨#[], #[.slice none 0 0, .int .i64 0, .int .i64 0], []⟩ 8 (by kernel_rfl) (by kernel_rfl) (by kernel_rfl) (by kernel_rfl)) ?_
  intro W base args ds gs before hval0 hW _hcnd hsz0 _
  have _hsz : (DataW.weightsEach Try.prog (Try.f11.params.toList ++ Rows.pitchFindsSpec.plain.varTypes Try.prog) (ds ++ gs)).all (· ≤ reachBytes) = true := hsz0
  have hval : ∀ (j : Nat) t v, Try.f11.params[j]? = some t → args[j]? = some v → Value.okWide Try.prog W .any base t v := hval0
  have hW' := hW
  obtain ⟨p, q, hA0, hV, rfl, hfz, hnd⟩ := hW
  have hA : DataW.TrodAll enc Try.prog W 0 (fun _ => true) true Try.f11.params.toList args.toList ds p := hA0
  rw [Try.params11] at hA hval _hsz
  obtain ⟨v0, vs0, d0, ds0, p0, q0, hargs, rfl, rfl, h0, r0⟩ := trodAll_cons hA
  obtain ⟨v1, vs1, d1, ds1, p1, q1, rfl, rfl, rfl, h1, r1⟩ := trodAll_cons r0
  obtain ⟨v2, vs2, d2, ds2, p2, q2, rfl, rfl, rfl, h2, r2⟩ := trodAll_cons r1
  obtain ⟨rfl, rfl, rfl⟩ := trodAll_nil r2
  obtain rfl : args = #[v0, v1, v2] := by cases args; simp_all
  obtain ⟨rfl, rfl⟩ := trodVars_none hV
  obtain ⟨a0, len0, cap0, rfl⟩ := okWide_slice Try.underlying40 (hval 0 40 v0 rfl rfl)
  have k0 := h0
  have lt0 : ∀ x ∈ p0, x.block < W.heap.size := by obtain ⟨m, hm⟩ := k0; exact DataW.trod_lt m _ _ _ hm
  obtain ⟨z0, w0⟩ := slIs_of Try.underlying40 Try.underlying2 (by kernel_rfl) h0
  have y0 : len0 * 8 ≤ 140737488351232 := sized_sl _hsz (j := 0) (t := 40) rfl rfl Try.underlying40 Try.underlying2 (by kernel_rfl) (by kernel_rfl) h0
  obtain rfl := w0.hlen
  obtain ⟨a1, rfl, rfl, rfl, w1⟩ := open_int Try.underlying3 (hval 1 3 v1 rfl rfl) h1
  obtain ⟨a2, rfl, rfl, rfl, w2⟩ := open_int Try.underlying3 (hval 2 3 v2 rfl rfl) h2
  clear hA0 hval0 hsz0 _hsz
  obtain ⟨k, r1, hp⟩ := Pure.PitchFinds a1 a2 z0 w1 w2 w0.hwf y0
  have hS : ∀ i k z, ([(.i64, z0)] : List (IntKind × List Int))[i]? = some (k, z) → SlIs k W ((fun i => match i with | 0 => a0 | _ => none) i) z.length ((fun i => match i with | 0 => cap0 | _ => 0) i) z := by
    intro i k z hi
    match i, hi with
    | 0, hi => cases hi; exact w0
    | _ + 1, hi => simp at hi
  have hsim := ro_sim hS
  refine (law_calls (f := 11) (madrigallaw11_PitchFinds.fn k).ok (said k a1 a2 z0 hp) (fun b bk md hg => by obtain ⟨_, _, _, _, r⟩ := roH_at _ b bk md hg; exact r) hsim (args' := #[.slice a0 z0.length cap0, .int .i64 a1, .int .i64 a2]) rfl fun j x y hx hy => ?_).mono fun e W' ⟨he, bel⟩ => ?_
  · match j, hx, hy with
    | 0, hx, hy => cases hx; cases hy; exact ro_vr hS (i := 0) rfl
    | 1, hx, hy => cases hx; cases hy; constructor
    | 2, hx, hy => cases hx; cases hy; constructor
    | _ + 3, hx, hy => simp at hx
  · subst he
    exact ⟨_, rfl, _, _, _, [], _, [], hW', trodAll_mk1 (shut_bool Try.underlying4 _), (trodAll_cons_mk (Below.trod laidOut (by kernel_rfl) (of_decide_eq_true (by kernel_rfl)) k0 bel lt0) (trodAll_cons_mk (shut_int Try.underlying3 w1) (trodAll_cons_mk (shut_int Try.underlying3 w2) trodAll_mk0))), rfl, bel.frame _, fun h => by cases h⟩
theorem over : Rows.pitchFindsRow.holds Try.pinned (OpenSpec.ofChange Rows.pitchFindsSpec) :=
  OpenClaim.holds_of_wide 11 Try.f11 rfl rfl rfl rfl rfl rfl rfl ⟨rfl, rfl, rfl, rfl, rfl⟩ rfl rfl rfl rfl rfl (by kernel_rfl) Try.func11 (by kernel_rfl)
    (of_decide_eq_true (by kernel_rfl)) (by unfold Func.isWrapper; first | (rw [if_pos (by decide +kernel)]; kernel_rfl) | (rw [if_neg (by decide +kernel)]; exact ⟨rfl, rfl⟩))
    (fun os started H enc _ => lifted os started H enc)
end Go.Proofs.Ytdimjdlomgpbgaa.pitchFinds
namespace Go.Proofs.Ytdimjdlomgpbgaa
theorem pitchFinds_holds : Rows.PitchFindsSaid := pitchFinds.over
#print axioms pitchFinds_holds
end Go.Proofs.Ytdimjdlomgpbgaa
