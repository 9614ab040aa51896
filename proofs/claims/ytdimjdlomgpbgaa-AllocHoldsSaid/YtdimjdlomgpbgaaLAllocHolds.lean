/- The statement AllocHolds: the code of the law returns true. Conditions: none ahead of the given statement. -/
import Derived.Test.YtdimjdlomgpbgaaAb5
import Derived.Test.YtdimjdlomgpbgaaF
import Derived.Test.YtdimjdlomgpbgaaPAllocHolds
set_option linter.unusedVariables false
set_option linter.unusedSimpArgs false
namespace Go.Proofs.Ytdimjdlomgpbgaa.allocHolds
open Go Go.Ab Go.ChangeShapes Go.WideShapes Go.ChangeAt Go.RowKit
open Go.ChangeMaps (open_string shut_string)
theorem own : ownKnob Try.prog.godebug = none := by kernel_rfl
theorem said (k : Nat) (a0 : Int) (a1 : Int) (h : madrigallaw18_AllocHolds k a0 a1 = some true) : madrigallaw18_AllocHolds.J k Unit [.int .i64 a0, .int .i64 a1] (roH []) (roH []).length yes = some () := by
  have e : madrigallaw18_AllocHolds.J k Unit [.int .i64 a0, .int .i64 a1] (roH []) (roH []).length yes = (madrigallaw18_AllocHolds k a0 a1).bind (fun o => match o with | r => yes (.bool r) []) := by kernel_rfl
  rw [e, h]; rfl
set_option maxRecDepth 100000 in
theorem lifted (os : Os) (started : os.Started) (H : Type) (enc : TypeId × Value → H) :
    ReturnsInHanded {} Try.checked os 6 .any (Rows.allocHoldsSpec.pre6 enc Try.prog Try.f6 Rows.allocHoldsRow.domain false) (Rows.allocHoldsSpec.post enc Try.prog Try.f6 false true false false) := by
  refine returnsInHanded_of_change_sized (C := Try.checked) own started (by kernel_rfl) Try.func6
    (ChangeSpec.witness6 (enc := enc) (C := Try.checked) false ⟨#[], #[.int .i64 0, .int .i64 0], []⟩ 8 (by kernel_rfl) (by kernel_rfl) (by kernel_rfl) (by kernel_rfl)) ?_
  intro W base args ds gs before hval0 hW _hcnd hsz0 _
  have _hsz : (DataW.weightsEach Try.prog (Try.f6.params.toList ++ Rows.allocHoldsSpec.plain.varTypes Try.prog) (ds ++ gs)).all (· ≤ reachBytes) = true := hsz0
  have hval : ∀ (j : Nat) t v, Try.f6.params[j]? = some t → args[j]? = some v → Value.okWide Try.prog W .any base t v := hval0
  have hW' := hW
  obtain ⟨p, q, hA0, hV, rfl, hfz, hnd⟩ := hW
  have hA : DataW.TrodAll enc Try.prog W 0 (fun _ => true) true Try.f6.params.toList args.toList ds p := hA0
  rw [Try.params6] at hA hval _hsz
  obtain ⟨v0, vs0, d0, ds0, p0, q0, hargs, rfl, rfl, h0, r0⟩ := trodAll_cons hA
  obtain ⟨v1, vs1, d1, ds1, p1, q1, rfl, rfl, rfl, h1, r1⟩ := trodAll_cons r0
  obtain ⟨rfl, rfl, rfl⟩ := trodAll_nil r1
  obtain rfl : args = #[v0, v1] := by cases args; simp_all
  obtain ⟨rfl, rfl⟩ := trodVars_none hV
  obtain ⟨a0, rfl, rfl, rfl, w0⟩ := open_int Try.underlying3 (hval 0 3 v0 rfl rfl) h0
  obtain ⟨a1, rfl, rfl, rfl, w1⟩ := open_int Try.underlying3 (hval 1 3 v1 rfl rfl) h1
  clear hA0 hval0 hsz0 _hsz
  obtain ⟨k, hp⟩ := Pure.AllocHolds a0 a1 w0 w1
  have hsim : Sim (fun _ => (0, 0, 0)) (roH []) W := ⟨fun _ _ _ h => (by cases h), fun _ _ _ _ _ _ h => (by cases h)⟩
  refine (law_calls (madrigallaw18_AllocHolds.ok k) (said k a0 a1 hp) (fun b bk md hg => by obtain ⟨_, _, _, _, r⟩ := roH_at _ b bk md hg; exact r) hsim (args' := #[.int .i64 a0, .int .i64 a1]) rfl fun j x y hx hy => ?_).mono fun e W' ⟨he, bel⟩ => ?_
  · match j, hx, hy with
    | 0, hx, hy => cases hx; cases hy; constructor
    | 1, hx, hy => cases hx; cases hy; constructor
    | _ + 2, hx, hy => simp at hx
  · subst he
    exact ⟨_, rfl, _, _, _, [], _, [], hW', trodAll_mk1 (shut_bool Try.underlying4 _), (trodAll_cons_mk (shut_int Try.underlying3 w0) (trodAll_cons_mk (shut_int Try.underlying3 w1) trodAll_mk0)), rfl, bel.frame _, fun h => by cases h⟩
theorem over : Rows.allocHoldsRow.holds Try.pinned (OpenSpec.ofChange Rows.allocHoldsSpec) :=
  OpenClaim.holds_of_wide 6 Try.f6 rfl rfl rfl rfl rfl rfl rfl ⟨rfl, rfl, rfl, rfl, rfl⟩ rfl rfl rfl rfl rfl (by kernel_rfl) Try.func6 (by kernel_rfl)
    (of_decide_eq_true (by kernel_rfl)) (by unfold Func.isWrapper; first | (rw [if_pos (by decide +kernel)]; kernel_rfl) | (rw [if_neg (by decide +kernel)]; exact ⟨rfl, rfl⟩))
    (fun os started H enc _ => lifted os started H enc)
end Go.Proofs.Ytdimjdlomgpbgaa.allocHolds
namespace Go.Proofs.Ytdimjdlomgpbgaa
theorem allocHolds_holds : Rows.AllocHoldsSaid := allocHolds.over
#print axioms allocHolds_holds
end Go.Proofs.Ytdimjdlomgpbgaa
