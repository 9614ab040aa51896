/- The statement PitchKnown: the code of the law returns true. Conditions: none ahead of the given statement. -/
import Derived.Test.YtdimjdlomgpbgaaBb5
import Derived.Test.YtdimjdlomgpbgaaQF
import Derived.Test.YtdimjdlomgpbgaaQ4
set_option linter.unusedVariables false
set_option linter.unusedSimpArgs false
namespace Go.Proofs.Ytdimjdlomgpbgaa.pitchKnown
open Go Go.Ab Go.ChangeShapes Go.WideShapes Go.ChangeAt Go.RowKit
open Go.ChangeMaps (open_string shut_string)
theorem own : ownKnob Try.prog.godebug = none := by kernel_rfl
theorem said (k : Nat) (h : madrigallaw11_PitchKnown k = some true) : (madrigallaw11_PitchKnown.fn k).r.J Unit [] (roH []) (roH []).length yes = some () := by
  have e : (madrigallaw11_PitchKnown.fn k).r.J Unit [] (roH []) (roH []).length yes = (madrigallaw11_PitchKnown k).bind (fun o => match o with | r => yes (.bool r) []) := by kernel_rfl
  rw [e, h]; rfl
set_option maxRecDepth 100000 in
theorem lifted (os : Os) (started : os.Started) (H : Type) (enc : TypeId × Value → H) :
    ReturnsInHanded {} Try.checked os 9 .any (Rows.pitchKnownSpec.pre6 enc Try.prog Try.f9 Rows.pitchKnownRow.domain false) (Rows.pitchKnownSpec.post enc Try.prog Try.f9 false true false false) := by
  refine returnsInHanded_of_change_sized (C := Try.checked) own started (by kernel_rfl) Try.func9
    (ChangeSpec.witness6 (enc := enc) (C := Try.checked) false ⟨#[], #[], []⟩ 8 (by kernel_rfl) (by kernel_rfl) (by kernel_rfl) (by kernel_rfl)) ?_
  intro W base args ds gs before hval0 hW _hcnd hsz0 _
  have _hsz : (DataW.weightsEach Try.prog (Try.f9.params.toList ++ Rows.pitchKnownSpec.plain.varTypes Try.prog) (ds ++ gs)).all (· ≤ reachBytes) = true := hsz0
  have hval : ∀ (j : Nat) t v, Try.f9.params[j]? = some t → args[j]? = some v → Value.okWide Try.prog W .any base t v := hval0
  have hW' := hW
  obtain ⟨p, q, hA0, hV, rfl, hfz, hnd⟩ := hW
  have hA : DataW.TrodAll enc Try.prog W 0 (fun _ => true) true Try.f9.params.toList args.toList ds p := hA0
  rw [Try.params9] at hA 
  obtain ⟨rfl, rfl, rfl⟩ := trodAll_none hA
  obtain ⟨rfl, rfl⟩ := trodVars_none hV
  clear hA0 hval0 hsz0 _hsz
  obtain ⟨k, hp⟩ := Pure.PitchKnown
  have hsim : Sim (fun _ => (0, 0, 0)) (roH []) W := ⟨fun _ _ _ h => (by cases h), fun _ _ _ _ _ _ h => (by cases h)⟩
  refine (law_calls (f := 9) (madrigallaw11_PitchKnown.fn k).ok (said k hp) (fun b bk md hg => by obtain ⟨_, _, _, _, r⟩ := roH_at _ b bk md hg; exact r) hsim (args' := #[]) rfl fun j x y hx hy => ?_).mono fun e W' ⟨he, bel⟩ => ?_
  · match j, hx, hy with
    | _, hx, hy => simp at hx
  · subst he
    exact ⟨_, rfl, _, _, _, [], _, [], hW', trodAll_mk1 (shut_bool Try.underlying4 _), trodAll_mk0, rfl, bel.frame _, fun h => by cases h⟩
theorem over : Rows.pitchKnownRow.holds Try.pinned (OpenSpec.ofChange Rows.pitchKnownSpec) :=
  OpenClaim.holds_of_wide 9 Try.f9 rfl rfl rfl rfl rfl rfl rfl ⟨rfl, rfl, rfl, rfl, rfl⟩ rfl rfl rfl rfl rfl (by kernel_rfl) Try.func9 (by kernel_rfl)
    (of_decide_eq_true (by kernel_rfl)) (by unfold Func.isWrapper; first | (rw [if_pos (by decide +kernel)]; kernel_rfl) | (rw [if_neg (by decide +kernel)]; exact ⟨rfl, rfl⟩))
    (fun os started H enc _ => lifted os started H enc)
end Go.Proofs.Ytdimjdlomgpbgaa.pitchKnown
namespace Go.Proofs.Ytdimjdlomgpbgaa
theorem pitchKnown_holds : Rows.PitchKnownSaid := pitchKnown.over
#print axioms pitchKnown_holds
end Go.Proofs.Ytdimjdlomgpbgaa
