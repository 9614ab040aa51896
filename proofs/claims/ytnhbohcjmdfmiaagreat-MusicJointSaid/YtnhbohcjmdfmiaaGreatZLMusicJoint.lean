/- The statement MusicJoint: the code of the law returns true. Conditions: none ahead of the given statement. -/
import Derived.Test.YtnhbohcjmdfmiaaGreatBb6
import Derived.Test.YtnhbohcjmdfmiaaGreatMP3
import Derived.Test.YtnhbohcjmdfmiaaGreatRows
set_option linter.unusedVariables false
set_option linter.unusedSimpArgs false
namespace Go.Proofs.YtnhbohcjmdfmiaaGreat.musicJoint
open Go Go.Ab Go.ChangeShapes Go.WideShapes Go.ChangeAt Go.RowKit
open Go.ChangeMaps (open_string shut_string)
theorem Pure.MusicJoint_ : ∀ (ms : Int) (f : List Int), (Lit.int .i64 ms).wf = true → (∀ n ∈ f, (Lit.int .i64 n).wf = true) → f.length * 8 ≤ 140737488351232 → ∃ k, madrigallaw21_MusicJoint k ms f = some true := by
  intros; exact Go.Proofs.YtnhbohcjmdfmiaaGreat.pure _ _
theorem own : ownKnob Tryz.prog.godebug = none := by kernel_rfl
theorem laidOut : laidOutB Tryz.prog = true := by kernel_rfl
theorem said (k : Nat) (a1 : Int) (z0 : List Int) (h : madrigallaw21_MusicJoint k a1 z0 = some true) : (madrigallaw21_MusicJoint.fn k).r.J Unit [.whole 0, .int .i64 a1] (roH [(.i64, z0)]) (roH [(.i64, z0)]).length yes = some () := by
  have e : (madrigallaw21_MusicJoint.fn k).r.J Unit [.whole 0, .int .i64 a1] (roH [(.i64, z0)]) (roH [(.i64, z0)]).length yes = (madrigallaw21_MusicJoint k a1 z0).bind (fun o => match o with | r => yes (.bool r) []) := by kernel_rfl
  rw [e, h]; rfl
set_option maxRecDepth 100000 in
theorem lifted (os : Os) (started : os.Started) (H : Type) (enc : TypeId × Value → H) :
    ReturnsInHanded {} Tryz.checked os 6 .any (Rows.musicJointSpec.pre6 enc Tryz.prog Tryz.f6 Rows.musicJointRow.domain false) (Rows.musicJointSpec.post enc Tryz.prog Tryz.f6 false true false false) := by
  refine returnsInHanded_of_change_sized (C := Tryz.checked) own started (by kernel_rfl) Tryz.func6
    (ChangeSpec.witness6 (enc := enc) (C := Tryz.checked) false ⟨#[], #[.slice none 0 0, .int .i64 0], []⟩ 8 (by kernel_rfl) (by kernel_rfl) (by kernel_rfl) (by kernel_rfl)) ?_
  intro W base args ds gs before hval0 hW _hcnd hsz0 _
  have _hsz : (DataW.weightsEach Tryz.prog (Tryz.f6.params.toList ++ Rows.musicJointSpec.plain.varTypes Tryz.prog) (ds ++ gs)).all (· ≤ reachBytes) = true := hsz0
  have hval : ∀ (j : Nat) t v, Tryz.f6.params[j]? = some t → args[j]? = some v → Value.okWide Tryz.prog W .any base t v := hval0
  have hW' := hW
  obtain ⟨p, q, hA0, hV, rfl, hfz, hnd⟩ := hW
  have hA : DataW.TrodAll enc Tryz.prog W 0 (fun _ => true) true Tryz.f6.params.toList args.toList ds p := hA0
  rw [Tryz.params6] at hA hval _hsz
  obtain ⟨v0, vs0, d0, ds0, p0, q0, hargs, rfl, rfl, h0, r0⟩ := trodAll_cons hA
  obtain ⟨v1, vs1, d1, ds1, p1, q1, rfl, rfl, rfl, h1, r1⟩ := trodAll_cons r0
  obtain ⟨rfl, rfl, rfl⟩ := trodAll_nil r1
  obtain rfl : args = #[v0, v1] := by cases args; simp_all
  obtain ⟨rfl, rfl⟩ := trodVars_none hV
  obtain ⟨a0, len0, cap0, rfl⟩ := okWide_slice Tryz.underlying56 (hval 0 56 v0 rfl rfl)
  have k0 := h0
  have lt0 : ∀ x ∈ p0, x.block < W.heap.size := by obtain ⟨m, hm⟩ := k0; exact DataW.trod_lt m _ _ _ hm
  obtain ⟨z0, w0⟩ := slIs_of Tryz.underlying56 Tryz.underlying2 (by kernel_rfl) h0
  have y0 : len0 * 8 ≤ 140737488351232 := sized_sl _hsz (j := 0) (t := 56) rfl rfl Tryz.underlying56 Tryz.underlying2 (by kernel_rfl) (by kernel_rfl) h0
  obtain rfl := w0.hlen
  obtain ⟨a1, rfl, rfl, rfl, w1⟩ := open_int Tryz.underlying3 (hval 1 3 v1 rfl rfl) h1
  clear hA0 hval0 hsz0 _hsz
  obtain ⟨k, hp⟩ := Pure.MusicJoint_ a1 z0 w1 w0.hwf y0
  have hS : ∀ i k z, ([(.i64, z0)] : List (IntKind × List Int))[i]? = some (k, z) → SlIs k W ((fun i => match i with | 0 => a0 | _ => none) i) z.length ((fun i => match i with | 0 => cap0 | _ => 0) i) z := by
    intro i k z hi
    match i, hi with
    | 0, hi => cases hi; exact w0
    | _ + 1, hi => simp at hi
  have hsim := ro_sim hS
  refine (law_calls (f := 6) (madrigallaw21_MusicJoint.fn k).ok (said k a1 z0 hp) (fun b bk md hg => by obtain ⟨_, _, _, _, r⟩ := roH_at _ b bk md hg; exact r) hsim (args' := #[.slice a0 z0.length cap0, .int .i64 a1]) rfl fun j x y hx hy => ?_).mono fun e W' ⟨he, bel⟩ => ?_
  · match j, hx, hy with
    | 0, hx, hy => cases hx; cases hy; exact ro_vr hS (i := 0) rfl
    | 1, hx, hy => cases hx; cases hy; constructor
    | _ + 2, hx, hy => simp at hx
  · subst he
    exact ⟨_, rfl, _, _, _, [], _, [], hW', trodAll_mk1 (shut_bool Tryz.underlying4 _), (trodAll_cons_mk (Below.trod laidOut (by kernel_rfl) (of_decide_eq_true (by kernel_rfl)) k0 bel lt0) (trodAll_cons_mk (shut_int Tryz.underlying3 w1) trodAll_mk0)), rfl, bel.frame _, fun h => by cases h⟩
theorem over : Rows.musicJointRow.holds Tryz.pinned (OpenSpec.ofChange Rows.musicJointSpec) :=
  OpenClaim.holds_of_wide 6 Tryz.f6 rfl rfl rfl rfl rfl rfl rfl ⟨rfl, rfl, rfl, rfl, rfl⟩ rfl rfl rfl rfl rfl (by kernel_rfl) Tryz.func6 (by kernel_rfl)
    (of_decide_eq_true (by kernel_rfl)) (by unfold Func.isWrapper; first | (rw [if_pos (by decide +kernel)]; kernel_rfl) | (rw [if_neg (by decide +kernel)]; exact ⟨rfl, rfl⟩))
    (fun os started H enc _ => lifted os started H enc)
end Go.Proofs.YtnhbohcjmdfmiaaGreat.musicJoint
namespace Go.Proofs.YtnhbohcjmdfmiaaGreat
theorem musicJoint_holds : Rows.MusicJointSaid := musicJoint.over
#print axioms musicJoint_holds
end Go.Proofs.YtnhbohcjmdfmiaaGreat
