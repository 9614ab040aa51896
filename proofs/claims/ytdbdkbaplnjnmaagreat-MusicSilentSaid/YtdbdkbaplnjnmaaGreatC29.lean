/- Concrete runs: kept calls out of contracts. No condition. -/
import Derived.Test.YtdbdkbaplnjnmaaGreatC28
set_option linter.unusedVariables false
set_option linter.unusedSimpArgs false
namespace Go.Ab
open Go Go.RowKit
noncomputable section

theorem memoAt_fn {P : Program} {f : FuncId} {J : ∀ X : Type, List AV → Heap → Nat → (AV → Delta → Option X) → Option X} (h : CallOk P f J) {l : List MA} {r : MR} {v : AV} {D : Delta} (hl : l.length ≤ 65535) (hs : sMA l = true)
    (hj : J (AV × Delta) ((memA l 0).map CV.av) (roH (l.map MA.lst)) l.length (fun v D => some (v, D)) = some (v, D)) (hr : MRAt D l r v) : MemoAt P f l r := by
  obtain ⟨v', D', h1, h2⟩ := h _ _ _ _ _ _ hj
  cases h1
  exact ⟨hl, hs, _, _, h2, hr⟩
/-- a law that was run at arguments that name no place -/
theorem ce_law_args {P : Program} {c : CallI} (hc : CallsOk P c) {f : FuncId} {as : List CV} (h : isTrue (c f as noH 0) = true) (w : World) {args' : Array Value} (hl : as.length = args'.size)
    (hv : ∀ (j : Nat) (x : AV) (y : Value), (as.map CV.av)[j]? = some x → args'[j]? = some y → VR (fun _ => (0, 0, 0)) [] x y) : Calls P f args' w fun e w' => e = .returned (.bool true) ∧ Below w.heap.size w w' := by
  obtain ⟨T, n, hr⟩ := isTrue_spec h
  obtain ⟨_, _, h2⟩ := hc _ _ _ _ _ _ _ hr noH_ok
  have hsim : Sim (fun _ => (0, 0, 0)) [] w := ⟨fun _ _ _ h => (by cases h), fun _ _ _ _ _ _ h => (by cases h)⟩
  have hsub : SubH (absH noH) [] := fun b x hx => by
    have hb := hget_abs_lt hx
    rw [hget_abs noH hb] at hx
    have : QT.get 8 b noH = .hole := QT.get_fill _ _ _
    rw [this] at hx; cases hx
  refine (h2 (fun _ => (0, 0, 0)) [] w args' hsub (fun d _ _ => rfl) hsim (by rw [List.length_map, hl]) hv).mono fun e w' ⟨v', m', he, _, hv, ht⟩ => ?_
  subst he
  cases hv
  refine ⟨rfl, ht.os, ht.tape, ht.output, ht.size, fun b hb => ?_⟩
  rcases ht.frame b hb with h3 | ⟨c, c', e, fr, f1, f2, f3, f4⟩
  · exact h3
  · have : c' = c := Array.ext f3 fun i h1 h2 => by
      have := f4 i (fun ⟨b', bk, md, g1, _⟩ => by cases g1)
      simp [h1, h2] at this
      exact this
    rw [f1, f2, this]
end
end Go.Ab
