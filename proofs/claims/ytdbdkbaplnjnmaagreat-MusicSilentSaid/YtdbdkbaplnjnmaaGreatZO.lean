/- A music.Shape as an argument. No condition. -/
import Derived.Test.YtdbdkbaplnjnmaaGreatZT
import Derived.Test.YtdbdkbaplnjnmaaGreatZY1
import Derived.Test.YtdbdkbaplnjnmaaGreatZY2
import Derived.ChangeSame
set_option linter.unusedVariables false
set_option linter.unusedSimpArgs false
namespace Go.Proofs.YtdbdkbaplnjnmaaGreat
open Go Go.Ab Go.ChangeShapes Go.WideShapes Go.ChangeAt Go.RowKit
set_option maxRecDepth 100000 in
theorem open_shape {H : Type} {enc : TypeId × Value → H} {W : World} {base : Nat} {sp : Nat → Bool} {hd : Bool} {r : Reach} {b0 : Nat} {v : Value} {d : DataW H} {ps : List MemPlace} (hval : Value.okWide Tryz.prog W r b0 23 v) (h : DataW.Trod enc Tryz.prog W base sp hd 23 v d ps) :
    ∃ a b c e, v = .agg #[.int .i64 a, .int .i64 b, .int .i64 c, .int .i64 e] ∧ d = .agg [.lit (.int .i64 a), .lit (.int .i64 b), .lit (.int .i64 c), .lit (.int .i64 e)] ∧ ps = [] ∧ (Lit.int .i64 a).wf = true ∧ (Lit.int .i64 b).wf = true ∧ (Lit.int .i64 c).wf = true ∧ (Lit.int .i64 e).wf = true := by
  have c3 : Tryz.prog.cellsOf 3 = 1 := by kernel_rfl
  have c23 : Tryz.prog.cellsOf 23 = 4 := by kernel_rfl
  obtain ⟨cs, rfl, hcs⟩ := okWide_struct Tryz.underlying23 hval
  rw [c23] at hcs
  obtain ⟨fuel, hf⟩ := h
  obtain ⟨xs, n, _, hx, hl, hlen, hg⟩ := DataW.trod_struct Tryz.underlying23 hf
  have hcs' : (Value.agg cs).cells = cs := rfl
  rw [hcs'] at hg
  have hl4 : cs.toList.length = 4 := by simpa using hcs
  obtain ⟨l⟩ := cs
  simp only at hg hl4 hx
  match l, hl4 with
  | [u0, u1, u2, u3], _ =>
    match xs, hlen with
    | [y0, y1, y2, y3], _ =>
      have g0 := hg 0 _ rfl
      have g1 := hg 1 _ rfl
      have g2 := hg 2 _ rfl
      have g3 := hg 3 _ rfl
      change DataW.trod enc Tryz.prog W base sp hd n 3 ((([u0, u1, u2, u3] : List Value).drop 0).take (Tryz.prog.cellsOf 3)) = some y0 at g0
      rw [c3] at g0
      change DataW.trod enc Tryz.prog W base sp hd n 3 ((([u0, u1, u2, u3] : List Value).drop 1).take (Tryz.prog.cellsOf 3)) = some y1 at g1
      rw [c3] at g1
      change DataW.trod enc Tryz.prog W base sp hd n 3 ((([u0, u1, u2, u3] : List Value).drop 2).take (Tryz.prog.cellsOf 3)) = some y2 at g2
      rw [c3] at g2
      change DataW.trod enc Tryz.prog W base sp hd n 3 ((([u0, u1, u2, u3] : List Value).drop 3).take (Tryz.prog.cellsOf 3)) = some y3 at g3
      rw [c3] at g3
      obtain ⟨a, e0, q0, w0⟩ := DataW.trod_int Tryz.underlying3 g0
      obtain ⟨b, e1, q1, w1⟩ := DataW.trod_int Tryz.underlying3 g1
      obtain ⟨c, e2, q2, w2⟩ := DataW.trod_int Tryz.underlying3 g2
      obtain ⟨e, e3, q3, w3⟩ := DataW.trod_int Tryz.underlying3 g3
      simp at e0 e1 e2 e3
      subst e0 e1 e2 e3 q0 q1 q2 q3
      simp at hx
      exact ⟨a, b, c, e, rfl, hx.1, hx.2, w0, w1, w2, w3⟩
set_option maxRecDepth 100000 in
theorem shut_shape {H : Type} {enc : TypeId × Value → H} {W : World} {base : Nat} {sp : Nat → Bool} {hd : Bool} {a b c e : Int} (w0 : (Lit.int .i64 a).wf = true) (w1 : (Lit.int .i64 b).wf = true) (w2 : (Lit.int .i64 c).wf = true) (w3 : (Lit.int .i64 e).wf = true) :
    DataW.Trod enc Tryz.prog W base sp hd 23 (.agg #[.int .i64 a, .int .i64 b, .int .i64 c, .int .i64 e]) (.agg [.lit (.int .i64 a), .lit (.int .i64 b), .lit (.int .i64 c), .lit (.int .i64 e)]) [] := by
  have c3 : Tryz.prog.cellsOf 3 = 1 := by kernel_rfl
  have c23 : Tryz.prog.cellsOf 23 = 4 := by kernel_rfl
  refine ⟨2, ?_⟩
  have := trod_struct_mk (enc := enc) (P := Tryz.prog) (w := W) (base := base) (spare := sp) (held := hd) (n := 1) (cs := [.int .i64 a, .int .i64 b, .int .i64 c, .int .i64 e]) (xs := [(.lit (.int .i64 a), []), (.lit (.int .i64 b), []), (.lit (.int .i64 c), []), (.lit (.int .i64 e), [])]) Tryz.underlying23 (by rw [c23]; rfl)
    (by simp [c3, trod_int_mk 0 Tryz.underlying3 w0, trod_int_mk 0 Tryz.underlying3 w1, trod_int_mk 0 Tryz.underlying3 w2, trod_int_mk 0 Tryz.underlying3 w3])
  exact this
/-- the law, called -/
theorem law_at (r ms ch fi : Int) (su jo : Bool) (W : World) : Calls Tryz.prog 3 #[.agg #[.int .i64 r, .int .i64 ms, .int .i64 ch, .int .i64 fi], .bool su, .bool jo] W fun e w' => e = .returned (.bool true) ∧ Below W.heap.size W w' := by
  have hv : ∀ (m : Map) (H : Heap) (j : Nat) (x : AV) (y : Value), ([.agg [.int .i64 r, .int .i64 ms, .int .i64 ch, .int .i64 fi], .bool su, .bool jo] : List AV)[j]? = some x → (#[.agg #[.int .i64 r, .int .i64 ms, .int .i64 ch, .int .i64 fi], .bool su, .bool jo] : Array Value)[j]? = some y → VR m H x y := by
    intro m H j x y hx hy
    match j, hx, hy with
    | 0, hx, hy =>
      cases hx; cases hy
      refine .agg _ _ rfl fun j x y hx hy => ?_
      match j, hx, hy with
      | 0, hx, hy => cases hx; cases hy; constructor
      | 1, hx, hy => cases hx; cases hy; constructor
      | 2, hx, hy => cases hx; cases hy; constructor
      | 3, hx, hy => cases hx; cases hy; constructor
      | _ + 4, hx, hy => simp at hx
    | 1, hx, hy => cases hx; cases hy; constructor
    | 2, hx, hy => cases hx; cases hy; constructor
    | _ + 3, hx, hy => simp at hx
  rcases guard_some 0 r ms ch fi su jo with h | ⟨h1, h2, rfl⟩
  · refine law_calls (f := 3) (madrigallaw21_MusicSilent.fn 0).ok (K := []) (by show (madrigallaw21_MusicSilent.fn 0).r.J Unit _ [] 0 yes = _; rw [guard_j, h]; rfl) (fun b bk md hg => by cases hg) (m := fun _ => (0, 0, 0)) ⟨fun _ _ _ h => (by cases h), fun _ _ _ _ _ _ h => (by cases h)⟩ rfl (hv _ _)
  · have key : lawAt r ms ch 0 su jo = true := by
      rcases h1 with ⟨rfl, rfl | rfl⟩ | ⟨rfl, rfl⟩ <;> rcases h2 with rfl | rfl
      · exact at1_0 su jo
      · exact at2_0 su jo
      · exact at1_1 su jo
      · exact at2_1 su jo
      · exact at1_2 su jo
      · exact at2_2 su jo
    exact ce_law_args (calls_ok (kI_ok hkZ_ok)) key W rfl (hv _ _)
end Go.Proofs.YtdbdkbaplnjnmaaGreat
