/- Concrete runs: a call on an empty heap, kept with the heap that it leaves. No condition. -/
import Derived.Test.YtdbdkbaplnjnmaaGreatC27
set_option linter.unusedVariables false
set_option linter.unusedSimpArgs false
namespace Go.Ab
open Go
noncomputable section

theorem fill_all {α : Type} (x : α) : ∀ (d : Nat) (t : QT α d), (∀ b, b < 4 ^ d → QT.get d b t = x) → t = QT.fill x d
  | 0, t, h => h 0 (Nat.one_pos)
  | d + 1, t, h => by
    have e : (4 : Nat) ^ (d + 1) = 4 * 4 ^ d := Nat.pow_succ'
    have key : ∀ q : Q4 (QT α d), (∀ b, b < 4 ^ (d + 1) → QT.get d (b / 4) (Q4.at q (b % 4)) = x) → q = (⟨QT.fill x d, QT.fill x d, QT.fill x d, QT.fill x d⟩ : Q4 (QT α d)) := by
      intro q hq
      have one : ∀ r, r < 4 → Q4.at q r = QT.fill x d := fun r hr => fill_all x d _ fun b hb => by
        have := hq (4 * b + r) (by omega)
        rwa [show (4 * b + r) / 4 = b by omega, show (4 * b + r) % 4 = r by omega] at this
      have h0 := one 0 (by omega)
      have h1 := one 1 (by omega)
      have h2 := one 2 (by omega)
      have h3 := one 3 (by omega)
      obtain ⟨a, b, c, d'⟩ := q
      have h0 : a = _ := h0
      have h1 : b = _ := h1
      have h2 : c = _ := h2
      have h3 : d' = _ := h3
      rw [h0, h1, h2, h3]
    exact key t h
theorem noH_of {T : HT} (h : TOk T 0) : T = noH := fill_all _ 8 T fun b hb => h.top b (by simpa using hb) (Nat.zero_le _)

/-- whole numbers, truths, structs of these -/
def eqSG (a b : AV) : Bool := match a, b with
  | .agg l, .agg l' => eqScs l l'
  | x, y => eqSc x y
theorem eqSG_spec {a b : AV} (h : eqSG a b = true) : a = b := by
  unfold eqSG at h
  split at h
  · rw [(eqScs_spec h).1]
  · exact (eqSc_spec h).1
def eqSGs : List AV → List AV → Bool
  | [], [] => true
  | x :: xs, y :: ys => eqSG x y && eqSGs xs ys
  | _, _ => false
theorem eqSGs_spec : ∀ {a b : List AV}, eqSGs a b = true → a = b
  | [], [], _ => rfl
  | x :: xs, y :: ys, h => by
    simp only [eqSGs, Bool.and_eq_true] at h
    rw [eqSG_spec h.1, eqSGs_spec h.2]
  | [], _ :: _, h => by cases h
  | _ :: _, [], h => by cases h
def hkN (f0 : Nat) (as : List AV) (r : Res) (hk : CallI) : CallI := fun f args T n => Bool.rec (hk f args T n) (Nat.rec (Bool.rec (hk f args T n) r (eqSGs (args.map CV.av) as)) (fun _ _ => hk f args T n) n) (Nat.beq f f0)
theorem hkN_ok {P : Program} {c : CallI} (hc : CallsOk P c) {f0 : Nat} {as : List CV} {r : Res} (h : c f0 as noH 0 = r) {hk : CallI} (hhk : HkOk P hk) : HkOk P (hkN f0 (as.map CV.av) r hk) := by
  intro f args T n v T' n' hr hT
  have e1 : hkN f0 (as.map CV.av) r hk f args T n = Bool.rec (hk f args T n) (Nat.rec (Bool.rec (hk f args T n) r (eqSGs (args.map CV.av) (as.map CV.av))) (fun _ _ => hk f args T n) n) (Nat.beq f f0) := rfl
  rw [e1] at hr
  cases hf : Nat.beq f f0 with
  | false => rw [hf] at hr; exact hhk _ _ _ _ _ _ _ hr hT
  | true =>
    rw [hf] at hr
    obtain rfl := Nat.eq_of_beq_eq_true hf
    cases n with
    | succ n => exact hhk _ _ _ _ _ _ _ hr hT
    | zero =>
      cases ha : eqSGs (args.map CV.av) (as.map CV.av) with
      | false => simp only [ha] at hr; exact hhk _ _ _ _ _ _ _ hr hT
      | true =>
        simp only [ha] at hr
        obtain rfl := noH_of hT
        have := hc f as noH 0 v T' n' (h.trans hr) hT
        rw [eqSGs_spec ha]
        exact this
/-! a call that answers a struct of whole numbers and truths -/
def scalG (v : AV) : Bool := match v with
  | .agg l => scals l
  | x => scal x
theorem VR.scalG {m m' : Map} {H H' : Heap} {x : AV} {v : Value} (h : VR m H x v) (hs : Ab.scalG x = true) : VR m' H' x v := by
  unfold Ab.scalG at hs
  split at hs
  · cases h with
    | agg l cs hl hv => exact .agg _ cs hl fun j x y hx hy => (hv j x y hx hy).scal (scals_at hs j x hx)
  · exact h.scal hs
theorem memo_stepG {P : Program} {c : CallI} (hc : CallsOk P c) {f : FuncId} {args : List CV} {v : CV} {T' : HT} {n' : Nat} (h : c f args noH 0 = .ok v T' n') (ha : scals (args.map CV.av) = true) (hv : scalG v.av = true) (K : Heap) (q : Nat) : CallStep P f (args.map CV.av) K q v.av [] := by
  obtain ⟨_, hE, h2⟩ := hc _ _ _ _ _ _ _ h noH_ok
  refine ⟨hE, fun m H w args' _ _ hsim hlen hargs => ?_⟩
  have hsim0 : Sim (fun _ => (0, 0, 0)) [] w := ⟨fun _ _ _ h => (by cases h), fun _ _ _ _ _ _ h => (by cases h)⟩
  have hsub : SubH (absH noH) [] := fun b x hx => by
    have hb := hget_abs_lt hx
    rw [hget_abs noH hb] at hx
    have : QT.get 8 b noH = .hole := QT.get_fill _ _ _
    rw [this] at hx; cases hx
  refine (h2 (fun _ => (0, 0, 0)) [] w args' hsub (fun d _ _ => rfl) hsim0 hlen fun j x y hx hy => (hargs j x y hx hy).scal (scals_at ha j x hx)).mono fun e w' ⟨v', m', he, _, hv', ht⟩ => ?_
  have same : ∀ b, b < w.heap.size → w'.heap[b]? = w.heap[b]? := fun b hb => by
    rcases ht.frame b hb with h3 | ⟨c, c', e, fr, f1, f2, f3, f4⟩
    · exact h3
    · have : c' = c := Array.ext f3 fun i h1 h2 => by
        have := f4 i (fun ⟨b', bk, md, g1, _⟩ => by cases g1)
        simp [h1, h2] at this
        exact this
      rw [f1, f2, this]
  refine ⟨v', m, he, ?_, hv'.scalG hv, ⟨.refl _ _, ht.os, ht.tape, ht.output, ht.drawn, ht.size, fun b hb => .inl (same b hb), fun _ _ h => .inr h⟩⟩
  exact hsim.heap_eq same
def runsG (r : Res) (z : CV) : Bool := Res.rec false (fun v _ _ => eqSG v.av z.av) r
theorem runsG_spec {r : Res} {z : CV} (h : runsG r z = true) : ∃ v T n, r = .ok v T n ∧ v.av = z.av := by
  cases r with
  | bad => cases h
  | ok v T n => exact ⟨v, T, n, rfl, eqSG_spec h⟩
theorem memoG_at {P : Program} {c : CallI} (hc : CallsOk P c) {f : FuncId} {z : CV} (h : runsG (c f [] noH 0) z = true) (hz : scalG z.av = true) (K : Heap) (q : Nat) : CallStep P f [] K q z.av [] := by
  obtain ⟨v, T, n, hr, hv⟩ := runsG_spec h
  have := memo_stepG hc hr rfl (by rw [hv]; exact hz) K q
  rw [hv] at this
  exact this
end
end Go.Ab
