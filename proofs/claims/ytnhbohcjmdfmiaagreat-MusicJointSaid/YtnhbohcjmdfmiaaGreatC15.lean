/- Concrete runs: code. No condition. -/
import Derived.Test.YtnhbohcjmdfmiaaGreatC14
import Derived.Test.YtnhbohcjmdfmiaaGreatC21
set_option linter.unusedVariables false
set_option linter.unusedSimpArgs false
namespace Go.Ab
open Go
noncomputable section
variable {e : Nat}

inductive OutIs : Out e → Exit → QT CV e → HT → Nat → Prop
  | norm (tm : QT CV e) (T : HT) (n : Nat) : OutIs (.norm tm T n) .normal tm T n
  | exit (id : Nat) (tm : QT CV e) (T : HT) (n : Nat) : OutIs (.exit id tm T n) (.exit id) tm T n
  | ret (tm : QT CV e) (T : HT) (n : Nat) : OutIs (.ret tm T n) .ret tm T n

theorem TR.less {m : Map} {H : Heap} {tm tm2 : List AV} {a : Act} (h : TR m H tm a) (hl : tm2.length ≤ tm.length) (h2 : ∀ t, tget tm2 t = .undef ∨ tget tm2 t = tget tm t) : TR m H tm2 a := by
  refine ⟨Nat.le_trans hl h.len, fun t => ?_⟩
  rcases h2 t with q | q
  · rw [q]; exact .undef _
  · rw [q]; exact h.at_ t

/-- what a piece of code's closure does -/
def CmOk' (P : Program) (N : Nat) (L : EM) (c : CallI) (code : Code) (F : Cf e) : Prop :=
  ∀ (tm : QT CV e) (T : HT) (n : Nat), TOk T n → F c tm T n ≠ .bad → (∀ ex tm1 T1 n1, OutIs (F c tm T n) ex tm1 T1 n1 → Did T n T1 n1) ∧
    ∀ {B : Bs}, BsOk B → ∀ {Z : Base} {m : Map} {a : Act} {w : World}, Did B.T B.n T n → On Z m ⟨tmL N L 0 st0 tm, B.at T n⟩ a w → ∀ Q : Exit → Act → World → Prop,
      (∀ ex tm1 T1 n1, OutIs (F c tm T n) ex tm1 T1 n1 → n1 ≤ B.nF ∧ ∀ m' a' w', On Z m' ⟨tmL N L 0 st0 tm1, B.at T1 n1⟩ a' w' → Q ex a' w') → code.wp P Q a w

theorem loopN_succ (J : QT CV e → HT → Nat → Out e) (k : Nat) (tm : QT CV e) (T : HT) (n : Nat) : loopN J (k + 1) tm T n = Out.rec .bad (loopN J k) (fun id tm T n => .exit id tm T n) (fun tm T n => .ret tm T n) (J tm T n) := rfl

section
variable (P : Program) (nt : Nat) (L : EM) (N : Nat)
theorem cmC_region0 (id : Nat) (ops : Array Oper) : cmC (e := e) P nt L N (.region id ops false) = match regC P nt L ops.toList [] L 0 [] [] 0 ops.toList with | .mk f => .mk fun c tm T n => f c () tm T n := rfl
theorem cmC_region1 (id : Nat) (ops : Array Oper) : cmC (e := e) P nt L N (.region id ops true) = drawC P nt L (reord P ops) := rfl
theorem cmC_seq (a b : Code) : cmC (e := e) P nt L N (.seq a b) = match cmC P nt L N a, cmC P nt L N b with
    | .mk f, .mk g => .mk fun c tm T n => Out.rec .bad (fun tm T n => g c tm T n) (fun id tm T n => .exit id tm T n) (fun tm T n => .ret tm T n) (f c tm T n) := rfl
theorem cmC_cond (x : Operand) (a b : Code) : cmC (e := e) P nt L N (.cond x a b) = match opA L 0 x, cmC P nt L N a, cmC P nt L N b with
    | .mk x, .mk f, .mk g => .mk fun c tm T n => onBool (f c tm T n) (g c tm T n) (x () tm) := rfl
theorem cmC_block (id : Nat) (b : Code) : cmC (e := e) P nt L N (.block id b) = match cmC P nt L N b with
    | .mk f => .mk fun c tm T n => Out.rec .bad (fun tm T n => .norm tm T n) (fun id' tm T n => Bool.rec (.exit id' tm T n) (.norm tm T n) (Nat.beq id' id)) (fun tm T n => .ret tm T n) (f c tm T n) := rfl
theorem cmC_loop (b : Code) : cmC (e := e) P nt L N (.loop b) = match cmC P nt L N b with
    | .mk f => .mk fun c tm T n => loopN (fun tm T n => f c tm T n) N tm T n := rfl
end

theorem cm_ok {P : Program} (hm : P.follows .mixedOrders = true) {N : Nat} (hN : N ≤ 1024) {L : EM} (hL : LOk N L) {c : CallI} (hc : CallsOk P c) (NN : Nat) : ∀ (code : Code) (F : Cf e), cmC P N L NN code = .mk F → CmOk' P N L c code F
  | .skip, F, hF => by
    cases hF
    intro tm T n hT h
    refine ⟨fun ex tm1 T1 n1 ho => by cases ho; exact .refl _ _, fun hB Z m a w hd hon Q hQ => ?_⟩
    exact wp_skip ((hQ _ _ _ _ (.norm _ _ _)).2 _ _ _ hon)
  | .label _, F, hF => by
    cases hF
    intro tm T n hT h
    refine ⟨fun ex tm1 T1 n1 ho => by cases ho; exact .refl _ _, fun hB Z m a w hd hon Q hQ => ?_⟩
    exact wp_label ((hQ _ _ _ _ (.norm _ _ _)).2 _ _ _ hon)
  | .exit id, F, hF => by
    cases hF
    intro tm T n hT h
    refine ⟨fun ex tm1 T1 n1 ho => by cases ho; exact .refl _ _, fun hB Z m a w hd hon Q hQ => ?_⟩
    exact wp_exit ((hQ _ _ _ _ (.exit _ _ _ _)).2 _ _ _ hon)
  | .ret, F, hF => by
    cases hF
    intro tm T n hT h
    refine ⟨fun ex tm1 T1 n1 ho => by cases ho; exact .refl _ _, fun hB Z m a w hd hon Q hQ => ?_⟩
    exact wp_ret ((hQ _ _ _ _ (.ret _ _ _)).2 _ _ _ hon)
  | .region id ops false, F, hF => by
    rw [cmC_region0] at hF
    split at hF
    rename_i f hf
    cases hF
    intro tm T n hT h
    obtain ⟨R, tmE, TE, nE, tm', w1, w2, w3, w4, w5, w6, w7⟩ := regC_walk hN hL hc tm ops.toList L 0 [] [] 0 st0 T n f hf (hL.em 0) ⟨(fun p hp => by cases hp), fun t j hj => Or.inr hj⟩ hT (.inr rfl) (fun s hs => by cases hs) h
    change f c () tm T n = _ at w2
    simp only [w2]
    refine ⟨fun ex tm1 T1 n1 ho => by cases ho; exact w1.did, fun hB Z m a w hd hon Q hQ => ?_⟩
    obtain ⟨q1, q2⟩ := hQ _ _ _ _ (.norm _ _ _)
    refine wp_region_list (w1.seq hB hd q1 hon.at_ fun m' a' w' ht => q2 m' a' w' ?_)
    have hon' := hon.to ht
    exact ⟨⟨hon'.at_.sim, hon'.at_.tr.less (by rw [tmL_length, w3]; exact Nat.le_refl _) w4⟩, hon'.tr, hon'.defers⟩
  | .region id ops true, F, hF => by
    rw [cmC_region1] at hF
    obtain ⟨ops0, he0⟩ : ∃ ops0, ops0 = ops := ⟨_, rfl⟩
    have hro := @reord_wp P ops0
    rw [he0] at hro
    generalize reord P ops = ops' at hF hro
    unfold drawC at hF
    split at hF
    · rename_i hdr
      rw [Bool.and_eq_true] at hdr
      split at hF
      rename_i f hf
      cases hF
      intro tm T n hT h
      simp only [natK_eq] at h ⊢
      have hTb : TOk T (n + 1) := (Did.bump T n).ok hT
      obtain ⟨R, tmE, TE, nE, tm', w1, w2, w3, w4, w5, w6, w7⟩ := regC_walk hN hL hc tm ops'.toList L 1 [] [] 0 (stP st0 (.i (.ofNat (n + 1)))) T (n + 1) f hf (hL.em 1) ⟨(fun p hp => by cases hp), fun t j hj => Or.inr hj⟩ hTb (.inl Nat.one_pos) (fun s hs => by cases hs) h
      change f c ((), CV.i (.ofNat (Nat.succ n))) tm T (Nat.succ n) = _ at w2
      simp only [w2]
      refine ⟨fun ex tm1 T1 n1 ho => by cases ho; exact (Did.bump T n).trans w1.did, fun {B} hB Z m a w hd hon Q hQ => ?_⟩
      obtain ⟨q1, q2⟩ := hQ _ _ _ _ (.norm _ _ _)
      have hle : n + 1 ≤ B.nF := Nat.le_trans w1.did.le q1
      have hb := Bs.bump hB hd hle
      have htl : tmL N L 1 (stP st0 (.i (.ofNat (n + 1)))) tm = tmL N L 0 st0 tm := by
        apply list_tget
        · simp [tmL]
        · intro t
          rw [tget_tmL (hL.em 1), tget_tmL (hL.em 0)]
          unfold valT
          rw [srC_push ((hL.em 0).ok t)]
      rw [htl] at w1
      have hA : At m ⟨tmL N L 0 st0 tm, B.at T (n + 1)⟩ a w := ⟨hon.at_.sim.congr hb, hon.at_.tr.mono fun _ _ hx => hx.mono (Le.congr hb)⟩
      have htr : Tr Z.m Z.H Z.w m (B.at T (n + 1)) w := hon.tr.congr hb
      refine wp_region_any hm (hro ?_)
      refine w1.drawn hB hdr.1 (hd.trans (.bump T n)) q1 (tmL_length N L st0 tm) (fun o ho => List.all_eq_true.1 hdr.2 o ho) (fun i r hr hran => ?_) (fun i i' r r' hii hr hr' hran' x hx hran => ?_) hA (fun m' a' w' ht => q2 m' a' w' ?_) id
      · have := w7 (n + 1) rfl i r hr hran
        rwa [Nat.zero_add] at this
      · have := w6 i i' r r' hii hr hr' hran' x hx hran
        rwa [Nat.zero_add, Nat.zero_add] at this
      · have hon0 : On Z m ⟨tmL N L 0 st0 tm, B.at T (n + 1)⟩ a w := ⟨hA, htr, hon.defers⟩
        have hon' := hon0.to ht
        exact ⟨⟨hon'.at_.sim, hon'.at_.tr.less (by rw [tmL_length, w3]; exact Nat.le_refl _) w4⟩, hon'.tr, hon'.defers⟩
    · cases hF
      intro tm T n hT h
      exact absurd rfl h
  | .seq x y, F, hF => by
    rw [cmC_seq] at hF
    split at hF
    rename_i f g hf hg
    cases hF
    have ihx := cm_ok hm hN hL hc NN x f hf
    have ihy := cm_ok hm hN hL hc NN y g hg
    intro tm T n hT h
    have hx : f c tm T n ≠ .bad := fun q => by simp only [q] at h; exact h rfl
    obtain ⟨x1, x2⟩ := ihx tm T n hT hx
    cases hfo : f c tm T n with
    | bad => exact absurd hfo hx
    | exit id tm1 T1 n1 =>
      simp only [hfo] at h x1 x2 ⊢
      refine ⟨x1, fun hB Z m a w hd hon Q hQ => wp_seq (x2 hB hd hon _ fun ex tm1 T1 n1 ho => ?_)⟩
      cases ho
      exact hQ _ _ _ _ (.exit _ _ _ _)
    | ret tm1 T1 n1 =>
      simp only [hfo] at h x1 x2 ⊢
      refine ⟨x1, fun hB Z m a w hd hon Q hQ => wp_seq (x2 hB hd hon _ fun ex tm1 T1 n1 ho => ?_)⟩
      cases ho
      exact hQ _ _ _ _ (.ret _ _ _)
    | norm tm1 T1 n1 =>
      simp only [hfo] at h x1 x2 ⊢
      have d1 := x1 _ _ _ _ (.norm _ _ _)
      obtain ⟨y1, y2⟩ := ihy tm1 T1 n1 (d1.ok hT) h
      refine ⟨fun ex tm2 T2 n2 ho => d1.trans (y1 _ _ _ _ ho), fun {B} hB Z m a w hd hon Q hQ => wp_seq (x2 hB hd hon _ fun ex tm2 T2 n2 ho => ?_)⟩
      cases ho
      refine ⟨?_, fun m' a' w' hon' => y2 hB (hd.trans d1) hon' Q hQ⟩
      cases hgo : g c tm1 T1 n1 with
      | bad => exact absurd hgo h
      | norm tm3 T3 n3 => rw [hgo] at y1 hQ; exact Nat.le_trans (y1 _ _ _ _ (.norm _ _ _)).le (hQ _ _ _ _ (.norm _ _ _)).1
      | exit id tm3 T3 n3 => rw [hgo] at y1 hQ; exact Nat.le_trans (y1 _ _ _ _ (.exit _ _ _ _)).le (hQ _ _ _ _ (.exit _ _ _ _)).1
      | ret tm3 T3 n3 => rw [hgo] at y1 hQ; exact Nat.le_trans (y1 _ _ _ _ (.ret _ _ _)).le (hQ _ _ _ _ (.ret _ _ _)).1
  | .cond x t f, F, hF => by
    rw [cmC_cond] at hF
    split at hF
    rename_i fx ft ff hx ht hf
    cases hF
    have iht := cm_ok hm hN hL hc NN t ft ht
    have ihf := cm_ok hm hN hL hc NN f ff hf
    intro tm T n hT h
    have hxv : ∀ (Z : Base) m a w (B : Bs), On Z m ⟨tmL N L 0 st0 tm, B.at T n⟩ a w → VR m (B.at T n) (fx st0 tm).av (a.eval x) := fun Z m a w B hon => by
      have := hon.at_.tr.ev x
      simp only [ev_tmL (hL.em 0), valO_of hx] at this
      exact this
    rcases onBool_inv h with ⟨h1, h2⟩ | ⟨h1, h2⟩
    · simp only [h2] at h ⊢
      obtain ⟨y1, y2⟩ := iht tm T n hT h
      refine ⟨y1, fun {B} hB Z m a w hd hon Q hQ => ?_⟩
      have hv := hxv Z m a w B hon
      change fx st0 tm = _ at h1
      rw [h1] at hv
      generalize ha : a.eval x = v at hv
      cases hv
      exact wp_cond_true ha (y2 hB hd hon Q hQ)
    · simp only [h2] at h ⊢
      obtain ⟨y1, y2⟩ := ihf tm T n hT h
      refine ⟨y1, fun {B} hB Z m a w hd hon Q hQ => ?_⟩
      have hv := hxv Z m a w B hon
      change fx st0 tm = _ at h1
      rw [h1] at hv
      generalize ha : a.eval x = v at hv
      cases hv
      exact wp_cond_false ha (y2 hB hd hon Q hQ)
  | .block id b, F, hF => by
    rw [cmC_block] at hF
    split at hF
    rename_i f hf
    cases hF
    have ih := cm_ok hm hN hL hc NN b f hf
    intro tm T n hT h
    have hx : f c tm T n ≠ .bad := fun q => by simp only [q] at h; exact h rfl
    obtain ⟨x1, x2⟩ := ih tm T n hT hx
    cases hfo : f c tm T n with
    | bad => exact absurd hfo hx
    | norm tm1 T1 n1 =>
      simp only [hfo] at h x1 x2 ⊢
      refine ⟨x1, fun hB Z m a w hd hon Q hQ => wp_block (x2 hB hd hon _ fun ex tm2 T2 n2 ho => ?_)⟩
      cases ho
      exact hQ _ _ _ _ (.norm _ _ _)
    | ret tm1 T1 n1 =>
      simp only [hfo] at h x1 x2 ⊢
      refine ⟨x1, fun hB Z m a w hd hon Q hQ => wp_block (x2 hB hd hon _ fun ex tm2 T2 n2 ho => ?_)⟩
      cases ho
      exact hQ _ _ _ _ (.ret _ _ _)
    | exit id' tm1 T1 n1 =>
      simp only [hfo] at h x1 x2 ⊢
      have d1 := x1 _ _ _ _ (.exit _ _ _ _)
      cases hid : Nat.beq id' id with
      | true =>
        have he : id' = id := Nat.eq_of_beq_eq_true hid
        simp only [hid] at h ⊢
        refine ⟨fun ex tm2 T2 n2 ho => by cases ho; exact d1, fun hB Z m a w hd hon Q hQ => wp_block (x2 hB hd hon _ fun ex tm2 T2 n2 ho => ?_)⟩
        cases ho
        obtain ⟨q1, q2⟩ := hQ _ _ _ _ (.norm _ _ _)
        refine ⟨q1, fun m' a' w' hon' => ?_⟩
        simp only [Exit.inBlock, he, if_true]
        exact q2 m' a' w' hon'
      | false =>
        have he : ¬ id' = id := fun q => by rw [q, Nat.beq_refl] at hid; cases hid
        simp only [hid] at h ⊢
        refine ⟨fun ex tm2 T2 n2 ho => by cases ho; exact d1, fun hB Z m a w hd hon Q hQ => wp_block (x2 hB hd hon _ fun ex tm2 T2 n2 ho => ?_)⟩
        cases ho
        obtain ⟨q1, q2⟩ := hQ _ _ _ _ (.exit _ _ _ _)
        refine ⟨q1, fun m' a' w' hon' => ?_⟩
        simp only [Exit.inBlock, he, if_false]
        exact q2 m' a' w' hon'
  | .loop b, F, hF => by
    rw [cmC_loop] at hF
    split at hF
    rename_i f hf
    cases hF
    have ih := cm_ok hm hN hL hc NN b f hf
    -- so many rounds
    have key : ∀ (k : Nat) (tm : QT CV e) (T : HT) (n : Nat), TOk T n → loopN (fun tm T n => f c tm T n) k tm T n ≠ .bad → (∀ ex tm1 T1 n1, OutIs (loopN (fun tm T n => f c tm T n) k tm T n) ex tm1 T1 n1 → Did T n T1 n1) ∧
        ∀ {B : Bs}, BsOk B → ∀ {Z : Base} {m : Map} {a : Act} {w : World}, Did B.T B.n T n → On Z m ⟨tmL N L 0 st0 tm, B.at T n⟩ a w → ∀ Q : Exit → Act → World → Prop,
          (∀ ex tm1 T1 n1, OutIs (loopN (fun tm T n => f c tm T n) k tm T n) ex tm1 T1 n1 → n1 ≤ B.nF ∧ ∀ m' a' w', On Z m' ⟨tmL N L 0 st0 tm1, B.at T1 n1⟩ a' w' → Q ex a' w') → Code.rounds P b Q k a w := by
      intro k
      induction k with
      | zero => intro tm T n hT h; exact absurd rfl h
      | succ k ihk =>
        intro tm T n hT h
        rw [loopN_succ] at h ⊢
        have hx : f c tm T n ≠ .bad := fun q => by simp only [q] at h; exact h rfl
        obtain ⟨x1, x2⟩ := ih tm T n hT hx
        cases hfo : f c tm T n with
        | bad => exact absurd hfo hx
        | exit id tm1 T1 n1 =>
          simp only [hfo] at h x1 x2 ⊢
          refine ⟨x1, fun hB Z m a w hd hon Q hQ => x2 hB hd hon _ fun ex tm2 T2 n2 ho => ?_⟩
          cases ho
          exact hQ _ _ _ _ (.exit _ _ _ _)
        | ret tm1 T1 n1 =>
          simp only [hfo] at h x1 x2 ⊢
          refine ⟨x1, fun hB Z m a w hd hon Q hQ => x2 hB hd hon _ fun ex tm2 T2 n2 ho => ?_⟩
          cases ho
          exact hQ _ _ _ _ (.ret _ _ _)
        | norm tm1 T1 n1 =>
          simp only [hfo] at h x1 x2 ⊢
          have d1 := x1 _ _ _ _ (.norm _ _ _)
          obtain ⟨y1, y2⟩ := ihk tm1 T1 n1 (d1.ok hT) h
          refine ⟨fun ex tm2 T2 n2 ho => d1.trans (y1 _ _ _ _ ho), fun {B} hB Z m a w hd hon Q hQ => x2 hB hd hon _ fun ex tm2 T2 n2 ho => ?_⟩
          cases ho
          refine ⟨?_, fun m' a' w' hon' => y2 hB (hd.trans d1) hon' Q hQ⟩
          cases hgo : loopN (fun tm T n => f c tm T n) k tm1 T1 n1 with
          | bad => exact absurd hgo h
          | norm tm3 T3 n3 => rw [hgo] at y1 hQ; exact Nat.le_trans (y1 _ _ _ _ (.norm _ _ _)).le (hQ _ _ _ _ (.norm _ _ _)).1
          | exit id tm3 T3 n3 => rw [hgo] at y1 hQ; exact Nat.le_trans (y1 _ _ _ _ (.exit _ _ _ _)).le (hQ _ _ _ _ (.exit _ _ _ _)).1
          | ret tm3 T3 n3 => rw [hgo] at y1 hQ; exact Nat.le_trans (y1 _ _ _ _ (.ret _ _ _)).le (hQ _ _ _ _ (.ret _ _ _)).1
    intro tm T n hT h
    obtain ⟨k1, k2⟩ := key NN tm T n hT h
    exact ⟨k1, fun hB Z m a w hd hon Q hQ => wp_loop_rounds NN (k2 hB hd hon Q hQ)⟩
  | .rangeFunc .., F, hF => by cases hF; intro tm T n hT h; exact absurd rfl h
  | .scope _, F, hF => by cases hF; intro tm T n hT h; exact absurd rfl h
  | .goto _, F, hF => by cases hF; intro tm T n hT h; exact absurd rfl h
  | .refuse _, F, hF => by cases hF; intro tm T n hT h; exact absurd rfl h
end
end Go.Ab
