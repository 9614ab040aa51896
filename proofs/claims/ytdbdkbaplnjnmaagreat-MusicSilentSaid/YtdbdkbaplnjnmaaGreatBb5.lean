/- An evaluator for the model's code over typed, abstract blocks, with its soundness, part 5 of 5: laws of any program; their conditions stand in each. -/
import Derived.Test.YtdbdkbaplnjnmaaGreatBb4
import Derived.ProofKit
import Derived.OpenShut
import Derived.ShutString
import Derived.ChangeOld
import Derived.SizedLaws
set_option linter.unusedVariables false
set_option linter.unusedSimpArgs false
section
/- A function by a plain function: its calls. No condition. -/
namespace Go.Ab
open Go

theorem vB_mono {K H : Heap} (hs : SubH K H) {v : View} {r : Blk × Md} (h : vB K v = some r) : vB H v = some r := by
  cases v with
  | ph => cases h
  | full b => exact hs _ _ h
  | sub b off len =>
    simp only [vB] at h ⊢
    split at h
    · rename_i hg; simp only [hs _ _ hg]; exact h
    · cases h
  | el b i fo n =>
    simp only [vB] at h ⊢
    split at h
    · rename_i hg; simp only [hs _ _ hg]; exact h
    · cases h

theorem mB_le {K : Heap} {sb : SB} {md : Md} {v : View} {vs vs' : Vs} {ls : List Lf} (h : mB K sb md v vs = some (ls, vs')) : LeV vs vs' := by
  have key : mB1 K sb md v vs = some (ls, vs') → LeV vs vs' := by
    intro h
    unfold mB1 at h
    split at h
    · split at h
      · unfold mBk at h
        split at h
        · split at h
          · cases h; exact LeV.refl _
          · cases h
        · split at h
          · cases h; exact LeV.refl _
          · cases h
        · split at h
          · exact (mVL_spec _ _ _ _ _ h).le
          · cases h
        · cases h
      · cases h
    · cases h
  cases v with
  | ph =>
    have hmd : md ≠ .own := by rintro rfl; cases h
    have h : mPh sb vs = some (ls, vs') := by cases md <;> first | exact h | exact absurd rfl hmd
    simp only [mPh] at h
    split at h
    · cases h; exact LeV.refl _
    · split at h
      · cases h; exact LeV.refl _
      · cases h
    · split at h
      · cases h; exact LeV.refl _
      · cases h
    · cases h
  | full b => exact key h
  | sub b off len => exact key h
  | el b i fo n => exact key h

theorem mB_mono {K H : Heap} (hs : SubH K H) {sb : SB} {md : Md} {v : View} {vs : Vs} {r : List Lf × Vs} (h : mB K sb md v vs = some r) : mB H sb md v vs = some r := by
  have key : mB1 K sb md v vs = some r → mB1 H sb md v vs = some r := by
    intro h
    unfold mB1 at h ⊢
    split at h
    · rename_i hb; simp only [vB_mono hs hb]; exact h
    · cases h
  cases v with
  | ph => exact h
  | full b => exact key h
  | sub b off len => exact key h
  | el b i fo n => exact key h

theorem mH_mono {K H : Heap} (hs : SubH K H) : ∀ (bs : List (SB × Md)) (j : Nat) (vs : Vs) (r : List Lf × Vs), mH K bs j vs = some r → mH H bs j vs = some r
  | [], _, _, _, h => h
  | (sb, md) :: bs, j, vs, r, h => by
    have live : (match vat vs j with
        | some v => match mB K sb md v vs with
          | some (l1, vs1) => match mH K bs (j + 1) vs1 with
            | some (l2, vs2) => some (l1 ++ l2, vs2)
            | none => none
          | none => none
        | none => none) = some r → (match vat vs j with
        | some v => match mB H sb md v vs with
          | some (l1, vs1) => match mH H bs (j + 1) vs1 with
            | some (l2, vs2) => some (l1 ++ l2, vs2)
            | none => none
          | none => none
        | none => none) = some r := by
      intro h
      cases hv : vat vs j with
      | none => rw [hv] at h; cases h
      | some v =>
        rw [hv] at h
        simp only at h ⊢
        cases hb : mB K sb md v vs with
        | none => rw [hb] at h; cases h
        | some p =>
          obtain ⟨l1, vs1⟩ := p
          rw [hb] at h
          rw [mB_mono hs hb]
          simp only at h ⊢
          cases hm : mH K bs (j + 1) vs1 with
          | none => rw [hm] at h; cases h
          | some p =>
            rw [hm] at h
            rw [mH_mono hs bs (j + 1) vs1 p hm]
            exact h
    cases sb with
    | hole => exact mH_mono hs bs (j + 1) vs r h
    | dead => exact mH_mono hs bs (j + 1) vs r h
    | ints k => exact live h
    | recs k => exact live h
    | vals n l => exact live h

theorem backOne_mono {K H : Heap} (hs : SubH K H) {vs : Vs} {f : Nat → Bool} {nL q : Nat} {v : Option View} {e : Ent} {r : Option (Nat × Ent)} (h : backOne K vs f nL q v e = some r) : backOne H vs f nL q v e = some r := by
  unfold backOne at h ⊢
  split at h
  · cases h
  · exact h
  · split at h
    · exact h
    · split at h
      · rename_i hg; simp only [hs _ _ hg]; exact h
      · cases h
    · cases h
  · split at h
    · split at h
      · rename_i hg; simp only [hs _ _ hg]; exact h
      · cases h
    · cases h
  · split at h
    · split at h
      · rename_i hg; simp only [hs _ _ hg]; exact h
      · cases h
    · cases h

theorem backD_mono {K H : Heap} (hs : SubH K H) {vs : Vs} {f : Nat → Bool} {nL q : Nat} : ∀ (bs : List (SB × Md)) (L : Heap) (j : Nat) (D : Delta), backD K vs f nL q bs L j = some D → backD H vs f nL q bs L j = some D
  | [], [], _, _, h => h
  | [], e :: L, j, D, h => by
    simp only [backD] at h ⊢
    split at h
    · obtain ⟨D', h1, rfl⟩ := consO_some h
      rw [backD_mono hs [] L (j + 1) D' h1]; rfl
    · obtain ⟨D', h1, rfl⟩ := consO_some h
      rw [backD_mono hs [] L (j + 1) D' h1]; rfl
    · cases h
  | _ :: _, [], _, _, h => by simp [backD] at h
  | (sb, md) :: bs, e :: L, j, D, h => by
    have main : (match backOne K vs f nL q (vat vs j) e with
        | some (some x) => consO x (backD K vs f nL q bs L (j + 1))
        | some none => backD K vs f nL q bs L (j + 1)
        | none => none) = some D → (match backOne H vs f nL q (vat vs j) e with
        | some (some x) => consO x (backD H vs f nL q bs L (j + 1))
        | some none => backD H vs f nL q bs L (j + 1)
        | none => none) = some D := by
      intro h
      cases hb : backOne K vs f nL q (vat vs j) e with
      | none => rw [hb] at h; cases h
      | some o =>
        rw [hb] at h
        rw [backOne_mono hs hb]
        cases o with
        | none => exact backD_mono hs bs L (j + 1) D h
        | some x =>
          obtain ⟨D', h1, rfl⟩ := consO_some h
          simp only
          rw [backD_mono hs bs L (j + 1) D' h1]; rfl
    have roCase : (match isLive e with | true => backD K vs f nL q bs L (j + 1) | false => none) = some D → (match isLive e with | true => backD H vs f nL q bs L (j + 1) | false => none) = some D := by
      intro h
      cases he : isLive e with
      | false => rw [he] at h; cases h
      | true => rw [he] at h; exact backD_mono hs bs L (j + 1) D h
    cases sb with
    | hole => exact backD_mono hs bs L (j + 1) D h
    | dead => exact backD_mono hs bs L (j + 1) D h
    | ints k => cases md with
      | ro => exact roCase h
      | rw => exact main h
      | own => exact main h
    | recs k => cases md with
      | ro => exact roCase h
      | rw => exact main h
      | own => exact main h
    | vals n l => cases md with
      | ro => exact roCase h
      | rw => exact main h
      | own => exact main h

def allLive : List (SB × Md) → Bool
  | [] => true
  | (.hole, _) :: _ => false
  | (.dead, _) :: _ => false
  | _ :: r => allLive r

theorem allLive_spec : ∀ (bs : List (SB × Md)), allLive bs = true → ∀ (j : Nat) (sb : SB) (md : Md), bs[j]? = some (sb, md) → sb ≠ .hole ∧ sb ≠ .dead
  | [], _, j, sb, md, h => by simp at h
  | (sb0, md0) :: r, ha, j, sb, md, h => by
    cases j with
    | zero => simp at h; obtain ⟨rfl, rfl⟩ := h; cases sb0 <;> simp [allLive] at ha ⊢
    | succ j => exact allLive_spec r (by cases sb0 <;> simp [allLive] at ha <;> exact ha) j sb md (by simpa using h)

/-- a part that may be appended to is not handed over -/
def subOk : List (SB × Md) → Nat → Vs → Bool
  | [], _, _ => true
  | (_, md) :: r, j, vs => (match isOwn md with | false => true | true => match vat vs j with | some (.sub _ _ _) => false | _ => true) && subOk r (j + 1) vs

theorem subOk_spec : ∀ (bs : List (SB × Md)) (j0 : Nat) (vs : Vs), subOk bs j0 vs = true → ∀ (j b off len : Nat), vat vs (j0 + j) = some (.sub b off len) → ∀ sb, bs[j]? ≠ some (sb, .own)
  | [], _, _, _, j, b, off, len, _, sb => by simp
  | (sb0, md0) :: r, j0, vs, h, j, b, off, len, hv, sb => by
    simp only [subOk, Bool.and_eq_true] at h
    cases j with
    | zero =>
      intro e
      simp at e
      obtain ⟨rfl, rfl⟩ := e
      rw [Nat.add_zero] at hv
      have := h.1
      simp only [isOwn, hv] at this
      cases this
    | succ j =>
      have := subOk_spec r (j0 + 1) vs h.2 j b off len (by rw [← hv]; congr 1; omega) sb
      simpa using this

/-- no places yet -/
def noV : List (SB × Md) → Vs
  | [] => []
  | _ :: r => none :: noV r

theorem noV_length : ∀ bs : List (SB × Md), (noV bs).length = bs.length
  | [] => rfl
  | _ :: r => by simp [noV, noV_length r]

theorem noV_at : ∀ (bs : List (SB × Md)) (j : Nat), vat (noV bs) j = none
  | [], _ => rfl
  | _ :: r, j => by cases j with
    | zero => rfl
    | succ j => exact noV_at r j

/-- the contract of a function: its arguments' pattern, its places' pattern; the plain function; what it answers and leaves -/
def callF {X O : Type} (ps : List SV) (bs : List (SB × Md)) (g : List Lf → Option O) (outK : O → (AV → Heap → Option X) → Option X) (args : List AV) (K : Heap) (q : Nat) (k : AV → Delta → Option X) : Option X :=
  match mVL ps args (noV bs) with
  | some (l1, vs1) => match mH K bs 0 vs1 with
    | some (l2, vs2) => match apartOk (idsOf bs 0 vs2) && (holesOk bs 0 vs2 && (allLive bs && subOk bs 0 vs2)) with
      | true => (g (l1 ++ l2)).bind fun o => outK o fun v L => match backD K vs2 (slOk K vs2 bs) bs.length q bs L 0 with
        | some D => k (gV vs2 (slOk K vs2 bs) bs.length q v) D
        | none => none
      | false => none
    | none => none
  | none => none

/-- where its body begins -/
def fiA (nt : Nat) (ps : List SV) (bs : List (SB × Md)) (d : List Lf) : St :=
  match fVL ps d with
  | (ys, d) => ⟨ys ++ List.replicate (nt - ys.length) .undef, (fH bs d).1⟩

/-- a contract that tells the truth -/
def CallOk (P : Program) (f : FuncId) (J : ∀ X : Type, List AV → Heap → Nat → (AV → Delta → Option X) → Option X) : Prop :=
  ∀ (X : Type) args K q k (r : X), J X args K q k = some r → ∃ v D, k v D = some r ∧ CallStep P f args K q v D

/-- what is left says no more than what is there -/
def GenR (n0 : Nat) (x : AV) (L : Heap) (y : AV) (L' : Heap) : Prop := Gen n0 ⟨[x], L⟩ ⟨[y], L'⟩

theorem tget_app (ys : List AV) (n t : Nat) : tget (ys ++ List.replicate n .undef) t = if t < ys.length then tget ys t else .undef := by
  simp only [tget_eq, List.getD_eq_getElem?_getD]
  by_cases h : t < ys.length
  · rw [if_pos h, List.getElem?_append_left h]
  · rw [if_neg h, List.getElem?_append_right (by omega), List.getElem?_replicate]
    split <;> rfl

theorem func_ok {O : Type} {c : Ctx O} (hc : CtxOk c) (hm : c.P.follows .mixedOrders = true) {f : FuncId} {fn : Func} {body : Code} (hf : c.P.funcs[f]? = some fn) (hbody : fn.body = some body) (hname : (fn.name == "runtime.NumGoroutine") = false)
    {ps : List SV} {bs : List (SB × Md)} (hfit : ∀ p ∈ fitsL c body, CodeOk c.P bs.length p.1 p.2) {g : List Lf → Option O} {out : O → AV × Heap} {outK : ∀ X : Type, O → (AV → Heap → Option X) → Option X} (hout : ∀ X o k, outK X o k = k (out o).1 (out o).2) {fin : St → Option O} (hnt : ps.length ≤ fn.ntmps)
    (hfin : ∀ s o, fin s = some o → ∃ x, resS c.P fn.results.toList s = some x ∧ GenR bs.length x s.heap (out o).1 (out o).2)
    (hg : ∀ d, evC c body (fun e s => match e with | .normal => fin s | .ret => fin s | _ => none) (fiA fn.ntmps ps bs d) = g d) :
    CallOk c.P f (fun X => callF ps bs g (outK X)) := by
  intro X args K q k r h
  simp only [callF] at h
  split at h
  · rename_i l1 vs1 h1
    split at h
    · rename_i l2 vs2 h2
      split at h
      · rename_i hck
        simp only [Option.bind_eq_some_iff] at h
        obtain ⟨o, hgo, h⟩ := h
        rw [hout] at h
        split at h
        · rename_i D hD
          refine ⟨_, D, h, ⟨fn, hf, by rw [hbody]; rfl, hname⟩, ?_⟩
          intro m H w args' hsub hfresh hsim hlen hargs
          simp only [Bool.and_eq_true] at hck
          obtain ⟨ha, hh, hal, hso⟩ := hck
          obtain ⟨a1, ⟨ys, b1, c1, d1⟩, e1⟩ := mVL_spec _ _ _ _ _ h1
          have hV1 : ∀ i u, vat vs1 i = some u → VOk m H u := by
            intro i u hi
            rcases e1 m H (fun j x hx => by
              have hj : j < args'.size := by rw [← hlen]; exact (List.getElem?_eq_some_iff.1 hx).1
              exact ⟨args'[j], hargs j x _ hx (by simp [hj])⟩) i u hi with p | p
            · rw [noV_at] at p; cases p
            · exact p
          obtain ⟨a2, b2, L, c2, d2, e2⟩ := mH_spec hsim bs 0 vs1 vs2 l2 hV1 (mH_mono hsub _ _ _ _ h2)
          have hvl : vs2.length = bs.length := by rw [a2.1, a1.1, noV_length]
          have hE : ∀ i sb md, bs[i]? = some (sb, md) → EntOk m H vs2 i sb md (hat L i) := fun i sb md hi => by have := e2 i sb md hi; rwa [Nat.zero_add] at this
          have hsm := small_of hsim hvl d2 hE ha hh
          have hlive := allLive_spec bs hal
          have hent : ∀ (j : Nat) (sb : SB) (md : Md), bs[j]? = some (sb, md) → ∃ lb v, hat L j = .live lb md ∧ vat vs2 j = some v ∧ Seen m H (vat vs2) lb md v := by
            intro j sb md hj
            have := hE j sb md hj
            obtain ⟨n1, n2⟩ := hlive j sb md hj
            cases sb with
            | hole => exact absurd rfl n1
            | dead => exact absurd rfl n2
            | ints k => exact this
            | recs k => exact this
            | vals n l => exact this
          -- where it begins
          have hfi : fiA fn.ntmps ps bs (l1 ++ l2) = ⟨ys ++ List.replicate (fn.ntmps - ys.length) .undef, L⟩ := by
            unfold fiA
            rw [b1]
            simp only
            have := c2 []
            rw [List.append_nil] at this
            rw [this]
          have hev := hg (l1 ++ l2)
          rw [hgo, hfi] at hev
          have hsl := hsm.sim hsim
          have hon : On ⟨mlOf m H vs2 bs, L, w, []⟩ (mlOf m H vs2 bs) ⟨ys ++ List.replicate (fn.ntmps - ys.length) .undef, L⟩ { tmps := args' ++ Array.replicate (fn.ntmps - args'.size) Go.undef, defers := [] } w := by
            refine ⟨⟨hsl, ⟨by simp; omega, fun t => ?_⟩⟩, Tr.refl _ _ _, rfl⟩
            rw [tget_app]
            by_cases ht : t < ys.length
            · rw [if_pos ht]
              have ht1 : t < args.length := by omega
              have ht2 : t < args'.size := by omega
              have e : (args' ++ Array.replicate (fn.ntmps - args'.size) Go.undef).getD t Go.undef = args'[t] := by
                simp [Array.getD_eq_getD_getElem?, Array.getElem?_append_left ht2, ht2]
              rw [e, tget_eq]
              have hl := d1 t args[t] (ys.getD t .undef) (by simp [ht1]) (by simp [List.getD_eq_getElem?_getD, ht])
              exact (hl.mono a2.2).vr hsim hsm _ (hargs t _ _ (by simp [ht1]) (by simp [ht2]))
            · rw [if_neg ht]; exact .undef _
          refine calls_of_wp hf hbody (evC_ok hc hm body hfit _ _ _ hev _ _ _ _ (by simp [d2]) hon _ fun e s' m' a' w' hk hon' => ?_)
          have fine : fin s' = some o → a'.defers = [] ∧ ∃ v, (results fn a'.tmps).run c.P w' = .ok v w' ∧ ∃ v' m', Ending.returned v = .returned v' ∧ Sim m' (hput H D) w' ∧ VR m' (hput H D) (gV vs2 (slOk K vs2 bs) bs.length q (out o).1) v' ∧ Tr m H w m' (hput H D) w' := by
            intro hk
            obtain ⟨x, hx, hgen⟩ := hfin s' o hk
            obtain ⟨v, g1, g2⟩ := resS_sound hon'.at_ hx
            refine ⟨hon'.defers, v, g2, v, ?_⟩
            obtain ⟨m'', hon2⟩ := hgen _ m' { tmps := #[v], defers := [] } w' (by simp [d2]) ⟨⟨hon'.at_.sim, ⟨by simp, fun t => by
              cases t with
              | zero => simpa [tget] using g1
              | succ t => simp only [tget]; exact .undef _⟩⟩, hon'.tr, rfl⟩
            have hslo : slOk K vs2 bs = slOk H vs2 bs := by
              funext j
              unfold slOk
              cases hv : vat vs2 j with
              | none => rfl
              | some v =>
                cases hb : bs[j]? with
                | none => rfl
                | some p =>
                  obtain ⟨sb, md⟩ := p
                  simp only
                  cases hid : vId v with
                  | none => rfl
                  | some b =>
                    simp only
                    have hkb : ∃ z, hget K b = some z := by
                      have hjj : vat vs2 (0 + j) = some v := by rw [Nat.zero_add]; exact hv
                      exact (show ∀ (bs' : List (SB × Md)) (i : Nat) (vs vs' : Vs) (ls : List Lf), mH K bs' i vs = some (ls, vs') → (∀ (j : Nat) sb md, bs'[j]? = some (sb, md) → sb ≠ .hole ∧ sb ≠ .dead) → ∀ (j : Nat) sb md v b, bs'[j]? = some (sb, md) → vat vs' (i + j) = some v → vId v = some b → ∃ z, hget K b = some z by
                        intro bs'
                        induction bs' with
                        | nil => intro i vs vs' ls _ _ j sb md v b hj; simp at hj
                        | cons p bs' ih =>
                          intro i vs vs' ls hm hlv j sb md v b hj hv hb
                          obtain ⟨sb0, md0⟩ := p
                          obtain ⟨n1, n2⟩ := hlv 0 sb0 md0 rfl
                          have hm' : (match vat vs i with
                            | some v => match mB K sb0 md0 v vs with
                              | some (l1, vs1) => match mH K bs' (i + 1) vs1 with
                                | some (l2, vs2) => some (l1 ++ l2, vs2)
                                | none => none
                              | none => none
                            | none => none) = some (ls, vs') := by
                            cases sb0 with
                            | hole => exact absurd rfl n1
                            | dead => exact absurd rfl n2
                            | ints k => exact hm
                            | recs k => exact hm
                            | vals n l => exact hm
                          split at hm'
                          · rename_i v0 hv0
                            split at hm'
                            · rename_i l1' vs1' hb1
                              split at hm'
                              · rename_i l2' vs2' hm2
                                cases hm'
                                cases j with
                                | zero =>
                                  -- the view at i stays
                                  have hle : ∀ (bs' : List (SB × Md)) (i : Nat) (vs vs' : Vs) (ls : List Lf), mH K bs' i vs = some (ls, vs') → LeV vs vs' := by
                                    intro bs'
                                    induction bs' with
                                    | nil => intro i vs vs' ls h; simp only [mH] at h; cases h; exact LeV.refl _
                                    | cons p bs' ih =>
                                      intro i vs vs' ls h
                                      obtain ⟨sb, md⟩ := p
                                      have live : (match vat vs i with
                                        | some v => match mB K sb md v vs with
                                          | some (l1, vs1) => match mH K bs' (i + 1) vs1 with
                                            | some (l2, vs2) => some (l1 ++ l2, vs2)
                                            | none => none
                                          | none => none
                                        | none => none) = some (ls, vs') → LeV vs vs' := by
                                        intro h
                                        split at h
                                        · rename_i v hv
                                          split at h
                                          · rename_i l1 vs1 hb
                                            split at h
                                            · rename_i l2 vs2 hm
                                              cases h
                                              exact (mB_le hb).trans (ih _ _ _ _ hm)
                                            · cases h
                                          · cases h
                                        · cases h
                                      cases sb with
                                      | hole => exact ih _ _ _ _ h
                                      | dead => exact ih _ _ _ _ h
                                      | ints k => exact live h
                                      | recs k => exact live h
                                      | vals n l => exact live h
                                  have h3 := ((mB_le hb1).trans (hle _ _ _ _ _ hm2)).2 _ _ hv0
                                  rw [Nat.add_zero, h3] at hv
                                  injection hv with hv
                                  subst hv
                                  have : ∃ p, vB K v0 = some p := by
                                    have hne : v0 ≠ .ph := by rintro rfl; cases hb
                                    have h1' : mB1 K sb0 md0 v0 vs = some (l1', vs1') := by
                                      cases v0 with
                                      | ph => exact absurd rfl hne
                                      | full b => exact hb1
                                      | sub b off len => exact hb1
                                      | el b i fo n => exact hb1
                                    unfold mB1 at h1'
                                    split at h1'
                                    · rename_i hq; exact ⟨_, hq⟩
                                    · cases h1'
                                  obtain ⟨⟨gb, md9⟩, hp⟩ := this
                                  obtain ⟨b', bk, i1, i2⟩ := vB_id hp
                                  rw [hb] at i1
                                  cases i1
                                  exact ⟨_, i2⟩
                                | succ j =>
                                  refine ih (i + 1) _ _ _ hm2 (fun j sb md hj => hlv (j + 1) sb md (by simpa using hj)) j sb md v b (by simpa using hj) (by rw [show i + 1 + j = i + (j + 1) by omega]; exact hv) hb
                              · cases hm'
                            · cases hm'
                          · cases hm') bs 0 vs1 vs2 l2 h2 hlive j sb md v b hb hjj hid
                    obtain ⟨z, hz⟩ := hkb
                    rw [hz, hsub _ _ hz]
            have hD' := backD_mono hsub _ _ _ _ hD
            rw [hslo] at hD' ⊢
            have hret : Ret m (mlOf m H vs2 bs) m'' H L (out o).2 w w' vs2 q bs D := {
              hs := hsim, sm := hsm, len := d2, vlen := hvl, live := hlive, ent := hent, hs' := hon2.at_.sim, tr := hon2.tr
              back := backD_spec bs (out o).2 0 D (fun i => by rw [Nat.zero_add]) (fun i => by rw [Nat.zero_add]) (by omega) (.inl (Nat.zero_le _)) hD'
              fresh := hfresh
              nosub := fun j b off len hv sb => subOk_spec bs 0 vs2 hso j b off len (by rw [Nat.zero_add]; exact hv) sb }
            refine ⟨_, rfl, hret.sim, hret.vr ?_, hret.trans⟩
            have := hon2.at_.tr.at_ 0
            simpa [tget] using this
          cases e with
          | normal => exact fine hk
          | ret => exact fine hk
          | exit i => cases hk
          | goto i => cases hk
          | panic i => cases hk
          | outgrown => cases hk
        · cases h
      · cases h
    · cases h
  · cases h

end Go.Ab
end

section
/- What a printed text says of a loop, a piece of code, a function: in a few lines. No condition. -/
namespace Go.Ab
open Go

abbrev FC := ∀ X : Type, List AV → Heap → Nat → (AV → Delta → Option X) → Option X

/-- a row of the table of functions that are called: its number; for what arguments; its contract -/
structure Row where
  f : FuncId
  ps : List SV
  bs : List (SB × Md)
  J : FC

def fitsA (ps : List SV) (bs : List (SB × Md)) (args : List AV) (K : Heap) : Bool :=
  match mVL ps args (noV bs) with
  | some (_, vs) => match mH K bs 0 vs with
    | some _ => true
    | none => false
  | none => false

def tabCall (X : Type) : List Row → FuncId → List AV → Heap → Nat → (AV → Delta → Option X) → Option X
  | [], _, _, _, _, _ => none
  | r :: T, f, args, K, q, k => match Nat.beq r.f f && fitsA r.ps r.bs args K with
    | true => r.J X args K q k
    | false => tabCall X T f args K q k

def tabBlk (X : Type) : List (Nat × (∀ X : Type, Contract X)) → Nat → Option (Contract X)
  | [], _ => none
  | (i, J) :: T, id => match Nat.beq i id with
    | true => some (J X)
    | false => tabBlk X T id

def mkCtx (P : Program) (T : List Row) (B C : List (Nat × (∀ X : Type, Contract X))) (X : Type) : Ctx X :=
  { P := P, call := tabCall X T, blk := tabBlk X B, cut := tabBlk X C }

def RowsOk (P : Program) (T : List Row) : Prop := ∀ r ∈ T, CallOk P r.f r.J

theorem ctx_ok {P : Program} {T : List Row} (h : RowsOk P T) (B C : List (Nat × (∀ X : Type, Contract X))) (X : Type) : CtxOk (mkCtx P T B C X) := by
  intro f args K q k r hr0
  have key : ∀ T, RowsOk P T → tabCall X T f args K q k = some r → ∃ v D, k v D = some r ∧ CallStep P f args K q v D := by
    intro T
    induction T with
    | nil => intro _ h; cases h
    | cons x T ih =>
      intro h hr
      simp only [tabCall] at hr
      split at hr
      · rename_i e
        simp only [Bool.and_eq_true] at e
        have e1 : x.f = f := by simpa using e.1
        subst e1
        exact h x List.mem_cons_self X args K q k r hr
      · exact ih (fun y hy => h y (List.mem_cons_of_mem _ hy)) hr
  exact key T h hr0

theorem rows_nil (P : Program) : RowsOk P [] := fun _ h => by cases h
theorem rows_cons {P : Program} {r : Row} {T : List Row} (h : CallOk P r.f r.J) (t : RowsOk P T) : RowsOk P (r :: T) := fun x hx => by
  rcases List.mem_cons.1 hx with rfl | hx
  · exact h
  · exact t x hx

def findB (id : Nat) : Code → Option Code
  | .seq a b => match findB id a with | some c => some c | none => findB id b
  | .cond _ a b => match findB id a with | some c => some c | none => findB id b
  | .block i b => match Nat.beq i id with | true => some b | false => findB id b
  | .loop b => findB id b
  | .scope b => findB id b
  | _ => none
/-- the body of the loop in the block id -/
def loopB (id : Nat) (c : Code) : Code := match findB id c with | some (.loop b) => b | _ => .skip
def bodyOf (fn : Func) : Code := match fn.body with | some c => c | none => .skip
/-- what follows where the code with head id begins -/
def findC (id : Nat) : Code → Option Code
  | .seq a b => match headId b with
    | some i => (match Nat.beq i id with | true => some b | false => match findC id a with | some c => some c | none => findC id b)
    | none => match findC id a with | some c => some c | none => findC id b
  | .cond _ a b => match findC id a with | some c => some c | none => findC id b
  | .block _ b => findC id b
  | .loop b => findC id b
  | .scope b => findC id b
  | _ => none
def cutB (id : Nat) (c : Code) : Code := match findC id c with | some b => b | none => .skip

def pt {I : Type} (sk : Sk) (cv : List Lf → Option I) (s : St) : Option I := (rdS sk s).bind cv

theorem pt_gen {I : Type} {sk : Sk} {cv : List Lf → Option I} {un : I → List Lf} (h : ∀ ls d, cv ls = some d → ls = un d) (s : St) (d : I) (hd : pt sk cv s = some d) : Gen sk.n0 s (fiS sk (un d)) := by
  unfold pt at hd
  simp only [Option.bind_eq_some_iff] at hd
  obtain ⟨ls, h1, h2⟩ := hd
  rw [← h ls d h2]
  exact rdS_gen h1

def tagIs (t : Nat) : Exit → Bool
  | .normal => Nat.beq t 0
  | .ret => Nat.beq t 1
  | .exit i => Nat.beq t (i + 2)
  | _ => false

def koE {O : Type} : List (Nat × Sk × (List Lf → Option O)) → Exit → St → Option O
  | [], _, _ => none
  | (t, sk, cv) :: r, e, s => match tagIs t e with
    | true => pt sk cv s
    | false => koE r e s

def exOf : Nat → Exit
  | 0 => .normal
  | 1 => .ret
  | i + 2 => .exit i

theorem tagIs_spec {t : Nat} {e : Exit} (h : tagIs t e = true) : e = exOf t := by
  cases e <;> simp [tagIs] at h <;> subst h <;> rfl

/-- the exits of a piece of code and what they answer -/
def ExOk {O : Type} (n0 : Nat) (exits : List (Nat × Sk × (List Lf → Option O))) (ex : O → Nat × Sk × List Lf) : Prop :=
  ∀ e ∈ exits, e.2.1.n0 = n0 ∧ ∀ ls o, e.2.2 ls = some o → ex o = (e.1, e.2.1, ls)

theorem exOk_nil {O : Type} {n0 : Nat} {ex : O → Nat × Sk × List Lf} : ExOk n0 [] ex := fun _ h => by cases h
theorem exOk_cons {O : Type} {n0 : Nat} {ex : O → Nat × Sk × List Lf} {t : Nat} {sk : Sk} {cv : List Lf → Option O} {r : List (Nat × Sk × (List Lf → Option O))} (h0 : sk.n0 = n0) (h : ∀ ls o, cv ls = some o → ex o = (t, sk, ls)) (k : ExOk n0 r ex) : ExOk n0 ((t, sk, cv) :: r) ex := fun e he => by
  rcases List.mem_cons.1 he with rfl | he
  · exact ⟨h0, h⟩
  · exact k e he

theorem koE_spec {O : Type} {n0 : Nat} {ex : O → Nat × Sk × List Lf} : ∀ (exits : List (Nat × Sk × (List Lf → Option O))), ExOk n0 exits ex → ∀ e s o, koE exits e s = some o → e = exOf (ex o).1 ∧ Gen n0 s (fiS (ex o).2.1 (ex o).2.2)
  | [], _, e, s, o, h => by cases h
  | (t, sk, cv) :: r, hE, e, s, o, h => by
    simp only [koE] at h
    split at h
    · rename_i ht
      obtain ⟨h0, h1⟩ := hE (t, sk, cv) List.mem_cons_self
      simp only at h0 h1
      unfold pt at h
      simp only [Option.bind_eq_some_iff] at h
      obtain ⟨ls, k1, k2⟩ := h
      rw [h1 ls o k2]
      have := rdS_gen k1
      rw [h0] at this
      exact ⟨tagIs_spec ht, this⟩
    · exact koE_spec r (fun e he => hE e (List.mem_cons_of_mem _ he)) e s o h

def backK {O : Type} (b : St → Option O) (exits : List (Nat × Sk × (List Lf → Option O))) : Exit → St → Option O
  | .normal, s => b s
  | e, s => koE exits e s

/-- round by round -/
def itN {I O : Type} (F : (I → Option O) → I → Option O) : Nat → I → Option O
  | 0, _ => none
  | n + 1, d => F (itN F n) d

theorem loop_mk {O I : Type} {c : ∀ X, Ctx X} (hc : ∀ X, CtxOk (c X)) {P : Program} (hP : (c O).P = P) (hm : P.follows .mixedOrders = true) {n0 id : Nat} {body : Code} (hfit : ∀ p ∈ fitsL (c O) body, CodeOk P n0 p.1 p.2)
    {sk : Sk} (hn0 : sk.n0 = n0) {cv : List Lf → Option I} {un : I → List Lf} (hcv : ∀ ls d, cv ls = some d → ls = un d) {l : Nat → I → Option O} {exits : List (Nat × Sk × (List Lf → Option O))} {ex : O → Nat × Sk × List Lf} (hex : ExOk n0 exits ex)
    (h0 : ∀ d, l 0 d = none) (hl : ∀ n d, evC (c O) body (backK (fun s => (pt sk cv s).bind (l n)) exits) (fiS sk (un d)) = l (n + 1) d)
    {exK : ∀ X : Type, O → (Exit → St → Option X) → Option X} (hK : ∀ X o k, exK X o k = k (leaveB id (exOf (ex o).1)) (fiS (ex o).2.1 (ex o).2.2)) (n : Nat) (X : Type) :
    CodeOk P n0 (.block id (.loop body)) (fun k s => (pt sk cv s).bind fun d => (l n d).bind fun o => exK X o k) := by
  subst hP hn0
  simp only [hK]
  exact loop_ok (hc O) hm hfit (pt_gen hcv) (ko := koE exits) (ex := fun o => (leaveB id (exOf (ex o).1), fiS (ex o).2.1 (ex o).2.2))
    (fun e s o h => by obtain ⟨h1, h2⟩ := koE_spec exits hex e s o h; subst h1; exact ⟨rfl, h2⟩) h0 (fun n d => by
      rw [← hl n d]
      congr 1
      funext e s
      cases e <;> rfl) n

theorem piece_mk {O I : Type} {c : ∀ X, Ctx X} (hc : ∀ X, CtxOk (c X)) {P : Program} (hP : (c O).P = P) (hm : P.follows .mixedOrders = true) {n0 : Nat} {body : Code} (hfit : ∀ p ∈ fitsL (c O) body, CodeOk P n0 p.1 p.2)
    {sk : Sk} (hn0 : sk.n0 = n0) {cv : List Lf → Option I} {un : I → List Lf} (hcv : ∀ ls d, cv ls = some d → ls = un d) {g : I → Option O} {exits : List (Nat × Sk × (List Lf → Option O))} {ex : O → Nat × Sk × List Lf} (hex : ExOk n0 exits ex)
    (hg : ∀ d, evC (c O) body (koE exits) (fiS sk (un d)) = g d)
    {exK : ∀ X : Type, O → (Exit → St → Option X) → Option X} (hK : ∀ X o k, exK X o k = k (exOf (ex o).1) (fiS (ex o).2.1 (ex o).2.2)) (X : Type) :
    CodeOk P n0 body (fun k s => (pt sk cv s).bind fun d => (g d).bind fun o => exK X o k) := by
  subst hP hn0
  simp only [hK]
  exact piece_ok (hc O) hm hfit (pt_gen hcv) (ko := koE exits) (ex := fun o => (exOf (ex o).1, fiS (ex o).2.1 (ex o).2.2)) (koE_spec exits hex) hg

/-- what a function answers: the first pattern that fits -/
def finE {O : Type} (P : Program) (rs : List ResultVar) : List (Sk × (List Lf → Option O)) → St → Option O
  | [], _ => none
  | (sk, cv) :: r, s => match resS P rs s with
    | some x => match rdS sk ⟨[x], s.heap⟩ with
      | some ls => cv ls
      | none => finE P rs r s
    | none => none

def funcK {O : Type} (P : Program) (rs : List ResultVar) (fins : List (Sk × (List Lf → Option O))) : Exit → St → Option O
  | .normal, s => finE P rs fins s
  | .ret, s => finE P rs fins s
  | _, _ => none

def FinOk {O : Type} (n0 : Nat) (fins : List (Sk × (List Lf → Option O))) (fx : O → Sk × List Lf) : Prop :=
  ∀ e ∈ fins, e.1.n0 = n0 ∧ e.1.nt = 1 ∧ ∀ ls o, e.2 ls = some o → fx o = (e.1, ls)

theorem finOk_nil {O : Type} {n0 : Nat} {fx : O → Sk × List Lf} : FinOk n0 [] fx := fun _ h => by cases h
theorem finOk_cons {O : Type} {n0 : Nat} {fx : O → Sk × List Lf} {sk : Sk} {cv : List Lf → Option O} {r : List (Sk × (List Lf → Option O))} (h0 : sk.n0 = n0) (h1 : sk.nt = 1) (h : ∀ ls o, cv ls = some o → fx o = (sk, ls)) (k : FinOk n0 r fx) : FinOk n0 ((sk, cv) :: r) fx := fun e he => by
  rcases List.mem_cons.1 he with rfl | he
  · exact ⟨h0, h1, h⟩
  · exact k e he

theorem one_tmp {l : List AV} (h : l.length = 1) : l = [tget l 0] := by
  match l, h with
  | [x], _ => rfl

theorem finE_spec {O : Type} {P : Program} {rs : List ResultVar} {n0 : Nat} {fx : O → Sk × List Lf} : ∀ (fins : List (Sk × (List Lf → Option O))), FinOk n0 fins fx → ∀ s o, finE P rs fins s = some o →
    ∃ x, resS P rs s = some x ∧ GenR n0 x s.heap (tget (fiS (fx o).1 (fx o).2).tmps 0) (fiS (fx o).1 (fx o).2).heap
  | [], _, s, o, h => by cases h
  | (sk, cv) :: r, hE, s, o, h => by
    simp only [finE] at h
    split at h
    · rename_i x hx
      split at h
      · rename_i ls hls
        obtain ⟨h0, h1, h2⟩ := hE (sk, cv) List.mem_cons_self
        simp only at h0 h1 h2
        refine ⟨x, hx, ?_⟩
        rw [h2 ls o h]
        have hg := rdS_gen hls
        rw [h0] at hg
        unfold GenR
        have hlen : (fiS sk ls).tmps.length = 1 := by
          unfold fiS
          simp only [putAll_length, List.length_replicate]
          exact h1
        have : (⟨[tget (fiS sk ls).tmps 0], (fiS sk ls).heap⟩ : St) = fiS sk ls := by rw [← one_tmp hlen]
        simp only
        rw [this]
        exact hg
      · exact finE_spec r (fun e he => hE e (List.mem_cons_of_mem _ he)) s o h
    · cases h

theorem func_mk {O I : Type} {c : ∀ X, Ctx X} (hc : ∀ X, CtxOk (c X)) {P : Program} (hP : (c O).P = P) (hm : P.follows .mixedOrders = true) {f : FuncId} {fn : Func} (hf : P.funcs[f]? = some fn) (hbody : fn.body.isSome = true) (hname : (fn.name == "runtime.NumGoroutine") = false)
    {ps : List SV} {bs : List (SB × Md)} {n0 : Nat} (hn0 : bs.length = n0) (hfit : ∀ p ∈ fitsL (c O) (bodyOf fn), CodeOk P n0 p.1 p.2) (hnt : ps.length ≤ fn.ntmps) {cv : List Lf → Option I} {un : I → List Lf} (hcv : ∀ ls d, cv ls = some d → ls = un d) {g : I → Option O}
    {fins : List (Sk × (List Lf → Option O))} {fx : O → Sk × List Lf} (hfx : FinOk n0 fins fx)
    (hg : ∀ d, evC (c O) (bodyOf fn) (funcK P fn.results.toList fins) (fiA fn.ntmps ps bs (un d)) = g d)
    {outK : ∀ X : Type, O → (AV → Heap → Option X) → Option X} (hK : ∀ X o k, outK X o k = k (tget (fiS (fx o).1 (fx o).2).tmps 0) (fiS (fx o).1 (fx o).2).heap) : CallOk P f (fun X => callF ps bs (fun ls => (cv ls).bind g) (outK X)) := by
  subst hP hn0
  have hb : fn.body = some (bodyOf fn) := by
    unfold bodyOf
    cases h : fn.body with
    | none => rw [h] at hbody; cases hbody
    | some b => rfl
  intro X args K q k r hr
  have hr : callF ps bs (fun ls => (cv ls).bind g) (outK X) args K q k = some r := hr
  have e : outK X = fun o k => k (tget (fiS (fx o).1 (fx o).2).tmps 0) (fiS (fx o).1 (fx o).2).heap := by funext o k; exact hK X o k
  rw [e] at hr
  -- a pattern that does not read: nothing is said
  have main := func_ok (c := c O) (hc O) hm hf hb hname (ps := ps) (bs := bs) hfit (g := fun ls => evC (c O) (bodyOf fn) (funcK (c O).P fn.results.toList fins) (fiA fn.ntmps ps bs ls))
    (out := fun o => (tget (fiS (fx o).1 (fx o).2).tmps 0, (fiS (fx o).1 (fx o).2).heap)) (outK := fun X o k => k (tget (fiS (fx o).1 (fx o).2).tmps 0) (fiS (fx o).1 (fx o).2).heap) (fun _ _ _ => rfl) hnt (finE_spec fins hfx) (fun d => by
      congr 1
      funext e s
      cases e <;> rfl)
  refine main X args K q k r ?_
  unfold callF at hr
  show callF _ _ _ _ args K q k = some r
  unfold callF
  cases h1 : mVL ps args (noV bs) with
  | none => rw [h1] at hr; cases hr
  | some p1 =>
    obtain ⟨l1, vs1⟩ := p1
    rw [h1] at hr
    dsimp only at hr ⊢
    cases h2 : mH K bs 0 vs1 with
    | none => rw [h2] at hr; cases hr
    | some p2 =>
      obtain ⟨l2, vs2⟩ := p2
      rw [h2] at hr
      dsimp only at hr ⊢
      cases h3 : (apartOk (idsOf bs 0 vs2) && (holesOk bs 0 vs2 && (allLive bs && subOk bs 0 vs2))) with
      | false => rw [h3] at hr; cases hr
      | true =>
        rw [h3] at hr
        dsimp only at hr ⊢
        cases h4 : cv (l1 ++ l2) with
        | none => rw [h4] at hr; cases hr
        | some d =>
          rw [h4, Option.bind_some] at hr
          rw [← hg d, ← hcv _ d h4] at hr
          exact hr

theorem fits_nil {X : Type} {P : Program} {n0 : Nat} : ∀ p ∈ ([] : List (Code × Contract X)), CodeOk P n0 p.1 p.2 := fun _ h => by cases h
theorem fits_cons {X : Type} {P : Program} {n0 : Nat} {b : Code} {J : Contract X} {l : List (Code × Contract X)} (h : CodeOk P n0 b J) (t : ∀ p ∈ l, CodeOk P n0 p.1 p.2) : ∀ p ∈ (b, J) :: l, CodeOk P n0 p.1 p.2 := fun p hp => by
  rcases List.mem_cons.1 hp with rfl | hp
  · exact h
  · exact t p hp
theorem fits_of {X : Type} {P : Program} {n0 : Nat} {c : Ctx X} {b : Code} {l : List (Code × Contract X)} (e : fitsL c b = l) (t : ∀ p ∈ l, CodeOk P n0 p.1 p.2) : ∀ p ∈ fitsL c b, CodeOk P n0 p.1 p.2 := by rw [e]; exact t

/-- no rounds, no answer: a function that calls itself -/
theorem func_zero {O : Type} {P : Program} {f : FuncId} {ps : List SV} {bs : List (SB × Md)} {outK : ∀ X : Type, O → (AV → Heap → Option X) → Option X} {g : List Lf → Option O} (h : ∀ ls, g ls = none) : CallOk P f (fun X => callF ps bs g (outK X)) := by
  intro X args K q k r hr
  have hr : callF ps bs g (outK X) args K q k = some r := hr
  unfold callF at hr
  split at hr
  · split at hr
    · split at hr
      · rw [h] at hr; cases hr
      · cases hr
    · cases hr
  · cases hr

end Go.Ab
end

section
/- A law's row: its arguments as the evaluator's, its answer as the row's. No condition. -/
namespace Go.Ab
open Go Go.ChangeShapes Go.WideShapes Go.RowKit

def yes (v : AV) (_ : Delta) : Option Unit := match v with | .bool true => some () | _ => none

theorem yes_spec {v : AV} {D : Delta} (h : yes v D = some ()) : v = .bool true := by
  unfold yes at h
  split at h
  · rfl
  · cases h

theorem law_calls {P : Program} {f : FuncId} {J : FC} (h : CallOk P f J) {args : List AV} {K : Heap} (hk : J Unit args K K.length yes = some ()) (hro : ∀ b bk md, hget K b = some (bk, md) → md = .ro) {m : Map} {w : World} {args' : Array Value} (hs : Sim m K w)
    (hl : args.length = args'.size) (hv : ∀ (j : Nat) (x : AV) (y : Value), args[j]? = some x → args'[j]? = some y → VR m K x y) : Calls P f args' w fun e w' => e = .returned (.bool true) ∧ Below w.heap.size w w' := by
  obtain ⟨v, D, h1, _, h2⟩ := h Unit args K K.length yes () hk
  have hv1 := yes_spec h1
  subst hv1
  refine (h2 m K w args' (SubH.refl _) (fun d _ hd => fresh_ge hd) hs hl hv).mono fun e w' ⟨v', m', he, _, hr, ht⟩ => ?_
  subst he
  cases hr
  refine ⟨rfl, ht.os, ht.tape, ht.output, ht.size, fun b hb => ?_⟩
  rcases ht.frame b hb with h3 | ⟨c, c', e, fr, f1, f2, f3, f4⟩
  · exact h3
  · have : c' = c := Array.ext f3 fun i h1 h2 => by
      have := f4 i (fun ⟨b', bk, md, g1, g2, _⟩ => g2 (hro b' bk md g1))
      simp [h1, h2] at this
      exact this
    rw [f1, f2, this]

/-- what an argument's slice holds -/
structure SlIs (k : IntKind) (w : World) (a : Option Addr) (len cap : Nat) (zs : List Int) : Prop where
  hlen : zs.length = len
  hle : len ≤ cap
  hwf : ∀ n ∈ zs, (Lit.int k n).wf = true
  hat_ : 0 < cap → ∃ b o, a = some ⟨b, o, none⟩ ∧ ∃ c e fr, w.heap[b]? = some (.cells c e fr) ∧ o + cap ≤ c.size ∧ ∀ i, i < len → c[o + i]? = some (.int k (zs.getD i 0))

theorem slIs_of {H : Type} {enc : TypeId × Value → H} {P : Program} {w : World} {held : Bool} {t e : TypeId} {k : IntKind} {a : Option Addr} {len cap : Nat} {d : DataW H} {ps : List MemPlace} (ht : P.underlying t = some (.slice e)) (he : P.underlying e = some (.int k)) (hc : P.cellsOf e = 1)
    (h : DataW.Trod enc P w 0 (fun _ => true) held t (.slice a len cap) d ps) : ∃ zs, SlIs k w a len cap zs := by
  obtain ⟨fuel, hf⟩ := h
  rcases open_ints ht he hc hf with ⟨hcs, _⟩ | ⟨x, l, c, zs, hcs, _, hl, _, hz, _, hcell, hwf⟩
  · simp [Value.cells] at hcs
    obtain ⟨rfl, rfl, rfl⟩ := hcs
    exact ⟨[], rfl, Nat.le_refl _, fun n hn => by simp at hn, fun h => absurd h (by omega)⟩
  · simp [Value.cells] at hcs
    obtain ⟨rfl, rfl, rfl⟩ := hcs
    simp only [if_true] at hz
    refine ⟨zs.take len, by simp; omega, hl, fun n hn => hwf n (List.mem_of_mem_take hn), fun hcap => ?_⟩
    have h0 := hcell 0 (by omega)
    obtain ⟨b, o, sp⟩ := x
    have hx0 : (⟨b, o, sp⟩ : Addr).add 0 = ⟨b, o, sp⟩ := rfl
    rw [hx0] at h0
    unfold World.cell? at h0
    split at h0
    · rename_i cc ee fr hh
      have hsp : sp = none := by
        cases sp with
        | none => rfl
        | some s => simp at h0
      subst hsp
      have each : ∀ i, i < zs.length → cc[o + i]? = some (.int k (zs.getD i 0)) := by
        intro i hi
        have h1 := hcell i hi
        rw [addr_add] at h1
        simpa [World.cell?, hh] using h1
      refine ⟨b, o, rfl, cc, ee, fr, hh, ?_, fun i hi => ?_⟩
      · have := each (cap - 1) (by omega)
        have hlt := (Array.getElem?_eq_some_iff.1 this).1
        omega
      · rw [each i (by omega)]
        congr 2
        simp only [List.getD_eq_getElem?_getD, List.getElem?_take, if_pos hi]
    · cases h0

theorem sized_sl {H : Type} {enc : TypeId × Value → H} {P : Program} {w : World} {held : Bool} {t e : TypeId} {k : IntKind} {a : Option Addr} {len cap : Nat} {d : DataW H} {ps : List MemPlace} {ts : List TypeId} {ds : List (DataW H)} {j : Nat}
    (hsz : (DataW.weightsEach P ts ds).all (· ≤ reachBytes) = true) (h1 : ts[j]? = some t) (h2 : ds[j]? = some d) (ht : P.underlying t = some (.slice e)) (he : P.underlying e = some (.int k)) (hc : P.cellsOf e = 1) {B : Nat} (hB : P.bytesOf e = B)
    (h : DataW.Trod enc P w 0 (fun _ => true) held t (.slice a len cap) d ps) : len * B ≤ 140737488351232 := by
  obtain ⟨fuel, hf⟩ := h
  rcases open_ints ht he hc hf with ⟨hcs, _⟩ | ⟨x, l, c, zs, hcs, _, hl, _, hz, hx, _, _⟩
  · simp [Value.cells] at hcs
    obtain ⟨_, rfl, _⟩ := hcs
    omega
  · simp [Value.cells] at hcs
    obtain ⟨rfl, rfl, rfl⟩ := hcs
    simp only [if_true] at hz
    cases hx
    have := sized_slice hsz h1 h2 ht
    simp only [lits, List.length_map, List.length_take, List.length_drop, hB] at this
    refine Nat.le_trans (Nat.mul_le_mul_right B ?_) this
    omega

/-- the arguments' slices as a heap of read places -/
def roH (l : List (IntKind × List Int)) : Heap := l.map fun p => .live (.ints p.1 p.2) .ro

theorem roH_at (l : List (IntKind × List Int)) (b : Nat) (bk : Blk) (md : Md) (h : hget (roH l) b = some (bk, md)) : ∃ k z, l[b]? = some (k, z) ∧ bk = .ints k z ∧ md = .ro := by
  have key : ∀ (l : List (IntKind × List Int)) (b : Nat), hat (roH l) b = match l[b]? with | some p => .live (.ints p.1 p.2) .ro | none => .hole := by
    intro l
    induction l with
    | nil => intro b; rfl
    | cons x xs ih => intro b; cases b with
      | zero => rfl
      | succ b => simpa [roH, hat] using ih b
  unfold hget at h
  rw [key] at h
  cases hl : l[b]? with
  | none => rw [hl] at h; cases h
  | some p => rw [hl] at h; cases h; exact ⟨p.1, p.2, rfl, rfl, rfl⟩

def roM (A : Nat → Option Addr) (l : List (IntKind × List Int)) : Map := fun i =>
  match A i with
  | some x => (x.block, x.off, ((l.getD i (.i64, [])).2).length)
  | none => (0, 0, 0)

theorem roH_kn (l : List (IntKind × List Int)) (b : Nat) (h : b < l.length) : hkn (roH l) b = true := by
  induction l generalizing b with
  | nil => simp at h
  | cons x xs ih => cases b with
    | zero => rfl
    | succ b => exact ih b (by simpa using h)

theorem ro_sim {w : World} {A : Nat → Option Addr} {C : Nat → Nat} {l : List (IntKind × List Int)} (h : ∀ i k z, l[i]? = some (k, z) → SlIs k w (A i) z.length (C i) z) : Sim (roM A l) (roH l) w where
  blk b bk md hg := by
    obtain ⟨k, z, h1, rfl, rfl⟩ := roH_at l b bk md hg
    have s := h b k z h1
    have hz : (l.getD b (.i64, [])).2 = z := by simp [List.getD_eq_getElem?_getD, h1]
    by_cases hz0 : z.length = 0
    · have : (roM A l b).2.2 = 0 := by unfold roM; rw [hz]; split <;> simp [hz0]
      exact ⟨trivial, by simp [Blk.num, hz0], fun _ => by rw [this]; simp [Blk.num, hz0], fun hp => by omega⟩
    · have hle := s.hle
      obtain ⟨bb, o, ha, c, e, fr, g1, g2, g3⟩ := s.hat_ (by omega)
      have hm : roM A l b = (bb, o, z.length) := by unfold roM; rw [ha, hz]
      rw [hm]
      refine ⟨trivial, by simp [Blk.num, Blk.str], fun _ => by simp [Blk.num, Blk.str], fun _ => ⟨c, e, fr, g1, by simp only; omega, fun h => absurd rfl h, fun j x y v hv => ?_, fun i fo hi hf => ?_⟩⟩
      · simp only at x y
        have := g3 (j - o) (by omega)
        rw [show o + (j - o) = j by omega, hv] at this
        cases this
        rfl
      · simp only [Blk.num] at hi
        simp only [Blk.str] at hf
        obtain rfl : fo = 0 := by omega
        exact ⟨_, _, rfl, by simpa [Blk.str] using g3 i hi, .int _ _⟩
  dis b b' bk md bk' md' hg hg' _ hm := by
    obtain ⟨_, _, _, _, r1⟩ := roH_at l b bk md hg
    obtain ⟨_, _, _, _, r2⟩ := roH_at l b' bk' md' hg'
    rcases hm with q | q
    · exact absurd r1 q
    · exact absurd r2 q

theorem ro_vr {w : World} {A : Nat → Option Addr} {C : Nat → Nat} {l : List (IntKind × List Int)} (h : ∀ i k z, l[i]? = some (k, z) → SlIs k w (A i) z.length (C i) z) {i : Nat} {k : IntKind} {z : List Int} (hi : l[i]? = some (k, z)) : VR (roM A l) (roH l) (.whole i) (.slice (A i) z.length (C i)) := by
  have hlt : i < l.length := (List.getElem?_eq_some_iff.1 hi).1
  refine .whole i (A i) z.length (C i) (roH_kn l i hlt) fun bk md hg => ?_
  obtain ⟨k', z', h1, rfl, rfl⟩ := roH_at l i bk md hg
  rw [hi] at h1
  cases h1
  have s := h i k z hi
  refine ⟨rfl, s.hle, fun hmd => (by cases hmd), fun hc => ?_⟩
  obtain ⟨bb, o, ha, _⟩ := s.hat_ hc
  rw [ha]
  unfold roM
  rw [ha]
  simp

end Go.Ab
end

section
/- What a printed text says of a function, in few words: its patterns alone; what they read and fill is told from them. No condition. -/
namespace Go.Ab
open Go

/-- a leaf's kind -/
inductive LK where | i | b | s | n | li | lr

def LK.T : LK → Type
  | .i => Int | .b => Bool | .s => ByteArray | .n => Nat | .li => List Int | .lr => List (List Int)
def LK.rd : (k : LK) → Lf → Option k.T
  | .i, l => match l with | .i x => some x | _ => none
  | .b, l => match l with | .b x => some x | _ => none
  | .s, l => match l with | .s x => some x | _ => none
  | .n, l => match l with | .n x => some x | _ => none
  | .li, l => match l with | .li x => some x | _ => none
  | .lr, l => match l with | .lr x => some x | _ => none
def LK.mk : (k : LK) → k.T → Lf
  | .i, x => .i x | .b, x => .b x | .s, x => .s x | .n, x => .n x | .li, x => .li x | .lr, x => .lr x
theorem LK.rd_mk {k : LK} {l : Lf} {x : k.T} (h : k.rd l = some x) : l = k.mk x := by
  cases k <;> cases l <;> first | (cases h; rfl) | cases h

def TupC : LK → List LK → Type
  | k, [] => k.T
  | k, k' :: l => k.T × TupC k' l
def Tup : List LK → Type
  | [] => Unit
  | k :: l => TupC k l
def andO {A B : Type} : Option A → Option B → Option (A × B)
  | some a, some b => some (a, b)
  | _, _ => none
theorem andO_some {A B : Type} {x : Option A} {y : Option B} {p : A × B} (h : andO x y = some p) : x = some p.1 ∧ y = some p.2 := by
  cases x <;> cases y <;> first | (cases h; exact ⟨rfl, rfl⟩) | cases h
def rdC : (k : LK) → (l : List LK) → List Lf → Option (TupC k l)
  | k, [], ls => match ls with
    | [] => none
    | x :: xs => match xs with
      | [] => k.rd x
      | _ :: _ => none
  | k, k' :: l, ls => match ls with
    | [] => none
    | x :: xs => andO (k.rd x) (rdC k' l xs)
def fstC {k k' : LK} {l : List LK} (x : TupC k (k' :: l)) : k.T := Prod.fst (α := k.T) (β := TupC k' l) x
def sndC {k k' : LK} {l : List LK} (x : TupC k (k' :: l)) : TupC k' l := Prod.snd (α := k.T) (β := TupC k' l) x
def mkC : (k : LK) → (l : List LK) → TupC k l → List Lf
  | k, [], x => [k.mk x]
  | k, _ :: l, x => k.mk (fstC x) :: mkC _ l (sndC x)
theorem rdC_mk : ∀ (l : List LK) (k : LK) (ls : List Lf) (d : TupC k l), rdC k l ls = some d → ls = mkC k l d := by
  intro l
  induction l with
  | nil =>
    intro k ls d h
    cases ls with
    | nil => cases h
    | cons x xs =>
      cases xs with
      | nil => exact congrArg (· :: []) (LK.rd_mk h)
      | cons y ys => cases h
  | cons k' l ih =>
    intro k ls d h
    cases ls with
    | nil => cases h
    | cons x xs =>
      have h2 := andO_some (A := k.T) (B := TupC k' l) (p := d) h
      have e1 : x = k.mk (fstC d) := LK.rd_mk h2.1
      have e2 : xs = mkC k' l (sndC d) := ih k' xs _ h2.2
      show x :: xs = k.mk (fstC d) :: mkC k' l (sndC d)
      rw [e1, e2]
def rdT : (l : List LK) → List Lf → Option (Tup l)
  | [], ls => match ls with | [] => some () | _ => none
  | k :: l, ls => rdC k l ls
def mkT : (l : List LK) → Tup l → List Lf
  | [], _ => []
  | k :: l, x => mkC k l x
theorem rdT_mk : ∀ (l : List LK) (ls : List Lf) (d : Tup l), rdT l ls = some d → ls = mkT l d
  | [], ls, d, h => by
    match ls, h with
    | [], _ => rfl
  | k :: l, ls, d, h => rdC_mk l k ls d h

mutual
def svK : SV → List LK
  | .int _ => [.i]
  | .bool => [.b]
  | .str => [.s]
  | .part _ => [.n, .n]
  | .ptr _ _ => [.n]
  | .func _ f c => svKL f ++ svKL c
  | .iface _ v => svK v
  | .agg l => svKL l
  | .tuple l => svKL l
  | _ => []
def svKL : List SV → List LK
  | [] => []
  | p :: r => svK p ++ svKL r
end
def sbK : List (SB × Md) → List LK
  | [] => []
  | (.ints _, _) :: r => .li :: sbK r
  | (.recs _, _) :: r => .lr :: sbK r
  | (.vals _ l, _) :: r => svKL l ++ sbK r
  | _ :: r => sbK r
def slK : List (Nat × SV) → List LK
  | [] => []
  | p :: r => svK p.2 ++ slK r
def skK (s : Sk) : List LK := slK s.slots ++ sbK s.blocks

abbrev Ex := Nat × Sk
def SumC : Ex → List Ex → Type
  | x, [] => Tup (skK x.2)
  | x, y :: r => Tup (skK x.2) ⊕ SumC y r
def mapO {A B : Type} (f : A → B) : Option A → Option B
  | some a => some (f a)
  | none => none
def exitsX : (x : Ex) → (r : List Ex) → List (Nat × Sk × (List Lf → Option (SumC x r)))
  | x, [] => [(x.1, x.2, rdT (skK x.2))]
  | x, y :: r => (x.1, x.2, fun ls => mapO Sum.inl (rdT (skK x.2) ls)) :: (exitsX y r).map fun p => (p.1, p.2.1, fun ls => mapO Sum.inr (p.2.2 ls))
def exX : (x : Ex) → (r : List Ex) → SumC x r → Nat × Sk × List Lf
  | x, [], o => (x.1, x.2, mkT (skK x.2) o)
  | x, y :: r, o => match (show Tup (skK x.2) ⊕ SumC y r from o) with
    | .inl a => (x.1, x.2, mkT (skK x.2) a)
    | .inr b => exX y r b
def outX {X : Type} : (x : Ex) → (r : List Ex) → SumC x r → (Exit → St → Option X) → Option X
  | x, [], o, k => k (exOf x.1) (fiS x.2 (mkT (skK x.2) o))
  | x, y :: r, o, k => match (show Tup (skK x.2) ⊕ SumC y r from o) with
    | .inl a => k (exOf x.1) (fiS x.2 (mkT (skK x.2) a))
    | .inr b => outX y r b k
theorem outX_eq {X : Type} (k : Exit → St → Option X) : ∀ (x : Ex) (r : List Ex) (o : SumC x r), outX x r o k = k (exOf (exX x r o).1) (fiS (exX x r o).2.1 (exX x r o).2.2)
  | x, [], o => rfl
  | x, y :: r, o => by
    match o with
    | .inl a => rfl
    | .inr b => exact outX_eq k y r b

def nz (n0 : Nat) (x : Ex) (r : List Ex) : Bool := (x :: r).all fun e => Nat.beq e.2.n0 n0
theorem mapO_some {A B : Type} {f : A → B} {o : Option A} {b : B} (h : mapO f o = some b) : ∃ a, o = some a ∧ f a = b := by
  cases o with
  | none => cases h
  | some a => injection h with h; exact ⟨a, rfl, h⟩
theorem exitsX_ok {n0 : Nat} : ∀ (x : Ex) (r : List Ex), nz n0 x r = true → ExOk n0 (exitsX x r) (exX x r)
  | x, [], h => by
    simp [nz] at h
    exact exOk_cons h (fun ls o h => by simp only [exX]; rw [← rdT_mk _ _ _ h]) exOk_nil
  | x, y :: r, h => by
    simp [nz] at h
    refine exOk_cons h.1 (fun ls o h => ?_) ?_
    · obtain ⟨a, h1, rfl⟩ := mapO_some h
      simp only [exX]
      rw [← rdT_mk _ _ _ h1]
    · intro e he
      obtain ⟨p, hp, rfl⟩ := List.mem_map.1 he
      have := exitsX_ok (n0 := n0) y r (by simp [nz, h.2.1]; exact h.2.2) p hp
      refine ⟨this.1, fun ls o ho => ?_⟩
      obtain ⟨a, h1, rfl⟩ := mapO_some ho
      simp only [exX]
      exact this.2 ls a h1

/-- a piece of code that is told -/
structure Pc (P : Program) (n0 : Nat) where
  code : Code
  J : ∀ X : Type, Contract X
  ok : ∀ X, CodeOk P n0 code (J X)
def Pc.fit {P : Program} {n0 : Nat} (X : Type) (p : Pc P n0) : Code × Contract X := (p.code, p.J X)
theorem Pc.all {P : Program} {n0 : Nat} {X : Type} (l : List (Pc P n0)) : ∀ p ∈ l.map (Pc.fit X), CodeOk P n0 p.1 p.2 := by
  intro p hp
  obtain ⟨q, _, rfl⟩ := List.mem_map.1 hp
  exact q.ok X
theorem Pc.fits {P : Program} {n0 : Nat} {X : Type} {c : Ctx X} {b : Code} {l : List (Pc P n0)} (h : fitsL c b = l.map (Pc.fit X)) : ∀ p ∈ fitsL c b, CodeOk P n0 p.1 p.2 := by rw [h]; exact Pc.all l

/-- a function that is told -/
structure AbFn (P : Program) where
  r : Row
  ok : CallOk P r.f r.J
theorem AbFn.rows {P : Program} (l : List (AbFn P)) : RowsOk P (l.map (·.r)) := fun r hr => by
  obtain ⟨q, _, rfl⟩ := List.mem_map.1 hr
  exact q.ok

def cx (P : Program) {n0 : Nat} (T : List (AbFn P)) (B C : List (Nat × Pc P n0)) (X : Type) : Ctx X := mkCtx P (T.map (·.r)) (B.map fun p => (p.1, p.2.J)) (C.map fun p => (p.1, p.2.J)) X
theorem cx_ok {P : Program} {n0 : Nat} (T : List (AbFn P)) (B C : List (Nat × Pc P n0)) (X : Type) : CtxOk (cx P T B C X) := ctx_ok (AbFn.rows T) _ _ X

def loopJ (sk : Sk) (x : Ex) (r : List Ex) (id : Nat) (l : Tup (skK sk) → Option (SumC x r)) (X : Type) : Contract X :=
  fun c s => (pt sk (rdT (skK sk)) s).bind fun d => (l d).bind fun o => outX x r o fun e s => c (leaveB id e) s
def cutJ (sk : Sk) (x : Ex) (r : List Ex) (l : Tup (skK sk) → Option (SumC x r)) (X : Type) : Contract X :=
  fun c s => (pt sk (rdT (skK sk)) s).bind fun d => (l d).bind fun o => outX x r o c

def mkLoop {P : Program} {n0 : Nat} (hm : P.follows .mixedOrders = true) (T : List (AbFn P)) (B C : List (Nat × Pc P n0)) (fit : List (Pc P n0)) (id : Nat) (body : Code) (sk : Sk) (x : Ex) (r : List Ex)
    (F : (Tup (skK sk) → Option (SumC x r)) → Tup (skK sk) → Option (SumC x r)) (k : Nat) (hn : (Nat.beq sk.n0 n0 && nz n0 x r) = true)
    (hfit : fitsL (cx P T B C (SumC x r)) body = fit.map (Pc.fit (SumC x r)))
    (run : ∀ rec d, evC (cx P T B C (SumC x r)) body (backK (fun s => (pt sk (rdT (skK sk)) s).bind rec) (exitsX x r)) (fiS sk (mkT (skK sk) d)) = F rec d) : Pc P n0 where
  code := .block id (.loop body)
  J := loopJ sk x r id (itN F k)
  ok X := by
    simp only [Bool.and_eq_true] at hn
    have h0 : sk.n0 = n0 := Nat.eq_of_beq_eq_true hn.1
    exact loop_mk (c := cx P T B C) (cx_ok T B C) rfl hm (Pc.fits hfit) h0 (rdT_mk _) (exitsX_ok x r hn.2) (l := itN F) (fun _ => rfl) (fun n d => run (itN F n) d)
      (exK := fun X o k => outX x r o fun e s => k (leaveB id e) s) (fun X o k => outX_eq _ x r o) k X

def mkCut {P : Program} {n0 : Nat} (hm : P.follows .mixedOrders = true) (T : List (AbFn P)) (B C : List (Nat × Pc P n0)) (fit : List (Pc P n0)) (body : Code) (sk : Sk) (x : Ex) (r : List Ex)
    (F : Tup (skK sk) → Option (SumC x r)) (hn : (Nat.beq sk.n0 n0 && nz n0 x r) = true)
    (hfit : fitsL (cx P T B C (SumC x r)) body = fit.map (Pc.fit (SumC x r)))
    (run : ∀ d, evC (cx P T B C (SumC x r)) body (koE (exitsX x r)) (fiS sk (mkT (skK sk) d)) = F d) : Pc P n0 where
  code := body
  J := cutJ sk x r F
  ok X := by
    simp only [Bool.and_eq_true] at hn
    have h0 : sk.n0 = n0 := Nat.eq_of_beq_eq_true hn.1
    exact piece_mk (c := cx P T B C) (cx_ok T B C) rfl hm (Pc.fits hfit) h0 (rdT_mk _) (exitsX_ok x r hn.2) run
      (exK := fun X o k => outX x r o k) (fun X o k => outX_eq _ x r o) X

def finsX (x : Ex) (r : List Ex) : List (Sk × (List Lf → Option (SumC x r))) := (exitsX x r).map fun p => p.2
def finOut {X : Type} (x : Ex) (r : List Ex) (o : SumC x r) (k : AV → Heap → Option X) : Option X := outX x r o fun _ s => k (tget s.tmps 0) s.heap
def nt1 (x : Ex) (r : List Ex) : Bool := (x :: r).all fun e => Nat.beq e.2.nt 1
theorem nt1_ok : ∀ (x : Ex) (r : List Ex), nt1 x r = true → ∀ e ∈ finsX x r, e.1.nt = 1
  | x, [], h, e, he => by
    simp [finsX, exitsX] at he
    subst he
    simpa [nt1] using h
  | x, y :: r, h, e, he => by
    simp [nt1] at h
    simp only [finsX, exitsX, List.map_cons, List.mem_cons, List.map_map, List.mem_map] at he
    rcases he with rfl | ⟨p, hp, rfl⟩
    · exact h.1
    · exact nt1_ok y r (by simp [nt1, h.2.1]; exact h.2.2) p.2 (List.mem_map.2 ⟨p, hp, rfl⟩)
theorem finsX_ok {n0 : Nat} (x : Ex) (r : List Ex) (h : nz n0 x r = true) (h1 : nt1 x r = true) : FinOk n0 (finsX x r) (fun o => (exX x r o).2) := fun e he => by
  have hnt := nt1_ok x r h1 e he
  obtain ⟨p, hp, rfl⟩ := List.mem_map.1 he
  have := exitsX_ok (n0 := n0) x r h p hp
  exact ⟨this.1, hnt, fun ls o ho => by show (exX x r o).2 = _; rw [this.2 ls o ho]⟩

def psK (ps : List SV) (bs : List (SB × Md)) : List LK := svKL ps ++ sbK bs
/-- what is told of a function: for what arguments; what it answers -/
def fnRow (f : FuncId) (ps : List SV) (bs : List (SB × Md)) (x : Ex) (r : List Ex) (g : Tup (psK ps bs) → Option (SumC x r)) : Row :=
  ⟨f, ps, bs, fun X => callF ps bs (fun ls => (rdT (psK ps bs) ls).bind g) (finOut x r)⟩

theorem fnRow_ok {P : Program} (hm : P.follows .mixedOrders = true) (T : List (AbFn P)) (ps : List SV) (bs : List (SB × Md)) (B C : List (Nat × Pc P bs.length)) (fit : List (Pc P bs.length)) (f : FuncId) (fn : Func) (x : Ex) (r : List Ex)
    (g : Tup (psK ps bs) → Option (SumC x r)) (hf : P.funcs[f]? = some fn) (hn : ((fn.body.isSome && !(fn.name == "runtime.NumGoroutine")) && ((nz bs.length x r && nt1 x r) && Nat.ble ps.length fn.ntmps)) = true)
    (hfit : fitsL (cx P T B C (SumC x r)) (bodyOf fn) = fit.map (Pc.fit (SumC x r)))
    (run : ∀ d, evC (cx P T B C (SumC x r)) (bodyOf fn) (funcK P fn.results.toList (finsX x r)) (fiA fn.ntmps ps bs (mkT (psK ps bs) d)) = g d) : CallOk P f (fnRow f ps bs x r g).J := by
  simp only [Bool.and_eq_true, Bool.not_eq_true'] at hn
  obtain ⟨⟨h1, h2⟩, ⟨h3, h4⟩, h5⟩ := hn
  exact func_mk (c := cx P T B C) (cx_ok T B C) rfl hm hf h1 h2 rfl (Pc.fits hfit) (Nat.le_of_ble_eq_true h5) (rdT_mk _) (finsX_ok x r h3 h4) run (outK := fun X o k => finOut x r o k) (fun X o k => outX_eq _ x r o)

def mkFn {P : Program} (hm : P.follows .mixedOrders = true) (T : List (AbFn P)) (ps : List SV) (bs : List (SB × Md)) (B C : List (Nat × Pc P bs.length)) (fit : List (Pc P bs.length)) (f : FuncId) (fn : Func) (x : Ex) (r : List Ex)
    (g : Tup (psK ps bs) → Option (SumC x r)) (hf : P.funcs[f]? = some fn) (hn : ((fn.body.isSome && !(fn.name == "runtime.NumGoroutine")) && ((nz bs.length x r && nt1 x r) && Nat.ble ps.length fn.ntmps)) = true)
    (hfit : fitsL (cx P T B C (SumC x r)) (bodyOf fn) = fit.map (Pc.fit (SumC x r)))
    (run : ∀ d, evC (cx P T B C (SumC x r)) (bodyOf fn) (funcK P fn.results.toList (finsX x r)) (fiA fn.ntmps ps bs (mkT (psK ps bs) d)) = g d) : AbFn P :=
  ⟨fnRow f ps bs x r g, fnRow_ok hm T ps bs B C fit f fn x r g hf hn hfit run⟩

/-- a function that calls itself, n deep -/
theorem fnRow_zero {P : Program} (f : FuncId) (ps : List SV) (bs : List (SB × Md)) (x : Ex) (r : List Ex) : CallOk P f (fnRow f ps bs x r (fun _ => none)).J := by
  refine func_zero (g := fun ls => (rdT (psK ps bs) ls).bind fun _ => none) (outK := fun X o k => finOut x r o k) fun ls => ?_
  cases rdT (psK ps bs) ls <;> rfl

theorem fnRow_rec {P : Program} {f : FuncId} {ps : List SV} {bs : List (SB × Md)} {x : Ex} {r : List Ex} {F : (Tup (psK ps bs) → Option (SumC x r)) → Tup (psK ps bs) → Option (SumC x r)}
    (h : ∀ rec, CallOk P f (fnRow f ps bs x r rec).J → CallOk P f (fnRow f ps bs x r (F rec)).J) (n : Nat) : CallOk P f (fnRow f ps bs x r (itN F n)).J := by
  induction n with
  | zero => exact fnRow_zero f ps bs x r
  | succ n ih => exact h _ ih

end Go.Ab
end

section
/- A function whose contract was shown by other means. No condition. -/
namespace Go.Ab
open Go

theorem ext_ok {O : Type} {P : Program} {f : FuncId} {fn : Func} (hf : P.funcs[f]? = some fn) (hbody : fn.body.isSome = true) (hname : (fn.name == "runtime.NumGoroutine") = false)
    {ps : List SV} {bs : List (SB × Md)} {g : List Lf → Option O} {out : O → AV × Heap} {outK : ∀ X : Type, O → (AV → Heap → Option X) → Option X} (hout : ∀ X o k, outK X o k = k (out o).1 (out o).2)
    (hrun : ∀ ls o, g ls = some o → ∀ (m : Map) (w : World) (args' : Array Value), Sim m (fH bs (fVL ps ls).2).1 w → (fVL ps ls).1.length = args'.size →
      (∀ (j : Nat) (x : AV) (y : Value), (fVL ps ls).1[j]? = some x → args'[j]? = some y → VR m (fH bs (fVL ps ls).2).1 x y) →
      Calls P f args' w fun e w' => ∃ v m', e = .returned v ∧ VR m' (out o).2 (out o).1 v ∧ Sim m' (out o).2 w' ∧ Tr m (fH bs (fVL ps ls).2).1 w m' (out o).2 w') :
    CallOk P f (fun X => callF ps bs g (outK X)) := by
  intro X args K q k r h
  simp only [callF] at h
  split at h
  · rename_i l1 vs1 h1
    split at h
    · rename_i l2 vs2 h2
      split at h
      · rename_i hck
        simp only [Option.bind_eq_some_iff] at h
        obtain ⟨o, hgo, h⟩ := h
        rw [hout] at h
        split at h
        · rename_i D hD
          refine ⟨_, D, h, ⟨fn, hf, by cases hb : fn.body <;> simp_all, hname⟩, ?_⟩
          intro m H w args' hsub hfresh hsim hlen hargs
          simp only [Bool.and_eq_true] at hck
          obtain ⟨ha, hh, hal, hso⟩ := hck
          obtain ⟨a1, ⟨ys, b1, c1, d1⟩, e1⟩ := mVL_spec _ _ _ _ _ h1
          have hV1 : ∀ i u, vat vs1 i = some u → VOk m H u := by
            intro i u hi
            rcases e1 m H (fun j x hx => by
              have hj : j < args'.size := by rw [← hlen]; exact (List.getElem?_eq_some_iff.1 hx).1
              exact ⟨args'[j], hargs j x _ hx (by simp [hj])⟩) i u hi with p | p
            · rw [noV_at] at p; cases p
            · exact p
          obtain ⟨a2, b2, L, c2, d2, e2⟩ := mH_spec hsim bs 0 vs1 vs2 l2 hV1 (mH_mono hsub _ _ _ _ h2)
          have hvl : vs2.length = bs.length := by rw [a2.1, a1.1, noV_length]
          have hE : ∀ i sb md, bs[i]? = some (sb, md) → EntOk m H vs2 i sb md (hat L i) := fun i sb md hi => by have := e2 i sb md hi; rwa [Nat.zero_add] at this
          have hsm := small_of hsim hvl d2 hE ha hh
          have hlive := allLive_spec bs hal
          have hent : ∀ (j : Nat) (sb : SB) (md : Md), bs[j]? = some (sb, md) → ∃ lb v, hat L j = .live lb md ∧ vat vs2 j = some v ∧ Seen m H (vat vs2) lb md v := by
            intro j sb md hj
            have := hE j sb md hj
            obtain ⟨n1, n2⟩ := hlive j sb md hj
            cases sb with
            | hole => exact absurd rfl n1
            | dead => exact absurd rfl n2
            | ints k => exact this
            | recs k => exact this
            | vals n l => exact this
          have hfv : fVL ps (l1 ++ l2) = (ys, l2) := b1 l2
          have hfh : (fH bs l2).1 = L := by
            have := c2 []
            rw [List.append_nil] at this
            rw [this]
          have hsl := hsm.sim hsim
          have hr := hrun (l1 ++ l2) o hgo (mlOf m H vs2 bs) w args'
          rw [hfv] at hr
          simp only [hfh] at hr
          refine (hr hsl (by omega) fun j x y hx hy => ?_).mono fun e w' ⟨v, m'', he, hv', hs'', ht''⟩ => ?_
          · have hj : j < ys.length := (List.getElem?_eq_some_iff.1 hx).1
            have hj1 : j < args.length := by omega
            have hl := d1 j args[j] x (by simp [hj1]) hx
            exact (hl.mono a2.2).vr hsim hsm _ (hargs j _ _ (by simp [hj1]) hy)
          · subst he
            have hslo : slOk K vs2 bs = slOk H vs2 bs := by
              funext j
              unfold slOk
              cases hv : vat vs2 j with
              | none => rfl
              | some v =>
                cases hb : bs[j]? with
                | none => rfl
                | some p =>
                  obtain ⟨sb, md⟩ := p
                  simp only
                  cases hid : vId v with
                  | none => rfl
                  | some b =>
                    simp only
                    have hkb : ∃ z, hget K b = some z := by
                      have hjj : vat vs2 (0 + j) = some v := by rw [Nat.zero_add]; exact hv
                      exact (show ∀ (bs' : List (SB × Md)) (i : Nat) (vs vs' : Vs) (ls : List Lf), mH K bs' i vs = some (ls, vs') → (∀ (j : Nat) sb md, bs'[j]? = some (sb, md) → sb ≠ .hole ∧ sb ≠ .dead) → ∀ (j : Nat) sb md v b, bs'[j]? = some (sb, md) → vat vs' (i + j) = some v → vId v = some b → ∃ z, hget K b = some z by
                        intro bs'
                        induction bs' with
                        | nil => intro i vs vs' ls _ _ j sb md v b hj; simp at hj
                        | cons p bs' ih =>
                          intro i vs vs' ls hm hlv j sb md v b hj hv hb
                          obtain ⟨sb0, md0⟩ := p
                          obtain ⟨n1, n2⟩ := hlv 0 sb0 md0 rfl
                          have hm' : (match vat vs i with
                            | some v => match mB K sb0 md0 v vs with
                              | some (l1, vs1) => match mH K bs' (i + 1) vs1 with
                                | some (l2, vs2) => some (l1 ++ l2, vs2)
                                | none => none
                              | none => none
                            | none => none) = some (ls, vs') := by
                            cases sb0 with
                            | hole => exact absurd rfl n1
                            | dead => exact absurd rfl n2
                            | ints k => exact hm
                            | recs k => exact hm
                            | vals n l => exact hm
                          split at hm'
                          · rename_i v0 hv0
                            split at hm'
                            · rename_i l1' vs1' hb1
                              split at hm'
                              · rename_i l2' vs2' hm2
                                cases hm'
                                cases j with
                                | zero =>
                                  -- the view at i stays
                                  have hle : ∀ (bs' : List (SB × Md)) (i : Nat) (vs vs' : Vs) (ls : List Lf), mH K bs' i vs = some (ls, vs') → LeV vs vs' := by
                                    intro bs'
                                    induction bs' with
                                    | nil => intro i vs vs' ls h; simp only [mH] at h; cases h; exact LeV.refl _
                                    | cons p bs' ih =>
                                      intro i vs vs' ls h
                                      obtain ⟨sb, md⟩ := p
                                      have live : (match vat vs i with
                                        | some v => match mB K sb md v vs with
                                          | some (l1, vs1) => match mH K bs' (i + 1) vs1 with
                                            | some (l2, vs2) => some (l1 ++ l2, vs2)
                                            | none => none
                                          | none => none
                                        | none => none) = some (ls, vs') → LeV vs vs' := by
                                        intro h
                                        split at h
                                        · rename_i v hv
                                          split at h
                                          · rename_i l1 vs1 hb
                                            split at h
                                            · rename_i l2 vs2 hm
                                              cases h
                                              exact (mB_le hb).trans (ih _ _ _ _ hm)
                                            · cases h
                                          · cases h
                                        · cases h
                                      cases sb with
                                      | hole => exact ih _ _ _ _ h
                                      | dead => exact ih _ _ _ _ h
                                      | ints k => exact live h
                                      | recs k => exact live h
                                      | vals n l => exact live h
                                  have h3 := ((mB_le hb1).trans (hle _ _ _ _ _ hm2)).2 _ _ hv0
                                  rw [Nat.add_zero, h3] at hv
                                  injection hv with hv
                                  subst hv
                                  have : ∃ p, vB K v0 = some p := by
                                    have hne : v0 ≠ .ph := by rintro rfl; cases hb
                                    have h1' : mB1 K sb0 md0 v0 vs = some (l1', vs1') := by
                                      cases v0 with
                                      | ph => exact absurd rfl hne
                                      | full b => exact hb1
                                      | sub b off len => exact hb1
                                      | el b i fo n => exact hb1
                                    unfold mB1 at h1'
                                    split at h1'
                                    · rename_i hq; exact ⟨_, hq⟩
                                    · cases h1'
                                  obtain ⟨⟨gb, md9⟩, hp⟩ := this
                                  obtain ⟨b', bk, i1, i2⟩ := vB_id hp
                                  rw [hb] at i1
                                  cases i1
                                  exact ⟨_, i2⟩
                                | succ j =>
                                  refine ih (i + 1) _ _ _ hm2 (fun j sb md hj => hlv (j + 1) sb md (by simpa using hj)) j sb md v b (by simpa using hj) (by rw [show i + 1 + j = i + (j + 1) by omega]; exact hv) hb
                              · cases hm'
                            · cases hm'
                          · cases hm') bs 0 vs1 vs2 l2 h2 hlive j sb md v b hb hjj hid
                    obtain ⟨z, hz⟩ := hkb
                    rw [hz, hsub _ _ hz]
            have hD' := backD_mono hsub _ _ _ _ hD
            rw [hslo] at hD' ⊢
            have hret : Ret m (mlOf m H vs2 bs) m'' H L (out o).2 w w' vs2 q bs D := {
              hs := hsim, sm := hsm, len := d2, vlen := hvl, live := hlive, ent := hent, hs' := hs'', tr := ht''
              back := backD_spec bs (out o).2 0 D (fun i => by rw [Nat.zero_add]) (fun i => by rw [Nat.zero_add]) (by omega) (.inl (Nat.zero_le _)) hD'
              fresh := hfresh
              nosub := fun j b off len hv sb => subOk_spec bs 0 vs2 hso j b off len (by rw [Nat.zero_add]; exact hv) sb }
            exact ⟨_, _, rfl, hret.sim, hret.vr hv', hret.trans⟩
        · cases h
      · cases h
    · cases h
  · cases h

end Go.Ab
end

