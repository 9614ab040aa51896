/- An evaluator for the model's code over typed, abstract blocks, with its soundness, part 5 of 5: laws of any program; their conditions stand in each. -/
import Derived.Test.YtdimjdlomgpbgaaAb4
import Derived.ProofKit
import Derived.OpenShut
import Derived.ShutString
import Derived.ChangeOld
import Derived.SizedLaws
set_option linter.unusedVariables false
set_option linter.unusedSimpArgs false
section
/- What a printed text says of a loop, a piece of code, a function: in a few lines. No condition. -/
namespace Go.Ab
open Go

abbrev FC := ∀ X : Type, List AV → Heap → Nat → (AV → Delta → Option X) → Option X

/-- a row of the table of functions that are called: its number; for what arguments; its contract -/
structure Row where
  f : FuncId
  ps : List SV
  bs : List (SB × Md)
  J : FC

def fitsA (ps : List SV) (bs : List (SB × Md)) (args : List AV) (K : Heap) : Bool :=
  match mVL ps args (noV bs) with
  | some (_, vs) => match mH K bs 0 vs with
    | some _ => true
    | none => false
  | none => false

def tabCall (X : Type) : List Row → FuncId → List AV → Heap → Nat → (AV → Delta → Option X) → Option X
  | [], _, _, _, _, _ => none
  | r :: T, f, args, K, q, k => match Nat.beq r.f f && fitsA r.ps r.bs args K with
    | true => r.J X args K q k
    | false => tabCall X T f args K q k

def tabBlk (X : Type) : List (Nat × (∀ X : Type, Contract X)) → Nat → Option (Contract X)
  | [], _ => none
  | (i, J) :: T, id => match Nat.beq i id with
    | true => some (J X)
    | false => tabBlk X T id

def mkCtx (P : Program) (T : List Row) (B C : List (Nat × (∀ X : Type, Contract X))) (X : Type) : Ctx X :=
  { P := P, call := tabCall X T, blk := tabBlk X B, cut := tabBlk X C }

def RowsOk (P : Program) (T : List Row) : Prop := ∀ r ∈ T, CallOk P r.f r.J

theorem ctx_ok {P : Program} {T : List Row} (h : RowsOk P T) (B C : List (Nat × (∀ X : Type, Contract X))) (X : Type) : CtxOk (mkCtx P T B C X) := by
  intro f args K q k r hr0
  have key : ∀ T, RowsOk P T → tabCall X T f args K q k = some r → ∃ v D, k v D = some r ∧ CallStep P f args K q v D := by
    intro T
    induction T with
    | nil => intro _ h; cases h
    | cons x T ih =>
      intro h hr
      simp only [tabCall] at hr
      split at hr
      · rename_i e
        simp only [Bool.and_eq_true] at e
        have e1 : x.f = f := by simpa using e.1
        subst e1
        exact h x List.mem_cons_self X args K q k r hr
      · exact ih (fun y hy => h y (List.mem_cons_of_mem _ hy)) hr
  exact key T h hr0

theorem rows_nil (P : Program) : RowsOk P [] := fun _ h => by cases h
theorem rows_cons {P : Program} {r : Row} {T : List Row} (h : CallOk P r.f r.J) (t : RowsOk P T) : RowsOk P (r :: T) := fun x hx => by
  rcases List.mem_cons.1 hx with rfl | hx
  · exact h
  · exact t x hx

def findB (id : Nat) : Code → Option Code
  | .seq a b => match findB id a with | some c => some c | none => findB id b
  | .cond _ a b => match findB id a with | some c => some c | none => findB id b
  | .block i b => match Nat.beq i id with | true => some b | false => findB id b
  | .loop b => findB id b
  | .scope b => findB id b
  | _ => none
/-- the body of the loop in the block id -/
def loopB (id : Nat) (c : Code) : Code := match findB id c with | some (.loop b) => b | _ => .skip
def bodyOf (fn : Func) : Code := match fn.body with | some c => c | none => .skip
/-- what follows where the code with head id begins -/
def findC (id : Nat) : Code → Option Code
  | .seq a b => match headId b with
    | some i => (match Nat.beq i id with | true => some b | false => match findC id a with | some c => some c | none => findC id b)
    | none => match findC id a with | some c => some c | none => findC id b
  | .cond _ a b => match findC id a with | some c => some c | none => findC id b
  | .block _ b => findC id b
  | .loop b => findC id b
  | .scope b => findC id b
  | _ => none
def cutB (id : Nat) (c : Code) : Code := match findC id c with | some b => b | none => .skip

def pt {I : Type} (sk : Sk) (cv : List Lf → Option I) (s : St) : Option I := (rdS sk s).bind cv

theorem pt_gen {I : Type} {sk : Sk} {cv : List Lf → Option I} {un : I → List Lf} (h : ∀ ls d, cv ls = some d → ls = un d) (s : St) (d : I) (hd : pt sk cv s = some d) : Gen sk.n0 s (fiS sk (un d)) := by
  unfold pt at hd
  simp only [Option.bind_eq_some_iff] at hd
  obtain ⟨ls, h1, h2⟩ := hd
  rw [← h ls d h2]
  exact rdS_gen h1

def tagIs (t : Nat) : Exit → Bool
  | .normal => Nat.beq t 0
  | .ret => Nat.beq t 1
  | .exit i => Nat.beq t (i + 2)
  | _ => false

def koE {O : Type} : List (Nat × Sk × (List Lf → Option O)) → Exit → St → Option O
  | [], _, _ => none
  | (t, sk, cv) :: r, e, s => match tagIs t e with
    | true => pt sk cv s
    | false => koE r e s

def exOf : Nat → Exit
  | 0 => .normal
  | 1 => .ret
  | i + 2 => .exit i

theorem tagIs_spec {t : Nat} {e : Exit} (h : tagIs t e = true) : e = exOf t := by
  cases e <;> simp [tagIs] at h <;> subst h <;> rfl

/-- the exits of a piece of code and what they answer -/
def ExOk {O : Type} (n0 : Nat) (exits : List (Nat × Sk × (List Lf → Option O))) (ex : O → Nat × Sk × List Lf) : Prop :=
  ∀ e ∈ exits, e.2.1.n0 = n0 ∧ ∀ ls o, e.2.2 ls = some o → ex o = (e.1, e.2.1, ls)

theorem exOk_nil {O : Type} {n0 : Nat} {ex : O → Nat × Sk × List Lf} : ExOk n0 [] ex := fun _ h => by cases h
theorem exOk_cons {O : Type} {n0 : Nat} {ex : O → Nat × Sk × List Lf} {t : Nat} {sk : Sk} {cv : List Lf → Option O} {r : List (Nat × Sk × (List Lf → Option O))} (h0 : sk.n0 = n0) (h : ∀ ls o, cv ls = some o → ex o = (t, sk, ls)) (k : ExOk n0 r ex) : ExOk n0 ((t, sk, cv) :: r) ex := fun e he => by
  rcases List.mem_cons.1 he with rfl | he
  · exact ⟨h0, h⟩
  · exact k e he

theorem koE_spec {O : Type} {n0 : Nat} {ex : O → Nat × Sk × List Lf} : ∀ (exits : List (Nat × Sk × (List Lf → Option O))), ExOk n0 exits ex → ∀ e s o, koE exits e s = some o → e = exOf (ex o).1 ∧ Gen n0 s (fiS (ex o).2.1 (ex o).2.2)
  | [], _, e, s, o, h => by cases h
  | (t, sk, cv) :: r, hE, e, s, o, h => by
    simp only [koE] at h
    split at h
    · rename_i ht
      obtain ⟨h0, h1⟩ := hE (t, sk, cv) List.mem_cons_self
      simp only at h0 h1
      unfold pt at h
      simp only [Option.bind_eq_some_iff] at h
      obtain ⟨ls, k1, k2⟩ := h
      rw [h1 ls o k2]
      have := rdS_gen k1
      rw [h0] at this
      exact ⟨tagIs_spec ht, this⟩
    · exact koE_spec r (fun e he => hE e (List.mem_cons_of_mem _ he)) e s o h

def backK {O : Type} (b : St → Option O) (exits : List (Nat × Sk × (List Lf → Option O))) : Exit → St → Option O
  | .normal, s => b s
  | e, s => koE exits e s

/-- round by round -/
def itN {I O : Type} (F : (I → Option O) → I → Option O) : Nat → I → Option O
  | 0, _ => none
  | n + 1, d => F (itN F n) d

theorem loop_mk {O I : Type} {c : ∀ X, Ctx X} (hc : ∀ X, CtxOk (c X)) {P : Program} (hP : (c O).P = P) (hm : P.follows .mixedOrders = true) {n0 id : Nat} {body : Code} (hfit : ∀ p ∈ fitsL (c O) body, CodeOk P n0 p.1 p.2)
    {sk : Sk} (hn0 : sk.n0 = n0) {cv : List Lf → Option I} {un : I → List Lf} (hcv : ∀ ls d, cv ls = some d → ls = un d) {l : Nat → I → Option O} {exits : List (Nat × Sk × (List Lf → Option O))} {ex : O → Nat × Sk × List Lf} (hex : ExOk n0 exits ex)
    (h0 : ∀ d, l 0 d = none) (hl : ∀ n d, evC (c O) body (backK (fun s => (pt sk cv s).bind (l n)) exits) (fiS sk (un d)) = l (n + 1) d)
    {exK : ∀ X : Type, O → (Exit → St → Option X) → Option X} (hK : ∀ X o k, exK X o k = k (leaveB id (exOf (ex o).1)) (fiS (ex o).2.1 (ex o).2.2)) (n : Nat) (X : Type) :
    CodeOk P n0 (.block id (.loop body)) (fun k s => (pt sk cv s).bind fun d => (l n d).bind fun o => exK X o k) := by
  subst hP hn0
  simp only [hK]
  exact loop_ok (hc O) hm hfit (pt_gen hcv) (ko := koE exits) (ex := fun o => (leaveB id (exOf (ex o).1), fiS (ex o).2.1 (ex o).2.2))
    (fun e s o h => by obtain ⟨h1, h2⟩ := koE_spec exits hex e s o h; subst h1; exact ⟨rfl, h2⟩) h0 (fun n d => by
      rw [← hl n d]
      congr 1
      funext e s
      cases e <;> rfl) n

theorem piece_mk {O I : Type} {c : ∀ X, Ctx X} (hc : ∀ X, CtxOk (c X)) {P : Program} (hP : (c O).P = P) (hm : P.follows .mixedOrders = true) {n0 : Nat} {body : Code} (hfit : ∀ p ∈ fitsL (c O) body, CodeOk P n0 p.1 p.2)
    {sk : Sk} (hn0 : sk.n0 = n0) {cv : List Lf → Option I} {un : I → List Lf} (hcv : ∀ ls d, cv ls = some d → ls = un d) {g : I → Option O} {exits : List (Nat × Sk × (List Lf → Option O))} {ex : O → Nat × Sk × List Lf} (hex : ExOk n0 exits ex)
    (hg : ∀ d, evC (c O) body (koE exits) (fiS sk (un d)) = g d)
    {exK : ∀ X : Type, O → (Exit → St → Option X) → Option X} (hK : ∀ X o k, exK X o k = k (exOf (ex o).1) (fiS (ex o).2.1 (ex o).2.2)) (X : Type) :
    CodeOk P n0 body (fun k s => (pt sk cv s).bind fun d => (g d).bind fun o => exK X o k) := by
  subst hP hn0
  simp only [hK]
  exact piece_ok (hc O) hm hfit (pt_gen hcv) (ko := koE exits) (ex := fun o => (exOf (ex o).1, fiS (ex o).2.1 (ex o).2.2)) (koE_spec exits hex) hg

/-- what a function answers: the first pattern that fits -/
def finE {O : Type} (P : Program) (rs : List ResultVar) : List (Sk × (List Lf → Option O)) → St → Option O
  | [], _ => none
  | (sk, cv) :: r, s => match resS P rs s with
    | some x => match rdS sk ⟨[x], s.heap⟩ with
      | some ls => cv ls
      | none => finE P rs r s
    | none => none

def funcK {O : Type} (P : Program) (rs : List ResultVar) (fins : List (Sk × (List Lf → Option O))) : Exit → St → Option O
  | .normal, s => finE P rs fins s
  | .ret, s => finE P rs fins s
  | _, _ => none

def FinOk {O : Type} (n0 : Nat) (fins : List (Sk × (List Lf → Option O))) (fx : O → Sk × List Lf) : Prop :=
  ∀ e ∈ fins, e.1.n0 = n0 ∧ e.1.nt = 1 ∧ ∀ ls o, e.2 ls = some o → fx o = (e.1, ls)

theorem finOk_nil {O : Type} {n0 : Nat} {fx : O → Sk × List Lf} : FinOk n0 [] fx := fun _ h => by cases h
theorem finOk_cons {O : Type} {n0 : Nat} {fx : O → Sk × List Lf} {sk : Sk} {cv : List Lf → Option O} {r : List (Sk × (List Lf → Option O))} (h0 : sk.n0 = n0) (h1 : sk.nt = 1) (h : ∀ ls o, cv ls = some o → fx o = (sk, ls)) (k : FinOk n0 r fx) : FinOk n0 ((sk, cv) :: r) fx := fun e he => by
  rcases List.mem_cons.1 he with rfl | he
  · exact ⟨h0, h1, h⟩
  · exact k e he

theorem one_tmp {l : List AV} (h : l.length = 1) : l = [tget l 0] := by
  match l, h with
  | [x], _ => rfl

theorem finE_spec {O : Type} {P : Program} {rs : List ResultVar} {n0 : Nat} {fx : O → Sk × List Lf} : ∀ (fins : List (Sk × (List Lf → Option O))), FinOk n0 fins fx → ∀ s o, finE P rs fins s = some o →
    ∃ x, resS P rs s = some x ∧ GenR n0 x s.heap (tget (fiS (fx o).1 (fx o).2).tmps 0) (fiS (fx o).1 (fx o).2).heap
  | [], _, s, o, h => by cases h
  | (sk, cv) :: r, hE, s, o, h => by
    simp only [finE] at h
    split at h
    · rename_i x hx
      split at h
      · rename_i ls hls
        obtain ⟨h0, h1, h2⟩ := hE (sk, cv) List.mem_cons_self
        simp only at h0 h1 h2
        refine ⟨x, hx, ?_⟩
        rw [h2 ls o h]
        have hg := rdS_gen hls
        rw [h0] at hg
        unfold GenR
        have hlen : (fiS sk ls).tmps.length = 1 := by
          unfold fiS
          simp only [putAll_length, List.length_replicate]
          exact h1
        have : (⟨[tget (fiS sk ls).tmps 0], (fiS sk ls).heap⟩ : St) = fiS sk ls := by rw [← one_tmp hlen]
        simp only
        rw [this]
        exact hg
      · exact finE_spec r (fun e he => hE e (List.mem_cons_of_mem _ he)) s o h
    · cases h

theorem func_mk {O I : Type} {c : ∀ X, Ctx X} (hc : ∀ X, CtxOk (c X)) {P : Program} (hP : (c O).P = P) (hm : P.follows .mixedOrders = true) {f : FuncId} {fn : Func} (hf : P.funcs[f]? = some fn) (hbody : fn.body.isSome = true) (hname : (fn.name == "runtime.NumGoroutine") = false)
    {ps : List SV} {bs : List (SB × Md)} {n0 : Nat} (hn0 : bs.length = n0) (hfit : ∀ p ∈ fitsL (c O) (bodyOf fn), CodeOk P n0 p.1 p.2) (hnt : ps.length ≤ fn.ntmps) {cv : List Lf → Option I} {un : I → List Lf} (hcv : ∀ ls d, cv ls = some d → ls = un d) {g : I → Option O}
    {fins : List (Sk × (List Lf → Option O))} {fx : O → Sk × List Lf} (hfx : FinOk n0 fins fx)
    (hg : ∀ d, evC (c O) (bodyOf fn) (funcK P fn.results.toList fins) (fiA fn.ntmps ps bs (un d)) = g d)
    {outK : ∀ X : Type, O → (AV → Heap → Option X) → Option X} (hK : ∀ X o k, outK X o k = k (tget (fiS (fx o).1 (fx o).2).tmps 0) (fiS (fx o).1 (fx o).2).heap) : CallOk P f (fun X => callF ps bs (fun ls => (cv ls).bind g) (outK X)) := by
  subst hP hn0
  have hb : fn.body = some (bodyOf fn) := by
    unfold bodyOf
    cases h : fn.body with
    | none => rw [h] at hbody; cases hbody
    | some b => rfl
  intro X args K q k r hr
  have hr : callF ps bs (fun ls => (cv ls).bind g) (outK X) args K q k = some r := hr
  have e : outK X = fun o k => k (tget (fiS (fx o).1 (fx o).2).tmps 0) (fiS (fx o).1 (fx o).2).heap := by funext o k; exact hK X o k
  rw [e] at hr
  -- a pattern that does not read: nothing is said
  have main := func_ok (c := c O) (hc O) hm hf hb hname (ps := ps) (bs := bs) hfit (g := fun ls => evC (c O) (bodyOf fn) (funcK (c O).P fn.results.toList fins) (fiA fn.ntmps ps bs ls))
    (out := fun o => (tget (fiS (fx o).1 (fx o).2).tmps 0, (fiS (fx o).1 (fx o).2).heap)) (outK := fun X o k => k (tget (fiS (fx o).1 (fx o).2).tmps 0) (fiS (fx o).1 (fx o).2).heap) (fun _ _ _ => rfl) hnt (finE_spec fins hfx) (fun d => by
      congr 1
      funext e s
      cases e <;> rfl)
  refine main X args K q k r ?_
  unfold callF at hr
  show callF _ _ _ _ args K q k = some r
  unfold callF
  cases h1 : mVL ps args (noV bs) with
  | none => rw [h1] at hr; cases hr
  | some p1 =>
    obtain ⟨l1, vs1⟩ := p1
    rw [h1] at hr
    dsimp only at hr ⊢
    cases h2 : mH K bs 0 vs1 with
    | none => rw [h2] at hr; cases hr
    | some p2 =>
      obtain ⟨l2, vs2⟩ := p2
      rw [h2] at hr
      dsimp only at hr ⊢
      cases h3 : (apartOk (idsOf bs 0 vs2) && (holesOk bs 0 vs2 && allLive bs)) with
      | false => rw [h3] at hr; cases hr
      | true =>
        rw [h3] at hr
        dsimp only at hr ⊢
        cases h4 : cv (l1 ++ l2) with
        | none => rw [h4] at hr; cases hr
        | some d =>
          rw [h4, Option.bind_some] at hr
          rw [← hg d, ← hcv _ d h4] at hr
          exact hr

theorem fits_nil {X : Type} {P : Program} {n0 : Nat} : ∀ p ∈ ([] : List (Code × Contract X)), CodeOk P n0 p.1 p.2 := fun _ h => by cases h
theorem fits_cons {X : Type} {P : Program} {n0 : Nat} {b : Code} {J : Contract X} {l : List (Code × Contract X)} (h : CodeOk P n0 b J) (t : ∀ p ∈ l, CodeOk P n0 p.1 p.2) : ∀ p ∈ (b, J) :: l, CodeOk P n0 p.1 p.2 := fun p hp => by
  rcases List.mem_cons.1 hp with rfl | hp
  · exact h
  · exact t p hp
theorem fits_of {X : Type} {P : Program} {n0 : Nat} {c : Ctx X} {b : Code} {l : List (Code × Contract X)} (e : fitsL c b = l) (t : ∀ p ∈ l, CodeOk P n0 p.1 p.2) : ∀ p ∈ fitsL c b, CodeOk P n0 p.1 p.2 := by rw [e]; exact t

/-- no rounds, no answer: a function that calls itself -/
theorem func_zero {O : Type} {P : Program} {f : FuncId} {ps : List SV} {bs : List (SB × Md)} {outK : ∀ X : Type, O → (AV → Heap → Option X) → Option X} {g : List Lf → Option O} (h : ∀ ls, g ls = none) : CallOk P f (fun X => callF ps bs g (outK X)) := by
  intro X args K q k r hr
  have hr : callF ps bs g (outK X) args K q k = some r := hr
  unfold callF at hr
  split at hr
  · split at hr
    · split at hr
      · rw [h] at hr; cases hr
      · cases hr
    · cases hr
  · cases hr

end Go.Ab
end

section
/- A law's row: its arguments as the evaluator's, its answer as the row's. No condition. -/
namespace Go.Ab
open Go Go.ChangeShapes Go.WideShapes Go.RowKit

def yes (v : AV) (_ : Delta) : Option Unit := match v with | .bool true => some () | _ => none

theorem yes_spec {v : AV} {D : Delta} (h : yes v D = some ()) : v = .bool true := by
  unfold yes at h
  split at h
  · rfl
  · cases h

theorem law_calls {P : Program} {f : FuncId} {J : FC} (h : CallOk P f J) {args : List AV} {K : Heap} (hk : J Unit args K K.length yes = some ()) (hro : ∀ b bk md, hget K b = some (bk, md) → md = .ro) {m : Map} {w : World} {args' : Array Value} (hs : Sim m K w)
    (hl : args.length = args'.size) (hv : ∀ (j : Nat) (x : AV) (y : Value), args[j]? = some x → args'[j]? = some y → VR m K x y) : Calls P f args' w fun e w' => e = .returned (.bool true) ∧ Below w.heap.size w w' := by
  obtain ⟨v, D, h1, _, h2⟩ := h Unit args K K.length yes () hk
  have hv1 := yes_spec h1
  subst hv1
  refine (h2 m K w args' (SubH.refl _) (fun d _ hd => fresh_ge hd) hs hl hv).mono fun e w' ⟨v', m', he, _, hr, ht⟩ => ?_
  subst he
  cases hr
  refine ⟨rfl, ht.os, ht.tape, ht.output, ht.size, fun b hb => ?_⟩
  rcases ht.frame b hb with h3 | ⟨c, c', e, fr, f1, f2, f3, f4⟩
  · exact h3
  · have : c' = c := Array.ext f3 fun i h1 h2 => by
      have := f4 i (fun ⟨b', bk, md, g1, g2, _⟩ => g2 (hro b' bk md g1))
      simp [h1, h2] at this
      exact this
    rw [f1, f2, this]

/-- what an argument's slice holds -/
structure SlIs (k : IntKind) (w : World) (a : Option Addr) (len cap : Nat) (zs : List Int) : Prop where
  hlen : zs.length = len
  hle : len ≤ cap
  hwf : ∀ n ∈ zs, (Lit.int k n).wf = true
  hat_ : 0 < cap → ∃ b o, a = some ⟨b, o, none⟩ ∧ ∃ c e fr, w.heap[b]? = some (.cells c e fr) ∧ o + cap ≤ c.size ∧ ∀ i, i < len → c[o + i]? = some (.int k (zs.getD i 0))

theorem slIs_of {H : Type} {enc : TypeId × Value → H} {P : Program} {w : World} {held : Bool} {t e : TypeId} {k : IntKind} {a : Option Addr} {len cap : Nat} {d : DataW H} {ps : List MemPlace} (ht : P.underlying t = some (.slice e)) (he : P.underlying e = some (.int k)) (hc : P.cellsOf e = 1)
    (h : DataW.Trod enc P w 0 (fun _ => true) held t (.slice a len cap) d ps) : ∃ zs, SlIs k w a len cap zs := by
  obtain ⟨fuel, hf⟩ := h
  rcases open_ints ht he hc hf with ⟨hcs, _⟩ | ⟨x, l, c, zs, hcs, _, hl, _, hz, _, hcell, hwf⟩
  · simp [Value.cells] at hcs
    obtain ⟨rfl, rfl, rfl⟩ := hcs
    exact ⟨[], rfl, Nat.le_refl _, fun n hn => by simp at hn, fun h => absurd h (by omega)⟩
  · simp [Value.cells] at hcs
    obtain ⟨rfl, rfl, rfl⟩ := hcs
    simp only [if_true] at hz
    refine ⟨zs.take len, by simp; omega, hl, fun n hn => hwf n (List.mem_of_mem_take hn), fun hcap => ?_⟩
    have h0 := hcell 0 (by omega)
    obtain ⟨b, o, sp⟩ := x
    have hx0 : (⟨b, o, sp⟩ : Addr).add 0 = ⟨b, o, sp⟩ := rfl
    rw [hx0] at h0
    unfold World.cell? at h0
    split at h0
    · rename_i cc ee fr hh
      have hsp : sp = none := by
        cases sp with
        | none => rfl
        | some s => simp at h0
      subst hsp
      have each : ∀ i, i < zs.length → cc[o + i]? = some (.int k (zs.getD i 0)) := by
        intro i hi
        have h1 := hcell i hi
        rw [addr_add] at h1
        simpa [World.cell?, hh] using h1
      refine ⟨b, o, rfl, cc, ee, fr, hh, ?_, fun i hi => ?_⟩
      · have := each (cap - 1) (by omega)
        have hlt := (Array.getElem?_eq_some_iff.1 this).1
        omega
      · rw [each i (by omega)]
        congr 2
        simp only [List.getD_eq_getElem?_getD, List.getElem?_take, if_pos hi]
    · cases h0

theorem sized_sl {H : Type} {enc : TypeId × Value → H} {P : Program} {w : World} {held : Bool} {t e : TypeId} {k : IntKind} {a : Option Addr} {len cap : Nat} {d : DataW H} {ps : List MemPlace} {ts : List TypeId} {ds : List (DataW H)} {j : Nat}
    (hsz : (DataW.weightsEach P ts ds).all (· ≤ reachBytes) = true) (h1 : ts[j]? = some t) (h2 : ds[j]? = some d) (ht : P.underlying t = some (.slice e)) (he : P.underlying e = some (.int k)) (hc : P.cellsOf e = 1) {B : Nat} (hB : P.bytesOf e = B)
    (h : DataW.Trod enc P w 0 (fun _ => true) held t (.slice a len cap) d ps) : len * B ≤ 140737488351232 := by
  obtain ⟨fuel, hf⟩ := h
  rcases open_ints ht he hc hf with ⟨hcs, _⟩ | ⟨x, l, c, zs, hcs, _, hl, _, hz, hx, _, _⟩
  · simp [Value.cells] at hcs
    obtain ⟨_, rfl, _⟩ := hcs
    omega
  · simp [Value.cells] at hcs
    obtain ⟨rfl, rfl, rfl⟩ := hcs
    simp only [if_true] at hz
    cases hx
    have := sized_slice hsz h1 h2 ht
    simp only [lits, List.length_map, List.length_take, List.length_drop, hB] at this
    refine Nat.le_trans (Nat.mul_le_mul_right B ?_) this
    omega

/-- the arguments' slices as a heap of read places -/
def roH (l : List (IntKind × List Int)) : Heap := l.map fun p => .live (.ints p.1 p.2) .ro

theorem roH_at (l : List (IntKind × List Int)) (b : Nat) (bk : Blk) (md : Md) (h : hget (roH l) b = some (bk, md)) : ∃ k z, l[b]? = some (k, z) ∧ bk = .ints k z ∧ md = .ro := by
  have key : ∀ (l : List (IntKind × List Int)) (b : Nat), hat (roH l) b = match l[b]? with | some p => .live (.ints p.1 p.2) .ro | none => .hole := by
    intro l
    induction l with
    | nil => intro b; rfl
    | cons x xs ih => intro b; cases b with
      | zero => rfl
      | succ b => simpa [roH, hat] using ih b
  unfold hget at h
  rw [key] at h
  cases hl : l[b]? with
  | none => rw [hl] at h; cases h
  | some p => rw [hl] at h; cases h; exact ⟨p.1, p.2, rfl, rfl, rfl⟩

def roM (A : Nat → Option Addr) (l : List (IntKind × List Int)) : Map := fun i =>
  match A i with
  | some x => (x.block, x.off, ((l.getD i (.i64, [])).2).length)
  | none => (0, 0, 0)

theorem roH_kn (l : List (IntKind × List Int)) (b : Nat) (h : b < l.length) : hkn (roH l) b = true := by
  induction l generalizing b with
  | nil => simp at h
  | cons x xs ih => cases b with
    | zero => rfl
    | succ b => exact ih b (by simpa using h)

theorem ro_sim {w : World} {A : Nat → Option Addr} {C : Nat → Nat} {l : List (IntKind × List Int)} (h : ∀ i k z, l[i]? = some (k, z) → SlIs k w (A i) z.length (C i) z) : Sim (roM A l) (roH l) w where
  blk b bk md hg := by
    obtain ⟨k, z, h1, rfl, rfl⟩ := roH_at l b bk md hg
    have s := h b k z h1
    have hz : (l.getD b (.i64, [])).2 = z := by simp [List.getD_eq_getElem?_getD, h1]
    by_cases hz0 : z.length = 0
    · have : (roM A l b).2.2 = 0 := by unfold roM; rw [hz]; split <;> simp [hz0]
      exact ⟨trivial, by simp [Blk.num, hz0], fun _ => by rw [this]; simp [Blk.num, hz0], fun hp => by omega⟩
    · have hle := s.hle
      obtain ⟨bb, o, ha, c, e, fr, g1, g2, g3⟩ := s.hat_ (by omega)
      have hm : roM A l b = (bb, o, z.length) := by unfold roM; rw [ha, hz]
      rw [hm]
      refine ⟨trivial, by simp [Blk.num, Blk.str], fun _ => by simp [Blk.num, Blk.str], fun _ => ⟨c, e, fr, g1, by simp only; omega, fun h => absurd rfl h, fun j x y v hv => ?_, fun i fo hi hf => ?_⟩⟩
      · simp only at x y
        have := g3 (j - o) (by omega)
        rw [show o + (j - o) = j by omega, hv] at this
        cases this
        rfl
      · simp only [Blk.num] at hi
        simp only [Blk.str] at hf
        obtain rfl : fo = 0 := by omega
        exact ⟨_, _, rfl, by simpa [Blk.str] using g3 i hi, .int _ _⟩
  dis b b' bk md bk' md' hg hg' _ hm := by
    obtain ⟨_, _, _, _, r1⟩ := roH_at l b bk md hg
    obtain ⟨_, _, _, _, r2⟩ := roH_at l b' bk' md' hg'
    rcases hm with q | q
    · exact absurd r1 q
    · exact absurd r2 q

theorem ro_vr {w : World} {A : Nat → Option Addr} {C : Nat → Nat} {l : List (IntKind × List Int)} (h : ∀ i k z, l[i]? = some (k, z) → SlIs k w (A i) z.length (C i) z) {i : Nat} {k : IntKind} {z : List Int} (hi : l[i]? = some (k, z)) : VR (roM A l) (roH l) (.whole i) (.slice (A i) z.length (C i)) := by
  have hlt : i < l.length := (List.getElem?_eq_some_iff.1 hi).1
  refine .whole i (A i) z.length (C i) (roH_kn l i hlt) fun bk md hg => ?_
  obtain ⟨k', z', h1, rfl, rfl⟩ := roH_at l i bk md hg
  rw [hi] at h1
  cases h1
  have s := h i k z hi
  refine ⟨rfl, s.hle, fun hmd => (by cases hmd), fun hc => ?_⟩
  obtain ⟨bb, o, ha, _⟩ := s.hat_ hc
  rw [ha]
  unfold roM
  rw [ha]
  simp

end Go.Ab
end

