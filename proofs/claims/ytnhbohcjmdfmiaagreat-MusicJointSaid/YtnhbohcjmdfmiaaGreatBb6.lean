/- An evaluator for the model's code over typed, abstract blocks, with its soundness, part 6 of 6: laws of any program; their conditions stand in each. -/
import Derived.Test.YtnhbohcjmdfmiaaGreatBb5
set_option linter.unusedVariables false
set_option linter.unusedSimpArgs false
section
/- What a printed text says of a function, in few words: its patterns alone; what they read and fill is told from them. No condition. -/
namespace Go.Ab
open Go

/-- a leaf's kind -/
inductive LK where | i | b | s | n | li | lr

def LK.T : LK → Type
  | .i => Int | .b => Bool | .s => ByteArray | .n => Nat | .li => List Int | .lr => List (List Int)
def LK.rd : (k : LK) → Lf → Option k.T
  | .i, l => match l with | .i x => some x | _ => none
  | .b, l => match l with | .b x => some x | _ => none
  | .s, l => match l with | .s x => some x | _ => none
  | .n, l => match l with | .n x => some x | _ => none
  | .li, l => match l with | .li x => some x | _ => none
  | .lr, l => match l with | .lr x => some x | _ => none
def LK.mk : (k : LK) → k.T → Lf
  | .i, x => .i x | .b, x => .b x | .s, x => .s x | .n, x => .n x | .li, x => .li x | .lr, x => .lr x
theorem LK.rd_mk {k : LK} {l : Lf} {x : k.T} (h : k.rd l = some x) : l = k.mk x := by
  cases k <;> cases l <;> first | (cases h; rfl) | cases h

def TupC : LK → List LK → Type
  | k, [] => k.T
  | k, k' :: l => k.T × TupC k' l
def Tup : List LK → Type
  | [] => Unit
  | k :: l => TupC k l
def andO {A B : Type} : Option A → Option B → Option (A × B)
  | some a, some b => some (a, b)
  | _, _ => none
theorem andO_some {A B : Type} {x : Option A} {y : Option B} {p : A × B} (h : andO x y = some p) : x = some p.1 ∧ y = some p.2 := by
  cases x <;> cases y <;> first | (cases h; exact ⟨rfl, rfl⟩) | cases h
def rdC : (k : LK) → (l : List LK) → List Lf → Option (TupC k l)
  | k, [], ls => match ls with
    | [] => none
    | x :: xs => match xs with
      | [] => k.rd x
      | _ :: _ => none
  | k, k' :: l, ls => match ls with
    | [] => none
    | x :: xs => andO (k.rd x) (rdC k' l xs)
def fstC {k k' : LK} {l : List LK} (x : TupC k (k' :: l)) : k.T := Prod.fst (α := k.T) (β := TupC k' l) x
def sndC {k k' : LK} {l : List LK} (x : TupC k (k' :: l)) : TupC k' l := Prod.snd (α := k.T) (β := TupC k' l) x
def mkC : (k : LK) → (l : List LK) → TupC k l → List Lf
  | k, [], x => [k.mk x]
  | k, _ :: l, x => k.mk (fstC x) :: mkC _ l (sndC x)
theorem rdC_mk : ∀ (l : List LK) (k : LK) (ls : List Lf) (d : TupC k l), rdC k l ls = some d → ls = mkC k l d := by
  intro l
  induction l with
  | nil =>
    intro k ls d h
    cases ls with
    | nil => cases h
    | cons x xs =>
      cases xs with
      | nil => exact congrArg (· :: []) (LK.rd_mk h)
      | cons y ys => cases h
  | cons k' l ih =>
    intro k ls d h
    cases ls with
    | nil => cases h
    | cons x xs =>
      have h2 := andO_some (A := k.T) (B := TupC k' l) (p := d) h
      have e1 : x = k.mk (fstC d) := LK.rd_mk h2.1
      have e2 : xs = mkC k' l (sndC d) := ih k' xs _ h2.2
      show x :: xs = k.mk (fstC d) :: mkC k' l (sndC d)
      rw [e1, e2]
def rdT : (l : List LK) → List Lf → Option (Tup l)
  | [], ls => match ls with | [] => some () | _ => none
  | k :: l, ls => rdC k l ls
def mkT : (l : List LK) → Tup l → List Lf
  | [], _ => []
  | k :: l, x => mkC k l x
theorem rdT_mk : ∀ (l : List LK) (ls : List Lf) (d : Tup l), rdT l ls = some d → ls = mkT l d
  | [], ls, d, h => by
    match ls, h with
    | [], _ => rfl
  | k :: l, ls, d, h => rdC_mk l k ls d h

mutual
def svK : SV → List LK
  | .int _ => [.i]
  | .bool => [.b]
  | .str => [.s]
  | .part _ => [.n, .n]
  | .ptr _ _ => [.n]
  | .func _ f c => svKL f ++ svKL c
  | .iface _ v => svK v
  | .agg l => svKL l
  | .tuple l => svKL l
  | _ => []
def svKL : List SV → List LK
  | [] => []
  | p :: r => svK p ++ svKL r
end
def sbK : List (SB × Md) → List LK
  | [] => []
  | (.ints _, _) :: r => .li :: sbK r
  | (.recs _, _) :: r => .lr :: sbK r
  | (.vals _ l, _) :: r => svKL l ++ sbK r
  | _ :: r => sbK r
def slK : List (Nat × SV) → List LK
  | [] => []
  | p :: r => svK p.2 ++ slK r
def skK (s : Sk) : List LK := slK s.slots ++ sbK s.blocks

abbrev Ex := Nat × Sk
def SumC : Ex → List Ex → Type
  | x, [] => Tup (skK x.2)
  | x, y :: r => Tup (skK x.2) ⊕ SumC y r
def mapO {A B : Type} (f : A → B) : Option A → Option B
  | some a => some (f a)
  | none => none
def exitsX : (x : Ex) → (r : List Ex) → List (Nat × Sk × (List Lf → Option (SumC x r)))
  | x, [] => [(x.1, x.2, rdT (skK x.2))]
  | x, y :: r => (x.1, x.2, fun ls => mapO Sum.inl (rdT (skK x.2) ls)) :: (exitsX y r).map fun p => (p.1, p.2.1, fun ls => mapO Sum.inr (p.2.2 ls))
def exX : (x : Ex) → (r : List Ex) → SumC x r → Nat × Sk × List Lf
  | x, [], o => (x.1, x.2, mkT (skK x.2) o)
  | x, y :: r, o => match (show Tup (skK x.2) ⊕ SumC y r from o) with
    | .inl a => (x.1, x.2, mkT (skK x.2) a)
    | .inr b => exX y r b
def outX {X : Type} : (x : Ex) → (r : List Ex) → SumC x r → (Exit → St → Option X) → Option X
  | x, [], o, k => k (exOf x.1) (fiS x.2 (mkT (skK x.2) o))
  | x, y :: r, o, k => match (show Tup (skK x.2) ⊕ SumC y r from o) with
    | .inl a => k (exOf x.1) (fiS x.2 (mkT (skK x.2) a))
    | .inr b => outX y r b k
theorem outX_eq {X : Type} (k : Exit → St → Option X) : ∀ (x : Ex) (r : List Ex) (o : SumC x r), outX x r o k = k (exOf (exX x r o).1) (fiS (exX x r o).2.1 (exX x r o).2.2)
  | x, [], o => rfl
  | x, y :: r, o => by
    match o with
    | .inl a => rfl
    | .inr b => exact outX_eq k y r b

def nz (n0 : Nat) (x : Ex) (r : List Ex) : Bool := (x :: r).all fun e => Nat.beq e.2.n0 n0
theorem mapO_some {A B : Type} {f : A → B} {o : Option A} {b : B} (h : mapO f o = some b) : ∃ a, o = some a ∧ f a = b := by
  cases o with
  | none => cases h
  | some a => injection h with h; exact ⟨a, rfl, h⟩
theorem exitsX_ok {n0 : Nat} : ∀ (x : Ex) (r : List Ex), nz n0 x r = true → ExOk n0 (exitsX x r) (exX x r)
  | x, [], h => by
    simp [nz] at h
    exact exOk_cons h (fun ls o h => by simp only [exX]; rw [← rdT_mk _ _ _ h]) exOk_nil
  | x, y :: r, h => by
    simp [nz] at h
    refine exOk_cons h.1 (fun ls o h => ?_) ?_
    · obtain ⟨a, h1, rfl⟩ := mapO_some h
      simp only [exX]
      rw [← rdT_mk _ _ _ h1]
    · intro e he
      obtain ⟨p, hp, rfl⟩ := List.mem_map.1 he
      have := exitsX_ok (n0 := n0) y r (by simp [nz, h.2.1]; exact h.2.2) p hp
      refine ⟨this.1, fun ls o ho => ?_⟩
      obtain ⟨a, h1, rfl⟩ := mapO_some ho
      simp only [exX]
      exact this.2 ls a h1

/-- a piece of code that is told -/
structure Pc (P : Program) (n0 : Nat) where
  code : Code
  J : ∀ X : Type, Contract X
  ok : ∀ X, CodeOk P n0 code (J X)
  sees : St → Bool
/-- one of two: the first that fits -/
def mkAlt {P : Program} {n0 : Nat} (p q : Pc P n0) (c : Code) (h1 : p.code = c) (h2 : q.code = c) : Pc P n0 where
  code := c
  J X k s := match p.sees s with | true => p.J X k s | false => q.J X k s
  sees s := p.sees s || q.sees s
  ok X := by
    have hp := p.ok X
    have hq := q.ok X
    rw [h1] at hp
    rw [h2] at hq
    intro k s r hr B m a w hn hon Q hQ
    cases hf : p.sees s with
    | true => simp only [hf] at hr; exact hp k s r hr B m a w hn hon Q hQ
    | false => simp only [hf] at hr; exact hq k s r hr B m a w hn hon Q hQ
def isSm {A : Type} : Option A → Bool
  | some _ => true
  | none => false
def Pc.fit {P : Program} {n0 : Nat} (X : Type) (p : Pc P n0) : Code × Contract X := (p.code, p.J X)
theorem Pc.all {P : Program} {n0 : Nat} {X : Type} (l : List (Pc P n0)) : ∀ p ∈ l.map (Pc.fit X), CodeOk P n0 p.1 p.2 := by
  intro p hp
  obtain ⟨q, _, rfl⟩ := List.mem_map.1 hp
  exact q.ok X
theorem Pc.fits {P : Program} {n0 : Nat} {X : Type} {c : Ctx X} {b : Code} {l : List (Pc P n0)} (h : fitsL c b = l.map (Pc.fit X)) : ∀ p ∈ fitsL c b, CodeOk P n0 p.1 p.2 := by rw [h]; exact Pc.all l

/-- a function that is told -/
structure AbFn (P : Program) where
  r : Row
  ok : CallOk P r.f r.J
theorem AbFn.rows {P : Program} (l : List (AbFn P)) : RowsOk P (l.map (·.r)) := fun r hr => by
  obtain ⟨q, _, rfl⟩ := List.mem_map.1 hr
  exact q.ok

def cx (P : Program) {n0 : Nat} (T : List (AbFn P)) (B C : List (Nat × Pc P n0)) (X : Type) : Ctx X := mkCtx P (T.map (·.r)) (B.map fun p => (p.1, p.2.J)) (C.map fun p => (p.1, p.2.J)) X
theorem cx_ok {P : Program} {n0 : Nat} (T : List (AbFn P)) (B C : List (Nat × Pc P n0)) (X : Type) : CtxOk (cx P T B C X) := ctx_ok (AbFn.rows T) _ _ X

def loopJ (sk : Sk) (x : Ex) (r : List Ex) (id : Nat) (l : Tup (skK sk) → Option (SumC x r)) (X : Type) : Contract X :=
  fun c s => (pt sk (rdT (skK sk)) s).bind fun d => (l d).bind fun o => outX x r o fun e s => c (leaveB id e) s
def cutJ (sk : Sk) (x : Ex) (r : List Ex) (l : Tup (skK sk) → Option (SumC x r)) (X : Type) : Contract X :=
  fun c s => (pt sk (rdT (skK sk)) s).bind fun d => (l d).bind fun o => outX x r o c

def mkLoop {P : Program} {n0 : Nat} (hm : P.follows .mixedOrders = true) (T : List (AbFn P)) (B C : List (Nat × Pc P n0)) (fit : List (Pc P n0)) (id : Nat) (body : Code) (sk : Sk) (x : Ex) (r : List Ex)
    (F : (Tup (skK sk) → Option (SumC x r)) → Tup (skK sk) → Option (SumC x r)) (k : Nat) (hn : (Nat.beq sk.n0 n0 && nz n0 x r) = true)
    (hfit : fitsL (cx P T B C (SumC x r)) body = fit.map (Pc.fit (SumC x r)))
    (run : ∀ rec d, evC (cx P T B C (SumC x r)) body (backK (fun s => (pt sk (rdT (skK sk)) s).bind rec) (exitsX x r)) (fiS sk (mkT (skK sk) d)) = F rec d) : Pc P n0 where
  code := .block id (.loop body)
  J := loopJ sk x r id (itN F k)
  sees s := isSm (pt sk (rdT (skK sk)) s)
  ok X := by
    simp only [Bool.and_eq_true] at hn
    have h0 : sk.n0 = n0 := Nat.eq_of_beq_eq_true hn.1
    exact loop_mk (c := cx P T B C) (cx_ok T B C) rfl hm (Pc.fits hfit) h0 (rdT_mk _) (exitsX_ok x r hn.2) (l := itN F) (fun _ => rfl) (fun n d => run (itN F n) d)
      (exK := fun X o k => outX x r o fun e s => k (leaveB id e) s) (fun X o k => outX_eq _ x r o) k X

def mkCut {P : Program} {n0 : Nat} (hm : P.follows .mixedOrders = true) (T : List (AbFn P)) (B C : List (Nat × Pc P n0)) (fit : List (Pc P n0)) (body : Code) (sk : Sk) (x : Ex) (r : List Ex)
    (F : Tup (skK sk) → Option (SumC x r)) (hn : (Nat.beq sk.n0 n0 && nz n0 x r) = true)
    (hfit : fitsL (cx P T B C (SumC x r)) body = fit.map (Pc.fit (SumC x r)))
    (run : ∀ d, evC (cx P T B C (SumC x r)) body (koE (exitsX x r)) (fiS sk (mkT (skK sk) d)) = F d) : Pc P n0 where
  code := body
  J := cutJ sk x r F
  sees s := isSm (pt sk (rdT (skK sk)) s)
  ok X := by
    simp only [Bool.and_eq_true] at hn
    have h0 : sk.n0 = n0 := Nat.eq_of_beq_eq_true hn.1
    exact piece_mk (c := cx P T B C) (cx_ok T B C) rfl hm (Pc.fits hfit) h0 (rdT_mk _) (exitsX_ok x r hn.2) run
      (exK := fun X o k => outX x r o k) (fun X o k => outX_eq _ x r o) X

def finsX (x : Ex) (r : List Ex) : List (Sk × (List Lf → Option (SumC x r))) := (exitsX x r).map fun p => p.2
def finOut {X : Type} (x : Ex) (r : List Ex) (o : SumC x r) (k : AV → Heap → Option X) : Option X := outX x r o fun _ s => k (tget s.tmps 0) s.heap
def nt1 (x : Ex) (r : List Ex) : Bool := (x :: r).all fun e => Nat.beq e.2.nt 1
theorem nt1_ok : ∀ (x : Ex) (r : List Ex), nt1 x r = true → ∀ e ∈ finsX x r, e.1.nt = 1
  | x, [], h, e, he => by
    simp [finsX, exitsX] at he
    subst he
    simpa [nt1] using h
  | x, y :: r, h, e, he => by
    simp [nt1] at h
    simp only [finsX, exitsX, List.map_cons, List.mem_cons, List.map_map, List.mem_map] at he
    rcases he with rfl | ⟨p, hp, rfl⟩
    · exact h.1
    · exact nt1_ok y r (by simp [nt1, h.2.1]; exact h.2.2) p.2 (List.mem_map.2 ⟨p, hp, rfl⟩)
theorem finsX_ok {n0 : Nat} (x : Ex) (r : List Ex) (h : nz n0 x r = true) (h1 : nt1 x r = true) : FinOk n0 (finsX x r) (fun o => (exX x r o).2) := fun e he => by
  have hnt := nt1_ok x r h1 e he
  obtain ⟨p, hp, rfl⟩ := List.mem_map.1 he
  have := exitsX_ok (n0 := n0) x r h p hp
  exact ⟨this.1, hnt, fun ls o ho => by show (exX x r o).2 = _; rw [this.2 ls o ho]⟩

def psK (ps : List SV) (bs : List (SB × Md)) : List LK := svKL ps ++ sbK bs
/-- what is told of a function: for what arguments; what it answers -/
def fnRow (f : FuncId) (ps : List SV) (bs : List (SB × Md)) (x : Ex) (r : List Ex) (g : Tup (psK ps bs) → Option (SumC x r)) : Row :=
  ⟨f, ps, bs, fun X => callF ps bs (fun ls => (rdT (psK ps bs) ls).bind g) (finOut x r)⟩

theorem fnRow_ok {P : Program} (hm : P.follows .mixedOrders = true) (T : List (AbFn P)) (ps : List SV) (bs : List (SB × Md)) (B C : List (Nat × Pc P bs.length)) (fit : List (Pc P bs.length)) (f : FuncId) (fn : Func) (x : Ex) (r : List Ex)
    (g : Tup (psK ps bs) → Option (SumC x r)) (hf : P.funcs[f]? = some fn) (hn : ((fn.body.isSome && !(fn.name == "runtime.NumGoroutine")) && ((nz bs.length x r && nt1 x r) && Nat.ble ps.length fn.ntmps)) = true)
    (hfit : fitsL (cx P T B C (SumC x r)) (bodyOf fn) = fit.map (Pc.fit (SumC x r)))
    (run : ∀ d, evC (cx P T B C (SumC x r)) (bodyOf fn) (funcK P fn.results.toList (finsX x r)) (fiA fn.ntmps ps bs (mkT (psK ps bs) d)) = g d) : CallOk P f (fnRow f ps bs x r g).J := by
  simp only [Bool.and_eq_true, Bool.not_eq_true'] at hn
  obtain ⟨⟨h1, h2⟩, ⟨h3, h4⟩, h5⟩ := hn
  exact func_mk (c := cx P T B C) (cx_ok T B C) rfl hm hf h1 h2 rfl (Pc.fits hfit) (Nat.le_of_ble_eq_true h5) (rdT_mk _) (finsX_ok x r h3 h4) run (outK := fun X o k => finOut x r o k) (fun X o k => outX_eq _ x r o)

def mkFn {P : Program} (hm : P.follows .mixedOrders = true) (T : List (AbFn P)) (ps : List SV) (bs : List (SB × Md)) (B C : List (Nat × Pc P bs.length)) (fit : List (Pc P bs.length)) (f : FuncId) (fn : Func) (x : Ex) (r : List Ex)
    (g : Tup (psK ps bs) → Option (SumC x r)) (hf : P.funcs[f]? = some fn) (hn : ((fn.body.isSome && !(fn.name == "runtime.NumGoroutine")) && ((nz bs.length x r && nt1 x r) && Nat.ble ps.length fn.ntmps)) = true)
    (hfit : fitsL (cx P T B C (SumC x r)) (bodyOf fn) = fit.map (Pc.fit (SumC x r)))
    (run : ∀ d, evC (cx P T B C (SumC x r)) (bodyOf fn) (funcK P fn.results.toList (finsX x r)) (fiA fn.ntmps ps bs (mkT (psK ps bs) d)) = g d) : AbFn P :=
  ⟨fnRow f ps bs x r g, fnRow_ok hm T ps bs B C fit f fn x r g hf hn hfit run⟩

/-- a function that calls itself, n deep -/
theorem fnRow_zero {P : Program} (f : FuncId) (ps : List SV) (bs : List (SB × Md)) (x : Ex) (r : List Ex) : CallOk P f (fnRow f ps bs x r (fun _ => none)).J := by
  refine func_zero (g := fun ls => (rdT (psK ps bs) ls).bind fun _ => none) (outK := fun X o k => finOut x r o k) fun ls => ?_
  cases rdT (psK ps bs) ls <;> rfl

theorem fnRow_rec {P : Program} {f : FuncId} {ps : List SV} {bs : List (SB × Md)} {x : Ex} {r : List Ex} {F : (Tup (psK ps bs) → Option (SumC x r)) → Tup (psK ps bs) → Option (SumC x r)}
    (h : ∀ rec, CallOk P f (fnRow f ps bs x r rec).J → CallOk P f (fnRow f ps bs x r (F rec)).J) (n : Nat) : CallOk P f (fnRow f ps bs x r (itN F n)).J := by
  induction n with
  | zero => exact fnRow_zero f ps bs x r
  | succ n ih => exact h _ ih

end Go.Ab
end

section
/- A function whose contract was shown by other means. No condition. -/
namespace Go.Ab
open Go

theorem ext_ok {O : Type} {P : Program} {f : FuncId} {fn : Func} (hf : P.funcs[f]? = some fn) (hbody : fn.body.isSome = true) (hname : (fn.name == "runtime.NumGoroutine") = false)
    {ps : List SV} {bs : List (SB × Md)} {g : List Lf → Option O} {out : O → AV × Heap} {outK : ∀ X : Type, O → (AV → Heap → Option X) → Option X} (hout : ∀ X o k, outK X o k = k (out o).1 (out o).2)
    (hrun : ∀ ls o, g ls = some o → ∀ (m : Map) (w : World) (args' : Array Value), Sim m (fH bs (fVL ps ls).2).1 w → (fVL ps ls).1.length = args'.size →
      (∀ (j : Nat) (x : AV) (y : Value), (fVL ps ls).1[j]? = some x → args'[j]? = some y → VR m (fH bs (fVL ps ls).2).1 x y) →
      Calls P f args' w fun e w' => ∃ v m', e = .returned v ∧ VR m' (out o).2 (out o).1 v ∧ Sim m' (out o).2 w' ∧ Tr m (fH bs (fVL ps ls).2).1 w m' (out o).2 w') :
    CallOk P f (fun X => callF ps bs g (outK X)) := by
  intro X args K q k r h
  simp only [callF] at h
  split at h
  · rename_i l1 vs1 h1
    split at h
    · rename_i l2 vs2 h2
      split at h
      · rename_i hck
        simp only [Option.bind_eq_some_iff] at h
        obtain ⟨o, hgo, h⟩ := h
        rw [hout] at h
        split at h
        · rename_i D hD
          refine ⟨_, D, h, ⟨fn, hf, by cases hb : fn.body <;> simp_all, hname⟩, ?_⟩
          intro m H w args' hsub hfresh hsim hlen hargs
          simp only [Bool.and_eq_true] at hck
          obtain ⟨ha, hh, hal, hso⟩ := hck
          obtain ⟨a1, ⟨ys, b1, c1, d1⟩, e1⟩ := mVL_spec _ _ _ _ _ h1
          have hV1 : ∀ i u, vat vs1 i = some u → VOk m H u := by
            intro i u hi
            rcases e1 m H (fun j x hx => by
              have hj : j < args'.size := by rw [← hlen]; exact (List.getElem?_eq_some_iff.1 hx).1
              exact ⟨args'[j], hargs j x _ hx (by simp [hj])⟩) i u hi with p | p
            · rw [noV_at] at p; cases p
            · exact p
          obtain ⟨a2, b2, L, c2, d2, e2⟩ := mH_spec hsim bs 0 vs1 vs2 l2 hV1 (mH_mono hsub _ _ _ _ h2)
          have hvl : vs2.length = bs.length := by rw [a2.1, a1.1, noV_length]
          have hE : ∀ i sb md, bs[i]? = some (sb, md) → EntOk m H vs2 i sb md (hat L i) := fun i sb md hi => by have := e2 i sb md hi; rwa [Nat.zero_add] at this
          have hsm := small_of hsim hvl d2 hE ha hh
          have hlive := allLive_spec bs hal
          have hent : ∀ (j : Nat) (sb : SB) (md : Md), bs[j]? = some (sb, md) → ∃ lb v, hat L j = .live lb md ∧ vat vs2 j = some v ∧ Seen m H (vat vs2) lb md v := by
            intro j sb md hj
            have := hE j sb md hj
            obtain ⟨n1, n2⟩ := hlive j sb md hj
            cases sb with
            | hole => exact absurd rfl n1
            | dead => exact absurd rfl n2
            | ints k => exact this
            | recs k => exact this
            | vals n l => exact this
          have hfv : fVL ps (l1 ++ l2) = (ys, l2) := b1 l2
          have hfh : (fH bs l2).1 = L := by
            have := c2 []
            rw [List.append_nil] at this
            rw [this]
          have hsl := hsm.sim hsim
          have hr := hrun (l1 ++ l2) o hgo (mlOf m H vs2 bs) w args'
          rw [hfv] at hr
          simp only [hfh] at hr
          refine (hr hsl (by omega) fun j x y hx hy => ?_).mono fun e w' ⟨v, m'', he, hv', hs'', ht''⟩ => ?_
          · have hj : j < ys.length := (List.getElem?_eq_some_iff.1 hx).1
            have hj1 : j < args.length := by omega
            have hl := d1 j args[j] x (by simp [hj1]) hx
            exact (hl.mono a2.2).vr hsim hsm _ (hargs j _ _ (by simp [hj1]) hy)
          · subst he
            have hslo : slOk K vs2 bs = slOk H vs2 bs := by
              funext j
              unfold slOk
              cases hv : vat vs2 j with
              | none => rfl
              | some v =>
                cases hb : bs[j]? with
                | none => rfl
                | some p =>
                  obtain ⟨sb, md⟩ := p
                  simp only
                  cases hid : vId v with
                  | none => rfl
                  | some b =>
                    simp only
                    have hkb : ∃ z, hget K b = some z := by
                      have hjj : vat vs2 (0 + j) = some v := by rw [Nat.zero_add]; exact hv
                      exact (show ∀ (bs' : List (SB × Md)) (i : Nat) (vs vs' : Vs) (ls : List Lf), mH K bs' i vs = some (ls, vs') → (∀ (j : Nat) sb md, bs'[j]? = some (sb, md) → sb ≠ .hole ∧ sb ≠ .dead) → ∀ (j : Nat) sb md v b, bs'[j]? = some (sb, md) → vat vs' (i + j) = some v → vId v = some b → ∃ z, hget K b = some z by
                        intro bs'
                        induction bs' with
                        | nil => intro i vs vs' ls _ _ j sb md v b hj; simp at hj
                        | cons p bs' ih =>
                          intro i vs vs' ls hm hlv j sb md v b hj hv hb
                          obtain ⟨sb0, md0⟩ := p
                          obtain ⟨n1, n2⟩ := hlv 0 sb0 md0 rfl
                          have hm' : (match vat vs i with
                            | some v => match mB K sb0 md0 v vs with
                              | some (l1, vs1) => match mH K bs' (i + 1) vs1 with
                                | some (l2, vs2) => some (l1 ++ l2, vs2)
                                | none => none
                              | none => none
                            | none => none) = some (ls, vs') := by
                            cases sb0 with
                            | hole => exact absurd rfl n1
                            | dead => exact absurd rfl n2
                            | ints k => exact hm
                            | recs k => exact hm
                            | vals n l => exact hm
                          split at hm'
                          · rename_i v0 hv0
                            split at hm'
                            · rename_i l1' vs1' hb1
                              split at hm'
                              · rename_i l2' vs2' hm2
                                cases hm'
                                cases j with
                                | zero =>
                                  -- the view at i stays
                                  have hle : ∀ (bs' : List (SB × Md)) (i : Nat) (vs vs' : Vs) (ls : List Lf), mH K bs' i vs = some (ls, vs') → LeV vs vs' := by
                                    intro bs'
                                    induction bs' with
                                    | nil => intro i vs vs' ls h; simp only [mH] at h; cases h; exact LeV.refl _
                                    | cons p bs' ih =>
                                      intro i vs vs' ls h
                                      obtain ⟨sb, md⟩ := p
                                      have live : (match vat vs i with
                                        | some v => match mB K sb md v vs with
                                          | some (l1, vs1) => match mH K bs' (i + 1) vs1 with
                                            | some (l2, vs2) => some (l1 ++ l2, vs2)
                                            | none => none
                                          | none => none
                                        | none => none) = some (ls, vs') → LeV vs vs' := by
                                        intro h
                                        split at h
                                        · rename_i v hv
                                          split at h
                                          · rename_i l1 vs1 hb
                                            split at h
                                            · rename_i l2 vs2 hm
                                              cases h
                                              exact (mB_le hb).trans (ih _ _ _ _ hm)
                                            · cases h
                                          · cases h
                                        · cases h
                                      cases sb with
                                      | hole => exact ih _ _ _ _ h
                                      | dead => exact ih _ _ _ _ h
                                      | ints k => exact live h
                                      | recs k => exact live h
                                      | vals n l => exact live h
                                  have h3 := ((mB_le hb1).trans (hle _ _ _ _ _ hm2)).2 _ _ hv0
                                  rw [Nat.add_zero, h3] at hv
                                  injection hv with hv
                                  subst hv
                                  have : ∃ p, vB K v0 = some p := by
                                    have hne : ∀ z, v0 ≠ .ph z := by rintro z rfl; cases hb
                                    have h1' : mB1 K sb0 md0 v0 vs = some (l1', vs1') := by
                                      cases v0 with
                                      | ph z => exact absurd rfl (hne z)
                                      | full b => exact hb1
                                      | sub b off len => exact hb1
                                      | el b i fo n => exact hb1
                                    unfold mB1 at h1'
                                    split at h1'
                                    · rename_i hq; exact ⟨_, hq⟩
                                    · cases h1'
                                  obtain ⟨⟨gb, md9⟩, hp⟩ := this
                                  obtain ⟨b', bk, i1, i2⟩ := vB_id hp
                                  rw [hb] at i1
                                  cases i1
                                  exact ⟨_, i2⟩
                                | succ j =>
                                  refine ih (i + 1) _ _ _ hm2 (fun j sb md hj => hlv (j + 1) sb md (by simpa using hj)) j sb md v b (by simpa using hj) (by rw [show i + 1 + j = i + (j + 1) by omega]; exact hv) hb
                              · cases hm'
                            · cases hm'
                          · cases hm') bs 0 vs1 vs2 l2 h2 hlive j sb md v b hb hjj hid
                    obtain ⟨z, hz⟩ := hkb
                    rw [hz, hsub _ _ hz]
            have hD' := backD_mono hsub _ _ _ _ hD
            rw [hslo] at hD' ⊢
            have hret : Ret m (mlOf m H vs2 bs) m'' H L (out o).2 w w' vs2 q bs D := {
              hs := hsim, sm := hsm, len := d2, vlen := hvl, live := hlive, ent := hent, hs' := hs'', tr := ht''
              back := backD_spec bs (out o).2 0 D (fun i => by rw [Nat.zero_add]) (fun i => by rw [Nat.zero_add]) (by omega) (.inl (Nat.zero_le _)) hD'
              fresh := hfresh
              nosub := fun j b off len hv sb => subOk_spec bs 0 vs2 hso j b off len (by rw [Nat.zero_add]; exact hv) sb }
            exact ⟨_, _, rfl, hret.sim, hret.vr hv', hret.trans⟩
        · cases h
      · cases h
    · cases h
  · cases h

end Go.Ab
end

section
/- A piece of code that looks at a part of the state alone: the rest stays as it is. No condition. -/
namespace Go.Ab
open Go

section
variable {X : Type}

def mergeT (M : Nat) (g : AV → AV) : Nat → List AV → List AV → List AV
  | _, [], _ => []
  | j, x :: T, T1 => (match Nat.testBit M j with
    | true => (match T1 with | y :: _ => g y | [] => .undef)
    | false => x) :: mergeT M g (j + 1) T (match T1 with | _ :: r => r | [] => [])

theorem mergeT_length (M : Nat) (g : AV → AV) : ∀ (T T1 : List AV) (j : Nat), (mergeT M g j T T1).length = T.length
  | [], _, _ => rfl
  | x :: T, T1, j => by simp only [mergeT, List.length_cons, mergeT_length M g T]

theorem mergeT_at (M : Nat) (g : AV → AV) : ∀ (T T1 : List AV) (j t : Nat), tget (mergeT M g j T T1) t = .undef ∨ (Nat.testBit M (j + t) = true ∧ tget (mergeT M g j T T1) t = g (tget T1 t)) ∨ (Nat.testBit M (j + t) = false ∧ tget (mergeT M g j T T1) t = tget T t)
  | [], _, _, _ => .inl rfl
  | x :: T, T1, j, t => by
    cases t with
    | zero =>
      simp only [mergeT, tget, Nat.add_zero]
      cases hb : Nat.testBit M j with
      | true =>
        cases T1 with
        | nil => exact .inl rfl
        | cons y r => exact .inr (.inl ⟨rfl, rfl⟩)
      | false => exact .inr (.inr ⟨rfl, rfl⟩)
    | succ t =>
      simp only [mergeT, tget]
      have := mergeT_at M g T (match T1 with | _ :: r => r | [] => []) (j + 1) t
      rw [show j + 1 + t = j + (t + 1) by omega] at this
      cases T1 with
      | nil =>
        rcases this with h | ⟨h1, h2⟩ | h
        · exact .inl h
        · exact .inr (.inl ⟨h1, h2⟩)
        · exact .inr (.inr h)
      | cons y r => exact this

def frameJ (M nt : Nat) (sl : List (Nat × SV)) (bs : List (SB × Md)) (J : Contract X) : Contract X := fun k s =>
  match Nat.beq s.tmps.length nt with
  | true => match mVL (sl.map (·.2)) (sl.map fun p => tget s.tmps p.1) (noV bs) with
    | some (l1, vs1) => match mH s.heap bs 0 vs1 with
      | some (l2, vs2) => match apartOk (idsOf bs 0 vs2) && (holesOk bs 0 vs2 && (allLive bs && subOk bs 0 vs2)) with
        | true => J (fun e s1 => match backD s.heap vs2 (vsU vs2 s1.heap) (slOk s.heap vs2 bs) bs.length s.heap.length bs s1.heap 0 with
            | some D => k e ⟨mergeT M (gV (vsU vs2 s1.heap) (slOk s.heap vs2 bs) bs.length s.heap.length) 0 s.tmps s1.tmps, hput s.heap D⟩
            | none => none) (fiS ⟨nt, bs.length, sl, bs⟩ (l1 ++ l2))
        | false => none
      | none => none
    | none => none
  | false => none

theorem frame_ok {P : Program} {n0 : Nat} {code : Code} {J : Contract X} {M nt : Nat} {sl : List (Nat × SV)} {bs : List (SB × Md)} (hJ : CodeOk P bs.length code J) (hM : ∀ t, Nat.testBit M t = false → asgB code t = false) : CodeOk P n0 code (frameJ M nt sl bs J) := by
  intro k s r h B m a w hn hon Q hQ
  unfold frameJ at h
  split at h
  · rename_i hlen
    split at h
    · rename_i l1 vs1 h1
      split at h
      · rename_i l2 vs2 h2
        split at h
        · rename_i hck
          simp only [Bool.and_eq_true] at hck
          obtain ⟨ha, hh, hal, hso⟩ := hck
          have hs := hon.at_.sim
          obtain ⟨a1, ⟨ys, b1, c1, d1⟩, e1⟩ := mVL_spec _ _ _ _ _ h1
          have hV1 : ∀ i u, vat vs1 i = some u → VOk m s.heap u := by
            intro i u hi
            rcases e1 m s.heap (fun j x hx => by
              simp only [List.getElem?_map, Option.map_eq_some_iff] at hx
              obtain ⟨p, _, rfl⟩ := hx
              exact ⟨_, hon.at_.tr.at_ p.1⟩) i u hi with q | q
            · rw [noV_at] at q; cases q
            · exact q
          obtain ⟨a2, b2, L, c2, d2, e2⟩ := mH_spec hs bs 0 vs1 vs2 l2 hV1 h2
          have hvl : vs2.length = bs.length := by rw [a2.1, a1.1, noV_length]
          have hE : ∀ i sb md, bs[i]? = some (sb, md) → EntOk m s.heap vs2 i sb md (hat L i) := fun i sb md hi => by have := e2 i sb md hi; rwa [Nat.zero_add] at this
          have hsm := small_of hs hvl d2 hE ha hh
          have hlive := allLive_spec bs hal
          have hent : ∀ (j : Nat) (sb : SB) (md : Md), bs[j]? = some (sb, md) → ∃ lb v, hat L j = .live lb md ∧ vat vs2 j = some v ∧ Seen m s.heap (vat vs2) lb md v := by
            intro j sb md hj
            have := hE j sb md hj
            obtain ⟨n1, n2⟩ := hlive j sb md hj
            cases sb with
            | hole => exact absurd rfl n1
            | dead => exact absurd rfl n2
            | ints k => exact this
            | recs k => exact this
            | vals n l => exact this
          have hfi : fiS ⟨nt, bs.length, sl, bs⟩ (l1 ++ l2) = ⟨putAll sl ys (List.replicate nt .undef), L⟩ := by
            unfold fiS
            simp only
            rw [b1]
            simp only
            have := c2 []
            rw [List.append_nil] at this
            rw [this]
          rw [hfi] at h
          have hon1 : On ⟨mlOf m s.heap vs2 bs, L, w, a.defers⟩ (mlOf m s.heap vs2 bs) ⟨putAll sl ys (List.replicate nt .undef), L⟩ a w := by
            refine ⟨⟨hsm.sim hs, ⟨?_, fun t => ?_⟩⟩, Tr.refl _ _ _, rfl⟩
            · simp only [putAll_length, List.length_replicate]
              have h3 := hon.at_.tr.len
              have : s.tmps.length = nt := by simpa using hlen
              omega
            · rcases putAll_at sl ys (List.replicate nt .undef) t with q | q | ⟨i, p, y, q1, q2, q3⟩
              · have : tget (List.replicate nt AV.undef) t = .undef := by
                  rw [tget_eq]
                  simp only [List.getD_eq_getElem?_getD, List.getElem?_replicate]
                  split <;> rfl
                simp only [q, this]
                exact .undef _
              · simp only [q]; exact .undef _
              · simp only [q3]
                have hl := d1 i (tget s.tmps t) y (by simp [q1]) q2
                exact (hl.mono a2.2).vr hs hsm _ (hon.at_.tr.at_ t)
          refine hJ _ _ r h ⟨mlOf m s.heap vs2 bs, L, w, a.defers⟩ _ a w (by simp only [d2]; exact Nat.le_refl _) hon1 Q fun e s1 m1 a1' w1 hk hon2 hkp => ?_
          split at hk
          · rename_i D hD
            have hret : Ret m (mlOf m s.heap vs2 bs) m1 s.heap L s1.heap w w1 vs2 s.heap.length bs D := {
              hs := hs, sm := hsm, len := d2, vlen := hvl, live := hlive, ent := hent, hs' := hon2.at_.sim, tr := hon2.tr
              back := backD_spec bs s1.heap 0 D (fun i => by rw [Nat.zero_add]) (fun i => by rw [Nat.zero_add]) (by omega) (.inl (Nat.zero_le _)) hD
              fresh := fun d _ hd => fresh_ge hd
              nosub := fun j b off len hv sb => subOk_spec bs 0 vs2 hso j b off len (by rw [Nat.zero_add]; exact hv) sb }
            refine hQ _ _ _ _ _ hk ⟨⟨hret.sim, ⟨?_, fun t => ?_⟩⟩, hon.tr.trans hret.trans, hon2.defers.trans hon.defers⟩ hkp
            · simp only [mergeT_length]
              have h3 := hon.at_.tr.len
              have h4 := hkp.1
              omega
            · rcases mergeT_at M (gV (vsU vs2 s1.heap) (slOk s.heap vs2 bs) bs.length s.heap.length) s.tmps s1.tmps 0 t with q | ⟨_, q⟩ | ⟨q0, q⟩
              · simp only [q]; exact .undef _
              · simp only [q]; exact hret.vr (hon2.at_.tr.at_ t)
              · simp only [q]
                rw [Nat.zero_add] at q0
                have hkt := hkp.2 t (hM t q0)
                have := (hon.at_.tr.at_ t).mono hret.trans.le
                rw [hkt]
                exact this
          · cases hk
        · cases h
      · cases h
    · cases h
  · cases h

end

/-- the temporaries that code assigns, as bits -/
def asgL : Code → List Nat
  | .region _ ops _ => ops.toList.filterMap (·.dst)
  | .seq a b => asgL a ++ asgL b
  | .cond _ a b => asgL a ++ asgL b
  | .block _ b => asgL b
  | .loop b => asgL b
  | _ => []
def asgK : Code → Bool
  | .skip => true | .label _ => true | .exit _ => true | .ret => true | .region .. => true
  | .seq a b => asgK a && asgK b
  | .cond _ a b => asgK a && asgK b
  | .block _ b => asgK b
  | .loop b => asgK b
  | _ => false
theorem asgL_spec : ∀ (c : Code) (t : Nat), asgK c = true → t ∉ asgL c → asgB c t = false
  | .skip, _, _, _ => rfl
  | .label _, _, _, _ => rfl
  | .exit _, _, _, _ => rfl
  | .ret, _, _, _ => rfl
  | .region _ ops _, t, _, h => by
    simp only [asgL, List.mem_filterMap, not_exists, not_and] at h
    unfold asgB
    rw [List.any_eq_false]
    intro o ho
    have := h o ho
    cases hd : o.dst with
    | none => simp
    | some d => rw [hd] at this; simp at this ⊢; exact this
  | .seq a b, t, k, h => by
    simp only [asgK, Bool.and_eq_true] at k
    simp only [asgL, List.mem_append, not_or] at h
    simp only [asgB, asgL_spec a t k.1 h.1, asgL_spec b t k.2 h.2, Bool.or_false]
  | .cond _ a b, t, k, h => by
    simp only [asgK, Bool.and_eq_true] at k
    simp only [asgL, List.mem_append, not_or] at h
    simp only [asgB, asgL_spec a t k.1 h.1, asgL_spec b t k.2 h.2, Bool.or_false]
  | .block _ b, t, k, h => asgL_spec b t k h
  | .loop b, t, k, h => asgL_spec b t k h
  | .rangeFunc .., _, k, _ => by cases k
  | .scope _, _, k, _ => by cases k
  | .goto _, _, k, _ => by cases k
  | .refuse _, _, k, _ => by cases k
def mkFrame {P : Program} {n0 : Nat} (bs : List (SB × Md)) (p : Pc P bs.length) (M nt : Nat) (sl : List (Nat × SV)) (hM : (asgK p.code && (asgL p.code).all fun t => Nat.testBit M t) = true) : Pc P n0 where
  code := p.code
  J X := frameJ M nt sl bs (p.J X)
  ok X := frame_ok (p.ok X) fun t ht => by
    simp only [Bool.and_eq_true] at hM
    refine asgL_spec _ t hM.1 fun hm => ?_
    have := List.all_eq_true.1 hM.2 t hm
    rw [ht] at this
    cases this
  sees s := match Nat.beq s.tmps.length nt with
    | true => match mVL (sl.map (·.2)) (sl.map fun p => tget s.tmps p.1) (noV bs) with
      | some (_, vs1) => isSm (mH s.heap bs 0 vs1)
      | none => false
    | false => false
end Go.Ab
end

section
/- Totality of printed functions, rule by rule. No condition. -/
namespace Go.Ab
open Go

def Ok {α : Type} (o : Option α) (Q : α → Prop) : Prop := ∃ r, o = some r ∧ Q r
theorem ok_some {α : Type} {r : α} {Q : α → Prop} (h : Q r) : Ok (some r) Q := ⟨r, rfl, h⟩
theorem ok_need {α : Type} {p : Prop} [Decidable p] {t : Option α} {Q : α → Prop} (h : p) (k : Ok t Q) : Ok (need p t) Q := by unfold need; rw [if_pos h]; exact k
theorem ok_br {α : Type} {b : Bool} {t e : Option α} {Q : α → Prop} (h1 : b = true → Ok t Q) (h2 : b = false → Ok e Q) : Ok (br b t e) Q := by
  cases b
  · exact h2 rfl
  · exact h1 rfl
theorem ok_brd {α : Type} {p : Prop} [Decidable p] {t e : Option α} {Q : α → Prop} (h1 : p → Ok t Q) (h2 : ¬p → Ok e Q) : Ok (br (decide p) t e) Q :=
  ok_br (fun h => h1 (of_decide_eq_true h)) fun h => h2 (of_decide_eq_false h)
theorem ok_brn {α : Type} {p : Prop} [Decidable p] {t e : Option α} {Q : α → Prop} (h1 : ¬p → Ok t Q) (h2 : p → Ok e Q) : Ok (br (!decide p) t e) Q :=
  ok_br (fun h => h1 (by simpa using h)) fun h => h2 (by simpa using h)
theorem ok_bind {α β : Type} {o : Option α} {f : α → Option β} {R : α → Prop} {Q : β → Prop} (h : Ok o R) (k : ∀ r, R r → Ok (f r) Q) : Ok (o.bind f) Q := by
  obtain ⟨r, rfl, hr⟩ := h
  exact k r hr
theorem ok_mono {α : Type} {o : Option α} {R Q : α → Prop} (h : Ok o R) (k : ∀ r, R r → Q r) : Ok o Q := by
  obtain ⟨r, e, hr⟩ := h
  exact ⟨r, e, k r hr⟩
theorem ok_it {I O : Type} {F : (I → Option O) → I → Option O} {Q : O → Prop} (inv : Nat → I → Prop) (step : ∀ m d rec, inv m d → (∀ m' d', m' < m → inv m' d' → Ok (rec d') Q) → Ok (F rec d) Q) : ∀ n m d, inv m d → m < n → Ok (itN F n d) Q := by
  intro n
  induction n with
  | zero => intro m d _ h; omega
  | succ n ih => intro m d hi hm; exact step m d (itN F n) hi fun m' d' hlt hi' => ih m' d' hi' (by omega)
theorem wr {x : Int} (h1 : -9223372036854775808 ≤ x) (h2 : x ≤ 9223372036854775807) : IntKind.i64.wrap x = x := by
  simp only [IntKind.wrap, IntKind.bits, IntKind.signed]
  first | (simp; omega) | omega
theorem wrn (n : Nat) (h : n ≤ 9223372036854775807) : IntKind.i64.wrap (n : Int) = n := wr (by omega) (by omega)
end Go.Ab
end

