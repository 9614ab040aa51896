/- Concrete runs: closed calls kept for later runs; the same run, sooner compiled. No condition. -/
import Derived.Test.YtnhbohcjmdfmiaaGreatC18
set_option linter.unusedVariables false
set_option linter.unusedSimpArgs false
namespace Go.Ab
open Go
noncomputable section

/-! closed calls -/
mutual
/-- it names no place -/
def scal : AV → Bool
  | .bool _ => true
  | .int _ _ => true
  | .nilPtr => true
  | .nilSlice => true
  | .tuple l => scals l
  | _ => false
def scals : List AV → Bool
  | [] => true
  | x :: xs => scal x && scals xs
end
theorem scals_at : ∀ {l : List AV}, scals l = true → ∀ (j : Nat) (x : AV), l[j]? = some x → scal x = true
  | y :: ys, h, j, x, hx => by
    have e : scals (y :: ys) = (scal y && scals ys) := by simp only [scals]
    rw [e, Bool.and_eq_true] at h
    cases j with
    | zero => simp at hx; subst hx; exact h.1
    | succ j => exact scals_at h.2 j x (by simpa using hx)
theorem VR.scal {m m' : Map} {H H' : Heap} {x : AV} {v : Value} (h : VR m H x v) (hs : scal x = true) : VR m' H' x v := by
  induction h with
  | bool b => exact .bool b
  | int k n => exact .int k n
  | nilPtr => exact .nilPtr
  | nilSlice => exact .nilSlice
  | tuple l cs hl hv ih =>
    have e : Ab.scal (.tuple l) = scals l := by simp only [Ab.scal]
    rw [e] at hs
    exact .tuple l cs hl fun j x y hx hy => ih j x y hx hy (scals_at hs j x hx)
  | _ => simp [Ab.scal] at hs
theorem Sim.heap_eq {m : Map} {H : Heap} {w w' : World} (h : Sim m H w) (same : ∀ b, b < w.heap.size → w'.heap[b]? = w.heap[b]?) : Sim m H w' := by
  refine ⟨fun b bk md hb => ?_, h.dis⟩
  obtain ⟨h1, h2, h3, h4⟩ := h.blk b bk md hb
  refine ⟨h1, h2, h3, fun hp => ?_⟩
  obtain ⟨c, e, fr, g1, g2, g3, g4, g5⟩ := h4 hp
  have hlt : (m b).1 < w.heap.size := by
    rcases Nat.lt_or_ge (m b).1 w.heap.size with q | q
    · exact q
    · rw [Array.getElem?_eq_none q] at g1; cases g1
  exact ⟨c, e, fr, by rw [same _ hlt]; exact g1, g2, fun hm j j1 j2 => by rw [frozen_eq (.inl (same _ hlt))]; exact g3 hm j j1 j2, g4, g5⟩
theorem memo_step {P : Program} {c : CallI} (hc : CallsOk P c) {f : FuncId} {args : List CV} {v : CV} {T' : HT} {n' : Nat} (h : c f args noH 0 = .ok v T' n') (ha : scals (args.map CV.av) = true) (hv : scal v.av = true) (K : Heap) (q : Nat) : CallStep P f (args.map CV.av) K q v.av [] := by
  obtain ⟨_, hE, h2⟩ := hc _ _ _ _ _ _ _ h noH_ok
  refine ⟨hE, fun m H w args' _ _ hsim hlen hargs => ?_⟩
  have hsim0 : Sim (fun _ => (0, 0, 0)) [] w := ⟨fun _ _ _ h => (by cases h), fun _ _ _ _ _ _ h => (by cases h)⟩
  have hsub : SubH (absH noH) [] := fun b x hx => by
    have hb := hget_abs_lt hx
    rw [hget_abs noH hb] at hx
    have : QT.get 8 b noH = .hole := QT.get_fill _ _ _
    rw [this] at hx; cases hx
  refine (h2 (fun _ => (0, 0, 0)) [] w args' hsub (fun d _ _ => rfl) hsim0 hlen fun j x y hx hy => (hargs j x y hx hy).scal (scals_at ha j x hx)).mono fun e w' ⟨v', m', he, _, hv', ht⟩ => ?_
  have same : ∀ b, b < w.heap.size → w'.heap[b]? = w.heap[b]? := fun b hb => by
    rcases ht.frame b hb with h3 | ⟨c, c', e, fr, f1, f2, f3, f4⟩
    · exact h3
    · have : c' = c := Array.ext f3 fun i h1 h2 => by
        have := f4 i (fun ⟨b', bk, md, g1, _⟩ => by cases g1)
        simp [h1, h2] at this
        exact this
      rw [f1, f2, this]
  refine ⟨v', m, he, ?_, hv'.scal hv, ⟨.refl _ _, ht.os, ht.tape, ht.output, ht.drawn, ht.size, fun b hb => .inl (same b hb), fun _ _ h => .inr h⟩⟩
  exact hsim.heap_eq same
/-- does it come to this number, this truth? -/
def runsTo (r : Res) (z : CV) : Bool := Res.rec false (fun v _ _ => eqAV v.av z.av) r

/-! whole numbers in fewer steps -/
section
variable {e kk : Nat}
def addO (f g : Of e kk) : OpC e kk := .mk fun _ st tm T n k => CV.rec (fun a => CV.rec (fun b => wrap64 (addI a b) fun m => k (.i m) T n) (fun _ => .bad) (fun _ _ _ => .bad) (fun _ => .bad) (fun _ _ _ => .bad) (fun _ _ _ _ => .bad) (fun v => othInt (fun _ _ => .bad) v) (g st tm)) (fun _ => .bad) (fun _ _ _ => .bad) (fun _ => .bad) (fun _ _ _ => .bad) (fun _ _ _ _ => .bad) (fun v => othInt (fun ka a => onInt (fun _ => .bad) (fun kb b => chk (Nat.beq (kix ka) (kix kb)) (k (.oth (.int ka (ka.wrap (addI a b)))) T n)) (g st tm)) v) (f st tm)
def subO (f g : Of e kk) : OpC e kk := .mk fun _ st tm T n k => CV.rec (fun a => CV.rec (fun b => wrap64 (Int.sub a b) fun m => k (.i m) T n) (fun _ => .bad) (fun _ _ _ => .bad) (fun _ => .bad) (fun _ _ _ => .bad) (fun _ _ _ _ => .bad) (fun v => othInt (fun _ _ => .bad) v) (g st tm)) (fun _ => .bad) (fun _ _ _ => .bad) (fun _ => .bad) (fun _ _ _ => .bad) (fun _ _ _ _ => .bad) (fun v => othInt (fun ka a => onInt (fun _ => .bad) (fun kb b => chk (Nat.beq (kix ka) (kix kb)) (k (.oth (.int ka (ka.wrap (Int.sub a b)))) T n)) (g st tm)) v) (f st tm)
def mulO (f g : Of e kk) : OpC e kk := .mk fun _ st tm T n k => CV.rec (fun a => CV.rec (fun b => wrap64 (Int.mul a b) fun m => k (.i m) T n) (fun _ => .bad) (fun _ _ _ => .bad) (fun _ => .bad) (fun _ _ _ => .bad) (fun _ _ _ _ => .bad) (fun v => othInt (fun _ _ => .bad) v) (g st tm)) (fun _ => .bad) (fun _ _ _ => .bad) (fun _ => .bad) (fun _ _ _ => .bad) (fun _ _ _ _ => .bad) (fun v => othInt (fun ka a => onInt (fun _ => .bad) (fun kb b => chk (Nat.beq (kix ka) (kix kb)) (k (.oth (.int ka (ka.wrap (Int.mul a b)))) T n)) (g st tm)) v) (f st tm)
def lssO (f g : Of e kk) : OpC e kk := .mk fun _ st tm T n k => CV.rec (fun a => CV.rec (fun b => Bool.rec (k (.bool false) T n) (k (.bool true) T n) (ltI a b)) (fun _ => .bad) (fun _ _ _ => .bad) (fun _ => .bad) (fun _ _ _ => .bad) (fun _ _ _ _ => .bad) (fun v => othInt (fun _ _ => .bad) v) (g st tm)) (fun _ => .bad) (fun _ _ _ => .bad) (fun _ => .bad) (fun _ _ _ => .bad) (fun _ _ _ _ => .bad) (fun v => othInt (fun ka a => onInt (fun _ => .bad) (fun kb b => chk (Nat.beq (kix ka) (kix kb)) (Bool.rec (k (.bool false) T n) (k (.bool true) T n) (ltI a b))) (g st tm)) v) (f st tm)
def gtrO (f g : Of e kk) : OpC e kk := .mk fun _ st tm T n k => CV.rec (fun a => CV.rec (fun b => Bool.rec (k (.bool false) T n) (k (.bool true) T n) (ltI b a)) (fun _ => .bad) (fun _ _ _ => .bad) (fun _ => .bad) (fun _ _ _ => .bad) (fun _ _ _ _ => .bad) (fun v => othInt (fun _ _ => .bad) v) (g st tm)) (fun _ => .bad) (fun _ _ _ => .bad) (fun _ => .bad) (fun _ _ _ => .bad) (fun _ _ _ _ => .bad) (fun v => othInt (fun ka a => onInt (fun _ => .bad) (fun kb b => chk (Nat.beq (kix ka) (kix kb)) (Bool.rec (k (.bool false) T n) (k (.bool true) T n) (ltI b a))) (g st tm)) v) (f st tm)
def leqO (f g : Of e kk) : OpC e kk := .mk fun _ st tm T n k => CV.rec (fun a => CV.rec (fun b => Bool.rec (k (.bool false) T n) (k (.bool true) T n) (Bool.rec true false (ltI b a))) (fun _ => .bad) (fun _ _ _ => .bad) (fun _ => .bad) (fun _ _ _ => .bad) (fun _ _ _ _ => .bad) (fun v => othInt (fun _ _ => .bad) v) (g st tm)) (fun _ => .bad) (fun _ _ _ => .bad) (fun _ => .bad) (fun _ _ _ => .bad) (fun _ _ _ _ => .bad) (fun v => othInt (fun ka a => onInt (fun _ => .bad) (fun kb b => chk (Nat.beq (kix ka) (kix kb)) (Bool.rec (k (.bool false) T n) (k (.bool true) T n) (Bool.rec true false (ltI b a)))) (g st tm)) v) (f st tm)
def geqO (f g : Of e kk) : OpC e kk := .mk fun _ st tm T n k => CV.rec (fun a => CV.rec (fun b => Bool.rec (k (.bool false) T n) (k (.bool true) T n) (Bool.rec true false (ltI a b))) (fun _ => .bad) (fun _ _ _ => .bad) (fun _ => .bad) (fun _ _ _ => .bad) (fun _ _ _ _ => .bad) (fun v => othInt (fun _ _ => .bad) v) (g st tm)) (fun _ => .bad) (fun _ _ _ => .bad) (fun _ => .bad) (fun _ _ _ => .bad) (fun _ _ _ _ => .bad) (fun v => othInt (fun ka a => onInt (fun _ => .bad) (fun kb b => chk (Nat.beq (kix ka) (kix kb)) (Bool.rec (k (.bool false) T n) (k (.bool true) T n) (Bool.rec true false (ltI a b)))) (g st tm)) v) (f st tm)
def eqlO (f g : Of e kk) : OpC e kk := .mk fun _ st tm T n k => CV.rec (fun a => CV.rec (fun b => Bool.rec (k (.bool false) T n) (k (.bool true) T n) (eqI a b)) (fun _ => .bad) (fun _ _ _ => .bad) (fun _ => .bad) (fun _ _ _ => .bad) (fun _ _ _ _ => .bad) (fun v => othInt (fun _ _ => .bad) v) (g st tm)) (fun _ => .bad) (fun _ _ _ => .bad) (fun _ => .bad) (fun _ _ _ => .bad) (fun _ _ _ _ => .bad) (fun v => othInt (fun ka a => onInt (fun _ => .bad) (fun kb b => chk (Nat.beq (kix ka) (kix kb)) (Bool.rec (k (.bool false) T n) (k (.bool true) T n) (eqI a b))) (g st tm)) v) (f st tm)
def neqO (f g : Of e kk) : OpC e kk := .mk fun _ st tm T n k => CV.rec (fun a => CV.rec (fun b => Bool.rec (k (.bool false) T n) (k (.bool true) T n) (Bool.rec true false (eqI a b))) (fun _ => .bad) (fun _ _ _ => .bad) (fun _ => .bad) (fun _ _ _ => .bad) (fun _ _ _ _ => .bad) (fun v => othInt (fun _ _ => .bad) v) (g st tm)) (fun _ => .bad) (fun _ _ _ => .bad) (fun _ => .bad) (fun _ _ _ => .bad) (fun _ _ _ _ => .bad) (fun v => othInt (fun ka a => onInt (fun _ => .bad) (fun kb b => chk (Nat.beq (kix ka) (kix kb)) (Bool.rec (k (.bool false) T n) (k (.bool true) T n) (Bool.rec true false (eqI a b)))) (g st tm)) v) (f st tm)
def op_binF (P : Program) (E : EM) (kk : Nat) (op : BinOp) (t : TypeId) (x y : Operand) : OpC e kk :=
  match P.underlying t, op, opA (e := e) E kk x, opA (e := e) E kk y with
  | some (.int _), .add, .mk f, .mk g => addO f g
  | some (.int _), .sub, .mk f, .mk g => subO f g
  | some (.int _), .mul, .mk f, .mk g => mulO f g
  | some (.int _), .lss, .mk f, .mk g => lssO f g
  | some (.int _), .gtr, .mk f, .mk g => gtrO f g
  | some (.int _), .leq, .mk f, .mk g => leqO f g
  | some (.int _), .geq, .mk f, .mk g => geqO f g
  | some (.int _), .eql, .mk f, .mk g => eqlO f g
  | some (.int _), .neq, .mk f, .mk g => neqO f g
  | _, _, _, _ => op_bin P E kk op t x y
theorem op_binF_eq (P : Program) (E : EM) (kk : Nat) (op : BinOp) (t : TypeId) (x y : Operand) : op_binF (e := e) P E kk op t x y = op_bin P E kk op t x y := by
  unfold op_binF
  split
  · rename_i hu hf hg; unfold op_bin; rw [hu, hf, hg]; rfl
  · rename_i hu hf hg; unfold op_bin; rw [hu, hf, hg]; rfl
  · rename_i hu hf hg; unfold op_bin; rw [hu, hf, hg]; rfl
  · rename_i hu hf hg; unfold op_bin; rw [hu, hf, hg]; rfl
  · rename_i hu hf hg; unfold op_bin; rw [hu, hf, hg]; rfl
  · rename_i hu hf hg; unfold op_bin; rw [hu, hf, hg]; rfl
  · rename_i hu hf hg; unfold op_bin; rw [hu, hf, hg]; rfl
  · rename_i hu hf hg; unfold op_bin; rw [hu, hf, hg]; rfl
  · rename_i hu hf hg; unfold op_bin; rw [hu, hf, hg]; rfl
  · rfl
end
/-! the heap in fewer steps -/
section
variable {e kk : Nat}
def loadO (f : Of e kk) : OpC e kk := .mk fun _ st tm T n k => CV.rec (fun _ => .bad) (fun _ => .bad) (fun b i fo => Bool.rec .bad (HE.rec .bad .bad (fun w _ d c _ _ => k (natK (Nat.add (Nat.mul i w) fo) fun j => GetC.rec (fun g => g c) (getC d j)) T n) (fun kd _ a _ _ => k (cI kd (dDec (dGet a i))) T n) (GetC.rec (fun g => g T) (getC 8 b))) (Nat.ble b 65535)) (fun _ => .bad) (fun _ _ _ => .bad) (fun _ _ _ _ => .bad) (fun _ => .bad) (f st tm)
def op_loadF (P : Program) (E : EM) (kk : Nat) (t : TypeId) (x : Operand) : OpC e kk :=
  match isAggT P t, opA (e := e) E kk x with
  | some false, .mk f => loadO f
  | _, _ => op_load P E kk t x
theorem op_loadF_eq (P : Program) (E : EM) (kk : Nat) (t : TypeId) (x : Operand) : op_loadF (e := e) P E kk t x = op_load P E kk t x := by
  unfold op_loadF
  split
  · rename_i h1 h2; unfold op_load; rw [h1, h2]; rfl
  · rfl
def fieldO (f : Of e kk) (off : Nat) : OpC e kk := .mk fun _ st tm T n k => CV.rec (fun _ => .bad) (fun _ => .bad) (fun b j fo => Bool.rec .bad (HE.rec .bad .bad (fun w _ _ _ _ _ => Bool.rec .bad (k (.ptr b j (Nat.add fo off)) T n) (Nat.ble (Nat.succ (Nat.add fo off)) w)) (fun _ _ _ _ _ => .bad) (GetC.rec (fun g => g T) (getC 8 b))) (Nat.ble b 65535)) (fun _ => .bad) (fun _ _ _ => .bad) (fun _ _ _ _ => .bad) (fun _ => .bad) (f st tm)
def op_fieldAddrF (P : Program) (E : EM) (kk : Nat) (s : TypeId) (x : Operand) (i : Nat) : OpC e kk :=
  match fieldsOf P s, opA (e := e) E kk x with
  | some fs, .mk f => (match fs[i]? with
    | some fd => (match sizeT P fd.type with
      | some (_ + 1) => natK fd.offset fun off => fieldO f off
      | _ => badC)
    | none => badC)
  | _, _ => badC
theorem op_fieldAddrF_eq (P : Program) (E : EM) (kk : Nat) (s : TypeId) (x : Operand) (i : Nat) : op_fieldAddrF (e := e) P E kk s x i = op_fieldAddr P E kk s x i := rfl
end
/-! the same, sooner compiled -/
inductive OK where | mv (x : Operand) | op (c : Program → Cls) (f : (e : Nat) → Program → EM → (k : Nat) → OpC e k)
def cP : Program → Cls := fun _ => .p
def cA : Program → Cls := fun _ => .a
def clLoad (P : Program) (t : TypeId) (x : Operand) : Cls := match isAggT P t, sizeT P t with | some true, some w => .r [(x, .agg w)] | _, _ => .r [(x, .cell)]
def clBin (P : Program) (t : TypeId) (x : Operand) : Cls := match P.underlying t with | some (.pointer _) => .r [(x, .shape)] | some (.slice _) => .r [(x, .shape)] | _ => .p
def clCall (cl : Call) : Cls := match cl.callee with
    | .builtin .len => .r (cl.args.toList.map fun x => (x, .shape))
    | .builtin .min => .p
    | .builtin .max => .p
    | _ => .x
def kBad : OK := .op cP fun _ _ _ _ => badC
def k_pick : Operand → Operand → Operand → OK := fun c a b => .op cP fun e P E k => op_pick E k c a b
def k_alloc : TypeId → OK := fun t => .op cA fun e P E k => op_alloc P t
def k_box : TypeId → Operand → OK := fun _ x => .op cA fun e P E k => op_box E k x
def k_build : TypeId → (Array (Nat × Operand)) → OK := fun t parts => .op cP fun e P E k => op_build P E k t parts
def k_buildSlice : TypeId → Nat → (Array (Nat × Operand)) → OK := fun t len parts => .op cA fun e P E k => op_buildSlice P E k t len parts
def k_insert : TypeId → Operand → Operand → Operand → OK := fun _ _ _ _ => kBad
def k_load : TypeId → Operand → OK := fun t x => .op (fun P => clLoad P t x) fun e P E k => op_loadF P E k t x
def k_store : TypeId → Operand → Operand → OK := fun t x y => .op (fun _ => .w x) fun e P E k => op_store P E k t x y
def k_ready : Nat → OK := fun _ => kBad
def k_waits : Nat → OK := fun _ => kBad
def k_nilCheck : Operand → OK := fun x => .op cP fun e P E k => op_nilCheck E k x
def k_binOp : BinOp → TypeId → Operand → Operand → TypeId → OK := fun op t x y _ => .op (fun P => clBin P t x) fun e P E k => op_binF P E k op t x y
def k_unOp : UnOp → TypeId → Operand → OK := fun op _ x => .op cP fun e P E k => op_un E k op x
def k_convert : TypeId → TypeId → Operand → OK := fun src dst x => .op cP fun e P E k => op_convert P E k src dst x
def k_sliceToArrayPointer : TypeId → Operand → OK := fun _ _ => kBad
def k_makeInterface : TypeId → Operand → OK := fun t x => .op cP fun e P E k => op_makeInterface P E k t x
def k_makeFunc : Fn → (Array Operand) → (Array Operand) → OK := fun fn first cap => .op cP fun e P E k => op_makeFunc E k fn first cap
def k_makeMap : TypeId → Option Operand → OK := fun _ _ => kBad
def k_makeChan : TypeId → Operand → OK := fun _ _ => kBad
def k_makeSlice : TypeId → Operand → Operand → OK := fun t len cap => .op cA fun e P E k => op_makeSlice P E k t len cap
def k_slice : TypeId → Operand → (Option Operand) → (Option Operand) → (Option Operand) → OK := fun t x lo hi mx => .op (fun _ => .r [(x, .shape)]) fun e P E k => Option.rec (op_slice P E k t x lo hi) (fun _ => badC) mx
def k_fieldAddr : TypeId → Operand → Nat → OK := fun s x i => .op (fun _ => .r [(x, .shape)]) fun e P E k => op_fieldAddrF P E k s x i
def k_field : TypeId → Operand → Nat → OK := fun s x i => .op cP fun e P E k => op_field P E k s x i
def k_indexAddr : TypeId → Operand → Operand → OK := fun t x ix => .op (fun _ => .r [(x, .shape)]) fun e P E k => op_indexAddr P E k t x ix
def k_index : TypeId → Operand → Operand → OK := fun t x ix => .op cP fun e P E k => op_index P E k t x ix
def k_lookup : TypeId → Operand → Operand → Bool → OK := fun _ _ _ _ => kBad
def k_mapUpdate : TypeId → Operand → Operand → Operand → OK := fun _ _ _ _ => kBad
def k_mapEntry : TypeId → Operand → Operand → OK := fun _ _ _ => kBad
def k_entryStore : TypeId → Operand → Operand → Operand → OK := fun _ _ _ _ => kBad
def k_range : TypeId → Operand → OK := fun _ _ => kBad
def k_next : Operand → Bool → OK := fun _ _ => kBad
def k_entry : Operand → OK := fun _ => kBad
def k_typeAssert : Operand → TypeId → TypeId → Bool → OK := fun x _ t ok => .op cP fun e P E k => op_typeAssert P E k x t ok
def k_extract : Operand → Nat → OK := fun x i => .op cP fun e P E k => op_extract E k x i
def k_call : Call → OK := fun cl => .op (fun _ => clCall cl) fun e P E k => opCall P E k cl
def k_go : Call → OK := fun _ => kBad
def k_defer : Call → OK := fun _ => kBad
def k_panic : Operand → OK := fun _ => kBad
def k_send : Operand → Operand → OK := fun _ _ => kBad
def k_recv : TypeId → Operand → Bool → OK := fun _ _ _ => kBad
def k_select : Array SelectCase → Bool → OK := fun _ _ => kBad
def kindO (o : Op) : OK := Op.rec (motive := fun _ => OK) OK.mv OK.mv k_pick k_alloc k_box k_build k_buildSlice k_insert k_load k_store k_ready k_waits k_nilCheck k_binOp k_unOp k_convert k_sliceToArrayPointer k_makeInterface k_makeFunc k_makeMap k_makeChan k_makeSlice k_slice k_fieldAddr k_field k_indexAddr k_index k_lookup k_mapUpdate k_mapEntry k_entryStore k_range k_next k_entry k_typeAssert k_extract k_call k_go k_defer k_panic k_send k_recv k_select o
theorem kind_cls (P : Program) (o : Op) : clsOf P o = OK.rec (fun _ => .p) (fun c _ => c P) (kindO o) := by
  cases o <;> rfl
theorem kind_op {e : Nat} (P : Program) (E : EM) (k : Nat) (o : Op) : opC (e := e) P E k o = OK.rec (fun x => mvC E k x) (fun _ f => f e P E k) (kindO o) := by
  cases o with
  | slice t x lo hi mx => cases mx <;> rfl
  | binOp op t x y ty => exact (op_binF_eq P E k op t x y).symm
  | load t x => exact (op_loadF_eq P E k t x).symm
  | fieldAddr s x i => exact (op_fieldAddrF_eq P E k s x i).symm
  | _ => rfl
theorem kind_move (dst : Option Tmp) (op : Op) (ty : TypeId) (pos : String) (after : Array Edge) (guard : Option (Nat × Bool)) : pureMove ⟨dst, op, ty, pos, after, guard⟩ = OK.rec (fun x => Option.rec none (fun _ => Option.rec (some x) (fun _ => none) guard) dst) (fun _ _ => none) (kindO op) := by
  cases op <;> first | (cases dst <;> cases guard <;> rfl) | rfl

section
variable {e : Nat}
/-- one operation ahead of the others -/
def stepN {k : Nat} (E : EM) (all : List Oper) (guard : Option (Nat × Bool)) (o : Oper) (G : Rg e (k + 1)) (F : OpC e k) : Rg e k :=
  Rg.rec (fun g => OpC.rec (fun f => Option.rec (.mk fun c st tm T n => f c st tm T n fun v T n => g c (st, v) tm T n)
    (fun _ => guardC E k all o (fun c st tm T n => f c st tm T n fun v T n => g c (st, v) tm T n) (fun c st tm T n => g c (st, .oth (.tuple [])) tm T n)) guard) F) G
theorem stepN_eq {k : Nat} (E : EM) (all : List Oper) (dst : Option Tmp) (op : Op) (ty : TypeId) (pos : String) (after : Array Edge) (guard : Option (Nat × Bool)) (G : Rg e (k + 1)) (F : OpC e k) :
    stepN E all guard ⟨dst, op, ty, pos, after, guard⟩ G F = match G, F with | .mk g, .mk f => guardC E k all ⟨dst, op, ty, pos, after, guard⟩ (fun c st tm T n => f c st tm T n fun v T n => g c (st, v) tm T n) (fun c st tm T n => g c (st, .oth (.tuple [])) tm T n) := by
  cases G; cases F; cases guard <;> rfl
def commF (E : EM) (k : Nat) (cm : List (Nat × Nat)) : CommC e k := List.rec (.mk fun _ _ t => t) (fun p _ ih => CommC.rec (fun g => OpA.rec (fun f => SetC.rec (fun p' => Bool.rec (.mk g) (.mk fun st tm t => p' (f st tm) (g st tm t)) (Nat.ble (Nat.succ p.2) (Nat.pow 4 e))) (setC (α := CV) e p.2)) (srC k (lookN E p.1))) ih) cm
theorem commF_eq (E : EM) (k : Nat) : ∀ cm, commF (e := e) E k cm = commC E k cm
  | [] => rfl
  | (t, j) :: r => by
    have e1 : commC (e := e) E k ((t, j) :: r) = match commC E k r, srC k (lookN E t), setC (α := CV) e j with
      | .mk g, .mk f, .mk p => Bool.rec (.mk g) (.mk fun st tm t => p (f st tm) (g st tm t)) (Nat.ble (Nat.succ j) (Nat.pow 4 e)) := rfl
    have e2 : commF (e := e) E k ((t, j) :: r) = CommC.rec (fun g => OpA.rec (fun f => SetC.rec (fun p' => Bool.rec (.mk g) (.mk fun st tm t => p' (f st tm) (g st tm t)) (Nat.ble (Nat.succ j) (Nat.pow 4 e))) (setC (α := CV) e j)) (srC k (lookN E t))) (commF E k r) := rfl
    rw [e1, e2, commF_eq E k r]
/-- what one more operation of a sequence comes to -/
def stepS (P : Program) (N : Nat) (L : EM) (all : List Oper) (ih : EM → (k : Nat) → List (Nat × Nat) → Rg e k) (E : EM) (k : Nat) (cm : List (Nat × Nat)) (o : Oper) (dst : Option Tmp) (op : Op) (guard : Option (Nat × Bool)) : Rg e k :=
  Option.rec (OK.rec (fun x => stepN E all guard o (ih E (k + 1) cm) (mvC E k x)) (fun _ f => stepN E all guard o (ih E (k + 1) cm) (f e P E k)) (kindO op))
    (fun t => Bool.rec (.mk fun _ _ _ _ _ => .bad) (OK.rec
      (fun x => Option.rec (ih (setE E t (opR E x)) k (turned L o cm)) (fun _ => stepN E all guard o (ih (setE E t (.lvl k)) (k + 1) (turned L o cm)) (mvC E k x)) guard)
      (fun _ f => stepN E all guard o (ih (setE E t (.lvl k)) (k + 1) (turned L o cm)) (f e P E k)) (kindO op)) (Nat.ble (Nat.succ t) N)) dst
def rgS (P : Program) (N : Nat) (L : EM) (all : List Oper) (l : List Oper) : EM → (k : Nat) → List (Nat × Nat) → Rg e k :=
  List.rec (motive := fun _ => EM → (k : Nat) → List (Nat × Nat) → Rg e k) (fun E k cm => CommC.rec (fun f => .mk fun _ st tm T n => .norm (f st tm tm) T n) (commF E k cm))
    (fun o _ ih E k cm => Oper.rec (fun dst op _ _ _ guard => stepS P N L all ih E k cm o dst op guard) o) l
theorem regC_nil (P : Program) (N : Nat) (L : EM) (all : List Oper) (rows : List MRow) (E : EM) (k : Nat) (cm : List (Nat × Nat)) (fl : List RdAt) (j : Nat) : regC (e := e) P N L all rows E k cm fl j [] = match commC E k cm with | .mk f => .mk fun _ st tm T n => .norm (f st tm tm) T n := rfl
theorem rgS_eq (P : Program) (N : Nat) (L : EM) (all : List Oper) : ∀ (l : List Oper) (E : EM) (k : Nat) (cm : List (Nat × Nat)) (fl : List RdAt) (j : Nat), rgS (e := e) P N L all l E k cm = regC P N L all [] E k cm fl j l
  | [], E, k, cm, fl, j => by
    have e1 : rgS (e := e) P N L all [] E k cm = CommC.rec (fun f => .mk fun _ st tm T n => .norm (f st tm tm) T n) (commF E k cm) := rfl
    rw [e1, regC_nil, commF_eq]
  | o :: rest, E, k, cm, fl, j => by
    obtain ⟨dst, op, ty, pos, after, guard⟩ := o
    have ih := rgS_eq P N L all rest
    have e1 : rgS (e := e) P N L all (⟨dst, op, ty, pos, after, guard⟩ :: rest) E k cm = stepS P N L all (rgS P N L all rest) E k cm ⟨dst, op, ty, pos, after, guard⟩ dst op guard := rfl
    have hn : ∀ c : Cls, needU [] (⟨dst, op, ty, pos, after, guard⟩ : Oper) c = false := fun c => rfl
    have hr : ∀ (k j : Nat) (c : Cls) (g : Bool) (fl : List RdAt) (E : EM), reads [] E k j c g fl = fl := fun k j c g fl E => rfl
    have norm : ∀ (E' : EM) (cm' : List (Nat × Nat)), pushed E k ⟨dst, op, ty, pos, after, guard⟩ = E' → (match regC (e := e) P N L all [] (pushed E k ⟨dst, op, ty, pos, after, guard⟩) (k + 1) cm' (reads [] E k j (clsOf P op) guard.isSome fl) (j + 1) rest, opC P E k op with
        | .mk g, .mk f => match (others [] j (clsOf P op) (maskOf [] j)).map (lookN E), (hidden [] j (clsOf P op) (maskOf [] j)).map (lookN E), seenS (seen [] j (clsOf P op) (maskOf [] j)) fl, watched [] j (clsOf P op) (maskOf [] j) with
          | [], [], [], false => guardC E k all ⟨dst, op, ty, pos, after, guard⟩ (fun c st tm T n => noU (needU [] ⟨dst, op, ty, pos, after, guard⟩ (clsOf P op)) f c st tm T n fun v T n => g c (st, v) tm T n) (fun c st tm T n => g c (st, .oth (.tuple [])) tm T n)
          | us, hs, vs, w => match argsC E k (placeOf (clsOf P op)), srs k us, srs k hs, chkC k vs with
            | ps, us, hs, .mk q => guardC E k all ⟨dst, op, ty, pos, after, guard⟩ (full2 w (srC k (.lvl 0)) ps (fullC (noU (needU [] ⟨dst, op, ty, pos, after, guard⟩ (clsOf P op)) f) (fun c st v tm T n => g c (st, v) tm T n) ps us hs q)) (fun c st tm T n => g c (st, .oth (.tuple [])) tm T n)) = stepN E all guard ⟨dst, op, ty, pos, after, guard⟩ (rgS P N L all rest E' (k + 1) cm') (opC P E k op) := by
      intro E' cm' hE
      have hs : seenS (seen [] j (clsOf P op) (maskOf [] j)) fl = [] := by unfold seenS seen; exact List.filter_eq_nil_iff.2 fun p _ => by simp
      rw [hr, hE, ← ih, stepN_eq, hs]
      rfl
    rw [e1, regC_cons, kind_move]
    have hd : ∀ t, dstIn N (⟨some t, op, ty, pos, after, guard⟩ : Oper) = Nat.ble (Nat.succ t) N := fun t => rfl
    have ho := kind_op (e := e) P E k op
    cases dst with
    | none =>
      show (OK.rec (fun x => stepN E all guard ⟨none, op, ty, pos, after, guard⟩ (rgS P N L all rest E (k + 1) cm) (mvC E k x)) (fun _ f => stepN E all guard ⟨none, op, ty, pos, after, guard⟩ (rgS P N L all rest E (k + 1) cm) (f e P E k)) (kindO op) : Rg e k) = _
      cases hk : kindO op with
      | mv x =>
        rw [hk] at ho
        refine Eq.trans ?_ (norm E cm rfl).symm
        rw [ho]
      | op cl f =>
        rw [hk] at ho
        refine Eq.trans ?_ (norm E cm rfl).symm
        rw [ho]
    | some t =>
      show (Bool.rec (.mk fun _ _ _ _ _ => .bad) (OK.rec
      (fun x => Option.rec (rgS P N L all rest (setE E t (opR E x)) k (turned L ⟨some t, op, ty, pos, after, guard⟩ cm)) (fun _ => stepN E all guard ⟨some t, op, ty, pos, after, guard⟩ (rgS P N L all rest (setE E t (.lvl k)) (k + 1) (turned L ⟨some t, op, ty, pos, after, guard⟩ cm)) (mvC E k x)) guard)
      (fun _ f => stepN E all guard ⟨some t, op, ty, pos, after, guard⟩ (rgS P N L all rest (setE E t (.lvl k)) (k + 1) (turned L ⟨some t, op, ty, pos, after, guard⟩ cm)) (f e P E k)) (kindO op)) (Nat.ble (Nat.succ t) N) : Rg e k) = _
      have hdt := hd t
      cases hb : Nat.ble (Nat.succ t) N with
      | false =>
        rw [hb] at hdt
        rw [hdt]
      | true =>
        rw [hb] at hdt
        rw [hdt]
        cases hk : kindO op with
        | mv x =>
          rw [hk] at ho
          cases guard with
          | none => exact ih _ _ _ _ _
          | some g =>
            refine Eq.trans ?_ (norm (setE E t (.lvl k)) _ rfl).symm
            rw [ho]
        | op cl f =>
          rw [hk] at ho
          refine Eq.trans ?_ (norm (setE E t (.lvl k)) _ rfl).symm
          rw [ho]
end

end
end Go.Ab
