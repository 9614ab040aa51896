/- Concrete runs: drawn regions and functions, sooner compiled; what is checked of the code once and for all. No condition. -/
import Derived.Test.YtnhbohcjmdfmiaaGreatC22
set_option linter.unusedVariables false
set_option linter.unusedSimpArgs false
namespace Go.Ab
open Go
noncomputable section
variable {e : Nat}

def maskF (rows : List MRow) (j : Nat) : Nat := List.rec 0 (fun r _ ih => Bool.rec ih r.anc (Nat.beq r.j j)) rows
theorem maskF_eq (j : Nat) : ∀ rows, maskF rows j = maskOf rows j
  | [] => rfl
  | r :: rs => by
    have e1 : maskF (r :: rs) j = Bool.rec (maskF rs j) r.anc (Nat.beq r.j j) := rfl
    rw [e1, maskF_eq j rs]
    unfold maskOf
    rw [List.find?_cons]
    cases Nat.beq r.j j <;> rfl
def bitsM (rows : List MRow) : Nat := List.rec 0 (fun r _ ih => Nat.lor (Nat.pow 2 r.j) ih) rows
theorem bitsM_at : ∀ {rows : List MRow} {r : MRow}, r ∈ rows → (bitsM rows).testBit r.j = true
  | s :: rs, r, h => by
    have e1 : bitsM (s :: rs) = 2 ^ s.j ||| bitsM rs := rfl
    rw [e1, Nat.testBit_or, Nat.testBit_two_pow]
    rcases List.mem_cons.1 h with rfl | h
    · simp
    · rw [bitsM_at h]; simp
/-- all that stand ahead in the text are bound to stand ahead -/
def allAnc (M j anc : Nat) : Bool := natK (Nat.land M (Nat.sub (Nat.pow 2 j) 1)) fun U => Nat.beq (Nat.land U anc) U
theorem allAnc_at {rows : List MRow} {j anc : Nat} (h : allAnc (bitsM rows) j anc = true) {r : MRow} (hr : r ∈ rows) (hj : r.j < j) : anc.testBit r.j = true := by
  unfold allAnc at h
  rw [natK_eq] at h
  have h1 := Nat.eq_of_beq_eq_true h
  have h2 : (Nat.land (bitsM rows) (Nat.sub (Nat.pow 2 j) 1)).testBit r.j = true := by
    show ((bitsM rows) &&& (2 ^ j - 1)).testBit r.j = true
    rw [Nat.testBit_and, bitsM_at hr, Nat.testBit_two_pow_sub_one]; simp [hj]
  rw [← h1] at h2
  have h3 : (Nat.land (Nat.land (bitsM rows) (Nat.sub (Nat.pow 2 j) 1)) anc).testBit r.j = ((Nat.land (bitsM rows) (Nat.sub (Nat.pow 2 j) 1)).testBit r.j && anc.testBit r.j) := Nat.testBit_and _ _ _
  rw [h3, Bool.and_eq_true] at h2
  exact h2.2
theorem none_at {rows : List MRow} {j anc : Nat} {c : Cls} (h : ∀ r ∈ rows, r.j < j → anc.testBit r.j = true ∨ pairK r.c c = 0) : others rows j c anc = [] ∧ hidden rows j c anc = [] ∧ seen rows j c anc = [] ∧ watched rows j c anc = false := by
  have key : ∀ r ∈ rows, ∀ k, 0 < k → (Nat.blt r.j j && (!anc.testBit r.j && Nat.beq (pairK r.c c) k)) = false := by
    intro r hr k hk
    cases hb : Nat.blt r.j j with
    | false => rfl
    | true =>
      have hj : r.j < j := Nat.le_of_ble_eq_true hb
      rcases h r hr hj with q | q
      · rw [q]; rfl
      · rw [q]
        have : Nat.beq 0 k = false := by cases k with | zero => exact absurd hk (Nat.lt_irrefl _) | succ k => rfl
        rw [this]; cases anc.testBit r.j <;> rfl
  refine ⟨?_, ?_, ?_, ?_⟩
  · exact List.filterMap_eq_nil_iff.2 fun r hr => by rw [if_neg]; rw [key r hr 3 (by omega)]; simp
  · exact List.filterMap_eq_nil_iff.2 fun r hr => by rw [if_neg]; rw [key r hr 5 (by omega)]; simp
  · exact List.filterMap_eq_nil_iff.2 fun r hr => by rw [if_neg]; rw [key r hr 1 (by omega)]; simp
  · exact List.any_eq_false.2 fun r hr => by rw [key r hr 2 (by omega)]; simp
theorem pairK_p (c : Cls) : pairK c .p = 0 := by cases c <;> rfl

/-- the general step of a drawn region -/
def slowD {k : Nat} (rows : List MRow) (E : EM) (all : List Oper) (fl : List RdAt) (j : Nat) (o : Oper) (c : Cls) (anc : Nat) (G : Rg e (k + 1)) (F : OpC e k) : Rg e k :=
  match G, F with
  | .mk g, .mk f => match (others rows j c anc).map (lookN E), (hidden rows j c anc).map (lookN E), seenS (seen rows j c anc) fl, watched rows j c anc with
    | [], [], [], false => guardC E k all o (fun c' st tm T n => noU (needU rows o c) f c' st tm T n fun v T n => g c' (st, v) tm T n) (fun c st tm T n => g c (st, .oth (.tuple [])) tm T n)
    | us, hs, vs, w => match argsC E k (placeOf c), srs k us, srs k hs, chkC k vs with
      | ps, us, hs, .mk q => guardC E k all o (full2 w (srC k (.lvl 0)) ps (fullC (noU (needU rows o c) f) (fun c st v tm T n => g c (st, v) tm T n) ps us hs q)) (fun c st tm T n => g c (st, .oth (.tuple [])) tm T n)
/-- nothing unordered ahead -/
def freeD {k : Nat} (rows : List MRow) (E : EM) (all : List Oper) (o : Oper) (guard : Option (Nat × Bool)) (c : Cls) (G : Rg e (k + 1)) (F : OpC e k) : Rg e k :=
  Option.rec (stepN E all none o G F) (fun _ => match G, F with
    | .mk g, .mk f => guardC E k all o (fun c' st tm T n => noU (needU rows o c) f c' st tm T n fun v T n => g c' (st, v) tm T n) (fun c st tm T n => g c (st, .oth (.tuple [])) tm T n)) guard
def effD {k : Nat} (rows : List MRow) (M : Nat) (E : EM) (all : List Oper) (fl : List RdAt) (j : Nat) (o : Oper) (guard : Option (Nat × Bool)) (c : Cls) (G : Rg e (k + 1)) (F : OpC e k) : Rg e k :=
  natK (maskF rows j) fun anc => Bool.rec (slowD rows E all fl j o c anc G F) (freeD rows E all o guard c G F) (allAnc M j anc)
def opD {k : Nat} (rows : List MRow) (M : Nat) (E : EM) (all : List Oper) (fl : List RdAt) (j : Nat) (o : Oper) (guard : Option (Nat × Bool)) (c : Cls) (G : Rg e (k + 1)) (F : OpC e k) : Rg e k :=
  Cls.rec (motive := fun _ => Rg e k) (stepN E all guard o G F) (fun _ => effD rows M E all fl j o guard c G F) (effD rows M E all fl j o guard c G F) (fun _ => effD rows M E all fl j o guard c G F) (effD rows M E all fl j o guard c G F) c
theorem slowD_free {k : Nat} {rows : List MRow} {E : EM} {all : List Oper} {fl : List RdAt} {j : Nat} {o : Oper} {c : Cls} {anc : Nat} (h : ∀ r ∈ rows, r.j < j → anc.testBit r.j = true ∨ pairK r.c c = 0) (G : Rg e (k + 1)) (F : OpC e k) :
    slowD rows E all fl j o c anc G F = match G, F with
    | .mk g, .mk f => guardC E k all o (fun c' st tm T n => noU (needU rows o c) f c' st tm T n fun v T n => g c' (st, v) tm T n) (fun c st tm T n => g c (st, .oth (.tuple [])) tm T n) := by
  obtain ⟨h1, h2, h3, h4⟩ := none_at h
  have hs : seenS (seen rows j c anc) fl = [] := by rw [h3]; unfold seenS; exact List.filter_eq_nil_iff.2 fun p _ => by simp
  cases G; cases F
  unfold slowD
  rw [h1, h2, hs, h4]
  rfl
theorem opD_eq {k : Nat} (rows : List MRow) (E : EM) (all : List Oper) (fl : List RdAt) (j : Nat) (dst : Option Tmp) (op : Op) (ty : TypeId) (pos : String) (after : Array Edge) (guard : Option (Nat × Bool)) (c : Cls) (G : Rg e (k + 1)) (F : OpC e k) :
    opD rows (bitsM rows) E all fl j ⟨dst, op, ty, pos, after, guard⟩ guard c G F = slowD rows E all fl j ⟨dst, op, ty, pos, after, guard⟩ c (maskOf rows j) G F := by
  have heff : effD rows (bitsM rows) E all fl j ⟨dst, op, ty, pos, after, guard⟩ guard c G F = slowD rows E all fl j ⟨dst, op, ty, pos, after, guard⟩ c (maskOf rows j) G F := by
    unfold effD
    rw [natK_eq, maskF_eq]
    cases ha : allAnc (bitsM rows) j (maskOf rows j) with
    | false => rfl
    | true =>
      rw [slowD_free (fun r hr hj => .inl (allAnc_at ha hr hj))]
      cases guard with
      | none =>
        cases G; cases F
        cases rows <;> rfl
      | some g => rfl
  cases c with
  | p =>
    rw [slowD_free (fun r hr hj => .inr (pairK_p _))]
    show stepN E all guard _ G F = _
    have hn : needU rows (⟨dst, op, ty, pos, after, guard⟩ : Oper) .p = false := by unfold needU; cases rows <;> cases guard <;> rfl
    rw [stepN_eq, hn]
    cases G; cases F; rfl
  | r l => exact heff
  | a => exact heff
  | w x => exact heff
  | x => exact heff

def stepD (P : Program) (N : Nat) (L : EM) (all : List Oper) (rows : List MRow) (M : Nat) (ih : EM → (k : Nat) → List (Nat × Nat) → List RdAt → Nat → Rg e k) (E : EM) (k : Nat) (cm : List (Nat × Nat)) (fl : List RdAt) (j : Nat) (o : Oper) (dst : Option Tmp) (op : Op) (guard : Option (Nat × Bool)) : Rg e k :=
  Option.rec (OK.rec (fun x => opD rows M E all fl j o guard .p (ih E (k + 1) cm fl (j + 1)) (mvC E k x)) (fun c f => opD rows M E all fl j o guard (c P) (ih E (k + 1) cm (reads rows E k j (c P) guard.isSome fl) (j + 1)) (f e P E k)) (kindO op))
    (fun t => Bool.rec (.mk fun _ _ _ _ _ => .bad) (OK.rec
      (fun x => Option.rec (ih (setE E t (opR E x)) k (turned L o cm) fl (j + 1)) (fun _ => opD rows M E all fl j o guard .p (ih (setE E t (.lvl k)) (k + 1) (turned L o cm) fl (j + 1)) (mvC E k x)) guard)
      (fun c f => opD rows M E all fl j o guard (c P) (ih (setE E t (.lvl k)) (k + 1) (turned L o cm) (reads rows E k j (c P) guard.isSome fl) (j + 1)) (f e P E k)) (kindO op)) (Nat.ble (Nat.succ t) N)) dst
def rgF (P : Program) (N : Nat) (L : EM) (all : List Oper) (rows : List MRow) (M : Nat) (l : List Oper) : EM → (k : Nat) → List (Nat × Nat) → List RdAt → Nat → Rg e k :=
  List.rec (motive := fun _ => EM → (k : Nat) → List (Nat × Nat) → List RdAt → Nat → Rg e k) (fun E k cm _ _ => CommC.rec (fun f => .mk fun _ st tm T n => .norm (f st tm tm) T n) (commF E k cm))
    (fun o _ ih E k cm fl j => Oper.rec (fun dst op _ _ _ guard => stepD P N L all rows M ih E k cm fl j o dst op guard) o) l
theorem reads_p (rows : List MRow) (E : EM) (k j : Nat) (g : Bool) (fl : List RdAt) : reads rows E k j .p g fl = fl := by unfold reads; cases rows <;> rfl
theorem rgF_eq (P : Program) (N : Nat) (L : EM) (all : List Oper) (rows : List MRow) : ∀ (l : List Oper) (E : EM) (k : Nat) (cm : List (Nat × Nat)) (fl : List RdAt) (j : Nat), rgF (e := e) P N L all rows (bitsM rows) l E k cm fl j = regC P N L all rows E k cm fl j l
  | [], E, k, cm, fl, j => by
    have e1 : rgF (e := e) P N L all rows (bitsM rows) [] E k cm fl j = CommC.rec (fun f => .mk fun _ st tm T n => .norm (f st tm tm) T n) (commF E k cm) := rfl
    rw [e1, regC_nil, commF_eq]
  | o :: rest, E, k, cm, fl, j => by
    obtain ⟨dst, op, ty, pos, after, guard⟩ := o
    have ih := rgF_eq P N L all rows rest
    have e1 : rgF (e := e) P N L all rows (bitsM rows) (⟨dst, op, ty, pos, after, guard⟩ :: rest) E k cm fl j = stepD P N L all rows (bitsM rows) (rgF P N L all rows (bitsM rows) rest) E k cm fl j ⟨dst, op, ty, pos, after, guard⟩ dst op guard := rfl
    have norm : ∀ (E' : EM) (cm' : List (Nat × Nat)), pushed E k ⟨dst, op, ty, pos, after, guard⟩ = E' → (match regC (e := e) P N L all rows (pushed E k ⟨dst, op, ty, pos, after, guard⟩) (k + 1) cm' (reads rows E k j (clsOf P op) guard.isSome fl) (j + 1) rest, opC P E k op with
        | .mk g, .mk f => match (others rows j (clsOf P op) (maskOf rows j)).map (lookN E), (hidden rows j (clsOf P op) (maskOf rows j)).map (lookN E), seenS (seen rows j (clsOf P op) (maskOf rows j)) fl, watched rows j (clsOf P op) (maskOf rows j) with
          | [], [], [], false => guardC E k all ⟨dst, op, ty, pos, after, guard⟩ (fun c st tm T n => noU (needU rows ⟨dst, op, ty, pos, after, guard⟩ (clsOf P op)) f c st tm T n fun v T n => g c (st, v) tm T n) (fun c st tm T n => g c (st, .oth (.tuple [])) tm T n)
          | us, hs, vs, w => match argsC E k (placeOf (clsOf P op)), srs k us, srs k hs, chkC k vs with
            | ps, us, hs, .mk q => guardC E k all ⟨dst, op, ty, pos, after, guard⟩ (full2 w (srC k (.lvl 0)) ps (fullC (noU (needU rows ⟨dst, op, ty, pos, after, guard⟩ (clsOf P op)) f) (fun c st v tm T n => g c (st, v) tm T n) ps us hs q)) (fun c st tm T n => g c (st, .oth (.tuple [])) tm T n)) =
        opD rows (bitsM rows) E all fl j ⟨dst, op, ty, pos, after, guard⟩ guard (clsOf P op) (rgF P N L all rows (bitsM rows) rest E' (k + 1) cm' (reads rows E k j (clsOf P op) guard.isSome fl) (j + 1)) (opC P E k op) := by
      intro E' cm' hE
      rw [opD_eq, hE, ← ih]
      unfold slowD
      rfl
    rw [e1, regC_cons, kind_move]
    have hd : ∀ t, dstIn N (⟨some t, op, ty, pos, after, guard⟩ : Oper) = Nat.ble (Nat.succ t) N := fun t => rfl
    have ho := kind_op (e := e) P E k op
    have hc := kind_cls P op
    cases dst with
    | none =>
      show (OK.rec (fun x => opD rows (bitsM rows) E all fl j ⟨none, op, ty, pos, after, guard⟩ guard .p (rgF P N L all rows (bitsM rows) rest E (k + 1) cm fl (j + 1)) (mvC E k x)) (fun c f => opD rows (bitsM rows) E all fl j ⟨none, op, ty, pos, after, guard⟩ guard (c P) (rgF P N L all rows (bitsM rows) rest E (k + 1) cm (reads rows E k j (c P) guard.isSome fl) (j + 1)) (f e P E k)) (kindO op) : Rg e k) = _
      cases hk : kindO op with
      | mv x =>
        rw [hk] at ho hc
        refine Eq.trans ?_ (norm E cm rfl).symm
        rw [ho, hc]
        simp only [reads_p]
      | op cl f =>
        rw [hk] at ho hc
        refine Eq.trans ?_ (norm E cm rfl).symm
        rw [ho, hc]
    | some t =>
      show (Bool.rec (.mk fun _ _ _ _ _ => .bad) (OK.rec
      (fun x => Option.rec (rgF P N L all rows (bitsM rows) rest (setE E t (opR E x)) k (turned L ⟨some t, op, ty, pos, after, guard⟩ cm) fl (j + 1)) (fun _ => opD rows (bitsM rows) E all fl j ⟨some t, op, ty, pos, after, guard⟩ guard .p (rgF P N L all rows (bitsM rows) rest (setE E t (.lvl k)) (k + 1) (turned L ⟨some t, op, ty, pos, after, guard⟩ cm) fl (j + 1)) (mvC E k x)) guard)
      (fun c f => opD rows (bitsM rows) E all fl j ⟨some t, op, ty, pos, after, guard⟩ guard (c P) (rgF P N L all rows (bitsM rows) rest (setE E t (.lvl k)) (k + 1) (turned L ⟨some t, op, ty, pos, after, guard⟩ cm) (reads rows E k j (c P) guard.isSome fl) (j + 1)) (f e P E k)) (kindO op)) (Nat.ble (Nat.succ t) N) : Rg e k) = _
      have hdt := hd t
      cases hb : Nat.ble (Nat.succ t) N with
      | false =>
        rw [hb] at hdt
        rw [hdt]
      | true =>
        rw [hb] at hdt
        rw [hdt]
        cases hk : kindO op with
        | mv x =>
          rw [hk] at ho hc
          cases guard with
          | none => exact ih _ _ _ _ _
          | some g =>
            refine Eq.trans ?_ (norm (setE E t (.lvl k)) _ rfl).symm
            rw [ho, hc]
            simp only [reads_p]
        | op cl f =>
          rw [hk] at ho hc
          refine Eq.trans ?_ (norm (setE E t (.lvl k)) _ rfl).symm
          rw [ho, hc]

/-! rows, order -/
def clsF (P : Program) (o : Op) : Cls := OK.rec (fun _ => .p) (fun c _ => c P) (kindO o)
def mrowsF (P : Program) (l : List Oper) : List Nat → Nat → List MRow :=
  List.rec (motive := fun _ => List Nat → Nat → List MRow) (fun _ _ => []) (fun o _ ih ms j => List.rec (motive := fun _ => List MRow) [] (fun m ms _ =>
    Cls.rec (motive := fun _ => List MRow) (ih ms (Nat.succ j)) (fun l => ⟨j, .r l, m, o.dst⟩ :: ih ms (Nat.succ j)) (⟨j, .a, m, o.dst⟩ :: ih ms (Nat.succ j)) (fun x => ⟨j, .w x, m, o.dst⟩ :: ih ms (Nat.succ j)) (⟨j, .x, m, o.dst⟩ :: ih ms (Nat.succ j)) (clsF P o.op)) ms) l
theorem mrowsF_eq (P : Program) : ∀ (l : List Oper) (ms : List Nat) (j : Nat), mrowsF P l ms j = mrows P l ms j
  | [], ms, j => by cases ms <;> rfl
  | o :: os, [], j => rfl
  | o :: os, m :: ms, j => by
    have e1 : mrowsF P (o :: os) (m :: ms) j = Cls.rec (motive := fun _ => List MRow) (mrowsF P os ms (Nat.succ j)) (fun l => ⟨j, .r l, m, o.dst⟩ :: mrowsF P os ms (Nat.succ j)) (⟨j, .a, m, o.dst⟩ :: mrowsF P os ms (Nat.succ j)) (fun x => ⟨j, .w x, m, o.dst⟩ :: mrowsF P os ms (Nat.succ j)) (⟨j, .x, m, o.dst⟩ :: mrowsF P os ms (Nat.succ j)) (clsF P o.op) := rfl
    have e2 : mrows P (o :: os) (m :: ms) j = match clsOf P o.op with
      | .p => mrows P os ms (j + 1)
      | c => ⟨j, c, m, o.dst⟩ :: mrows P os ms (j + 1) := rfl
    rw [e1, e2, mrowsF_eq P os ms, kind_cls]
    unfold clsF
    cases hk : kindO o.op with
    | mv x => rfl
    | op c f => simp only; cases c P <;> rfl
def anyWF (rows all : List MRow) (M : Nat) : Bool := List.rec false (fun s _ ih => Bool.rec (Bool.rec ih true (all.any fun r => Nat.blt r.j s.j && (!s.anc.testBit r.j && Nat.beq (pairK r.c s.c) 2))) ih (allAnc M s.j s.anc)) rows
theorem anyWF_eq (all : List MRow) : ∀ rows, anyWF rows all (bitsM all) = rows.any fun s => all.any fun r => Nat.blt r.j s.j && (!s.anc.testBit r.j && Nat.beq (pairK r.c s.c) 2)
  | [] => rfl
  | s :: rs => by
    have e1 : anyWF (s :: rs) all (bitsM all) = Bool.rec (Bool.rec (anyWF rs all (bitsM all)) true (all.any fun r => Nat.blt r.j s.j && (!s.anc.testBit r.j && Nat.beq (pairK r.c s.c) 2))) (anyWF rs all (bitsM all)) (allAnc (bitsM all) s.j s.anc) := rfl
    rw [e1, anyWF_eq all rs, List.any_cons]
    cases ha : allAnc (bitsM all) s.j s.anc with
    | false => simp only; cases all.any fun r => Nat.blt r.j s.j && (!s.anc.testBit r.j && Nat.beq (pairK r.c s.c) 2) <;> rfl
    | true =>
      have : (all.any fun r => Nat.blt r.j s.j && (!s.anc.testBit r.j && Nat.beq (pairK r.c s.c) 2)) = false := List.any_eq_false.2 fun r hr => by
        cases hb : Nat.blt r.j s.j with
        | false => simp
        | true => rw [allAnc_at ha hr (Nat.le_of_ble_eq_true hb)]; simp
      rw [this]; rfl
def rowsF (P : Program) (ops : Array Oper) : List MRow := mrowsF P ops.toList (masks [] ops.toList) 0
def reordF (P : Program) (ops : Array Oper) : Array Oper := Bool.rec ops (reordI ops (orderO ops.size (todoO P ops.toList 0) 0)) (anyWF (rowsF P ops) (rowsF P ops) (bitsM (rowsF P ops)))
theorem reordF_eq (P : Program) (ops : Array Oper) : reordF P ops = reord P ops := by
  unfold reordF reord
  have e1 : rowsF P ops = mrows P ops.toList (masks [] ops.toList) 0 := mrowsF_eq _ _ _ _
  rw [anyWF_eq, e1]
  have e2 : (List.any (mrows P ops.toList (masks [] ops.toList) 0) fun s => List.any (mrows P ops.toList (masks [] ops.toList) 0) fun r => Nat.blt r.j s.j && (!s.anc.testBit r.j && Nat.beq (pairK r.c s.c) 2)) = anyW (mrows P ops.toList (masks [] ops.toList) 0) := rfl
  rw [e2]
  cases anyW (mrows P ops.toList (masks [] ops.toList) 0) <;> rfl
def drawF (P : Program) (nt : Nat) (L : EM) (ops : Array Oper) : Cl e :=
  Rg.rec (fun f => .mk fun c tm T n => natK (Nat.succ n) fun n => f c ((), .i (.ofNat n)) tm T n) (rgF P nt L ops.toList (rowsF P ops) (bitsM (rowsF P ops)) ops.toList L 1 [] [] 0)
def drawGood (P : Program) (nt : Nat) (ops : Array Oper) : Bool := drawOk P ops && ops.toList.all (dstIn nt)
theorem drawF_eq (P : Program) (nt : Nat) (L : EM) (ops : Array Oper) (h : drawGood P nt ops = true) : drawF (e := e) P nt L ops = drawC P nt L ops := by
  have e1 : rowsF P ops = mrows P ops.toList (masks [] ops.toList) 0 := mrowsF_eq _ _ _ _
  unfold drawF drawC
  unfold drawGood at h
  rw [h, rgF_eq, e1]



/-! code -/
abbrev CMF := (e : Nat) → Program → Nat → EM → Nat → Cl e
def f_skip : CMF := fun _ _ _ _ _ => .mk fun _ tm T n => .norm tm T n
def f_region : Nat → Array Oper → Bool → CMF := fun _ ops dr _ P nt L _ => Bool.rec (Rg.rec (fun f => .mk fun c tm T n => f c () tm T n) (rgS P nt L ops.toList ops.toList L 0 [])) (drawF P nt L (reordF P ops)) dr
def f_seq : Code → Code → CMF → CMF → CMF := fun _ _ a b e P nt L N => Cl.rec (fun f => Cl.rec (fun g => .mk fun c tm T n => Out.rec .bad (fun tm T n => g c tm T n) (fun id tm T n => .exit id tm T n) (fun tm T n => .ret tm T n) (f c tm T n)) (b e P nt L N)) (a e P nt L N)
def f_cond : Operand → Code → Code → CMF → CMF → CMF := fun x _ _ a b e P nt L N => OpA.rec (fun x => Cl.rec (fun f => Cl.rec (fun g => .mk fun c tm T n => onBool (f c tm T n) (g c tm T n) (x () tm)) (b e P nt L N)) (a e P nt L N)) (opA L 0 x)
def f_block : Nat → Code → CMF → CMF := fun id _ b e P nt L N => Cl.rec (fun f => .mk fun c tm T n => Out.rec .bad (fun tm T n => .norm tm T n) (fun id' tm T n => Bool.rec (.exit id' tm T n) (.norm tm T n) (Nat.beq id' id)) (fun tm T n => .ret tm T n) (f c tm T n)) (b e P nt L N)
def f_loop : Code → CMF → CMF := fun _ b e P nt L N => Cl.rec (fun f => .mk fun c tm T n => loopN (fun tm T n => f c tm T n) N tm T n) (b e P nt L N)
def f_bad : CMF := fun _ _ _ _ _ => .mk fun _ _ _ _ => .bad
def f_rangeFunc : Operand → Array Tmp → Code → Code → CMF → CMF → CMF := fun _ _ _ _ _ _ => f_bad
def f_exit : Nat → CMF := fun id _ _ _ _ _ => .mk fun _ tm T n => .exit id tm T n
def f_scope : Code → CMF → CMF := fun _ _ => f_bad
def f_label : Nat → CMF := fun _ _ _ _ _ _ => .mk fun _ tm T n => .norm tm T n
def f_goto : Nat → CMF := fun _ => f_bad
def f_ret : CMF := fun _ _ _ _ _ => .mk fun _ tm T n => .ret tm T n
def f_refuse : String → CMF := fun _ => f_bad
def cmF (code : Code) : CMF := Code.rec (motive := fun _ => CMF) f_skip f_region f_seq f_cond f_block f_loop f_rangeFunc f_exit f_scope f_label f_goto f_ret f_refuse code
/-- its drawn regions may stand so -/
def codeGood (P : Program) (nt : Nat) : Code → Bool
  | .region _ ops true => drawGood P nt (reord P ops)
  | .seq a b => codeGood P nt a && codeGood P nt b
  | .cond _ a b => codeGood P nt a && codeGood P nt b
  | .block _ b => codeGood P nt b
  | .loop b => codeGood P nt b
  | _ => true
theorem cmF_eq (e : Nat) (P : Program) (nt : Nat) (L : EM) (N : Nat) : ∀ (code : Code), codeGood P nt code = true → cmF code e P nt L N = cmC P nt L N code
  | .skip, _ => rfl
  | .region id ops false, _ => by
    have e1 : cmF (.region id ops false) e P nt L N = Rg.rec (fun f => .mk fun c tm T n => f c () tm T n) (rgS P nt L ops.toList ops.toList L 0 []) := rfl
    rw [e1, cmC_region0, rgS_eq P nt L ops.toList ops.toList L 0 [] [] 0]

  | .region id ops true, h => by
    have e1 : cmF (.region id ops true) e P nt L N = drawF P nt L (reordF P ops) := rfl
    rw [e1, cmC_region1, reordF_eq, drawF_eq P nt L _ h]
  | .seq a b, h => by
    have h' : (codeGood P nt a && codeGood P nt b) = true := h
    rw [Bool.and_eq_true] at h'
    have e1 : cmF (.seq a b) e P nt L N = Cl.rec (fun f => Cl.rec (fun g => .mk fun c tm T n => Out.rec .bad (fun tm T n => g c tm T n) (fun id tm T n => .exit id tm T n) (fun tm T n => .ret tm T n) (f c tm T n)) (cmF b e P nt L N)) (cmF a e P nt L N) := rfl
    rw [e1, cmC_seq, cmF_eq e P nt L N a h'.1, cmF_eq e P nt L N b h'.2]

  | .cond x a b, h => by
    have h' : (codeGood P nt a && codeGood P nt b) = true := h
    rw [Bool.and_eq_true] at h'
    have e1 : cmF (.cond x a b) e P nt L N = OpA.rec (fun x => Cl.rec (fun f => Cl.rec (fun g => .mk fun c tm T n => onBool (f c tm T n) (g c tm T n) (x () tm)) (cmF b e P nt L N)) (cmF a e P nt L N)) (opA L 0 x) := rfl
    rw [e1, cmC_cond, cmF_eq e P nt L N a h'.1, cmF_eq e P nt L N b h'.2]

  | .block id b, h => by
    have e1 : cmF (.block id b) e P nt L N = Cl.rec (fun f => .mk fun c tm T n => Out.rec .bad (fun tm T n => .norm tm T n) (fun id' tm T n => Bool.rec (.exit id' tm T n) (.norm tm T n) (Nat.beq id' id)) (fun tm T n => .ret tm T n) (f c tm T n)) (cmF b e P nt L N) := rfl
    rw [e1, cmC_block, cmF_eq e P nt L N b h]

  | .loop b, h => by
    have e1 : cmF (.loop b) e P nt L N = Cl.rec (fun f => .mk fun c tm T n => loopN (fun tm T n => f c tm T n) N tm T n) (cmF b e P nt L N) := rfl
    rw [e1, cmC_loop, cmF_eq e P nt L N b h]

  | .rangeFunc .., _ => rfl
  | .exit _, _ => rfl
  | .scope _, _ => rfl
  | .label _, _ => rfl
  | .goto _, _ => rfl
  | .ret, _ => rfl
  | .refuse _, _ => rfl

/-! functions -/
def funcGood (P : Program) (fn : Func) : Bool := !(fn.name == "runtime.NumGoroutine") && Option.rec true (fun code => codeGood P fn.ntmps code) fn.body
def fnF (P : Program) (N : Nat) (S : Tab) (f : FuncId) : FnC :=
  match P.funcs[f]? with
  | some fn => match fn.body, Nat.ble fn.ntmps 1024 && below fn.ntmps (S f) with
    | some code, true => natK (deep 6 (S f).length) fun e => match cmF code e P fn.ntmps (slotsE (S f) 0) N, resC (e := e) P (slotsE (S f) 0) fn.results.toList with
        | .mk b, [.mk r] => .mk e b (fun args => ATof (slotsE (S f) 0) args 0 (emp e)) fun tm T n => r tm T fun v => .ok v T n
        | .mk b, l => .mk e b (fun args => ATof (slotsE (S f) 0) args 0 (emp e)) fun tm T n => evsR l tm T fun l => .ok (.oth (.tuple l)) T n
    | _, _ => .bad
  | none => .bad
def fnB (P : Program) (N : Nat) (S : Tab) (f : FuncId) (fn : Func) (code : Code) (cm : (e : Nat) → Cl e) : FnC := natK (deep 6 (S f).length) fun e => match cm e, resC (e := e) P (slotsE (S f) 0) fn.results.toList with
        | .mk b, [.mk r] => .mk e b (fun args => ATof (slotsE (S f) 0) args 0 (emp e)) fun tm T n => r tm T fun v => .ok v T n
        | .mk b, l => .mk e b (fun args => ATof (slotsE (S f) 0) args 0 (emp e)) fun tm T n => evsR l tm T fun l => .ok (.oth (.tuple l)) T n
theorem fnF_eq {P : Program} (N : Nat) (S : Tab) (f : FuncId) (h : ∀ fn, P.funcs[f]? = some fn → funcGood P fn = true) : fnF P N S f = fnC P N S f := by
  have e1 : fnF P N S f = match P.funcs[f]? with
    | some fn => (match fn.body, Nat.ble fn.ntmps 1024 && below fn.ntmps (S f) with
      | some code, true => fnB P N S f fn code (fun e => cmF code e P fn.ntmps (slotsE (S f) 0) N)
      | _, _ => .bad)
    | none => .bad := rfl
  have e2 : fnC P N S f = match P.funcs[f]? with
    | some fn => (match fn.body, Nat.ble fn.ntmps 1024 && (below fn.ntmps (S f) && !(fn.name == "runtime.NumGoroutine")) with
      | some code, true => fnB P N S f fn code (fun e => cmC P fn.ntmps (slotsE (S f) 0) N code)
      | _, _ => .bad)
    | none => .bad := rfl
  rw [e1, e2]
  cases hf : P.funcs[f]? with
  | none => rfl
  | some fn =>
    have h1 := h fn hf
    unfold funcGood at h1
    rw [Bool.and_eq_true] at h1
    simp only [h1.1, Bool.and_true]
    cases hb : fn.body with
    | none => rfl
    | some code =>
      have h2 : codeGood P fn.ntmps code = true := by have := h1.2; rw [hb] at this; exact this
      have h3 : (fun e => cmF code e P fn.ntmps (slotsE (S f) 0) N) = (fun e => cmC P fn.ntmps (slotsE (S f) 0) N code) := funext fun e => cmF_eq e P fn.ntmps (slotsE (S f) 0) N code h2
      cases Nat.ble fn.ntmps 1024 && below fn.ntmps (S f) with
      | false => rfl
      | true => exact congrArg (fnB P N S f fn code) h3
def callJ (P : Program) (N : Nat) (S : Tab) (hk : CallI) (d : Nat) : CallI :=
  Nat.rec (fun _ _ _ _ => .bad) (fun _ ih f args T n => Res.rec
    (FnC.rec .bad (fun _ b ini res => Out.rec .bad res (fun _ _ _ _ => .bad) res (b ih (ini args) T n)) (fnF P N S f))
    (fun v T n => .ok v T n) (hk f args T n)) d
theorem callJ_eq {P : Program} (h : ∀ (f : FuncId) fn, P.funcs[f]? = some fn → funcGood P fn = true) (N : Nat) (S : Tab) (hk : CallI) : ∀ d, callJ P N S hk d = callI P N S hk d
  | 0 => rfl
  | d + 1 => by
    funext f args T n
    have e1 : callJ P N S hk (d + 1) f args T n = Res.rec
      (FnC.rec .bad (fun _ b ini res => Out.rec .bad res (fun _ _ _ _ => .bad) res (b (callJ P N S hk d) (ini args) T n)) (fnF P N S f)) (fun v T n => .ok v T n) (hk f args T n) := rfl
    rw [e1, callI_succ, callJ_eq h N S hk d, fnF_eq N S f (h f)]
theorem callJ_ok {P : Program} (hm : P.follows .mixedOrders = true) (h : ∀ (f : FuncId) fn, P.funcs[f]? = some fn → funcGood P fn = true) (N : Nat) (S : Tab) {hk : CallI} (hhk : HkOk P hk) (d : Nat) : CallsOk P (callJ P N S hk d) := by
  rw [callJ_eq h]; exact callI_ok hm N S hhk d
/-- all functions in a part of the program's list -/
def goodPart (P : Program) (from_ n : Nat) : Bool := ((P.funcs.toList.drop from_).take n).all (funcGood P)
theorem good_of {P : Program} {step m : Nat} (hs : 0 < step) (hm : P.funcs.size ≤ step * m) (h : ∀ i, i < m → goodPart P (step * i) step = true) : ∀ (f : FuncId) fn, P.funcs[f]? = some fn → funcGood P fn = true := by
  intro f fn hf
  have hlt : f < P.funcs.size := by
    rcases Nat.lt_or_ge f P.funcs.size with q | q
    · exact q
    · rw [Array.getElem?_eq_none q] at hf; cases hf
  have hi : f / step < m := Nat.div_lt_of_lt_mul (Nat.lt_of_lt_of_le hlt hm)
  have h1 := List.all_eq_true.1 (h _ hi)
  refine h1 fn (List.mem_iff_getElem?.2 ⟨f % step, ?_⟩)
  rw [List.getElem?_take, if_pos (Nat.mod_lt _ hs), List.getElem?_drop, Nat.div_add_mod]
  simpa using hf
end
end Go.Ab
