/- Concrete runs: what a closure did to the heap; what its words say. No condition. -/
import Derived.Test.YtnhbohcjmdfmiaaGreatC5
set_option linter.unusedVariables false
set_option linter.unusedSimpArgs false
namespace Go.Ab
open Go
noncomputable section
variable {e k : Nat}

def valO (E : EM) (k : Nat) (st : ST k) (tm : QT CV e) (x : Operand) : CV := (opA (e := e) E k x).run st tm

theorem cI_av (k : IntKind) (n : Int) : (cI k n).av = .int k n := by cases k <;> rfl
theorem toC_av (v : AV) : (toC v).av = v := by
  cases v <;> first | rfl | exact cI_av _ _
theorem cstC_eq (v : AV) : cstC v = .cst (toC v) := by unfold cstC; cases toC v <;> rfl
theorem cstC_run (k : Nat) (v : AV) (st : ST k) (tm : QT CV e) : ((srC k (cstC v)).run st tm).av = v := by rw [cstC_eq]; exact toC_av v

/-- was it written before so many places were given away? -/
def HE.older (n : Nat) : HE → Prop
  | .cells _ _ _ _ _ s => s < n
  | .ints _ _ _ _ s => s < n
  | _ => False
def HE.md? : HE → Option Md
  | .cells _ _ _ _ md _ => some md
  | .ints _ _ _ md _ => some md
  | _ => none
theorem HE.older.mono {n n' : Nat} (h : n ≤ n') {x : HE} (hx : x.older n) : x.older n' := by
  cases x with
  | hole => exact hx
  | dead => exact hx
  | cells => exact Nat.lt_of_lt_of_le hx h
  | ints => exact Nat.lt_of_lt_of_le hx h
theorem HE.md_live {x : HE} {md : Md} (h : x.md? = some md) : ∃ bk, x.ent = .live bk md := by
  cases x with
  | hole => cases h
  | dead => cases h
  | cells => cases h; exact ⟨_, rfl⟩
  | ints => cases h; exact ⟨_, rfl⟩
theorem HE.live_md {x : HE} {bk : Blk} {md : Md} (h : x.ent = .live bk md) : x.md? = some md := by
  cases x with
  | hole => cases h
  | dead => cases h
  | cells => cases h; rfl
  | ints => cases h; rfl

/-- blocks are whole; what was not given away is nothing -/
structure TOk (T : HT) (n : Nat) : Prop where
  top : ∀ b, b < 65536 → n ≤ b → QT.get 8 b T = .hole
  wf : ∀ b, b < 65536 → ∀ w num d c md s, QT.get 8 b T = .cells w num d c md s → num * w ≤ 4 ^ d

/-- from one heap to a later one -/
structure Did (T : HT) (n : Nat) (T' : HT) (n' : Nat) : Prop where
  le : n ≤ n'
  old : ∀ b, b < 65536 → (QT.get 8 b T').older n → QT.get 8 b T' = QT.get 8 b T
  gone : ∀ b, b < 65536 → b < n → (QT.get 8 b T).md? = none → QT.get 8 b T' = QT.get 8 b T
  md : ∀ b, b < 65536 → ∀ md, (QT.get 8 b T').md? = some md → (QT.get 8 b T).md? = some md ∨ (n ≤ b ∧ md = .own)
  ok : TOk T n → TOk T' n'
  shape : TOk T n → ∀ b, b < 65536 → ∀ bk md bk' md', (QT.get 8 b T).ent = .live bk md → (QT.get 8 b T').ent = .live bk' md' → bk'.num = bk.num ∧ bk'.str = bk.str

theorem Did.refl (T : HT) (n : Nat) : Did T n T n := ⟨Nat.le_refl _, fun _ _ _ => rfl, fun _ _ _ _ => rfl, fun _ _ _ h => .inl h, id, fun _ _ _ _ _ _ _ h h' => by rw [h] at h'; cases h'; exact ⟨rfl, rfl⟩⟩
theorem Did.bump (T : HT) (n : Nat) : Did T n T (n + 1) := ⟨Nat.le_succ _, fun _ _ _ => rfl, fun _ _ _ _ => rfl, fun _ _ _ h => .inl h, fun h => ⟨fun b hb hn => h.top b hb (by omega), h.wf⟩, fun _ _ _ _ _ _ _ h h' => by rw [h] at h'; cases h'; exact ⟨rfl, rfl⟩⟩
theorem Did.trans {T T1 T2 : HT} {n n1 n2 : Nat} (h : Did T n T1 n1) (g : Did T1 n1 T2 n2) : Did T n T2 n2 where
  le := Nat.le_trans h.le g.le
  old b hb ho := by
    have e1 := g.old b hb (ho.mono h.le)
    rw [e1] at ho ⊢
    exact h.old b hb ho
  gone b hb hn hm := by
    have e1 := h.gone b hb hn hm
    rw [← e1, g.gone b hb (Nat.lt_of_lt_of_le hn h.le) (by rw [e1]; exact hm)]
  md b hb md hm := by
    rcases g.md b hb md hm with q | ⟨q1, q2⟩
    · exact h.md b hb md q
    · exact .inr ⟨Nat.le_trans h.le q1, q2⟩
  ok hk := g.ok (h.ok hk)
  shape hk b hb bk md bk2 md2 e1 e2 := by
    have hbn : b < n := by
      apply Classical.byContradiction
      intro q
      rw [hk.top b hb (by omega)] at e1
      cases e1
    cases hq : (QT.get 8 b T1).ent with
    | live bk1 md1 =>
      obtain ⟨a1, a2⟩ := h.shape hk b hb _ _ _ _ e1 hq
      obtain ⟨b1, b2⟩ := g.shape (h.ok hk) b hb _ _ _ _ hq e2
      exact ⟨b1.trans a1, b2.trans a2⟩
    | hole =>
      have hm : (QT.get 8 b T1).md? = none := by
        cases hx : QT.get 8 b T1 <;> rw [hx] at hq <;> first | rfl | cases hq
      rw [g.gone b hb (Nat.lt_of_lt_of_le hbn h.le) hm, hq] at e2
      cases e2
    | dead =>
      have hm : (QT.get 8 b T1).md? = none := by
        cases hx : QT.get 8 b T1 <;> rw [hx] at hq <;> first | rfl | cases hq
      rw [g.gone b hb (Nat.lt_of_lt_of_le hbn h.le) hm, hq] at e2
      cases e2

theorem get_set8 (T : HT) (b c : Nat) (x : HE) (hb : b < 65536) (hc : c < 65536) : QT.get 8 c (runS (setC 8 b) x T) = if c = b then x else QT.get 8 c T := by
  rw [setC_run, QT.get_set 8 c b x T (by omega) (by omega)]

/-- one block is written -/
theorem Did.write {T : HT} {n b : Nat} {x : HE} (hb : b < 65536) {md : Md} (h1 : (QT.get 8 b T).md? = some md) (h2 : x.md? = some md) (h3 : ¬ x.older n)
    (h4 : ∀ w num d c md s, x = .cells w num d c md s → ∃ c' s', QT.get 8 b T = .cells w num d c' md s') (h5 : ∀ bk md bk' md', (QT.get 8 b T).ent = .live bk md → x.ent = .live bk' md' → bk'.num = bk.num ∧ bk'.str = bk.str) : Did T n (runS (setC 8 b) x T) n where
  shape hk c hc bk md bk' md' e1 e2 := by
    rw [get_set8 T b c x hb hc] at e2
    by_cases e : c = b
    · subst e; rw [if_pos rfl] at e2; exact h5 _ _ _ _ e1 e2
    · rw [if_neg e, e1] at e2; cases e2; exact ⟨rfl, rfl⟩
  le := Nat.le_refl _
  old c hc ho := by
    rw [get_set8 T b c x hb hc] at ho ⊢
    by_cases e : c = b
    · rw [if_pos e] at ho; exact absurd ho h3
    · rw [if_neg e]
  gone c hc hn hm := by
    rw [get_set8 T b c x hb hc]
    by_cases e : c = b
    · subst e; rw [h1] at hm; cases hm
    · rw [if_neg e]
  md c hc md' hm := by
    rw [get_set8 T b c x hb hc] at hm
    by_cases e : c = b
    · subst e; rw [if_pos rfl, h2] at hm; rw [← hm]; exact .inl h1
    · rw [if_neg e] at hm; exact .inl hm
  ok hk := ⟨fun c hc hn => by
      rw [get_set8 T b c x hb hc]
      by_cases e : c = b
      · subst e
        have := hk.top c hc hn
        rw [this] at h1; cases h1
      · rw [if_neg e]; exact hk.top c hc hn,
    fun c hc w num d cc md' s he => by
      rw [get_set8 T b c x hb hc] at he
      by_cases e : c = b
      · subst e
        rw [if_pos rfl] at he
        obtain ⟨c', s', h5⟩ := h4 _ _ _ _ _ _ he
        exact hk.wf c hc _ _ _ _ _ _ h5
      · rw [if_neg e] at he; exact hk.wf c hc _ _ _ _ _ _ he⟩
/-- one block ends -/
theorem Did.kill {T : HT} {n b : Nat} (hb : b < 65536) {md : Md} (h1 : (QT.get 8 b T).md? = some md) : Did T n (killB T b) n where
  shape hk c hc bk md bk' md' e1 e2 := by
    unfold killB at e2
    rw [get_set8 T b c _ hb hc] at e2
    by_cases e : c = b
    · rw [if_pos e] at e2; cases e2
    · rw [if_neg e, e1] at e2; cases e2; exact ⟨rfl, rfl⟩
  le := Nat.le_refl _
  old c hc ho := by
    unfold killB at ho ⊢
    rw [get_set8 T b c _ hb hc] at ho ⊢
    by_cases e : c = b
    · rw [if_pos e] at ho; exact ho.elim
    · rw [if_neg e]
  gone c hc hn hm := by
    unfold killB
    rw [get_set8 T b c _ hb hc]
    by_cases e : c = b
    · subst e; rw [h1] at hm; cases hm
    · rw [if_neg e]
  md c hc md' hm := by
    unfold killB at hm
    rw [get_set8 T b c _ hb hc] at hm
    by_cases e : c = b
    · subst e; rw [if_pos rfl] at hm; cases hm
    · rw [if_neg e] at hm; exact .inl hm
  ok hk := ⟨fun c hc hn => by
      unfold killB
      rw [get_set8 T b c _ hb hc]
      by_cases e : c = b
      · subst e
        have := hk.top c hc hn
        rw [this] at h1; cases h1
      · rw [if_neg e]; exact hk.top c hc hn,
    fun c hc w num d cc md' s he => by
      unfold killB at he
      rw [get_set8 T b c _ hb hc] at he
      by_cases e : c = b
      · rw [if_pos e] at he; cases he
      · rw [if_neg e] at he; exact hk.wf c hc _ _ _ _ _ _ he⟩
/-- a new block -/
theorem Did.new {T : HT} {n : Nat} {x : HE} (hb : n < 65536) (h2 : x.md? = some .own) (h3 : ¬ x.older n) (h4 : ∀ w num d c md s, x = .cells w num d c md s → num * w ≤ 4 ^ d) : Did T n (runS (setC 8 n) x T) (n + 1) where
  shape hk c hc bk md bk' md' e1 e2 := by
    rw [get_set8 T n c _ hb hc] at e2
    by_cases e : c = n
    · subst e; rw [hk.top c hc (Nat.le_refl _)] at e1; cases e1
    · rw [if_neg e, e1] at e2; cases e2; exact ⟨rfl, rfl⟩
  le := Nat.le_succ _
  old c hc ho := by
    rw [get_set8 T n c x hb hc] at ho ⊢
    by_cases e : c = n
    · rw [if_pos e] at ho; exact absurd ho h3
    · rw [if_neg e]
  gone c hc hn hm := by
    rw [get_set8 T n c x hb hc, if_neg (by omega)]
  md c hc md' hm := by
    rw [get_set8 T n c x hb hc] at hm
    by_cases e : c = n
    · rw [if_pos e, h2] at hm; cases hm; exact .inr ⟨by omega, rfl⟩
    · rw [if_neg e] at hm; exact .inl hm
  ok hk := ⟨fun c hc hn => by
      rw [get_set8 T n c x hb hc, if_neg (by omega)]
      exact hk.top c hc (by omega),
    fun c hc w num d cc md' s he => by
      rw [get_set8 T n c x hb hc] at he
      by_cases e : c = n
      · rw [if_pos e] at he; exact h4 _ _ _ _ _ _ he
      · rw [if_neg e] at he; exact hk.wf c hc _ _ _ _ _ _ he⟩

/-- what turned, told by the later heap -/
def dL (L : List Nat) (T' : HT) : Delta := L.map fun b => (b, (QT.get 8 b T').ent)
theorem dL_keys (L : List Nat) (T' : HT) : (dL L T').map (·.1) = L := by
  unfold dL; rw [List.map_map]; exact (List.map_congr_left fun _ _ => rfl).trans (List.map_id L)
theorem dlook_dL (L : List Nat) (T' : HT) (b : Nat) : dlook (dL L T') b = if b ∈ L then some (QT.get 8 b T').ent else none := by
  induction L with
  | nil => rfl
  | cons c L ih =>
    show (match dlook (dL L T') b with | some x => some x | none => if c = b then some (QT.get 8 c T').ent else none) = _
    rw [ih]
    by_cases h : b ∈ L
    · simp [h]
    · by_cases hc : c = b
      · subst hc; simp [h]
      · have : ¬ b = c := fun e => hc e.symm
        simp [h, hc, this]
theorem hat_dL (H : Heap) (L : List Nat) (T' : HT) (b : Nat) : hat (hput H (dL L T')) b = if b ∈ L then (QT.get 8 b T').ent else hat H b := by
  rw [hat_hput, dlook_dL]
  by_cases h : b ∈ L
  · rw [if_pos h, if_pos h]; rfl
  · rw [if_neg h, if_neg h]; rfl
theorem hat_dLT {T T' : HT} {L : List Nat} (h1 : ∀ b ∈ L, b < 65536) (h2 : ∀ b, b < 65536 → b ∉ L → QT.get 8 b T' = QT.get 8 b T) (b : Nat) : hat (hput (absH T) (dL L T')) b = hat (absH T') b := by
  rw [hat_dL]
  by_cases h : b ∈ L
  · rw [if_pos h, hat_abs, if_pos (h1 b h)]
  · rw [if_neg h, hat_abs, hat_abs]
    by_cases hb : b < 65536
    · rw [if_pos hb, if_pos hb, h2 b hb h]
    · rw [if_neg hb, if_neg hb]

/-- what may have turned from one heap to a later one -/
def Lof (T0 : HT) (n0 : Nat) (T : HT) (n : Nat) : List Nat := (List.range 65536).filter fun b => @decide (b < n ∧ (n0 ≤ b ∨ QT.get 8 b T ≠ QT.get 8 b T0)) (Classical.propDecidable _)
theorem mem_Lof {T0 : HT} {n0 : Nat} {T : HT} {n b : Nat} : b ∈ Lof T0 n0 T n ↔ b < 65536 ∧ b < n ∧ (n0 ≤ b ∨ QT.get 8 b T ≠ QT.get 8 b T0) := by
  unfold Lof
  rw [List.mem_filter, List.mem_range, @decide_eq_true_iff _ (Classical.propDecidable _)]

/-- a block of the same shape -/
def AgrS (T : HT) (K : Heap) (b : Nat) : Prop := ∀ bk md, hget (absH T) b = some (bk, md) → ∃ bk' md', hget K b = some (bk', md') ∧ bk'.num = bk.num ∧ bk'.str = bk.str
/-- that reads the same at a place -/
def AgrR (T : HT) (K : Heap) (p : AV) (how : Rd) : Prop := ∀ b, blkA p = some b → ∀ bk md, hget (absH T) b = some (bk, md) → ∃ bk' md', hget K b = some (bk', md') ∧ bk'.num = bk.num ∧ bk'.str = bk.str ∧
  match how, p with
  | .cell, .ptr _ i fo => i < bk.num → fo < bk.str → bk'.ld i fo = bk.ld i fo
  | .agg w, .ptr _ i fo => i < bk.num → fo < bk.str → ldn bk' i fo w = ldn bk i fo w
  | .shape, _ => md' = md
  | _, _ => True
/-- what is read there -/
def RdV (T : HT) (how : Rd) (p v : AV) : Prop := match how, p with
  | .cell, .ptr b i fo => ∀ bk md, hget (absH T) b = some (bk, md) → i < bk.num → fo < bk.str → bk.ld i fo = some v
  | .agg w, .ptr b i fo => ∀ bk md, hget (absH T) b = some (bk, md) → i < bk.num → fo < bk.str → ∃ l, ldn bk i fo w = some l ∧ v = .agg l
  | _, _ => True
def RdC (P : Program) (o : Oper) (ev : Operand → AV) (T : HT) (v : AV) : Prop := ∀ l, clsOf P o.op = .r l → ∀ x ∈ l, RdV T x.2 (ev x.1) v
theorem rdC_of {P : Program} {o : Oper} {ev : Operand → AV} {T : HT} {v : AV} (h : ∀ t x, o.op ≠ .load t x) : RdC P o ev T v := by
  intro l hl x hx
  have hs : x.2 = .shape := by
    obtain ⟨dst, op, ty, pos, after, guard⟩ := o
    cases op <;> simp only [clsOf] at hl <;> first
      | exact absurd rfl (h _ _)
      | (cases hl; done)
      | (cases hl; obtain rfl := List.mem_singleton.1 hx; rfl)
      | (split at hl <;> first
          | (cases hl; done)
          | (cases hl; obtain rfl := List.mem_singleton.1 hx; rfl)
          | (cases hl; obtain ⟨y, _, rfl⟩ := List.mem_map.1 hx; rfl))
  rw [hs]
  exact trivial
/-- what an operation looks at is the same -/
def AgrC (ev : Operand → AV) (T : HT) (K : Heap) : Cls → Prop
  | .p => True
  | .r l => ∀ x ∈ l, AgrR T K (ev x.1) x.2
  | .a => True
  | .w x => ∀ b, blkA (ev x) = some b → hget K b = hget (absH T) b
  | .x => ∀ b, hget K b = hget (absH T) b
/-- what it turns -/
def turnsC (ev : Operand → AV) (v : AV) (n : Nat) : Cls → List Nat → Prop
  | .p, L => L = []
  | .r _, L => L = []
  | .a, L => ∀ b ∈ L, blkA v = some b ∧ n ≤ b
  | .w x, L => ∀ b ∈ L, blkA (ev x) = some b
  | .x, _ => True

/-- an operation that was run -/
structure Ran (P : Program) (o : Oper) (ev : Operand → AV) (T : HT) (n : Nat) (v : AV) (T' : HT) (n' : Nat) (L : List Nat) : Prop where
  did : Did T n T' n'
  lt : ∀ b ∈ L, b < 65536
  new : ∀ b ∈ L, ¬ (QT.get 8 b T').older n
  same : ∀ b, b < 65536 → b ∉ L → QT.get 8 b T' = QT.get 8 b T
  turns : turnsC ev v n (clsOf P o.op) L
  top : ∀ b ∈ L, b < n'
  pre : ∀ b ∈ L, b < n → (QT.get 8 b T).md? ≠ none
  rd : RdC P o ev T v
  step : ∀ K, AgrC ev T K (clsOf P o.op) → Step P o ev K n v (dL L T')

/-- nothing turns -/
theorem Ran.pure {P : Program} {o : Oper} {ev : Operand → AV} {T : HT} {n : Nat} {v : AV} (hc : ∀ x, clsOf P o.op ≠ .w x) (h : ∀ K, AgrC ev T K (clsOf P o.op) → Step P o ev K n v []) (hrd : RdC P o ev T v := by exact rdC_of (by intro _ _; simp)) : Ran P o ev T n v T n [] where
  did := .refl _ _
  lt b hb := by cases hb
  new b hb := by cases hb
  same b _ _ := rfl
  turns := by
    cases hq : clsOf P o.op with
    | p => rfl
    | r => rfl
    | a => intro b hb; cases hb
    | w x => exact absurd hq (hc x)
    | x => trivial
  top b hb := by cases hb
  pre b hb := by cases hb
  rd := hrd
  step K hK := h K hK

/-! what the words say -/
theorem chk_inv {b : Bool} {r : Out e} (h : chk b r ≠ .bad) : b = true ∧ chk b r = r := by
  cases b
  · exact absurd rfl h
  · exact ⟨rfl, rfl⟩
theorem onPtr_inv {f : Nat → Nat → Nat → Out e} {v : CV} (h : onPtr f v ≠ .bad) : ∃ b i fo, v = .ptr b i fo ∧ onPtr f v = f b i fo := by
  cases v <;> first | exact ⟨_, _, _, rfl, rfl⟩ | exact absurd rfl h
theorem onBool_inv {a b : Out e} {v : CV} (h : onBool a b v ≠ .bad) : (v = .bool true ∧ onBool a b v = a) ∨ (v = .bool false ∧ onBool a b v = b) := by
  cases v with
  | bool x => cases x; exact .inr ⟨rfl, rfl⟩; exact .inl ⟨rfl, rfl⟩
  | _ => exact absurd rfl h
theorem onInt_inv {f : Int → Out e} {g : IntKind → Int → Out e} {v : CV} (h : onInt f g v ≠ .bad) : (∃ n, v = .i n ∧ onInt f g v = f n) ∨ (∃ kd n, v = .oth (.int kd n) ∧ onInt f g v = g kd n) := by
  cases v with
  | i n => exact .inl ⟨n, rfl, rfl⟩
  | oth x => cases x <;> first | exact .inr ⟨_, _, rfl, rfl⟩ | exact absurd rfl h
  | _ => exact absurd rfl h
theorem onOth_inv {f : AV → Out e} {v : CV} (h : onOth f v ≠ .bad) : ∃ x, v = .oth x ∧ onOth f v = f x := by
  cases v <;> first | exact ⟨_, rfl, rfl⟩ | exact absurd rfl h
theorem othAgg_inv {f : List AV → Out e} {v : AV} (h : othAgg f v ≠ .bad) : ∃ l, v = .agg l ∧ othAgg f v = f l := by
  cases v <;> first | exact ⟨_, rfl, rfl⟩ | exact absurd rfl h
theorem othTuple_inv {f : List AV → Out e} {v : AV} (h : othTuple f v ≠ .bad) : ∃ l, v = .tuple l ∧ othTuple f v = f l := by
  cases v <;> first | exact ⟨_, rfl, rfl⟩ | exact absurd rfl h
theorem othStr_inv {f : ByteArray → Out e} {v : AV} (h : othStr f v ≠ .bad) : ∃ l, v = .str l ∧ othStr f v = f l := by
  cases v <;> first | exact ⟨_, rfl, rfl⟩ | exact absurd rfl h
theorem othIface_inv {f : TypeId → AV → Out e} {v : AV} (h : othIface f v ≠ .bad) : ∃ t x, v = .iface t x ∧ othIface f v = f t x := by
  cases v <;> first | exact ⟨_, _, rfl, rfl⟩ | exact absurd rfl h
theorem othFunc_inv {f : FuncId → List AV → List AV → Out e} {v : AV} (h : othFunc f v ≠ .bad) : ∃ g a b, v = .func (.func g) a b ∧ othFunc f v = f g a b := by
  cases v with
  | func fn a b => cases fn <;> first | exact ⟨_, _, _, rfl, rfl⟩ | exact absurd rfl h
  | _ => exact absurd rfl h
theorem othNil_inv {f : Out e} {v : AV} (h : othNil f v ≠ .bad) : v = .nilSlice ∧ othNil f v = f := by
  cases v <;> first | exact ⟨rfl, rfl⟩ | exact absurd rfl h
theorem othUnit_inv {f : Out e} {v : AV} (h : othUnit f v ≠ .bad) : v = .tuple [] ∧ othUnit f v = f := by
  cases v with
  | tuple l => cases l; exact ⟨rfl, rfl⟩; exact absurd rfl h
  | _ => exact absurd rfl h
theorem onSlice_inv {kn : Out e} {kw : Nat → Out e} {kp : Nat → Nat → Nat → Out e} {kg : Nat → Nat → Nat → Nat → Out e} {v : CV} (h : onSlice kn kw kp kg v ≠ .bad) :
    (v = .oth .nilSlice ∧ onSlice kn kw kp kg v = kn) ∨ (∃ b, v = .whole b ∧ onSlice kn kw kp kg v = kw b) ∨ (∃ b o l, v = .sl b o l ∧ onSlice kn kw kp kg v = kp b o l) ∨ (∃ b i o l, v = .seg b i o l ∧ onSlice kn kw kp kg v = kg b i o l) := by
  cases v with
  | whole b => exact .inr (.inl ⟨_, rfl, rfl⟩)
  | sl b o l => exact .inr (.inr (.inl ⟨_, _, _, rfl, rfl⟩))
  | seg b i o l => exact .inr (.inr (.inr ⟨_, _, _, _, rfl, rfl⟩))
  | oth x =>
    obtain ⟨h1, h2⟩ := othNil_inv (f := kn) (v := x) h
    exact .inl ⟨by rw [h1], h2⟩
  | _ => exact absurd rfl h
theorem nthC_inv : ∀ (i : Nat) {l : List AV} {f : AV → Out e}, nthC i l f ≠ .bad → ∃ x, l[i]? = some x ∧ nthC i l f = f x
  | 0, l, f, h => by cases l with
    | nil => exact absurd rfl h
    | cons x l => exact ⟨x, rfl, rfl⟩
  | i + 1, l, f, h => by cases l with
    | nil => exact absurd rfl h
    | cons x l =>
      obtain ⟨y, h1, h2⟩ := nthC_inv i (l := l) (f := f) h
      exact ⟨y, by simpa using h1, h2⟩
theorem natI_inv {f : Nat → Out e} {v : CV} (h : natI v f ≠ .bad) : ∃ kd m, v.av = .int kd (.ofNat m) ∧ natI v f = f m := by
  cases v with
  | i n => cases n with
    | ofNat m => exact ⟨_, m, rfl, rfl⟩
    | negSucc m => exact absurd rfl h
  | oth x => cases x with
    | int kd n => cases n with
      | ofNat m => exact ⟨_, m, rfl, rfl⟩
      | negSucc m => exact absurd rfl h
    | _ => exact absurd rfl h
  | _ => exact absurd rfl h
theorem atB_inv {T : HT} {b : Nat} {kc : Nat → Nat → (d : Nat) → QT CV d → Md → Nat → Out e} {ki : IntKind → Nat → Nat → Md → Nat → Out e} (h : atB T b kc ki ≠ .bad) : b < 65536 ∧
    ((∃ w num d c md s, QT.get 8 b T = .cells w num d c md s ∧ atB T b kc ki = kc w num d c md s) ∨ (∃ kd num a md s, QT.get 8 b T = .ints kd num a md s ∧ atB T b kc ki = ki kd num a md s)) := by
  obtain ⟨h1, h2⟩ := chk_inv h
  have hb : b < 65536 := by have := Nat.le_of_ble_eq_true h1; omega
  refine ⟨hb, ?_⟩
  change chk _ _ ≠ _ at h
  rw [h2] at h
  have e0 : atB T b kc ki = HE.rec .bad .bad kc ki (QT.get 8 b T) := by rw [← getC_run]; exact h2
  rw [e0]
  rw [getC_run] at h
  generalize QT.get 8 b T = x at h
  cases x with
  | hole => exact absurd rfl h
  | dead => exact absurd rfl h
  | cells w num d c md s => exact .inl ⟨w, num, d, c, md, s, rfl, rfl⟩
  | ints kd num a md s => exact .inr ⟨kd, num, a, md, s, rfl, rfl⟩
theorem abs_ok {T : HT} {b : Nat} {bk : Blk} {md : Md} (h : hget (absH T) b = some (bk, md)) (hs : 0 < bk.str) : bk.ok := by
  have hb := hget_abs_lt h
  rw [hget_abs T hb] at h
  cases hq : QT.get 8 b T with
  | hole => rw [hq] at h; cases h
  | dead => rw [hq] at h; cases h
  | cells w num d c md' s' =>
    rw [hq] at h
    cases h
    exact ⟨hs, by show ((List.range (num * w)).map _).length % w = 0; rw [List.length_map, List.length_range]; exact Nat.mul_mod_left _ _⟩
  | ints kd num a md' s' => rw [hq] at h; cases h; trivial
theorem liveB_inv {T : HT} {b : Nat} {r : Out e} (h : liveB T b r ≠ .bad) : b < 65536 ∧ (∃ bk md, hget (absH T) b = some (bk, md)) ∧ liveB T b r = r := by
  obtain ⟨hb, ⟨w, num, d, c, md, s, h1, h2⟩ | ⟨kd, num, a, md, s, h1, h2⟩⟩ := atB_inv h
  · exact ⟨hb, ⟨cellsBlk w num d c, md, by rw [hget_abs T hb, h1]; rfl⟩, h2⟩
  · exact ⟨hb, ⟨intsBlk kd num a, md, by rw [hget_abs T hb, h1]; rfl⟩, h2⟩
theorem kix_inj {a b : IntKind} (h : Nat.beq (kix a) (kix b) = true) : a = b := by
  have := Nat.eq_of_beq_eq_true h
  cases a <;> cases b <;> first | rfl | (simp [kix] at this)
theorem kix_0 {a : IntKind} (h : Nat.beq (kix a) 0 = true) : a = .i64 := kix_inj (b := .i64) h
theorem decK_inv {v : Int} {f : Nat → Out e} (h : decK v f ≠ .bad) : ∃ a, enc? v = some a ∧ decK v f = f a := by
  unfold decK at h ⊢
  cases he : enc? v with
  | none => rw [he] at h; exact absurd rfl h
  | some a => exact ⟨a, rfl, rfl⟩
theorem two_inv {x y : CV} {f : Int → Int → Out e} {g : IntKind → Int → Int → Out e} (h : two x y f g ≠ .bad) : ∃ ka a b, x.av = .int ka a ∧ y.av = .int ka b ∧ ((ka = .i64 ∧ two x y f g = f a b) ∨ two x y f g = g ka a b) := by
  rcases onInt_inv h with ⟨a, rfl, h1⟩ | ⟨ka, a, rfl, h1⟩
  · change two _ _ _ _ = _ at h1
    rw [h1] at h ⊢
    rcases onInt_inv h with ⟨b, rfl, h2⟩ | ⟨kb, b, rfl, h2⟩
    · exact ⟨_, a, b, rfl, rfl, .inl ⟨rfl, h2⟩⟩
    · rw [h2] at h; exact absurd rfl h
  · change two _ _ _ _ = _ at h1
    rw [h1] at h ⊢
    rcases onInt_inv h with ⟨b, rfl, h2⟩ | ⟨kb, b, rfl, h2⟩
    · rw [h2] at h; exact absurd rfl h
    · rw [h2] at h ⊢
      obtain ⟨h3, h4⟩ := chk_inv h
      obtain rfl := kix_inj h3
      exact ⟨_, a, b, rfl, rfl, .inr h4⟩
theorem newH_inv {x : Nat → HE} {T : HT} {n : Nat} {f : Nat → HT → Nat → Out e} (h : newH x T n f ≠ .bad) : n < 65536 ∧ newH x T n f = f n (runS (setC 8 n) (x n) T) (n + 1) := by
  unfold newH at h ⊢
  rw [natK_eq] at h ⊢
  obtain ⟨h1, h2⟩ := chk_inv h
  have := Nat.le_of_ble_eq_true h1
  exact ⟨by omega, h2⟩
theorem newL_inv {w num : Nat} {l : List CV} {T : HT} {n : Nat} {f : Nat → HT → Nat → Out e} (h : newL w num l T n f ≠ .bad) : n < 65536 ∧ l.length = num * w ∧ ∃ d, num * w ≤ 4 ^ d ∧ newL w num l T n f = f n (runS (setC 8 n) (.cells w num d (putL (emp d) 0 l) .own n) T) (n + 1) := by
  unfold newL at h ⊢
  simp only [natK_eq] at h ⊢
  obtain ⟨h1, h2⟩ := chk_inv h
  rw [h2] at h ⊢
  obtain ⟨h3, h4⟩ := chk_inv h
  rw [h4] at h ⊢
  obtain ⟨h5, h6⟩ := newH_inv h
  exact ⟨h5, Nat.eq_of_beq_eq_true h3, _, Nat.le_of_ble_eq_true h1, h6⟩

theorem eqI_eq (a b : Int) : eqI a b = decide (a = b) := by
  cases a with
  | ofNat x => cases b with
    | ofNat y =>
      show Nat.beq x y = _
      by_cases h : x = y
      · subst h; simp
      · have : Nat.beq x y = false := Bool.eq_false_iff.2 fun q => h (Nat.eq_of_beq_eq_true q)
        rw [this]; simp; omega
    | negSucc y => show false = _; simp
  | negSucc x => cases b with
    | ofNat y => show false = _; simp
    | negSucc y =>
      show Nat.beq x y = _
      by_cases h : x = y
      · subst h; simp
      · have : Nat.beq x y = false := Bool.eq_false_iff.2 fun q => h (Nat.eq_of_beq_eq_true q)
        rw [this]; simp [h]
theorem ble_eq (x y : Nat) : Nat.ble x y = decide (x ≤ y) := by
  by_cases h : x ≤ y
  · rw [Nat.ble_eq_true_of_le h]; simp [h]
  · have : Nat.ble x y = false := Bool.eq_false_iff.2 fun q => h (Nat.le_of_ble_eq_true q)
    rw [this]; simp [h]
theorem ltI_eq (a b : Int) : ltI a b = decide (a < b) := by
  cases a with
  | ofNat x => cases b with
    | ofNat y => show Nat.ble (x + 1) y = _; rw [ble_eq]; congr 1; simp; omega
    | negSucc y => show false = _; simp; omega
  | negSucc x => cases b with
    | ofNat y => show true = _; simp; omega
    | negSucc y => show Nat.ble (y + 1) x = _; rw [ble_eq]; congr 1; simp; omega
theorem addI_eq (a b : Int) : addI a b = a + b := by
  cases a with
  | ofNat x => cases b with
    | ofNat y => rfl
    | negSucc y => rfl
  | negSucc x => cases b with
    | ofNat y => rfl
    | negSucc y => rfl
theorem minN_eq (a b : Nat) : minN a b = min a b := by
  unfold minN
  rw [ble_eq]
  by_cases h : a ≤ b
  · simp [h, Nat.min_eq_left h]
  · simp [h, Nat.min_eq_right (by omega : b ≤ a)]
theorem wrap64_eq (n : Int) (f : Int → Out e) : wrap64 n f = f (IntKind.i64.wrap n) := by
  unfold wrap64
  cases n with
  | ofNat a =>
    simp only [ble_eq]
    by_cases h : a ≤ 9223372036854775807
    · rw [decide_eq_true h]
      have : IntKind.i64.wrap (.ofNat a) = .ofNat a := by rw [IntKind.wrap_i64]; simp; omega
      simp only [this]
    · rw [decide_eq_false h]
  | negSucc a =>
    simp only [ble_eq]
    by_cases h : a ≤ 9223372036854775807
    · rw [decide_eq_true h]
      have : IntKind.i64.wrap (.negSucc a) = .negSucc a := by rw [IntKind.wrap_i64]; omega
      simp only [this]
    · rw [decide_eq_false h]
theorem wrapK_eq (ka : IntKind) (n : Int) (f : Int → Out e) : wrapK ka n f = f (ka.wrap n) := by
  cases ka <;> first | rfl | exact wrap64_eq n f
end
end Go.Ab
