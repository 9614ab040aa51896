/- Concrete runs: what the closures of operations do, as steps. No condition. -/
import Derived.Test.YtnhbohcjmdfmiaaGreatC6
set_option linter.unusedVariables false
set_option linter.unusedSimpArgs false
namespace Go.Ab
open Go
noncomputable section
variable {e k : Nat}

/-- calls that are what they say -/
def CallsOk (P : Program) (c : CallI) : Prop := ∀ f args T n v T' n', c f args T n = .ok v T' n' → TOk T n → Did T n T' n' ∧ CallStep P f (args.map CV.av) (absH T) n v.av (dL (Lof T n T' n') T')

def OpGood (P : Program) (E : EM) (k : Nat) (F : OpC e k) (o : Oper) : Prop :=
  ∀ (c : CallI) (st : ST k) (tm : QT CV e) (T : HT) (n : Nat) (K : Kf e), CallsOk P c → TOk T n → F.run c st tm T n K ≠ .bad →
    ∃ v T' n' L, F.run c st tm T n K = K v T' n' ∧ Ran P o (fun x => (valO E k st tm x).av) T n v.av T' n' L

theorem valO_of {E : EM} {x : Operand} {f : Of e k} (h : opA E k x = .mk f) (st : ST k) (tm : QT CV e) : valO E k st tm x = f st tm := by unfold valO; rw [h]; rfl
theorem good_bad {P : Program} {E : EM} {o : Oper} : OpGood P E k (badC : OpC e k) o := fun _ _ _ _ _ _ _ _ h => absurd rfl h

/-! blocks -/
theorem cells_len (w num d : Nat) (c : QT CV d) : ((List.range (num * w)).map fun j => (QT.get d j c).av).length = num * w := by simp
theorem cells_num {w num d : Nat} {c : QT CV d} (hw : 0 < w) : (cellsBlk w num d c).num = num := by
  show ((List.range (num * w)).map fun j => (QT.get d j c).av).length / w = num
  rw [cells_len, Nat.mul_div_cancel _ hw]
theorem cells_num_le {w num d : Nat} {c : QT CV d} {i : Nat} (h : i < (cellsBlk w num d c).num) : 0 < w ∧ i < num := by
  change i < ((List.range (num * w)).map fun j => (QT.get d j c).av).length / w at h
  rw [cells_len] at h
  by_cases hw : 0 < w
  · rw [Nat.mul_div_cancel _ hw] at h; exact ⟨hw, h⟩
  · have : w = 0 := by omega
    subst this; simp at h
theorem cells_ld {w num d : Nat} {c : QT CV d} {i fo : Nat} (hi : i < (cellsBlk w num d c).num) (hf : fo < w) : i * w + fo < num * w ∧ (cellsBlk w num d c).ld i fo = some (QT.get d (i * w + fo) c).av := by
  obtain ⟨hw, hi⟩ := cells_num_le hi
  have hlt : i * w + fo < num * w := by
    have : (i + 1) * w ≤ num * w := Nat.mul_le_mul_right _ hi
    rw [Nat.add_mul] at this; omega
  refine ⟨hlt, ?_⟩
  show ((List.range (num * w)).map fun j => (QT.get d j c).av)[i * w + fo]? = _
  simp [hlt]
theorem ints_num (k : IntKind) (num a : Nat) : (intsBlk k num a).num = num := by show ((List.range num).map _).length = num; simp
theorem ints_ld {k : IntKind} {num a i fo : Nat} (hi : i < (intsBlk k num a).num) (hf : fo < 1) : (intsBlk k num a).ld i fo = some (.int k (dDec (dGet a i))) := by
  rw [ints_num] at hi
  obtain rfl : fo = 0 := by omega
  show some (AV.int k (((List.range num).map fun i => dDec (dGet a i)).getD i 0)) = _
  simp [List.getD_eq_getElem?_getD, hi]
theorem cellG_eq (d i w fo : Nat) (c : QT CV d) : cellG d i w fo c = QT.get d (i * w + fo) c := by
  unfold cellG; rw [natK_eq, getC_run]; rfl
theorem cellS_eq (d i w fo : Nat) (x : CV) (c : QT CV d) : cellS d i w fo x c = QT.set d (i * w + fo) x c := by
  unfold cellS; rw [natK_eq, setC_run]; rfl
theorem cellsL_succ {d : Nat} (c : QT CV d) (j n : Nat) : cellsL c j (n + 1) = QT.get d j c :: cellsL c (j + 1) n := by
  show natK j (fun j => runG (getC d j) c :: cellsL c (Nat.succ j) n) = _
  rw [natK_eq, getC_run]
theorem cellsL_eq {d : Nat} (c : QT CV d) : ∀ (n j : Nat), cellsL c j n = (List.range n).map fun i => QT.get d (j + i) c
  | 0, j => rfl
  | n + 1, j => by
    rw [cellsL_succ, cellsL_eq c n (j + 1), List.range_succ_eq_map, List.map_cons, List.map_map]
    congr 1
    apply List.map_congr_left
    intro i _
    show QT.get d (j + 1 + i) c = QT.get d (j + (i + 1)) c
    congr 1; omega
theorem avs_eq (l : List CV) : avs l = l.map CV.av := by
  induction l with
  | nil => rfl
  | cons x l ih => show CV.av x :: avs l = _; rw [ih]; rfl
theorem cvs_eq (l : List AV) : cvs l = l.map toC := by
  induction l with
  | nil => rfl
  | cons x l ih => show toC x :: cvs l = _; rw [ih]; rfl
theorem map_toC (l : List AV) : (l.map toC).map CV.av = l := by
  rw [List.map_map]
  exact (List.map_congr_left fun x _ => toC_av x).trans (List.map_id l)
theorem putL_cons {d : Nat} (c : QT CV d) (j : Nat) (x : CV) (l : List CV) : putL c j (x :: l) = putL (QT.set d j x c) (j + 1) l := by
  show natK j (fun j => putL (runS (setC d j) x c) (Nat.succ j) l) = _
  rw [natK_eq, setC_run]
theorem putL_get {d : Nat} : ∀ (l : List CV) (c : QT CV d) (j i : Nat), j + l.length ≤ 4 ^ d → i < 4 ^ d → QT.get d i (putL c j l) = if j ≤ i ∧ i < j + l.length then l.getD (i - j) (.oth .undef) else QT.get d i c
  | [], c, j, i, _, _ => by rw [if_neg (by simp only [List.length_nil]; omega)]; rfl
  | x :: l, c, j, i, h, hi => by
    simp only [List.length_cons] at h ⊢
    rw [putL_cons, putL_get l _ (j + 1) i (by omega) hi, QT.get_set d i j x c hi (by omega)]
    by_cases h1 : j + 1 ≤ i ∧ i < j + 1 + l.length
    · rw [if_pos h1, if_pos (by omega), show i - j = (i - (j + 1)) + 1 by omega]; rfl
    · rw [if_neg h1]
      by_cases h2 : i = j
      · subst h2; rw [if_pos rfl, if_pos (by omega)]; simp
      · rw [if_neg h2, if_neg (by omega)]
theorem cells_putL {w num d : Nat} {l : List CV} (h1 : l.length = num * w) (h2 : num * w ≤ 4 ^ d) : cellsBlk w num d (putL (emp d) 0 l) = .vals w (l.map CV.av) := by
  unfold cellsBlk
  congr 1
  apply List.ext_getElem?
  intro i
  by_cases hi : i < num * w
  · have hl : i < l.length := by omega
    simp only [List.getElem?_map, List.getElem?_range hi, Option.map_some]
    rw [putL_get l _ 0 i (by omega) (by omega), if_pos (by omega)]
    simp [List.getD_eq_getElem?_getD, hl]
  · rw [List.getElem?_eq_none (by simp; omega), List.getElem?_eq_none (by simp; omega)]

theorem blk_old {T : HT} {b : Nat} {bk : Blk} {md : Md} (hb : b < 65536) {x : HE} (h : QT.get 8 b T = x) (hx : x.ent = .live bk md) : hget (absH T) b = some (bk, md) := by
  rw [hget_abs T hb, h, hx]; rfl

/-- one block is written -/
theorem Ran.write1 {P : Program} {o : Oper} {ev : Operand → AV} {T : HT} {n b : Nat} {x : HE} {v : AV} {md : Md} (hT : TOk T n) (hb : b < 65536) (h1 : (QT.get 8 b T).md? = some md) (h2 : x.md? = some md) (h3 : ¬ x.older n)
    (h4 : ∀ w num d c md s, x = .cells w num d c md s → ∃ c' s', QT.get 8 b T = .cells w num d c' md s') (h4' : ∀ bk md bk' md', (QT.get 8 b T).ent = .live bk md → x.ent = .live bk' md' → bk'.num = bk.num ∧ bk'.str = bk.str) (h5 : turnsC ev v n (clsOf P o.op) [b])
    (h6 : ∀ K, AgrC ev T K (clsOf P o.op) → Step P o ev K n v [(b, x.ent)]) (hrd : RdC P o ev T v := by exact rdC_of (by intro _ _; simp)) : Ran P o ev T n v (runS (setC 8 b) x T) n [b] where
  did := .write hb h1 h2 h3 h4 h4'
  lt c hc := by obtain rfl := List.mem_singleton.1 hc; exact hb
  new c hc := by
    obtain rfl := List.mem_singleton.1 hc
    rw [get_set8 T c c x hb hb, if_pos rfl]; exact h3
  same c hc hn := by rw [get_set8 T b c x hb hc, if_neg (fun e => hn (by simp [e]))]
  turns := h5
  top c hc := by
    obtain rfl := List.mem_singleton.1 hc
    apply Classical.byContradiction
    intro hn
    rw [hT.top c hb (by omega)] at h1
    cases h1
  pre c hc _ := by
    obtain rfl := List.mem_singleton.1 hc
    rw [h1]; simp
  rd := hrd
  step K hK := by
    have : dL [b] (runS (setC 8 b) x T) = [(b, x.ent)] := by
      unfold dL
      simp only [List.map_cons, List.map_nil, get_set8 T b b x hb hb, if_true]
    rw [this]; exact h6 K hK

/-- one new block -/
theorem Ran.new1 {P : Program} {o : Oper} {ev : Operand → AV} {T : HT} {n : Nat} {x : HE} {v : AV} (hb : n < 65536) (h2 : x.md? = some .own) (h3 : ¬ x.older n)
    (h4 : ∀ w num d c md s, x = .cells w num d c md s → num * w ≤ 4 ^ d) (h5 : turnsC ev v n (clsOf P o.op) [n])
    (h6 : ∀ K, AgrC ev T K (clsOf P o.op) → Step P o ev K n v [(n, x.ent)]) (hrd : RdC P o ev T v := by exact rdC_of (by intro _ _; simp)) : Ran P o ev T n v (runS (setC 8 n) x T) (n + 1) [n] where
  did := .new hb h2 h3 h4
  lt c hc := by obtain rfl := List.mem_singleton.1 hc; exact hb
  new c hc := by
    obtain rfl := List.mem_singleton.1 hc
    rw [get_set8 T c c x hb hb, if_pos rfl]; exact h3
  same c hc hn := by rw [get_set8 T n c x hb hc, if_neg (fun e => hn (by simp [e]))]
  turns := h5
  top c hc := by obtain rfl := List.mem_singleton.1 hc; exact Nat.lt_succ_self _
  pre c hc hlt := by
    obtain rfl := List.mem_singleton.1 hc
    omega
  rd := hrd
  step K hK := by
    have : dL [n] (runS (setC 8 n) x T) = [(n, x.ent)] := by
      unfold dL
      simp only [List.map_cons, List.map_nil, get_set8 T n n x hb hb, if_true]
    rw [this]; exact h6 K hK

theorem Step.one {P : Program} {o : Oper} {ev : Operand → AV} {K : Heap} {q b : Nat} {v : AV} {bk bk2 : Blk} {md : Md} (h : Step P o ev K q v [(b, .live bk md)]) (he : bk.eqv bk2) : Step P o ev K q v [(b, .live bk2 md)] :=
  h.eqvD (fun d hd _ => by obtain rfl := List.mem_singleton.1 hd; exact ⟨_, List.mem_singleton.2 rfl, rfl⟩) fun H _ c => by
    simp only [hput, hat_fill]
    by_cases hc : c = b
    · rw [if_pos hc, if_pos hc]; exact ⟨rfl, he⟩
    · rw [if_neg hc, if_neg hc]; exact .refl _

/-! plain ones -/
variable {P : Program} {E : EM} {dst : Option Tmp} {ty : TypeId} {pos : String} {after : Array Edge} {guard : Option (Nat × Bool)}

theorem good_move (x : Operand) : OpGood P E k (mvC (e := e) E k x) ⟨dst, .move x, ty, pos, after, guard⟩ := by
  intro c st tm T n K hc hT h
  generalize hF : mvC E k x = F at h ⊢
  unfold mvC at hF
  split at hF
  rename_i f h1
  subst hF
  refine ⟨f st tm, T, n, [], rfl, Ran.pure (by intro x; simp [clsOf]) fun KH _ => ?_⟩
  have := st_move (P := P) (e := fun x => (valO E k st tm x).av) (K := KH) (q := n) (dst := dst) (ty := ty) (pos := pos) (after := after) (guard := guard) x
  simp only [valO_of h1] at this
  exact this
theorem good_assign (x : Operand) : OpGood P E k (mvC (e := e) E k x) ⟨dst, .assign x, ty, pos, after, guard⟩ := by
  intro c st tm T n K hc hT h
  generalize hF : mvC E k x = F at h ⊢
  unfold mvC at hF
  split at hF
  rename_i f h1
  subst hF
  refine ⟨f st tm, T, n, [], rfl, Ran.pure (by intro x; simp [clsOf]) fun KH _ => ?_⟩
  have := st_assign (P := P) (e := fun x => (valO E k st tm x).av) (K := KH) (q := n) (dst := dst) (ty := ty) (pos := pos) (after := after) (guard := guard) x
  simp only [valO_of h1] at this
  exact this
theorem good_pick (b x y : Operand) : OpGood P E k (op_pick (e := e) E k b x y) ⟨dst, .pick b x y, ty, pos, after, guard⟩ := by
  intro c st tm T n K hc hT h
  generalize hF : op_pick E k b x y = F at h ⊢
  unfold op_pick at hF
  split at hF
  rename_i fb f g h0 h1 h2
  subst hF
  dsimp only [OpC.run] at h ⊢
  rcases onBool_inv h with ⟨hb, h3⟩ | ⟨hb, h3⟩
  · rw [h3]
    refine ⟨f st tm, T, n, [], rfl, Ran.pure (by intro x; simp [clsOf]) fun KH _ => ?_⟩
    have := st_pick (P := P) (e := fun x => (valO E k st tm x).av) (K := KH) (q := n) (dst := dst) (ty := ty) (pos := pos) (after := after) (guard := guard) (x := x) (y := y) (show (valO E k st tm b).av = .bool true by rw [valO_of h0, hb]; rfl)
    simp only [valO_of h1, if_true] at this
    exact this
  · rw [h3]
    refine ⟨g st tm, T, n, [], rfl, Ran.pure (by intro x; simp [clsOf]) fun KH _ => ?_⟩
    have := st_pick (P := P) (e := fun x => (valO E k st tm x).av) (K := KH) (q := n) (dst := dst) (ty := ty) (pos := pos) (after := after) (guard := guard) (x := x) (y := y) (show (valO E k st tm b).av = .bool false by rw [valO_of h0, hb]; rfl)
    simp only [valO_of h2, Bool.false_eq_true, if_false] at this
    exact this

/-- whole numbers -/
theorem intB_ok (op : BinOp) (x y : CV) (K : CV → Out e) (h : (intB op).run x y K ≠ .bad) : ∃ v, (intB op).run x y K = K v ∧ ∀ (t : TypeId) (H : Heap), bin P t op H x.av y.av some = some v.av := by
  have A : ∀ (f : Int → Int → Int), (arith f).run x y K ≠ .bad → ∃ v, (arith f).run x y K = K v ∧ ∃ ka a b, x.av = .int ka a ∧ y.av = .int ka b ∧ v.av = .int ka (ka.wrap (f a b)) := by
    intro f h
    obtain ⟨ka, a, b, h1, h2, ⟨h3, h4⟩ | h4⟩ := two_inv h
    · change (arith f).run x y K = _ at h4
      rw [h4, wrap64_eq]
      exact ⟨_, rfl, ka, a, b, h1, h2, by rw [h3]; rfl⟩
    · change (arith f).run x y K = _ at h4
      rw [h4]
      exact ⟨_, rfl, ka, a, b, h1, h2, rfl⟩
  have C : ∀ (f : Int → Int → Bool), (cmp f).run x y K ≠ .bad → ∃ v, (cmp f).run x y K = K v ∧ ∃ ka a b, x.av = .int ka a ∧ y.av = .int ka b ∧ v.av = .bool (f a b) := by
    intro f h
    have key : ∀ q : Bool, (Bool.rec (K (.bool false)) (K (.bool true)) q : Out e) = K (.bool q) := fun q => by cases q <;> rfl
    obtain ⟨ka, a, b, h1, h2, ⟨h3, h4⟩ | h4⟩ := two_inv h
    · change (cmp f).run x y K = _ at h4
      rw [h4, key]
      exact ⟨_, rfl, ka, a, b, h1, h2, rfl⟩
    · change (cmp f).run x y K = _ at h4
      rw [h4, key]
      exact ⟨_, rfl, ka, a, b, h1, h2, rfl⟩
  have S : ∀ (f : IntKind → Int → Nat → Int), (shf f).run x y K ≠ .bad → ∃ v, (shf f).run x y K = K v ∧ ∃ ka a kb b, x.av = .int ka a ∧ y.av = .int kb (.ofNat b) ∧ v.av = .int ka (f ka a b) := by
    intro f h
    rcases onInt_inv h with ⟨a, h1, h2⟩ | ⟨ka, a, h1, h2⟩
    · change (shf f).run x y K = _ at h2
      rw [h2] at h ⊢
      obtain ⟨kb, b, h3, h4⟩ := natI_inv h
      rw [h4]
      exact ⟨_, rfl, _, a, kb, b, by rw [h1]; rfl, h3, rfl⟩
    · change (shf f).run x y K = _ at h2
      rw [h2] at h ⊢
      obtain ⟨kb, b, h3, h4⟩ := natI_inv h
      rw [h4]
      exact ⟨_, rfl, _, a, kb, b, by rw [h1]; rfl, h3, rfl⟩
  have W : ∀ (f : IntKind → Int → Int → Int), (shf2 f).run x y K ≠ .bad → ∃ v, (shf2 f).run x y K = K v ∧ ∃ ka a b, x.av = .int ka a ∧ y.av = .int ka b ∧ v.av = .int ka (f ka a b) := by
    intro f h
    obtain ⟨ka, a, b, h1, h2, ⟨h3, h4⟩ | h4⟩ := two_inv h
    · change (shf2 f).run x y K = _ at h4
      rw [h4]
      exact ⟨_, rfl, ka, a, b, h1, h2, by rw [h3]; rfl⟩
    · change (shf2 f).run x y K = _ at h4
      rw [h4]
      exact ⟨_, rfl, ka, a, b, h1, h2, rfl⟩
  have neg : ∀ q : Bool, (Bool.rec true false q : Bool) = !q := fun q => by cases q <;> rfl
  have nlt : ∀ a b : Int, (!decide (b < a)) = decide (a ≤ b) := fun a b => by
    by_cases h : b < a
    · have : ¬ a ≤ b := by omega
      simp [h, this]
    · have : a ≤ b := by omega
      simp [h, this]
  cases op
  case add => obtain ⟨v, h1, ka, a, b, h2, h3, h4⟩ := A _ h; exact ⟨v, h1, fun t H => by rw [h2, h3, h4]; simp [bin, addI_eq]⟩
  case sub => obtain ⟨v, h1, ka, a, b, h2, h3, h4⟩ := A _ h; exact ⟨v, h1, fun t H => by rw [h2, h3, h4]; simp only [bin, if_true]; rfl⟩
  case mul => obtain ⟨v, h1, ka, a, b, h2, h3, h4⟩ := A _ h; exact ⟨v, h1, fun t H => by rw [h2, h3, h4]; simp only [bin, if_true]; rfl⟩
  case lss => obtain ⟨v, h1, ka, a, b, h2, h3, h4⟩ := C _ h; exact ⟨v, h1, fun t H => by rw [h2, h3, h4]; simp [bin, ltI_eq]⟩
  case gtr => obtain ⟨v, h1, ka, a, b, h2, h3, h4⟩ := C _ h; exact ⟨v, h1, fun t H => by rw [h2, h3, h4]; simp [bin, ltI_eq]⟩
  case leq => obtain ⟨v, h1, ka, a, b, h2, h3, h4⟩ := C _ h; exact ⟨v, h1, fun t H => by rw [h2, h3, h4, neg, ltI_eq, nlt]; simp only [bin, if_true]⟩
  case geq => obtain ⟨v, h1, ka, a, b, h2, h3, h4⟩ := C _ h; exact ⟨v, h1, fun t H => by rw [h2, h3, h4, neg, ltI_eq, nlt]; simp only [bin, if_true]⟩
  case eql => obtain ⟨v, h1, ka, a, b, h2, h3, h4⟩ := C _ h; exact ⟨v, h1, fun t H => by rw [h2, h3, h4]; simp [bin, eqI_eq]⟩
  case neq => obtain ⟨v, h1, ka, a, b, h2, h3, h4⟩ := C _ h; exact ⟨v, h1, fun t H => by rw [h2, h3, h4, neg]; simp [bin, eqI_eq]⟩
  case shr => obtain ⟨v, h1, ka, a, kb, b, h2, h3, h4⟩ := S (fun ka a b => a.fdiv (2 ^ (minN b ka.bits))) h; exact ⟨v, h1, fun t H => by rw [h2, h3, h4]; simp [bin, minN_eq, need]⟩
  case shl => obtain ⟨v, h1, ka, a, kb, b, h2, h3, h4⟩ := S (fun ka a b => ka.wrap (a * 2 ^ (minN b ka.bits))) h; exact ⟨v, h1, fun t H => by rw [h2, h3, h4]; simp [bin, minN_eq, need]⟩
  case and => obtain ⟨v, h1, ka, a, b, h2, h3, h4⟩ := W (fun k a b => k.wrap (BitVec.ofInt k.bits a &&& BitVec.ofInt k.bits b).toNat) h; exact ⟨v, h1, fun t H => by rw [h2, h3, h4]; simp only [bin, if_true]⟩
  case or => obtain ⟨v, h1, ka, a, b, h2, h3, h4⟩ := W (fun k a b => k.wrap (BitVec.ofInt k.bits a ||| BitVec.ofInt k.bits b).toNat) h; exact ⟨v, h1, fun t H => by rw [h2, h3, h4]; simp only [bin, if_true]⟩
  case xor => obtain ⟨v, h1, ka, a, b, h2, h3, h4⟩ := W (fun k a b => k.wrap (BitVec.ofInt k.bits a ^^^ BitVec.ofInt k.bits b).toNat) h; exact ⟨v, h1, fun t H => by rw [h2, h3, h4]; simp only [bin, if_true]⟩
  case andNot => obtain ⟨v, h1, ka, a, b, h2, h3, h4⟩ := W (fun k a b => k.wrap (BitVec.ofInt k.bits a &&& ~~~BitVec.ofInt k.bits b).toNat) h; exact ⟨v, h1, fun t H => by rw [h2, h3, h4]; simp only [bin, if_true]⟩
  case quo =>
    obtain ⟨ka, a, b, h1, h2, ⟨h3, h4⟩ | h4⟩ := two_inv h
    · change (intB .quo).run x y K = _ at h4
      rw [h4, eqI_eq] at h ⊢
      by_cases hb : b = 0
      · rw [decide_eq_true hb] at h; exact absurd rfl h
      · rw [decide_eq_false hb] at h ⊢
        simp only [wrap64_eq]
        exact ⟨_, rfl, fun t H => by rw [h1, h2, h3]; simp [bin, need, hb, CV.av]⟩
    · change (intB .quo).run x y K = _ at h4
      rw [h4, eqI_eq] at h ⊢
      by_cases hb : b = 0
      · rw [decide_eq_true hb] at h; exact absurd rfl h
      · rw [decide_eq_false hb] at h ⊢
        exact ⟨_, rfl, fun t H => by rw [h1, h2]; simp [bin, need, hb, CV.av]⟩
  case rem =>
    obtain ⟨ka, a, b, h1, h2, ⟨h3, h4⟩ | h4⟩ := two_inv h
    · change (intB .rem).run x y K = _ at h4
      rw [h4, eqI_eq] at h ⊢
      by_cases hb : b = 0
      · rw [decide_eq_true hb] at h; exact absurd rfl h
      · rw [decide_eq_false hb] at h ⊢
        exact ⟨_, rfl, fun t H => by rw [h1, h2, h3]; simp [bin, need, hb, CV.av]⟩
    · change (intB .rem).run x y K = _ at h4
      rw [h4, eqI_eq] at h ⊢
      by_cases hb : b = 0
      · rw [decide_eq_true hb] at h; exact absurd rfl h
      · rw [decide_eq_false hb] at h ⊢
        exact ⟨_, rfl, fun t H => by rw [h1, h2]; simp [bin, need, hb, CV.av]⟩

theorem eqOp_eq (neg : Bool) (K : CV → Out e) (b : Bool) : eqOp neg K b = K (.bool (if neg then !b else b)) := by cases neg <;> cases b <;> rfl

theorem good_unary (op : UnOp) (t : TypeId) (x : Operand) : OpGood P E k (op_un (e := e) E k op x) ⟨dst, .unOp op t x, ty, pos, after, guard⟩ := by
  intro c st tm T n K hc hT h
  generalize hF : op_un E k op x = F at h ⊢
  unfold op_un at hF
  split at hF
  · rename_i f h1
    subst hF
    dsimp only [OpC.run] at h ⊢
    rcases onBool_inv h with ⟨hb, h3⟩ | ⟨hb, h3⟩
    · rw [h3]
      exact ⟨_, T, n, [], rfl, Ran.pure (by intro x; simp [clsOf]) fun KH _ => st_un (by simp only [valO_of h1, hb, CV.av, un]; rfl)⟩
    · rw [h3]
      exact ⟨_, T, n, [], rfl, Ran.pure (by intro x; simp [clsOf]) fun KH _ => st_un (by simp only [valO_of h1, hb, CV.av, un]; rfl)⟩
  · rename_i f h1
    subst hF
    dsimp only [OpC.run] at h ⊢
    rcases onInt_inv h with ⟨a, hb, h3⟩ | ⟨ka, a, hb, h3⟩
    · rw [h3, wrap64_eq]
      exact ⟨_, T, n, [], rfl, Ran.pure (by intro x; simp [clsOf]) fun KH _ => st_un (by simp only [valO_of h1, hb, CV.av, un]; rw [Int.zero_sub]; rfl)⟩
    · rw [h3]
      exact ⟨_, T, n, [], rfl, Ran.pure (by intro x; simp [clsOf]) fun KH _ => st_un (by simp only [valO_of h1, hb, CV.av, un]; rw [Int.zero_sub]; rfl)⟩
  · subst hF; exact absurd rfl h

theorem good_convert (src d : TypeId) (x : Operand) : OpGood P E k (op_convert (e := e) P E k src d x) ⟨dst, .convert src d x, ty, pos, after, guard⟩ := by
  intro c st tm T n K hc hT h
  generalize hF : op_convert P E k src d x = F at h ⊢
  unfold op_convert at hF
  split at hF
  · rename_i ks kd f h1 h2 h3
    subst hF
    dsimp only [OpC.run] at h ⊢
    rcases onInt_inv h with ⟨a, hb, h4⟩ | ⟨ka, a, hb, h4⟩
    · rw [h4, wrapK_eq]
      refine ⟨_, T, n, [], rfl, Ran.pure (by intro x; simp [clsOf]) fun KH _ => ?_⟩
      rw [cI_av]
      exact st_convert h1 h2 (show (valO E k st tm x).av = .int .i64 a by rw [valO_of h3, hb]; rfl)
    · rw [h4, wrapK_eq]
      refine ⟨_, T, n, [], rfl, Ran.pure (by intro x; simp [clsOf]) fun KH _ => ?_⟩
      rw [cI_av]
      exact st_convert h1 h2 (show (valO E k st tm x).av = .int ka a by rw [valO_of h3, hb]; rfl)
  · subst hF; exact absurd rfl h

theorem good_extract (x : Operand) (i : Nat) : OpGood P E k (op_extract (e := e) E k x i) ⟨dst, .extract x i, ty, pos, after, guard⟩ := by
  intro c st tm T n K hc hT h
  generalize hF : op_extract E k x i = F at h ⊢
  unfold op_extract at hF
  split at hF
  rename_i f h1
  subst hF
  dsimp only [OpC.run] at h ⊢
  obtain ⟨y, hy, h2⟩ := onOth_inv h
  rw [h2] at h ⊢
  obtain ⟨l, hl, h3⟩ := othTuple_inv h
  rw [h3] at h ⊢
  obtain ⟨v, hv, h4⟩ := nthC_inv i h
  rw [h4]
  refine ⟨_, T, n, [], rfl, Ran.pure (by intro x; simp [clsOf]) fun KH _ => ?_⟩
  rw [toC_av]
  exact st_extract (show (valO E k st tm x).av = .tuple l by rw [valO_of h1, hy, hl]; rfl) hv

theorem good_nilCheck (x : Operand) : OpGood P E k (op_nilCheck (e := e) E k x) ⟨dst, .nilCheck x, ty, pos, after, guard⟩ := by
  intro c st tm T n K hc hT h
  generalize hF : op_nilCheck E k x = F at h ⊢
  unfold op_nilCheck at hF
  split at hF
  rename_i f h1
  subst hF
  dsimp only [OpC.run] at h ⊢
  obtain ⟨b, i, fo, hy, h2⟩ := onPtr_inv h
  rw [h2]
  exact ⟨_, T, n, [], rfl, Ran.pure (by intro x; simp [clsOf]) fun KH _ => st_nilCheck' (show (valO E k st tm x).av = .ptr b i fo by rw [valO_of h1, hy]; rfl)⟩

theorem ldn_cells {w num d : Nat} {c : QT CV d} {i : Nat} (hi : i < (cellsBlk w num d c).num) : ∀ (m fo : Nat), fo + m ≤ w → ldn (cellsBlk w num d c) i fo m = some (avs (cellsL c (i * w + fo) m))
  | 0, fo, _ => rfl
  | m + 1, fo, h => by
    rw [cellsL_succ, show i * w + fo + 1 = i * w + (fo + 1) by omega]
    simp only [ldn, (cells_ld (c := c) hi (show fo < w by omega)).2, ldn_cells hi m (fo + 1) (by omega)]
    rfl

theorem good_load (t : TypeId) (x : Operand) : OpGood P E k (op_load (e := e) P E k t x) ⟨dst, .load t x, ty, pos, after, guard⟩ := by
  intro c st tm T n K hc hT h
  generalize hF : op_load P E k t x = F at h ⊢
  have hw : ∀ z, clsOf P (.load t x) ≠ .w z := by intro z; simp only [clsOf]; split <;> simp
  unfold op_load at hF
  split at hF
  · rename_i f h1 h2
    subst hF
    dsimp only [OpC.run] at h ⊢
    obtain ⟨b, i, fo, hy, h3⟩ := onPtr_inv h
    change loadS T (f st tm) (fun v => K v T n) = _ at h3
    rw [h3] at h ⊢
    have hxv : (valO E k st tm x).av = .ptr b i fo := by rw [valO_of h2, hy]; rfl
    have hcl : clsOf P (.load t x) = .r [(x, .cell)] := by simp only [clsOf, h1]
    have hsee : ∀ KH, AgrC (fun x => (valO E k st tm x).av) T KH (clsOf P (.load t x)) → ∀ bk md, hget (absH T) b = some (bk, md) → ∃ bk' md', hget KH b = some (bk', md') ∧ bk'.num = bk.num ∧ bk'.str = bk.str ∧ (i < bk.num → fo < bk.str → bk'.ld i fo = bk.ld i fo) := fun KH hK bk md hg => by
      rw [hcl] at hK
      have := hK (x, .cell) (List.mem_singleton.2 rfl)
      simp only [hxv] at this
      exact this b rfl bk md hg
    have rdv : ∀ v : AV, (∀ bk md, hget (absH T) b = some (bk, md) → i < bk.num → fo < bk.str → bk.ld i fo = some v) → RdC P ⟨dst, .load t x, ty, pos, after, guard⟩ (fun x => (valO E k st tm x).av) T v := fun v hv l hl y hy => by
      simp only [hcl] at hl
      cases hl
      obtain rfl := List.mem_singleton.1 hy
      simp only [hxv]
      exact hv
    obtain ⟨hb, ⟨w, num, d, cc, md, s, h4, h5⟩ | ⟨kd, num, a, md, s, h4, h5⟩⟩ := atB_inv h
    · rw [h5, cellG_eq]
      refine ⟨_, T, n, [], rfl, Ran.pure hw (fun KH hK => ?_) (rdv _ fun bk md hg hi hf => by rw [blk_old hb h4 rfl] at hg; cases hg; exact (cells_ld hi hf).2)⟩
      obtain ⟨bk', md', hg, q1, q2, q3⟩ := hsee KH hK _ _ (blk_old hb h4 rfl)
      exact st_load_b hxv hg h1 fun hi hf => by rw [q1] at hi; rw [q2] at hf; rw [q3 hi hf]; exact (cells_ld hi hf).2
    · rw [h5]
      refine ⟨_, T, n, [], rfl, Ran.pure hw (fun KH hK => ?_) (rdv _ fun bk md hg hi hf => by rw [blk_old hb h4 rfl] at hg; cases hg; rw [cI_av]; exact ints_ld hi hf)⟩
      obtain ⟨bk', md', hg, q1, q2, q3⟩ := hsee KH hK _ _ (blk_old hb h4 rfl)
      rw [cI_av]
      exact st_load_b hxv hg h1 fun hi hf => by rw [q1] at hi; rw [q2] at hf; rw [q3 hi hf]; exact ints_ld hi hf
  · rename_i f w h1 h2 h2'
    subst hF
    dsimp only [OpC.run] at h ⊢
    obtain ⟨b, i, fo, hy, h3⟩ := onPtr_inv h
    change loadA T w (f st tm) (fun v => K v T n) = _ at h3
    rw [h3] at h ⊢
    have hxv : (valO E k st tm x).av = .ptr b i fo := by rw [valO_of h2, hy]; rfl
    have hcl : clsOf P (.load t x) = .r [(x, .agg w)] := by simp only [clsOf, h1, h2']
    have hsee : ∀ KH, AgrC (fun x => (valO E k st tm x).av) T KH (clsOf P (.load t x)) → ∀ bk md, hget (absH T) b = some (bk, md) → ∃ bk' md', hget KH b = some (bk', md') ∧ bk'.num = bk.num ∧ bk'.str = bk.str ∧ (i < bk.num → fo < bk.str → ldn bk' i fo w = ldn bk i fo w) := fun KH hK bk md hg => by
      rw [hcl] at hK
      have := hK (x, .agg w) (List.mem_singleton.2 rfl)
      simp only [hxv] at this
      exact this b rfl bk md hg
    have rdv : ∀ v : AV, (∀ bk md, hget (absH T) b = some (bk, md) → i < bk.num → fo < bk.str → ∃ l, ldn bk i fo w = some l ∧ v = .agg l) → RdC P ⟨dst, .load t x, ty, pos, after, guard⟩ (fun x => (valO E k st tm x).av) T v := fun v hv l hl y hy => by
      simp only [hcl] at hl
      cases hl
      obtain rfl := List.mem_singleton.1 hy
      simp only [hxv]
      exact hv
    obtain ⟨hb, ⟨w', num, d, cc, md, s, h4, h5⟩ | ⟨kd, num, a, md, s, h4, h5⟩⟩ := atB_inv h
    · rw [h5] at h ⊢
      obtain ⟨h6, h7⟩ := chk_inv h
      rw [h7, natK_eq]
      have hle : fo + w ≤ w' := Nat.le_of_ble_eq_true h6
      refine ⟨_, T, n, [], rfl, Ran.pure hw (fun KH hK => ?_) (rdv _ fun bk md hg hi hf => by rw [blk_old hb h4 rfl] at hg; cases hg; exact ⟨_, ldn_cells hi w fo hle, rfl⟩)⟩
      obtain ⟨bk', md', hg, q1, q2, q3⟩ := hsee KH hK _ _ (blk_old hb h4 rfl)
      exact st_loadAgg_b hxv hg h1 h2' (by rw [q2]; exact hle) fun hi hf => by rw [q1] at hi; rw [q2] at hf; rw [q3 hi hf]; exact ldn_cells hi w fo hle
    · rw [h5] at h; exact absurd rfl h
  · subst hF; exact absurd rfl h
end
end Go.Ab
