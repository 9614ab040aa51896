/- An evaluator for the model's code over typed, abstract blocks, with its soundness, part 3 of 5: laws of any program; their conditions stand in each. -/
import Derived.Test.YtdbdkbaplnjnmaaGreatBb2
set_option linter.unusedVariables false
set_option linter.unusedSimpArgs false
section
/- What the evaluator answers of an operation is a step of the model's. No condition. -/
namespace Go.Ab
open Go

theorem br_some {X : Type} {b : Bool} {t e : Option X} {x : X} (h : br b t e = some x) : (b = true ∧ t = some x) ∨ (b = false ∧ e = some x) := by
  cases b
  · exact .inr ⟨rfl, h⟩
  · exact .inl ⟨rfl, h⟩

theorem opX_step {X : Type} {c : Ctx X} (hc : CtxOk c) (o : Oper) {e : Operand → AV} {K : Heap} {q : Nat} {k : AV → Delta → Option X} {r : X} (h : opX c o.op e K q k = some r) :
    ∃ v D, k v D = some r ∧ Step c.P o e K q v D := by
  obtain ⟨dst, op, ty, pos, after, guard⟩ := o
  cases op <;> simp only [opX] at h
  case move x => exact ⟨_, _, h, st_move x⟩
  case assign x => exact ⟨_, _, h, st_assign x⟩
  case pick b x y =>
    split at h
    · rename_i t hb
      rcases br_some h with ⟨rfl, h1⟩ | ⟨rfl, h1⟩
      · exact ⟨_, _, h1, st_pick hb⟩
      · exact ⟨_, _, h1, st_pick hb⟩
    · cases h
  case alloc t =>
    split at h
    · rename_i vs hvs
      split at h
      · exact ⟨_, _, h, st_alloc hvs⟩
      · cases h
    · cases h
  case box t x =>
    split at h
    · rename_i hb; exact ⟨_, _, h, st_box hb.1 hb.2⟩
    · cases h
  case build t parts =>
    split at h
    · rename_i vs pl h1 h2
      split at h
      · rename_i l hl; exact ⟨_, _, h, st_build h1 h2 hl⟩
      · cases h
    · cases h
  case buildSlice t len parts =>
    split at h
    · rename_i el hu
      split at h
      · rename_i z hz
        split at h
        · rename_i hle
          split at h
          · rename_i bk hbk; exact ⟨_, _, h, st_buildSlice hu hz hle hbk⟩
          · cases h
        · cases h
      · cases h
    · cases h
  case load t a =>
    split at h
    · rename_i b i fo ha
      split at h
      · rename_i bk md hb hagg
        split at h
        · rename_i v hv; exact ⟨_, _, h, st_load ha hb hagg hv⟩
        · cases h
      · rename_i bk md hb hagg
        split at h
        · rename_i n hn
          split at h
          · rename_i hle
            split at h
            · rename_i l hl; exact ⟨_, _, h, st_loadAgg ha hb hagg hn hle hl⟩
            · cases h
          · cases h
        · cases h
      · cases h
    · cases h
  case store t a x =>
    split at h
    · rename_i b i fo n ha hn
      split at h
      · rename_i bk md hb
        split at h
        · rename_i hcond
          split at h
          · rename_i bk' hst; exact ⟨_, _, h, st_store ha hb hcond.1 hn hcond.2.1 hcond.2.2 hst⟩
          · cases h
        · cases h
      · cases h
    · cases h
  case nilCheck x =>
    split at h
    · rename_i b i fo ha
      split at h
      · rename_i bm hb; exact ⟨_, _, h, st_nilCheck ha hb⟩
      · cases h
    · cases h
  case binOp op t x y ty' =>
    obtain ⟨v, h1, h2⟩ := bin_det (SubH.refl K) h
    refine ⟨v, _, h2, st_bin fun H hs => ?_⟩
    obtain ⟨v', h3, h4⟩ := bin_det hs h1
    cases h4
    exact h3
  case unOp op t x =>
    obtain ⟨v, h1, h2⟩ := un_det h
    exact ⟨v, _, h2, st_un h1⟩
  case convert s d x =>
    split at h
    · rename_i ks kd ki n h1 h2 h3; exact ⟨_, _, h, st_convert h1 h2 h3⟩
    · cases h
  case makeInterface t x =>
    split at h
    · cases h
    · rename_i d hu hne; exact ⟨_, _, h, st_makeInterface hne fun ms hd => hu ms hd⟩
    · cases h
  case makeFunc fn first cap => exact ⟨_, _, h, st_makeFunc⟩
  case makeSlice t l c' =>
    split at h
    · rename_i el k1 n k2 n' hu h1 h2
      split at h
      · rename_i z i hz hi
        obtain ⟨⟨p1, rfl, p2, p3⟩, hk⟩ := need_some h
        exact ⟨_, _, hk, st_makeSlice hu h1 h2 hz hi p1 p2 p3⟩
      · cases h
    · cases h
  case slice t x lo hi mx =>
    cases mx with
    | some _ => simp only at h; cases h
    | none =>
      simp only at h
      split at h
      · rename_i el hu
        split at h
        · rename_i n hn
          split at h
          · rename_i hst
            obtain ⟨y, h1, h2⟩ := sliceOp_det h
            refine ⟨y, _, h2, st_slice hu hn hst (fun s hs => ?_) h1⟩
            rw [hs] at hst
            simp [strIs, content] at hst
          · cases h
        · cases h
      · rename_i hu
        split at h
        · rename_i s hs
          obtain ⟨y, h1, h2⟩ := sliceOp_det h
          exact ⟨y, _, h2, st_sliceStr hu hs h1⟩
        · cases h
      · cases h
  case fieldAddr s x f =>
    split at h
    · rename_i fs b i fo h1 h2
      split at h
      · rename_i fd bk md h3 h4
        split at h
        · rename_i sz h5
          split at h
          · rename_i h6; exact ⟨_, _, h, st_fieldAddr h1 h2 h3 h4 h5 h6⟩
          · cases h
        · cases h
      · cases h
    · cases h
  case field s x f =>
    split at h
    · rename_i fs l h1 h2
      split at h
      · rename_i fd h3
        split at h
        · rename_i h4
          split at h
          · rename_i v h5; exact ⟨_, _, h, st_field h1 h2 h3 h4 h5⟩
          · cases h
        · rename_i n h4 h5
          split at h
          · rename_i h6; exact ⟨_, _, h, st_fieldAgg h1 h2 h3 h4 h5 h6⟩
          · cases h
        · cases h
      · cases h
    · cases h
  case indexAddr t x ix =>
    split at h
    · rename_i el k1 i h1 h2
      split at h
      · rename_i b n h3 h4
        split at h
        · rename_i bk md h5
          split at h
          · rename_i h6
            obtain ⟨h7, h⟩ := need_some h
            exact ⟨_, _, h, st_indexAddr h1 h2 h3 h4 h5 h6 h7⟩
          · cases h
        · cases h
      · rename_i b off len n h3 h4
        split at h
        · rename_i bk md h5
          split at h
          · rename_i h6
            obtain ⟨h7, h⟩ := need_some h
            exact ⟨_, _, h, st_indexAddrP h1 h2 h3 h4 h5 h6 h7⟩
          · cases h
        · cases h
      · cases h
    · rename_i len el k1 i h1 h2
      split at h
      · rename_i b j fo n h3 h4
        split at h
        · rename_i bk md h5
          split at h
          · rename_i h6
            obtain ⟨h7, h⟩ := need_some h
            exact ⟨_, _, h, st_indexAddrA h1 h2 h3 h4 h5 h6 h7⟩
          · cases h
        · cases h
      · cases h
    · cases h
  case index t x ix =>
    split at h
    · rename_i s k1 i h1 h2 h3
      obtain ⟨h7, h⟩ := need_some h
      exact ⟨_, _, h, st_indexStr h1 h3 h2 h7⟩
    · cases h
  case typeAssert x xt t ok =>
    split at h
    · cases h
    · rename_i d t' v hne hu h1
      split at h
      · rename_i ht
        subst ht
        exact ⟨_, _, h, st_typeAssert hu (fun ms hd => hne ms hd) h1⟩
      · cases h
    · cases h
  case extract x i =>
    split at h
    · rename_i l hl
      split at h
      · rename_i v hv; exact ⟨_, _, h, st_extract hl hv⟩
      · cases h
    · cases h
  case call cl =>
    split at h
    · rename_i x hcal hargs
      split at h
      · rename_i t ht
        split at h
        · rename_i el hu
          split at h
          · cases h
          · rename_i x' hne
            split at h
            · rename_i n hn; exact ⟨_, _, h, st_len hcal hargs ht hu hn (fun s hs => hne s hs)⟩
            · cases h
        · rename_i hu
          split at h
          · rename_i s; exact ⟨_, _, h, st_lenStr hcal hargs ht hu⟩
          · cases h
        · cases h
      · cases h
    · rename_i s x hcal hargs
      split at h
      · rename_i t t' ht ht'
        split at h
        · rename_i el el' hu hu'
          split at h
          · rename_i i zs hi hz
            split at h
            · rename_i hcond
              obtain ⟨v, D, h1, h2⟩ := app_det h
              exact ⟨v, D, h2, st_append hcal hargs ht ht' hcond.2.2.2 hu hu' hi hz hcond.1 hcond.2.1 hcond.2.2.1 h1⟩
            · cases h
          · cases h
        · cases h
      · cases h
    · rename_i x xs hcal hargs
      split at h
      · rename_i v hv; exact ⟨_, _, h, st_min hcal hargs hv⟩
      · cases h
    · rename_i x xs hcal hargs
      split at h
      · rename_i v hv; exact ⟨_, _, h, st_max hcal hargs hv⟩
      · cases h
    · rename_i f args hcal
      split at h
      · rename_i fn first cap hf
        obtain ⟨v, D, h1, h2⟩ := hc _ _ _ _ _ _ h
        exact ⟨v, D, h1, st_callValue hcal hf h2⟩
      · cases h
    · rename_i rc name args hcal
      split at h
      · rename_i t v hr
        split at h
        · rename_i f x hm
          obtain ⟨v, D, h1, h2⟩ := hc _ _ _ _ _ _ h
          exact ⟨v, D, h1, st_invoke hcal hr hm h2⟩
        · cases h
      · cases h
    · cases h
  all_goals cases h

end Go.Ab
end

section
/- Regions, one operation behind the other. No condition. -/
namespace Go.Ab
open Go

def dstOf (all : List Oper) (j : Nat) : Option Nat := match all[j]? with | some o => o.dst | none => none

section
variable {X : Type}

def opS (c : Ctx X) (o : Oper) (s : St) (k : St → Option X) : Option X :=
  opX c o.op (ev s.tmps) s.heap s.heap.length fun v D => k ⟨tput s.tmps o.dst v, hput s.heap D⟩

/-- run or left out, as its guard says -/
def guardS (all : List Oper) (o : Oper) (tm : List AV) (run skip : List AV → Option X) : Option X :=
  match o.guard with
  | none => run tm
  | some (j, want) => match dstOf all j with
    | none => none
    | some d => match tget tm d with
      | .bool b => br b
        (match want with | true => run (tset tm d (.bool true)) | false => skip (tset tm d (.bool true)))
        (match want with | false => run (tset tm d (.bool false)) | true => skip (tset tm d (.bool false)))
      | .tuple [] => skip tm
      | _ => none

def regS (c : Ctx X) (all : List Oper) : List Oper → (St → Option X) → St → Option X
  | [], k, s => k s
  | o :: rest, k, s => guardS all o s.tmps (fun tm => opS c o ⟨tm, s.heap⟩ (regS c all rest k)) (fun tm => regS c all rest k ⟨tput tm o.dst (.tuple []), s.heap⟩)

theorem tset_same (l : List AV) (d : Nat) (v : AV) (h : tget l d = v) (hv : v ≠ .undef) : tset l d v = l := by
  induction l generalizing d with
  | nil => rfl
  | cons x xs ih => cases d with
    | zero => simp only [tget] at h; simp [tset, h]
    | succ n => simp only [tget] at h; simp only [tset]; rw [ih n h]

/-- what a guard says, of the model's side -/
theorem guard_sound {all : List Oper} {ops : Array Oper} (hall : all = ops.toList) {o : Oper} {tm : List AV} {run skip : List AV → Option X} {r : X} (h : guardS all o tm run skip = some r) :
    (run tm = some r ∧ ∀ m H a tm', (∀ t ∈ o.looksAt ops, tget tm' t = tget tm t) → TR m H tm' a → Region.wanted o (yielded ops a.tmps) = true) ∨
    (skip tm = some r ∧ ∀ m H a tm', (∀ t ∈ o.looksAt ops, tget tm' t = tget tm t) → TR m H tm' a → Region.wanted o (yielded ops a.tmps) = false) := by
  subst hall
  unfold guardS at h
  split at h
  · rename_i hg
    exact .inl ⟨h, fun m H a _ _ _ => by simp [Region.wanted, hg]⟩
  · rename_i j want hg
    split at h
    · cases h
    · rename_i d hd
      have hdst : (ops[j]?).bind (·.dst) = some d := by
        unfold dstOf at hd
        rw [Array.getElem?_toList] at hd
        split at hd
        · rename_i e; simp [e, hd]
        · cases hd
      have hlk : d ∈ o.looksAt ops := by simp [Oper.looksAt, hg, hdst]
      have hy : ∀ m H a tm' b, (∀ t ∈ o.looksAt ops, tget tm' t = tget tm t) → TR m H tm' a → tget tm d = .bool b → yielded ops a.tmps j = some b := by
        intro m H a tm' b hag htr hb
        have := htr.at_ d
        rw [hag d hlk, hb] at this
        unfold yielded
        rw [hdst]
        simp only [Option.bind_some]
        cases hv : a.tmps[d]? with
        | none => simp [Array.getD_eq_getD_getElem?, hv] at this; cases this
        | some v => simp [Array.getD_eq_getD_getElem?, hv] at this; cases this; rfl
      split at h
      · rename_i b hb
        rcases br_some h with ⟨rfl, h1⟩ | ⟨rfl, h1⟩
        · rw [tset_same tm d _ hb (by simp)] at h1
          cases want
          · exact .inr ⟨h1, fun m H a tm' hag htr => by simp [Region.wanted, hg, hy m H a tm' true hag htr hb]⟩
          · exact .inl ⟨h1, fun m H a tm' hag htr => by simp [Region.wanted, hg, hy m H a tm' true hag htr hb]⟩
        · rw [tset_same tm d _ hb (by simp)] at h1
          cases want
          · exact .inl ⟨h1, fun m H a tm' hag htr => by simp [Region.wanted, hg, hy m H a tm' false hag htr hb]⟩
          · exact .inr ⟨h1, fun m H a tm' hag htr => by simp [Region.wanted, hg, hy m H a tm' false hag htr hb]⟩
      · rename_i hb
        refine .inr ⟨h, fun m H a tm' hag htr => ?_⟩
        have := htr.at_ d
        rw [hag d hlk, hb] at this
        have hn : yielded ops a.tmps j = none := by
          unfold yielded
          rw [hdst]
          simp only [Option.bind_some]
          cases hv : a.tmps[d]? with
          | none => rfl
          | some v => simp [Array.getD_eq_getD_getElem?, hv] at this; cases this; rfl
        simp [Region.wanted, hg, hn]
      · cases h

theorem VR.unit (m : Map) (H : Heap) : VR m H (.tuple []) Go.undef := .tuple [] _ rfl fun j x y h => by simp at h

/-- where the evaluator is: the model is -/
structure At (m : Map) (s : St) (a : Act) (w : World) : Prop where
  sim : Sim m s.heap w
  tr : TR m s.heap s.tmps a

/-- from one place to a later one -/
structure To (m : Map) (H : Heap) (a : Act) (w : World) (m' : Map) (s' : St) (a' : Act) (w' : World) : Prop where
  at_ : At m' s' a' w'
  tr : Tr m H w m' s'.heap w'
  defers : a'.defers = a.defers

theorem To.trans {m m1 m2 : Map} {H : Heap} {a a1 a2 : Act} {w w1 w2 : World} {s1 s2 : St} (h : To m H a w m1 s1 a1 w1) (k : To m1 s1.heap a1 w1 m2 s2 a2 w2) : To m H a w m2 s2 a2 w2 :=
  ⟨k.at_, h.tr.trans k.tr, k.defers.trans h.defers⟩

theorem fresh_ge {H : Heap} {b : Nat} (h : H.length ≤ b) : hkn H b = false := by unfold hkn; rw [hat_len H b h]

theorem put_defers (a : Act) (d : Option Tmp) (v : Value) : (a.put d v).defers = a.defers := by cases d <;> rfl

theorem regS_sound {c : Ctx X} (hc : CtxOk c) {ops : Array Oper} {Q : Exit → Act → World → Prop} {r : X} {k : St → Option X} : ∀ (l : List Oper) (s : St) {m : Map} {a : Act} {w : World}, regS c ops.toList l k s = some r → At m s a w →
    (∀ m' s' a' w', k s' = some r → To m s.heap a w m' s' a' w' → Q .normal a' w') → wpList c.P ops Q l a w
  | [], s, m, a, w, h, hat, hk => hk m s a w h ⟨hat, Tr.refl _ _ _, rfl⟩
  | o :: rest, s, m, a, w, h, hat, hk => by
    simp only [regS] at h
    rcases guard_sound rfl h with ⟨h1, h2⟩ | ⟨h1, h2⟩
    · unfold wpList
      rw [if_pos (h2 _ _ _ _ (fun _ _ => rfl) hat.tr)]
      left
      obtain ⟨v, D, h3, h4⟩ := opX_step hc o h1
      refine h4 m s.heap a w (SubH.refl _) (fun d _ hd => fresh_ge hd) hat.sim (fun x _ => hat.tr.ev x) _ _ fun v' m' w' g1 g2 g3 => ?_
      refine regS_sound hc rest _ h3 ⟨g1, ?_⟩ fun m'' s'' a'' w'' e1 e2 => hk m'' s'' a'' w'' e1 ?_
      · exact (hat.tr.mono g3.ext).put o.dst g2
      · exact ⟨e2.at_, g3.trans e2.tr, by rw [e2.defers, put_defers]⟩
    · unfold wpList
      rw [if_neg (by rw [h2 _ _ _ _ (fun _ _ => rfl) hat.tr]; simp)]
      refine regS_sound hc rest _ h1 ⟨hat.sim, hat.tr.put o.dst (VR.unit _ _)⟩ fun m'' s'' a'' w'' e1 e2 => hk m'' s'' a'' w'' e1 ?_
      exact ⟨e2.at_, e2.tr, by rw [e2.defers, put_defers]⟩

end
end Go.Ab
end

section
/- Regions that draw their order: one order serves for all. No condition. -/
namespace Go.Ab
open Go

/-- the last word of a delta on a place -/
def dlook : Delta → Nat → Option Ent
  | [], _ => none
  | (c, e) :: D, b => match dlook D b with | some x => some x | none => if c = b then some e else none

theorem hat_hput (D : Delta) (H : Heap) (b : Nat) : hat (hput H D) b = (dlook D b).getD (hat H b) := by
  induction D generalizing H with
  | nil => rfl
  | cons d D ih =>
    obtain ⟨c, e⟩ := d
    simp only [hput, ih, dlook]
    cases dlook D b with
    | some x => rfl
    | none =>
      simp only [Option.getD_none, hat_fill]
      by_cases h : c = b
      · rw [if_pos h.symm, if_pos h]; rfl
      · rw [if_neg (fun e => h e.symm), if_neg h]; rfl

theorem dlook_none (D : Delta) (b : Nat) : dlook D b = none ↔ b ∉ D.map (·.1) := by
  induction D with
  | nil => simp [dlook]
  | cons d D ih =>
    obtain ⟨c, e⟩ := d
    simp only [dlook, List.map_cons, List.mem_cons]
    cases h : dlook D b with
    | some x =>
      have : b ∈ D.map (·.1) := by
        apply Classical.byContradiction
        intro hn
        rw [ih.2 hn] at h
        cases h
      simp [this]
    | none =>
      have := ih.1 h
      by_cases hc : c = b
      · subst hc; simp
      · simp [hc, this]
        exact fun e => hc e.symm

theorem hget_of_hat {H K : Heap} {b : Nat} (h : hat H b = hat K b) : hget H b = hget K b := by unfold hget; rw [h]
theorem hkn_of_hat {H K : Heap} {b : Nat} (h : hat H b = hat K b) : hkn H b = hkn K b := by unfold hkn; rw [h]

theorem Le.congr {m : Map} {H K : Heap} (h : ∀ b, hat H b = hat K b) : Le m H m K :=
  ⟨fun b hb => by rw [← hkn_of_hat (h b)]; exact hb, fun b bk' md' _ hg => ⟨bk', by rw [hget_of_hat (h b)]; exact hg, rfl, rfl, rfl⟩⟩

theorem Sim.congr {m : Map} {H K : Heap} {w : World} (h : ∀ b, hat H b = hat K b) (hs : Sim m H w) : Sim m K w where
  blk b bk md hg := (hs.blk b bk md (by rw [hget_of_hat (h b)]; exact hg)).far (fun x v hx => hx.mono (Le.congr h)) fun _ => .inl rfl
  dis b b' bk md bk' md' hg hg' := hs.dis b b' bk md bk' md' (by rw [hget_of_hat (h b)]; exact hg) (by rw [hget_of_hat (h b')]; exact hg')

theorem Wr.congr {m : Map} {H K : Heap} (h : ∀ b, hat H b = hat K b) {x o : Nat} (hw : Wr m H x o) : Wr m K x o := by
  obtain ⟨b, bk, md, hg, q⟩ := hw
  exact ⟨b, bk, md, by rw [← hget_of_hat (h b)]; exact hg, q⟩

theorem Tr.congr {m0 m : Map} {H0 H K : Heap} {w0 w : World} (h : ∀ b, hat H b = hat K b) (ht : Tr m0 H0 w0 m H w) : Tr m0 H0 w0 m K w where
  le := ht.le.trans (Le.congr h)
  os := ht.os
  tape := ht.tape
  output := ht.output
  drawn := ht.drawn
  size := ht.size
  frame := ht.frame
  own b o hw := ht.own b o (hw.congr fun b => (h b).symm)

/-- what was seen of one operation: its answer, what turned, what it looked at -/
structure Rec where
  o : Oper
  v : AV
  D : Delta
  fp : List Nat

def Rec.tc (r : Rec) : List Nat := r.D.map (·.1)

def disj (a b : List Nat) : Bool := a.all fun x => !b.contains x

theorem disj_spec {a b : List Nat} (h : disj a b = true) {x : Nat} (hx : x ∈ a) : x ∉ b := by
  unfold disj at h
  have := List.all_eq_true.1 h x hx
  simpa using this

/-- the heap behind the operations of a set -/
def hpS (S : Nat → Bool) (C : Heap) : List Rec → Nat → Heap
  | [], _ => C
  | r :: rs, i => hpS S (cond (S i) (hput C r.D) C) rs (i + 1)

def tmS (S : Nat → Bool) (T : List AV) : List Rec → Nat → List AV
  | [], _ => T
  | r :: rs, i => tmS S (cond (S i) (tput T r.o.dst r.v) T) rs (i + 1)

/-- two sets that part only in operations that do not touch a place: the place is the same -/
theorem hpS_same {S S' : Nat → Bool} {b : Nat} : ∀ (rs : List Rec) (C C' : Heap) (i : Nat), hat C b = hat C' b → (∀ (j : Nat) (r : Rec), rs[j]? = some r → S (i + j) = S' (i + j) ∨ b ∉ r.tc) → hat (hpS S C rs i) b = hat (hpS S' C' rs i) b
  | [], C, C', i, h, _ => h
  | r :: rs, C, C', i, h, hk => by
    simp only [hpS]
    refine hpS_same rs _ _ _ ?_ fun j r' hr => by have := hk (j + 1) r' (by simpa using hr); rwa [show i + (j + 1) = i + 1 + j by omega] at this
    have ht : ∀ (q : Bool) (D : Heap), hat (cond q (hput D r.D) D) b = cond q ((dlook r.D b).getD (hat D b)) (hat D b) := by
      intro q D; cases q
      · rfl
      · simp [hat_hput]
    rw [ht, ht, h]
    rcases hk 0 r rfl with e | e
    · rw [Nat.add_zero] at e; rw [e]
    · have : dlook r.D b = none := (dlook_none _ _).2 e
      rw [this]; simp

theorem tget_tput_of {T T' : List AV} {d : Option Nat} {v : AV} {t : Nat} (hl : T.length = T'.length) (h : tget T t = tget T' t) : tget (tput T d v) t = tget (tput T' d v) t := by
  cases d with
  | none => exact h
  | some u => simp only [tput, tget_tset, hl, h]

theorem tput_length (T : List AV) (d : Option Nat) (v : AV) : (tput T d v).length = T.length := by cases d <;> simp [tput, tset_length]

theorem tmS_length {S : Nat → Bool} : ∀ (rs : List Rec) (T : List AV) (i : Nat), (tmS S T rs i).length = T.length
  | [], _, _ => rfl
  | r :: rs, T, i => by
    simp only [tmS, tmS_length rs]
    cases S i
    · rfl
    · exact tput_length _ _ _

theorem tmS_same {S S' : Nat → Bool} {t : Nat} : ∀ (rs : List Rec) (T T' : List AV) (i : Nat), T.length = T'.length → tget T t = tget T' t → (∀ (j : Nat) (r : Rec), rs[j]? = some r → S (i + j) = S' (i + j) ∨ r.o.dst ≠ some t) → tget (tmS S T rs i) t = tget (tmS S' T' rs i) t
  | [], T, T', i, _, h, _ => h
  | r :: rs, T, T', i, hl, h, hk => by
    simp only [tmS]
    refine tmS_same rs _ _ _ ?_ ?_ fun j r' hr => by have := hk (j + 1) r' (by simpa using hr); rwa [show i + (j + 1) = i + 1 + j by omega] at this
    · cases S i <;> cases S' i <;> simp [tput_length, hl]
    · rcases hk 0 r rfl with e | e
      · rw [Nat.add_zero] at e
        rw [e]
        cases S' i
        · exact h
        · exact tget_tput_of hl h
      · have hn : ∀ U : List AV, tget (tput U r.o.dst r.v) t = tget U t := by
          intro U
          cases hd : r.o.dst with
          | none => rfl
          | some u =>
            simp only [tput, tget_tset]
            rw [if_neg]
            rintro rfl
            exact e hd
        cases S i <;> cases S' i <;> simp [hn, h]

/-- one more operation, at its place or at the end: the same -/
theorem hpS_add {S : Nat → Bool} {n : Nat} {rn : Rec} {b : Nat} : ∀ (rs : List Rec) (C : Heap) (i : Nat), i ≤ n → rs[n - i]? = some rn → S n = false → (∀ (j : Nat) (r : Rec), rs[j]? = some r → n < i + j → S (i + j) = true → b ∈ rn.tc → b ∉ r.tc) →
      hat (hpS (fun j => S j || j == n) C rs i) b = hat (hput (hpS S C rs i) rn.D) b
  | [], C, i, _, h, _, _ => by simp at h
  | r :: rs, C, i, hi, h, hn, hk => by
    simp only [hpS]
    by_cases e : i = n
    · subst e
      simp at h
      subst h
      rw [hn]
      simp only [Bool.false_or, BEq.rfl, cond_true, cond_false]
      rw [hat_hput]
      cases hd : dlook r.D b with
      | none =>
        have hb : b ∉ r.tc := (dlook_none _ _).1 hd
        simp only [Option.getD_none]
        refine hpS_same rs _ _ _ (by rw [hat_hput, hd]; rfl) fun j r' hr => .inl ?_
        have : (i + 1 + j == i) = false := by simp; omega
        simp [this]
      | some x =>
        have hb : b ∈ r.tc := by
          apply Classical.byContradiction
          intro hc
          rw [(dlook_none _ _).2 hc] at hd
          cases hd
        simp only [Option.getD_some]
        have := hpS_same (S := fun j => S j || j == i) (S' := fun _ => false) (b := b) rs (hput C r.D) (hput C r.D) (i + 1) rfl (fun j r' hr => by
          by_cases hs : S (i + 1 + j) = true
          · exact .inr (hk (j + 1) r' (by simpa using hr) (by omega) (by rw [show i + (j + 1) = i + 1 + j by omega]; exact hs) hb)
          · left
            have : (i + 1 + j == i) = false := by simp; omega
            simp [this, hs])
        rw [this]
        have hfalse : ∀ (rs : List Rec) (C : Heap) (i : Nat), hpS (fun _ => false) C rs i = C := by
          intro rs
          induction rs with
          | nil => intro C i; rfl
          | cons r rs ih => intro C i; simp [hpS, ih]
        rw [hfalse, hat_hput, hd]; rfl
    · have e2 : (i == n) = false := by simpa using e
      simp only [e2, Bool.or_false]
      refine hpS_add rs _ (i + 1) (by omega) ?_ hn fun j r' hr hlt hs hb => hk (j + 1) r' (by simpa using hr) (by omega) (by rw [show i + (j + 1) = i + 1 + j by omega]; exact hs) hb
      rw [show n - i = n - (i + 1) + 1 by omega] at h
      simpa using h

theorem tmS_add {S : Nat → Bool} {n : Nat} {rn : Rec} {t : Nat} : ∀ (rs : List Rec) (T : List AV) (i : Nat), i ≤ n → rs[n - i]? = some rn → S n = false → (∀ (j : Nat) (r : Rec), rs[j]? = some r → n < i + j → S (i + j) = true → rn.o.dst = some t → r.o.dst ≠ some t) →
      tget (tmS (fun j => S j || j == n) T rs i) t = tget (tput (tmS S T rs i) rn.o.dst rn.v) t
  | [], T, i, _, h, _, _ => by simp at h
  | r :: rs, T, i, hi, h, hn, hk => by
    simp only [tmS]
    by_cases e : i = n
    · subst e
      simp at h
      subst h
      rw [hn]
      simp only [Bool.false_or, BEq.rfl, cond_true, cond_false]
      by_cases hd : r.o.dst = some t
      · have hfalse : ∀ (rs : List Rec) (T : List AV) (i : Nat), tmS (fun _ => false) T rs i = T := by
          intro rs
          induction rs with
          | nil => intro C i; rfl
          | cons r rs ih => intro C i; simp [tmS, ih]
        have := tmS_same (S := fun j => S j || j == i) (S' := fun _ => false) (t := t) rs (tput T r.o.dst r.v) (tput T r.o.dst r.v) (i + 1) rfl rfl (fun j r' hr => by
          by_cases hs : S (i + 1 + j) = true
          · exact .inr (hk (j + 1) r' (by simpa using hr) (by omega) (by rw [show i + (j + 1) = i + 1 + j by omega]; exact hs) hd)
          · left
            have : (i + 1 + j == i) = false := by simp; omega
            simp [this, hs])
        rw [this, hfalse, hd]
        simp only [tput, tget_tset, tmS_length]
        simp
      · have hn' : ∀ U : List AV, tget (tput U r.o.dst r.v) t = tget U t := by
          intro U
          cases hd' : r.o.dst with
          | none => rfl
          | some u =>
            simp only [tput, tget_tset]
            rw [if_neg]
            rintro rfl
            exact hd hd'
        rw [hn']
        refine tmS_same rs _ _ _ (tput_length _ _ _) (hn' T) fun j r' hr => .inl ?_
        have : (i + 1 + j == i) = false := by simp; omega
        simp [this]
    · have e2 : (i == n) = false := by simpa using e
      simp only [e2, Bool.or_false]
      refine tmS_add rs _ (i + 1) (by omega) ?_ hn fun j r' hr hlt hs hb => hk (j + 1) r' (by simpa using hr) (by omega) (by rw [show i + (j + 1) = i + 1 + j by omega]; exact hs) hb
      rw [show n - i = n - (i + 1) + 1 by omega] at h
      simpa using h

end Go.Ab
end

section
/- Regions that draw their order: the evaluator goes through once. No condition. -/
namespace Go.Ab
open Go

def predsOf (o : Oper) : List Nat := o.after.toList.filterMap fun e => if Region.binds .any e then some e.on else none

/-- all that stands ahead of an operation, as bits -/
def ancOf (ms : List Nat) : List Nat → Nat
  | [] => 0
  | p :: ps => (2 ^ p ||| ms.getD p 0) ||| ancOf ms ps

theorem ancOf_spec (ms : List Nat) (i : Nat) : ∀ ps : List Nat, (ancOf ms ps).testBit i = true ↔ ∃ p ∈ ps, i = p ∨ (ms.getD p 0).testBit i = true
  | [] => by simp [ancOf]
  | p :: ps => by
    simp only [ancOf, Nat.testBit_or, Bool.or_eq_true, ancOf_spec ms i ps, Nat.testBit_two_pow, List.mem_cons, exists_eq_or_imp, decide_eq_true_eq]
    constructor
    · rintro ((h | h) | h)
      · exact .inl (.inl h.symm)
      · exact .inl (.inr h)
      · exact .inr h
    · rintro ((h | h) | h)
      · exact .inl (.inl h.symm)
      · exact .inl (.inr h)
      · exact .inr h

/-- those of the operations so far that do not stand ahead -/
def unl (A : Nat) : List Rec → Nat → List Rec
  | [], _ => []
  | r :: rs, i => match A.testBit i with | true => unl A rs (i + 1) | false => r :: unl A rs (i + 1)

theorem unl_mem {A : Nat} : ∀ (rs : List Rec) (i j : Nat) (r : Rec), rs[j]? = some r → A.testBit (i + j) = false → r ∈ unl A rs i
  | [], _, _, _, h, _ => by simp at h
  | x :: rs, i, j, r, h, hb => by
    simp only [unl]
    cases j with
    | zero =>
      simp at h
      subst h
      rw [Nat.add_zero] at hb
      rw [hb]
      exact List.mem_cons_self
    | succ j =>
      have := unl_mem rs (i + 1) j r (by simpa using h) (by rw [show i + 1 + j = i + (j + 1) by omega]; exact hb)
      split
      · exact this
      · exact List.mem_cons_of_mem _ this

/-- a heap of some places alone -/
def keep (f : Nat → Bool) : Heap → Nat → Heap
  | [], _ => []
  | e :: H, i => (match f i with | true => e | false => .hole) :: keep f H (i + 1)

theorem hat_keep (f : Nat → Bool) : ∀ (H : Heap) (i b : Nat), hat (keep f H i) b = if f (i + b) then hat H b else .hole
  | [], i, b => by simp [keep, hat]
  | e :: H, i, b => by
    cases b with
    | zero => simp only [keep, hat, Nat.add_zero]; cases f i <;> rfl
    | succ b =>
      simp only [keep, hat]
      rw [hat_keep f H (i + 1) b, show i + 1 + b = i + (b + 1) by omega]

mutual
/-- places that a value names -/
def blocksOf : AV → List Nat
  | .ptr b _ _ => [b]
  | .whole b => [b]
  | .part b _ _ => [b]
  | .seg b _ _ _ => [b]
  | .func _ first cap => blocksOfL first ++ blocksOfL cap
  | .iface _ v => blocksOf v
  | .agg l => blocksOfL l
  | .tuple l => blocksOfL l
  | _ => []
def blocksOfL : List AV → List Nat
  | [] => []
  | x :: xs => blocksOf x ++ blocksOfL xs
end

/-- and those that are named there -/
def reach (H : Heap) : Nat → List Nat → List Nat → List Nat
  | 0, _, seen => seen
  | _ + 1, [], seen => seen
  | n + 1, b :: todo, seen => if seen.contains b then reach H n todo seen else
    match hat H b with
    | .live (.vals _ l) _ => reach H n (blocksOfL l ++ todo) (b :: seen)
    | _ => reach H n todo (b :: seen)

/-- what an operation may look at -/
def foot (e : Operand → AV) (o : Oper) (H : Heap) : List Nat :=
  match o.op with
  | .load _ a => blocksOf (e a)
  | .store _ a _ => blocksOf (e a)
  | .nilCheck a => blocksOf (e a)
  | .fieldAddr _ a _ => blocksOf (e a)
  | .indexAddr _ a _ => blocksOf (e a)
  | .slice _ a _ _ _ => blocksOf (e a)
  | .binOp _ _ x y _ => blocksOf (e x) ++ blocksOf (e y)
  | .call c => match c.callee with
    | .builtin _ => blocksOfL (c.args.toList.map e)
    | _ => reach H 1000 (blocksOfL (o.op.operands.toList.map e)) []
  | _ => []

section
variable {X : Type}

def regD (c : Ctx X) (ops : Array Oper) : List Oper → List Rec → List Nat → (St → Option X) → St → Option X
  | [], _, _, k, s => k s
  | o :: rest, recs, ms, k, s =>
    if (predsOf o).all (fun p => decide (p < recs.length)) && (unl (ancOf ms (predsOf o)) recs 0).all (fun r => r.o.apart ops o) then
      guardS ops.toList o s.tmps
        (fun tm => opX c o.op (ev tm) (keep (fun b => (foot (ev tm) o s.heap).contains b && (unl (ancOf ms (predsOf o)) recs 0).all fun r => !r.tc.contains b) s.heap 0) s.heap.length fun v D =>
          if (unl (ancOf ms (predsOf o)) recs 0).all (fun r => disj (D.map (·.1)) r.fp && disj (D.map (·.1)) r.tc) then
            regD c ops rest (recs ++ [⟨o, v, D, foot (ev tm) o s.heap⟩]) (ms ++ [ancOf ms (predsOf o)]) k ⟨tput tm o.dst v, hput s.heap D⟩
          else none)
        (fun tm => regD c ops rest (recs ++ [⟨o, .tuple [], [], []⟩]) (ms ++ [ancOf ms (predsOf o)]) k ⟨tput tm o.dst (.tuple []), s.heap⟩)
    else none

/-- what is known of one operation of the walk -/
structure Fact (P : Program) (ops : Array Oper) (T0 : List AV) (C0 : Heap) (R : List Rec) (ms : List Nat) (j : Nat) (r : Rec) : Prop where
  op : ops[j]? = some r.o
  preds : ∀ p ∈ predsOf r.o, p < j
  anc : ms[j]? = some (ancOf (ms.take j) (predsOf r.o))
  un : ∀ i r', i < j → R[i]? = some r' → (ancOf (ms.take j) (predsOf r.o)).testBit i = false → r'.o.apart ops r.o = true ∧ ∀ b ∈ r.tc, b ∉ r'.fp ∧ b ∉ r'.tc
  run : ((∀ m H a tm', (∀ t ∈ r.o.looksAt ops, tget tm' t = tget (tmS (fun _ => true) T0 (R.take j) 0) t) → TR m H tm' a → Region.wanted r.o (yielded ops a.tmps) = true) ∧
      ∃ K, Step P r.o (ev (tmS (fun _ => true) T0 (R.take j) 0)) K (hpS (fun _ => true) C0 (R.take j) 0).length r.v r.D ∧
        ∀ b x, hget K b = some x → hget (hpS (fun _ => true) C0 (R.take j) 0) b = some x ∧ b ∈ r.fp ∧ ∀ i r', i < j → R[i]? = some r' → (ancOf (ms.take j) (predsOf r.o)).testBit i = false → b ∉ r'.tc) ∨
    ((∀ m H a tm', (∀ t ∈ r.o.looksAt ops, tget tm' t = tget (tmS (fun _ => true) T0 (R.take j) 0) t) → TR m H tm' a → Region.wanted r.o (yielded ops a.tmps) = false) ∧ r.v = .tuple [] ∧ r.D = [])

theorem Fact.more {P : Program} {ops : Array Oper} {T0 : List AV} {C0 : Heap} {R : List Rec} {ms : List Nat} {j : Nat} {r : Rec} (h : Fact P ops T0 C0 R ms j r) (hR : j ≤ R.length) (hm : ms.length = R.length) (r1 : Rec) (m1 : Nat) (hj : j < R.length) :
    Fact P ops T0 C0 (R ++ [r1]) (ms ++ [m1]) j r := by
  have e1 : (ms ++ [m1]).take j = ms.take j := List.take_append_of_le_length (by omega)
  have e2 : (R ++ [r1]).take j = R.take j := List.take_append_of_le_length hR
  have e3 : ∀ i, i < j → (R ++ [r1])[i]? = R[i]? := fun i hi => List.getElem?_append_left (by omega)
  refine ⟨h.op, h.preds, ?_, ?_, ?_⟩
  · rw [e1, List.getElem?_append_left (by omega)]; exact h.anc
  · intro i r' hi hr
    rw [e1]
    rw [e3 i hi] at hr
    exact h.un i r' hi hr
  · rw [e1, e2]
    rcases h.run with ⟨a1, K, a2, a3⟩ | a
    · refine .inl ⟨a1, K, a2, fun b x hb => ?_⟩
      obtain ⟨b1, b2, b3⟩ := a3 b x hb
      refine ⟨b1, b2, fun i r' hi hr => ?_⟩
      rw [e3 i hi] at hr
      exact b3 i r' hi hr
    · exact .inr a

theorem tmS_snoc (S : Nat → Bool) : ∀ (rs : List Rec) (T : List AV) (i : Nat) (r : Rec), tmS S T (rs ++ [r]) i = cond (S (i + rs.length)) (tput (tmS S T rs i) r.o.dst r.v) (tmS S T rs i)
  | [], T, i, r => by simp [tmS]
  | x :: rs, T, i, r => by
    simp only [List.cons_append, tmS, List.length_cons]
    rw [tmS_snoc S rs, show i + 1 + rs.length = i + (rs.length + 1) by omega]

theorem hpS_snoc (S : Nat → Bool) : ∀ (rs : List Rec) (T : Heap) (i : Nat) (r : Rec), hpS S T (rs ++ [r]) i = cond (S (i + rs.length)) (hput (hpS S T rs i) r.D) (hpS S T rs i)
  | [], T, i, r => by simp [hpS]
  | x :: rs, T, i, r => by
    simp only [List.cons_append, hpS, List.length_cons]
    rw [hpS_snoc S rs, show i + 1 + rs.length = i + (rs.length + 1) by omega]

/-- the walk gives the facts -/
theorem regD_facts {c : Ctx X} (hc : CtxOk c) {ops : Array Oper} {T0 : List AV} {C0 : Heap} {k : St → Option X} {x : X} : ∀ (l : List Oper) (R : List Rec) (ms : List Nat) (s : St), (∀ j, l[j]? = ops[R.length + j]?) → ms.length = R.length →
    (∀ j r, R[j]? = some r → Fact c.P ops T0 C0 R ms j r) → s = ⟨tmS (fun _ => true) T0 R 0, hpS (fun _ => true) C0 R 0⟩ → regD c ops l R ms k s = some x →
    ∃ R' ms', R'.length = R.length + l.length ∧ ms'.length = R'.length ∧ (∀ j r, R'[j]? = some r → Fact c.P ops T0 C0 R' ms' j r) ∧ k ⟨tmS (fun _ => true) T0 R' 0, hpS (fun _ => true) C0 R' 0⟩ = some x
  | [], R, ms, s, hl, hm, hF, hs, h => ⟨R, ms, by simp, hm, hF, by rw [← hs]; exact h⟩
  | o :: rest, R, ms, s, hl, hm, hF, hs, h => by
    subst hs
    simp only [regD] at h
    split at h
    · rename_i hcond
      simp only [Bool.and_eq_true] at hcond
      obtain ⟨hp, hap⟩ := hcond
      have hpreds : ∀ p ∈ predsOf o, p < R.length := fun p hp' => by have := List.all_eq_true.1 hp p hp'; simpa using this
      have hop : ops[R.length]? = some o := by have := hl 0; simpa using this.symm
      have hunl : ∀ i r', i < R.length → R[i]? = some r' → (ancOf ms (predsOf o)).testBit i = false → r' ∈ unl (ancOf ms (predsOf o)) R 0 := fun i r' _ hr hb => unl_mem R 0 i r' hr (by rw [Nat.zero_add]; exact hb)
      have step : ∀ (r : Rec), r.o = o → (∀ i r', i < R.length → R[i]? = some r' → (ancOf ms (predsOf o)).testBit i = false → ∀ b ∈ r.tc, b ∉ r'.fp ∧ b ∉ r'.tc) →
          (((∀ m H a tm', (∀ t ∈ r.o.looksAt ops, tget tm' t = tget (tmS (fun _ => true) T0 R 0) t) → TR m H tm' a → Region.wanted r.o (yielded ops a.tmps) = true) ∧
            ∃ K, Step c.P r.o (ev (tmS (fun _ => true) T0 R 0)) K (hpS (fun _ => true) C0 R 0).length r.v r.D ∧
              ∀ b x, hget K b = some x → hget (hpS (fun _ => true) C0 R 0) b = some x ∧ b ∈ r.fp ∧ ∀ i r', i < R.length → R[i]? = some r' → (ancOf ms (predsOf o)).testBit i = false → b ∉ r'.tc) ∨
          ((∀ m H a tm', (∀ t ∈ r.o.looksAt ops, tget tm' t = tget (tmS (fun _ => true) T0 R 0) t) → TR m H tm' a → Region.wanted r.o (yielded ops a.tmps) = false) ∧ r.v = .tuple [] ∧ r.D = [])) →
          regD c ops rest (R ++ [r]) (ms ++ [ancOf ms (predsOf o)]) k ⟨tput (tmS (fun _ => true) T0 R 0) o.dst r.v, hput (hpS (fun _ => true) C0 R 0) r.D⟩ = some x →
          ∃ R' ms', R'.length = R.length + (o :: rest).length ∧ ms'.length = R'.length ∧ (∀ j r, R'[j]? = some r → Fact c.P ops T0 C0 R' ms' j r) ∧ k ⟨tmS (fun _ => true) T0 R' 0, hpS (fun _ => true) C0 R' 0⟩ = some x := by
        intro r hro hun hrun hgo
        have e1 : (ms ++ [ancOf ms (predsOf o)]).take R.length = ms := by rw [← hm]; exact List.take_left
        have e2 : (R ++ [r]).take R.length = R := List.take_left
        have hfact : Fact c.P ops T0 C0 (R ++ [r]) (ms ++ [ancOf ms (predsOf o)]) R.length r := by
          refine ⟨by rw [hro]; exact hop, by rw [hro]; exact hpreds, by rw [e1, ← hm, hro]; simp, ?_, ?_⟩
          · intro i r' hi hr
            rw [e1, hro]
            rw [List.getElem?_append_left hi] at hr
            intro hb
            exact ⟨List.all_eq_true.1 hap r' (hunl i r' hi hr hb), hun i r' hi hr hb⟩
          · rw [e1, e2, hro]
            rw [hro] at hrun
            rcases hrun with ⟨a1, K, a2, a3⟩ | a
            · refine .inl ⟨a1, K, a2, fun b y hb => ?_⟩
              obtain ⟨b1, b2, b3⟩ := a3 b y hb
              refine ⟨b1, b2, fun i r' hi hr => ?_⟩
              rw [List.getElem?_append_left hi] at hr
              exact b3 i r' hi hr
            · exact .inr a
        obtain ⟨R', ms', h1, h2, h3, h4⟩ := regD_facts hc rest (R ++ [r]) (ms ++ [ancOf ms (predsOf o)]) _ (fun j => by
            have := hl (j + 1)
            rw [List.length_append, List.length_singleton, Nat.add_assoc, Nat.add_comm 1 j]
            simpa using this) (by simp [hm]) (fun j r1 hr1 => by
            by_cases hj : j < R.length
            · rw [List.getElem?_append_left hj] at hr1
              exact (hF j r1 hr1).more (by omega) hm r _ hj
            · have : j = R.length := by
                have := (List.getElem?_eq_some_iff.1 hr1).1
                simp at this
                omega
              subst this
              rw [List.getElem?_append_right (Nat.le_refl _)] at hr1
              simp at hr1
              subst hr1
              exact hfact) (by rw [tmS_snoc, hpS_snoc, hro]; rfl) hgo
        exact ⟨R', ms', by simp at h1; simp; omega, h2, h3, h4⟩
      rcases guard_sound rfl h with ⟨g1, g2⟩ | ⟨g1, g2⟩
      · obtain ⟨v, D, k1, k2⟩ := opX_step hc o g1
        split at k1
        · rename_i hdis
          refine step ⟨o, v, D, foot (ev (tmS (fun _ => true) T0 R 0)) o (hpS (fun _ => true) C0 R 0)⟩ rfl (fun i r' hi hr hb b hbt => ?_) (.inl ⟨fun m H a tm' hag htr => g2 m H a tm' hag htr, _, k2, fun b y hb => ?_⟩) k1
          · have := List.all_eq_true.1 hdis r' (hunl i r' hi hr hb)
            simp only [Bool.and_eq_true] at this
            exact ⟨disj_spec this.1 hbt, disj_spec this.2 hbt⟩
          · have hk := hat_keep (fun b => (foot (ev (tmS (fun _ => true) T0 R 0)) o (hpS (fun _ => true) C0 R 0)).contains b && (unl (ancOf ms (predsOf o)) R 0).all fun r => !r.tc.contains b) (hpS (fun _ => true) C0 R 0) 0 b
            rw [Nat.zero_add] at hk
            by_cases hq : ((foot (ev (tmS (fun _ => true) T0 R 0)) o (hpS (fun _ => true) C0 R 0)).contains b && (unl (ancOf ms (predsOf o)) R 0).all fun r => !r.tc.contains b) = true
            · rw [if_pos hq] at hk
              rw [hget_of_hat hk] at hb
              simp only [Bool.and_eq_true] at hq
              refine ⟨hb, by simpa using hq.1, fun i r' hi hr hbit => ?_⟩
              have := List.all_eq_true.1 hq.2 r' (hunl i r' hi hr hbit)
              simpa using this
            · rw [if_neg hq] at hk
              unfold hget at hb
              rw [hk] at hb
              cases hb
        · cases k1
      · refine step ⟨o, .tuple [], [], []⟩ rfl (fun i r' hi hr hb b hbt => by simp [Rec.tc] at hbt) (.inr ⟨fun m H a tm' hag htr => g2 m H a tm' hag htr, rfl, rfl⟩) g1
    · cases h

end
end Go.Ab
end

section
/- Regions that draw their order: every order comes to what the walk says. No condition. -/
namespace Go.Ab
open Go

theorem hpS_take (C : Heap) : ∀ (rs : List Rec) (i j : Nat), i ≤ j → hpS (fun x => decide (x < j)) C rs i = hpS (fun _ => true) C (rs.take (j - i)) i
  | [], i, j, _ => by simp [hpS]
  | r :: rs, i, j, h => by
    by_cases e : i < j
    · rw [show j - i = (j - (i + 1)) + 1 by omega, List.take_succ_cons]
      simp only [hpS, e, decide_true, cond_true]
      rw [← hpS_take _ rs (i + 1) j (by omega)]
    · rw [show j - i = 0 by omega, List.take_zero]
      simp only [hpS]
      have : decide (i < j) = false := by simpa using e
      simp only [this, cond_false]
      have hall : ∀ (rs : List Rec) (C : Heap) (i : Nat), j ≤ i → hpS (fun x => decide (x < j)) C rs i = C := by
        intro rs
        induction rs with
        | nil => intro C i _; rfl
        | cons r rs ih =>
          intro C i hi
          have : decide (i < j) = false := by simp; omega
          simp only [hpS, this, cond_false]
          exact ih C (i + 1) (by omega)
      exact hall rs C (i + 1) (by omega)

theorem tmS_take (T : List AV) : ∀ (rs : List Rec) (i j : Nat), i ≤ j → tmS (fun x => decide (x < j)) T rs i = tmS (fun _ => true) T (rs.take (j - i)) i
  | [], i, j, _ => by simp [tmS]
  | r :: rs, i, j, h => by
    by_cases e : i < j
    · rw [show j - i = (j - (i + 1)) + 1 by omega, List.take_succ_cons]
      simp only [tmS, e, decide_true, cond_true]
      rw [← tmS_take _ rs (i + 1) j (by omega)]
    · rw [show j - i = 0 by omega, List.take_zero]
      simp only [tmS]
      have : decide (i < j) = false := by simpa using e
      simp only [this, cond_false]
      have hall : ∀ (rs : List Rec) (T : List AV) (i : Nat), j ≤ i → tmS (fun x => decide (x < j)) T rs i = T := by
        intro rs
        induction rs with
        | nil => intro C i _; rfl
        | cons r rs ih =>
          intro C i hi
          have : decide (i < j) = false := by simp; omega
          simp only [tmS, this, cond_false]
          exact ih C (i + 1) (by omega)
      exact hall rs T (i + 1) (by omega)

/-- which are done -/
def cnt (l : Array Bool) : Nat := l.toList.count true

theorem cnt_set (l : Array Bool) (j : Nat) (hj : j < l.size) (h : l.getD j false = false) : cnt (l.setIfInBounds j true) = cnt l + 1 := by
  have key : ∀ (xs : List Bool) (j : Nat), j < xs.length → xs[j]? = some false → (xs.set j true).count true = xs.count true + 1 := by
    intro xs
    induction xs with
    | nil => intro j hj; simp at hj
    | cons x xs ih =>
      intro j hj hx
      cases j with
      | zero => simp at hx; subst hx; simp
      | succ j => simp at hx hj; simp only [List.set_cons_succ, List.count_cons, ih j hj hx]; omega
  unfold cnt
  rw [Array.toList_setIfInBounds]
  apply key
  · simpa using hj
  · rw [Array.getElem?_toList]
    have : l[j]? = some (l[j]) := by simp [hj]
    rw [this]
    simp [Array.getD, hj] at h
    rw [h]

theorem cnt_le (l : Array Bool) : cnt l ≤ l.size := by
  unfold cnt
  exact List.count_le_length

theorem cnt_full (l : Array Bool) (h : cnt l = l.size) (j : Nat) (hj : j < l.size) : l.getD j false = true := by
  unfold cnt at h
  rw [← Array.length_toList] at h
  have := List.count_eq_length.1 h
  have hm := this (l[j]) (by simp [Array.getElem_mem_toList])
  simp [Array.getD, hj]
  exact hm.symm

theorem orders {P : Program} {ops : Array Oper} {Q : Exit → Act → World → Prop} {T0 : List AV} {C0 : Heap} {R : List Rec} {ms : List Nat} {m0 : Map} {a0 : Act} {w0 : World} (hn : R.length = ops.size) (hms : ms.length = R.length) (hF : ∀ j r, R[j]? = some r → Fact P ops T0 C0 R ms j r)
    (hQ : ∀ m a w, To m0 C0 a0 w0 m ⟨tmS (fun _ => true) T0 R 0, hpS (fun _ => true) C0 R 0⟩ a w → Q .normal a w) :
    ∀ (fuel : Nat) (listed : Array Bool) (m : Map) (a : Act) (w : World), listed.size = ops.size → ops.size ≤ cnt listed + fuel →
      (∀ j A, ms[j]? = some A → listed.getD j false = true → ∀ i, A.testBit i = true → listed.getD i false = true) →
      To m0 C0 a0 w0 m ⟨tmS (fun i => listed.getD i false) T0 R 0, hpS (fun i => listed.getD i false) C0 R 0⟩ a w → wpAny P .any ops Q fuel listed a w := by
  intro fuel
  -- where nothing is ready all is done
  have hall : ∀ (listed : Array Bool), listed.size = ops.size → Region.ready .any ops listed = [] → ∀ j, j < ops.size → listed.getD j false = true := by
    intro listed hs hr j
    induction j using Nat.strongRecOn with
    | ind j ih =>
      intro hj
      apply Classical.byContradiction
      intro hno
      have hR : R[j]? = some R[j] := List.getElem?_eq_getElem (by omega)
      have f := hF j _ hR
      have : j ∈ Region.ready .any ops listed := by
        unfold Region.ready
        rw [List.mem_filter]
        refine ⟨List.mem_range.2 hj, ?_⟩
        have e1 : listed.getD j true = false := by
          have hlt : j < listed.size := by omega
          simp [Array.getD, hlt] at hno ⊢
          exact hno
        rw [e1, f.op]
        simp only [Bool.not_false, Bool.true_and, Option.map_some, Option.getD_some]
        rw [Array.all_eq_true']
        intro e he
        by_cases hb : Region.binds .any e = true
        · have hp : e.on ∈ predsOf (R[j]).o := by
            unfold predsOf
            rw [List.mem_filterMap]
            exact ⟨e, by simpa using he, by simp [hb]⟩
          have := ih e.on (f.preds _ hp) (by have := f.preds _ hp; omega)
          simp [this]
        · simp [hb]
      rw [hr] at this
      cases this
  have hfin : ∀ (listed : Array Bool) (m : Map) (a : Act) (w : World), listed.size = ops.size → Region.ready .any ops listed = [] → To m0 C0 a0 w0 m ⟨tmS (fun i => listed.getD i false) T0 R 0, hpS (fun i => listed.getD i false) C0 R 0⟩ a w → Q .normal a w := by
    intro listed m a w hs hr hto
    have hl := hall listed hs hr
    have hh : ∀ b, hat (hpS (fun i => listed.getD i false) C0 R 0) b = hat (hpS (fun _ => true) C0 R 0) b := fun b => hpS_same R C0 C0 0 rfl fun j r hj => .inl (by
      rw [Nat.zero_add]
      exact hl j (by have := (List.getElem?_eq_some_iff.1 hj).1; omega))
    have ht : ∀ t, tget (tmS (fun i => listed.getD i false) T0 R 0) t = tget (tmS (fun _ => true) T0 R 0) t := fun t => tmS_same R T0 T0 0 rfl rfl fun j r hj => .inl (by
      rw [Nat.zero_add]
      exact hl j (by have := (List.getElem?_eq_some_iff.1 hj).1; omega))
    refine hQ m a w ⟨⟨hto.at_.sim.congr hh, ⟨?_, fun t => ?_⟩⟩, hto.tr.congr hh, hto.defers⟩
    · have := hto.at_.tr.len
      rw [tmS_length] at this ⊢
      exact this
    · have := hto.at_.tr.at_ t
      rw [ht t] at this
      exact this.mono (Le.congr hh)
  induction fuel with
  | zero =>
    intro listed m a w hs hc _ hto
    have hr : Region.ready .any ops listed = [] := by
      have hcf : cnt listed = listed.size := by have := cnt_le listed; omega
      unfold Region.ready
      rw [List.filter_eq_nil_iff]
      intro j hj
      have hj' : j < listed.size := by have := List.mem_range.1 hj; omega
      have := cnt_full listed hcf j hj'
      simp [Array.getD, hj'] at this ⊢
      simp [this]
    exact ⟨hr, hfin listed m a w hs hr hto⟩
  | succ fuel ih =>
    intro listed m a w hs hc hcl hto
    refine ⟨fun hr => hfin listed m a w hs hr hto, fun j hj => ?_⟩
    -- j is ready
    unfold Region.ready at hj
    rw [List.mem_filter] at hj
    obtain ⟨hj1, hj2⟩ := hj
    have hjn : j < ops.size := List.mem_range.1 hj1
    have hjl : j < listed.size := by omega
    simp only [Bool.and_eq_true, Bool.not_eq_true'] at hj2
    have hno : listed.getD j false = false := by
      have := hj2.1
      simp [Array.getD, hjl] at this ⊢
      exact this
    have hR : R[j]? = some R[j] := List.getElem?_eq_getElem (by omega)
    generalize hr : R[j] = r at hR
    have f := hF j r hR
    have hA := f.anc
    generalize hAe : ancOf (ms.take j) (predsOf r.o) = A at hA
    have hpl : ∀ p ∈ predsOf r.o, listed.getD p false = true := by
      intro p hp
      unfold predsOf at hp
      rw [List.mem_filterMap] at hp
      obtain ⟨e, he, hb⟩ := hp
      split at hb
      · rename_i hbb
        cases hb
        have h2 := hj2.2
        rw [f.op] at h2
        simp only [Option.map_some, Option.getD_some] at h2
        rw [Array.all_eq_true'] at h2
        have := h2 e (by simpa using he)
        simpa [hbb] using this
      · cases hb
    have hAl : ∀ i, A.testBit i = true → listed.getD i false = true := by
      intro i hi
      rw [← hAe, ancOf_spec] at hi
      obtain ⟨p, hp, h1 | h1⟩ := hi
      · subst h1; exact hpl _ hp
      · have hpj := f.preds p hp
        have hpm : p < ms.length := by omega
        have e1 : (ms.take j).getD p 0 = ms[p] := by
          simp [List.getD_eq_getElem?_getD, List.getElem?_take, hpj, hpm]
        rw [e1] at h1
        exact hcl p ms[p] (by simp [hpm]) (hpl p hp) i h1
    -- pairs
    have hun : ∀ (i : Nat) (r' : Rec), R[i]? = some r' → listed.getD i false = decide (i < j) ∨ (r'.o.apart ops r.o = true ∧ (∀ b ∈ r.tc, b ∉ r'.fp ∧ b ∉ r'.tc) ∧ i < j ∧ A.testBit i = false) ∨ (r.o.apart ops r'.o = true ∧ ∀ b ∈ r'.tc, b ∉ r.fp ∧ b ∉ r.tc) := by
      intro i r' hi
      by_cases h1 : i < j
      · cases hb : A.testBit i with
        | true => left; rw [hAl i hb]; simp [h1]
        | false =>
          obtain ⟨g1, g2⟩ := f.un i r' h1 hi (by rw [hAe]; exact hb)
          exact .inr (.inl ⟨g1, g2, h1, rfl⟩)
      · by_cases h2 : i = j
        · subst h2; left; rw [hno]; simp
        · cases hl : listed.getD i false with
          | false => left; simp [h1]
          | true =>
            have fi := hF i r' hi
            right; right
            refine fi.un j r (by omega) hR ?_
            cases hb : (ancOf (ms.take i) (predsOf r'.o)).testBit j with
            | false => rfl
            | true =>
              have := hcl i _ fi.anc hl j hb
              rw [hno] at this
              cases this
    have htm : ∀ t ∈ r.o.looksAt ops, tget (tmS (fun i => listed.getD i false) T0 R 0) t = tget (tmS (fun _ => true) T0 (R.take j) 0) t := by
      intro t ht
      have e := tmS_take T0 R 0 j (Nat.zero_le _)
      rw [Nat.sub_zero] at e
      rw [← e]
      refine tmS_same R T0 T0 0 rfl rfl fun i r' hi => ?_
      rw [Nat.zero_add]
      rcases hun i r' hi with h | ⟨h, _⟩ | ⟨h, _⟩
      · exact .inl h
      · exact .inr fun hd => (Oper.apart_spec h).1 t hd ht
      · exact .inr fun hd => (Oper.apart_spec h).2.2 t hd ht
    have hhp : ∀ b, (∀ (i : Nat) (r' : Rec), R[i]? = some r' → i < j → A.testBit i = false → b ∉ r'.tc) → (b ∈ r.fp ∨ b ∈ r.tc) → hat (hpS (fun i => listed.getD i false) C0 R 0) b = hat (hpS (fun _ => true) C0 (R.take j) 0) b := by
      intro b hb1 hb2
      have e := hpS_take C0 R 0 j (Nat.zero_le _)
      rw [Nat.sub_zero] at e
      rw [← e]
      refine hpS_same R C0 C0 0 rfl fun i r' hi => ?_
      rw [Nat.zero_add]
      rcases hun i r' hi with h | ⟨_, _, h1, h2⟩ | ⟨_, h⟩
      · exact .inl h
      · exact .inr (hb1 i r' hi h1 h2)
      · refine .inr fun hbt => ?_
        rcases hb2 with h3 | h3
        · exact (h b hbt).1 h3
        · exact (h b hbt).2 h3
    -- the next set
    have hset : ∀ i, (listed.setIfInBounds j true).getD i false = (listed.getD i false || i == j) := by
      intro i
      simp only [Array.getD_eq_getD_getElem?, Array.getElem?_setIfInBounds]
      by_cases h1 : j = i
      · subst h1; simp [hjl]
      · rw [if_neg h1]
        have : (i == j) = false := by simp; exact fun e => h1 e.symm
        simp [this]
    have hclose : ∀ i A', ms[i]? = some A' → (listed.setIfInBounds j true).getD i false = true → ∀ x, A'.testBit x = true → (listed.setIfInBounds j true).getD x false = true := by
      intro i A' hi hl x hx
      rw [hset] at hl ⊢
      simp only [Bool.or_eq_true, beq_iff_eq] at hl ⊢
      left
      rcases hl with hl | rfl
      · exact hcl i A' hi hl x hx
      · rw [hA] at hi
        cases hi
        exact hAl x hx
    have hfun : (fun i => (listed.setIfInBounds j true).getD i false) = fun i => listed.getD i false || i == j := funext hset
    have htadd : ∀ t, tget (tmS (fun i => listed.getD i false || i == j) T0 R 0) t = tget (tput (tmS (fun i => listed.getD i false) T0 R 0) r.o.dst r.v) t := fun t =>
      tmS_add (n := j) (rn := r) R T0 0 (Nat.zero_le _) (by simpa using hR) hno fun i r' hi hlt hl hd => by
        rw [Nat.zero_add] at hlt hl
        rcases hun i r' hi with h | ⟨_, _, h1, _⟩ | ⟨h, _⟩
        · rw [hl] at h
          have : i < j := by simpa using h.symm
          omega
        · omega
        · exact fun hd' => (Oper.apart_spec h).2.1 t hd hd'
    have hhadd : ∀ b, hat (hput (hpS (fun i => listed.getD i false) C0 R 0) r.D) b = hat (hpS (fun i => listed.getD i false || i == j) C0 R 0) b := fun b =>
      (hpS_add (n := j) (rn := r) R C0 0 (Nat.zero_le _) (by simpa using hR) hno fun i r' hi hlt hl hb hb' => by
        rw [Nat.zero_add] at hlt hl
        rcases hun i r' hi with h | ⟨_, _, h1, _⟩ | ⟨_, h⟩
        · rw [hl] at h
          have : i < j := by simpa using h.symm
          omega
        · omega
        · exact (h b hb').2 hb).symm
    have hnext : ∀ m' a' w' v', Sim m' (hput (hpS (fun i => listed.getD i false) C0 R 0) r.D) w' → VR m' (hput (hpS (fun i => listed.getD i false) C0 R 0) r.D) r.v v' → Tr m (hpS (fun i => listed.getD i false) C0 R 0) w m' (hput (hpS (fun i => listed.getD i false) C0 R 0) r.D) w' →
        a' = a.put r.o.dst v' → wpAny P .any ops Q fuel (listed.setIfInBounds j true) a' w' := by
      intro m' a' w' v' g1 g2 g3 ha
      subst ha
      refine ih _ m' _ w' (by simp [hs]) (by rw [cnt_set listed j hjl hno]; omega) hclose ?_
      rw [hfun]
      have htr := (hto.at_.tr.mono g3.ext).put r.o.dst g2
      refine ⟨⟨g1.congr hhadd, ⟨?_, fun t => ?_⟩⟩, (hto.tr.trans g3).congr hhadd, by rw [put_defers]; exact hto.defers⟩
      · have := htr.len
        simp only [tput_length, tmS_length] at this ⊢
        exact this
      · have := htr.at_ t
        simp only [← htadd t] at this
        exact this.mono (Le.congr hhadd)
    unfold wpOp
    rw [f.op]
    rcases f.run with ⟨h1, K, h2, h3⟩ | ⟨h1, h2, h3⟩
    · simp only [h1 m _ a _ htm hto.at_.tr, if_true]
      left
      refine h2 m _ a w (fun b x hb => ?_) (fun d hd hq => ?_) hto.at_.sim (fun x hx => ?_) _ _ fun v' m' w' g1 g2 g3 => hnext m' _ w' v' g1 g2 g3 rfl
      · obtain ⟨k1, k2, k3⟩ := h3 b x hb
        rw [hget_of_hat (hhp b (fun i r' hi hij hbit => k3 i r' hij hi (by rw [hAe]; exact hbit)) (.inl k2))]
        exact k1
      · have hdt : d.1 ∈ r.tc := List.mem_map_of_mem hd
        rw [hkn_of_hat (hhp d.1 (fun i r' hi hij hbit => (f.un i r' hij hi (by rw [hAe]; exact hbit)).2 _ hdt |>.2) (.inr hdt))]
        exact fresh_ge hq
      · have hv := hto.at_.tr.ev x
        have : ev (tmS (fun i => listed.getD i false) T0 R 0) x = ev (tmS (fun _ => true) T0 (R.take j) 0) x := by
          cases x with
          | tmp t => exact htm t (by unfold Oper.looksAt; rw [List.mem_append]; left; rw [List.mem_filterMap]; exact ⟨.tmp t, by simpa using hx, rfl⟩)
          | const v => rfl
          | global g => rfl
          | func g => rfl
        rw [this] at hv
        exact hv
    · simp only [h1 m _ a _ htm hto.at_.tr]
      refine hnext m _ w Go.undef ?_ ?_ ?_ rfl
      · rw [h3]; exact hto.at_.sim
      · rw [h2]; exact VR.unit _ _
      · rw [h3]; exact Tr.refl _ _ _

end Go.Ab
end

section
/- The evaluator of code, and that it tells the truth. No condition. -/
namespace Go.Ab
open Go

def headId : Code → Option Nat
  | .seq a _ => headId a
  | .region id _ _ => some id
  | .block id _ => some (id + 1000000)
  | _ => none

abbrev Contract (X : Type) := (Exit → St → Option X) → St → Option X

section
variable {X : Type}

def cutOf (c : Ctx X) (b : Code) : Option (Contract X) := match headId b with | some id => c.cut id | none => none

def evC (c : Ctx X) : Code → Contract X
  | .skip => fun k s => k .normal s
  | .label _ => fun k s => k .normal s
  | .region _ ops draw => fun k s => match draw with
    | false => regS c ops.toList ops.toList (k .normal) s
    | true => regD c ops ops.toList [] [] (k .normal) s
  | .seq a b => fun k s => match cutOf c b with
    | none => evC c a (fun e s => match e with | .normal => evC c b k s | e => k e s) s
    | some J => evC c a (fun e s => match e with | .normal => J k s | e => k e s) s
  | .cond x a b => fun k s => match ev s.tmps x with
    | .bool t => br t (evC c a k s) (evC c b k s)
    | _ => none
  | .block id b => fun k s => match c.blk id with
    | none => evC c b (fun e s => match e with | .exit id' => if id' = id then k .normal s else k (.exit id') s | e => k e s) s
    | some J => J k s
  | .exit id => fun k s => k (.exit id) s
  | .ret => fun k s => k .ret s
  | _ => fun _ _ => none

/-- the blocks that stand for themselves -/
def fitsL (c : Ctx X) : Code → List (Code × Contract X)
  | .seq a b => fitsL c a ++ (match cutOf c b with | none => fitsL c b | some J => [(b, J)])
  | .cond _ a b => fitsL c a ++ fitsL c b
  | .block id b => match c.blk id with | none => fitsL c b | some J => [(.block id b, J)]
  | _ => []

/-- where a call began -/
structure Base where
  m : Map
  H : Heap
  w : World
  defers : List Deferred

structure On (B : Base) (m : Map) (s : St) (a : Act) (w : World) : Prop where
  at_ : At m s a w
  tr : Tr B.m B.H B.w m s.heap w
  defers : a.defers = B.defers

theorem On.to {B : Base} {m : Map} {s : St} {a : Act} {w : World} (h : On B m s a w) {m' : Map} {s' : St} {a' : Act} {w' : World} (k : To m s.heap a w m' s' a' w') : On B m' s' a' w' :=
  ⟨k.at_, h.tr.trans k.tr, k.defers.trans h.defers⟩

/-- a word for code that tells the truth -/
def CodeOk (P : Program) (n0 : Nat) (code : Code) (J : Contract X) : Prop :=
  ∀ k s r, J k s = some r → ∀ B m a w, B.H.length ≤ n0 → On B m s a w → ∀ Q : Exit → Act → World → Prop, (∀ e s' m' a' w', k e s' = some r → On B m' s' a' w' → Q e a' w') → code.wp P Q a w

def drewW (w : World) : World := { w with drawn := w.drawn + 1 }

theorem Sim.drew {m : Map} {H : Heap} {w : World} (h : Sim m H w) : Sim m H (drewW w) where
  blk b bk md hg := (h.blk b bk md hg).far (fun _ _ hx => hx) fun _ => .inl rfl
  dis := h.dis

theorem Tr.drew (m : Map) (H : Heap) (w : World) : Tr m H w m H (drewW w) :=
  ⟨Le.refl _ _, rfl, rfl, rfl, Nat.le_succ _, Nat.le_refl _, fun _ _ => .inl rfl, fun _ _ h => .inr h⟩

theorem regD_sound {c : Ctx X} (hc : CtxOk c) (hm : c.P.follows .mixedOrders = true) {id : Nat} {ops : Array Oper} {k : St → Option X} {s : St} {r : X} (h : regD c ops ops.toList [] [] k s = some r) {m : Map} {a : Act} {w : World} (hat : At m s a w)
    {Q : Exit → Act → World → Prop} (hQ : ∀ m' s' a' w', k s' = some r → To m s.heap a w m' s' a' w' → Q .normal a' w') : (Code.region id ops true).wp c.P Q a w := by
  obtain ⟨R, ms, h1, h2, h3, h4⟩ := regD_facts hc (ops := ops) (T0 := s.tmps) (C0 := s.heap) ops.toList [] [] s (by simp) rfl (fun j r hj => by simp at hj) rfl h
  refine wp_region_any hm ?_
  refine orders (m0 := m) (a0 := a) (w0 := w) (by simpa using h1) h2 h3 (fun m' a' w' ht => hQ m' _ a' w' h4 ht) ops.size (Array.replicate ops.size false) m a (drewW w) (by simp) (by omega) (fun j A _ hl => ?_) ?_
  · simp [Array.getD] at hl
  · have hz : ∀ i, (Array.replicate ops.size false).getD i false = false := by
      intro i
      simp [Array.getD]
    have hf : (fun i => (Array.replicate ops.size false).getD i false) = fun _ => false := funext hz
    rw [hf]
    have e1 : ∀ (rs : List Rec) (C : Heap) (i : Nat), hpS (fun _ => false) C rs i = C := by
      intro rs
      induction rs with
      | nil => intro C i; rfl
      | cons r rs ih => intro C i; simp [hpS, ih]
    have e2 : ∀ (rs : List Rec) (C : List AV) (i : Nat), tmS (fun _ => false) C rs i = C := by
      intro rs
      induction rs with
      | nil => intro C i; rfl
      | cons r rs ih => intro C i; simp [tmS, ih]
    rw [e1, e2]
    exact ⟨⟨hat.sim.drew, hat.tr⟩, Tr.drew _ _ _, rfl⟩

theorem evC_ok {c : Ctx X} (hc : CtxOk c) (hm : c.P.follows .mixedOrders = true) {n0 : Nat} : ∀ (code : Code), (∀ p ∈ fitsL c code, CodeOk c.P n0 p.1 p.2) → CodeOk c.P n0 code (evC c code)
  | .skip, _, k, s, r, h, B, m, a, w, _, hon, Q, hQ => wp_skip (hQ _ _ _ _ _ h hon)
  | .label _, _, k, s, r, h, B, m, a, w, _, hon, Q, hQ => wp_label (hQ _ _ _ _ _ h hon)
  | .exit id, _, k, s, r, h, B, m, a, w, _, hon, Q, hQ => wp_exit (hQ _ _ _ _ _ h hon)
  | .ret, _, k, s, r, h, B, m, a, w, _, hon, Q, hQ => wp_ret (hQ _ _ _ _ _ h hon)
  | .region id ops false, _, k, s, r, h, B, m, a, w, _, hon, Q, hQ =>
    wp_region_list (regS_sound hc ops.toList s h hon.at_ fun m' s' a' w' hk ht => hQ _ _ _ _ _ hk (hon.to ht))
  | .region id ops true, _, k, s, r, h, B, m, a, w, _, hon, Q, hQ =>
    regD_sound hc hm h hon.at_ fun m' s' a' w' hk ht => hQ _ _ _ _ _ hk (hon.to ht)
  | .seq x y, hf, k, s, r, h, B, m, a, w, hn, hon, Q, hQ => by
    simp only [evC] at h
    simp only [fitsL] at hf
    split at h
    · rename_i hcut
      rw [hcut] at hf
      refine wp_seq (evC_ok hc hm x (fun p hp => hf p (List.mem_append.2 (.inl hp))) _ _ _ h B m a w hn hon _ fun e s' m' a' w' hk hon' => ?_)
      cases e with
      | normal => exact evC_ok hc hm y (fun p hp => hf p (List.mem_append.2 (.inr hp))) _ _ _ hk B m' a' w' hn hon' Q hQ
      | exit id => exact hQ _ _ _ _ _ hk hon'
      | goto l => exact hQ _ _ _ _ _ hk hon'
      | ret => exact hQ _ _ _ _ _ hk hon'
      | panic c => exact hQ _ _ _ _ _ hk hon'
      | outgrown => exact hQ _ _ _ _ _ hk hon'
    · rename_i J hcut
      rw [hcut] at hf
      refine wp_seq (evC_ok hc hm x (fun p hp => hf p (List.mem_append.2 (.inl hp))) _ _ _ h B m a w hn hon _ fun e s' m' a' w' hk hon' => ?_)
      cases e with
      | normal => exact hf (y, J) (List.mem_append.2 (.inr (by simp))) _ _ _ hk B m' a' w' hn hon' Q hQ
      | exit id => exact hQ _ _ _ _ _ hk hon'
      | goto l => exact hQ _ _ _ _ _ hk hon'
      | ret => exact hQ _ _ _ _ _ hk hon'
      | panic c => exact hQ _ _ _ _ _ hk hon'
      | outgrown => exact hQ _ _ _ _ _ hk hon'
  | .cond x t f, hf, k, s, r, h, B, m, a, w, hn, hon, Q, hQ => by
    simp only [evC] at h
    simp only [fitsL] at hf
    split at h
    · rename_i b hb
      have hv := hon.at_.tr.ev x
      rw [hb] at hv
      generalize ha : a.eval x = v at hv
      cases hv
      rcases br_some h with ⟨rfl, h1⟩ | ⟨rfl, h1⟩
      · exact wp_cond_true ha (evC_ok hc hm t (fun p hp => hf p (List.mem_append.2 (.inl hp))) _ _ _ h1 B m a w hn hon Q hQ)
      · exact wp_cond_false ha (evC_ok hc hm f (fun p hp => hf p (List.mem_append.2 (.inr hp))) _ _ _ h1 B m a w hn hon Q hQ)
    · cases h
  | .block id b, hf, k, s, r, h, B, m, a, w, hn, hon, Q, hQ => by
    simp only [evC] at h
    simp only [fitsL] at hf
    split at h
    · rename_i hblk
      rw [hblk] at hf
      refine wp_block (evC_ok hc hm b hf _ _ _ h B m a w hn hon _ fun e s' m' a' w' hk hon' => ?_)
      cases e with
      | normal => exact hQ _ _ _ _ _ hk hon'
      | exit id' =>
        simp only [Exit.inBlock]
        simp only at hk
        by_cases e : id' = id
        · rw [if_pos e] at hk ⊢; exact hQ _ _ _ _ _ hk hon'
        · rw [if_neg e] at hk ⊢; exact hQ _ _ _ _ _ hk hon'
      | goto l => exact hQ _ _ _ _ _ hk hon'
      | ret => exact hQ _ _ _ _ _ hk hon'
      | panic c => exact hQ _ _ _ _ _ hk hon'
      | outgrown => exact hQ _ _ _ _ _ hk hon'
    · rename_i J hblk
      rw [hblk] at hf
      exact hf (.block id b, J) (by simp) _ _ _ h B m a w hn hon Q hQ
  | .loop _, _, k, s, r, h, _, _, _, _, _, _, _, _ => by cases h
  | .rangeFunc .., _, k, s, r, h, _, _, _, _, _, _, _, _ => by cases h
  | .scope _, _, k, s, r, h, _, _, _, _, _, _, _, _ => by cases h
  | .goto _, _, k, s, r, h, _, _, _, _, _, _, _, _ => by cases h
  | .refuse _, _, k, s, r, h, _, _, _, _, _, _, _, _ => by cases h

/-- how a block is left -/
def leaveB (id : Nat) : Exit → Exit
  | .exit i => if i = id then .normal else .exit i
  | e => e

/-- s' says less than s -/
def Gen (n0 : Nat) (s s' : St) : Prop := ∀ B m a w, B.H.length ≤ n0 → On B m s a w → ∃ m', On B m' s' a w

theorem Gen.refl (n0 : Nat) (s : St) : Gen n0 s s := fun _ m _ _ _ h => ⟨m, h⟩

/-- a piece of code with a plain function that tells what it comes to -/
theorem piece_ok {O I : Type} {c : Ctx O} (hc : CtxOk c) (hm : c.P.follows .mixedOrders = true) {n0 : Nat} {code : Code} (hf : ∀ p ∈ fitsL c code, CodeOk c.P n0 p.1 p.2)
    {rd : St → Option I} {fi : I → St} (hrd : ∀ s d, rd s = some d → Gen n0 s (fi d)) {g : I → Option O} {ko : Exit → St → Option O} {ex : O → Exit × St}
    (hko : ∀ e s o, ko e s = some o → e = (ex o).1 ∧ Gen n0 s (ex o).2) (hg : ∀ d, evC c code ko (fi d) = g d) :
    CodeOk c.P n0 code (fun (k : Exit → St → Option X) s => (rd s).bind fun d => (g d).bind fun o => k (ex o).1 (ex o).2) := by
  intro k s r h B m a w hn hon Q hQ
  simp only [Option.bind_eq_some_iff] at h
  obtain ⟨d, h1, o, h2, h3⟩ := h
  obtain ⟨m1, hon1⟩ := hrd s d h1 B m a w hn hon
  rw [← hg d] at h2
  refine evC_ok hc hm code hf _ _ _ h2 B m1 a w hn hon1 Q fun e s' m' a' w' hk hon' => ?_
  obtain ⟨rfl, hgen⟩ := hko e s' o hk
  obtain ⟨m2, hon2⟩ := hgen B m' a' w' hn hon'
  exact hQ _ _ m2 _ _ h3 hon2

/-- a loop with a plain function that tells what it comes to -/
theorem loop_ok {O I : Type} {c : Ctx O} (hc : CtxOk c) (hm : c.P.follows .mixedOrders = true) {n0 : Nat} {id : Nat} {body : Code} (hf : ∀ p ∈ fitsL c body, CodeOk c.P n0 p.1 p.2)
    {rd : St → Option I} {fi : I → St} (hrd : ∀ s d, rd s = some d → Gen n0 s (fi d)) {l : Nat → I → Option O} {ko : Exit → St → Option O} {ex : O → Exit × St}
    (hko : ∀ e s o, ko e s = some o → leaveB id e = (ex o).1 ∧ Gen n0 s (ex o).2) (h0 : ∀ d, l 0 d = none)
    (hl : ∀ n d, evC c body (fun e s => match e with | .normal => (rd s).bind (l n) | e => ko e s) (fi d) = l (n + 1) d) (n : Nat) :
    CodeOk c.P n0 (.block id (.loop body)) (fun (k : Exit → St → Option X) s => (rd s).bind fun d => (l n d).bind fun o => k (ex o).1 (ex o).2) := by
  intro k s r h B m a w hn hon Q hQ
  simp only [Option.bind_eq_some_iff] at h
  obtain ⟨d, h1, o, h2, h3⟩ := h
  obtain ⟨m1, hon1⟩ := hrd s d h1 B m a w hn hon
  refine wp_block (wp_loop_rounds n ?_)
  have key : ∀ n d m a w, l n d = some o → On B m (fi d) a w → Code.rounds c.P body (Exit.inBlock id Q) n a w := by
    intro n
    induction n with
    | zero => intro d m a w h; rw [h0] at h; cases h
    | succ n ih =>
      intro d m a w h hon
      rw [← hl n d] at h
      unfold Code.rounds
      refine evC_ok hc hm body hf _ _ _ h B m a w hn hon _ fun e s' m' a' w' hk hon' => ?_
      have out : ∀ e', leaveB id e' = (ex o).1 → Gen n0 s' (ex o).2 → e' ≠ .normal → Exit.inBlock id Q e' a' w' := by
        intro e' he hgen hne
        obtain ⟨m2, hon2⟩ := hgen B m' a' w' hn hon'
        have hq := hQ _ _ m2 a' w' h3 hon2
        rw [← he] at hq
        cases e' with
        | normal => exact absurd rfl hne
        | exit i =>
          simp only [Exit.inBlock]
          simp only [leaveB] at hq
          by_cases e : i = id
          · rw [if_pos e] at hq ⊢; exact hq
          · rw [if_neg e] at hq ⊢; exact hq
        | goto l => exact hq
        | ret => exact hq
        | panic c => exact hq
        | outgrown => exact hq
      cases e with
      | normal =>
        simp only [Option.bind_eq_some_iff] at hk
        obtain ⟨d', k1, k2⟩ := hk
        obtain ⟨m2, hon2⟩ := hrd s' d' k1 B m' a' w' hn hon'
        exact ih d' m2 a' w' k2 hon2
      | exit i => obtain ⟨q1, q2⟩ := hko _ _ _ hk; exact out (.exit i) q1 q2 (by simp)
      | goto i => obtain ⟨q1, q2⟩ := hko _ _ _ hk; exact out (.goto i) q1 q2 (by simp)
      | ret => obtain ⟨q1, q2⟩ := hko _ _ _ hk; exact out .ret q1 q2 (by simp)
      | panic i => obtain ⟨q1, q2⟩ := hko _ _ _ hk; exact out (.panic i) q1 q2 (by simp)
      | outgrown => obtain ⟨q1, q2⟩ := hko _ _ _ hk; exact out .outgrown q1 q2 (by simp)
  exact key n d m1 a w h2 hon1

theorem CodeOk.congr {P : Program} {n0 : Nat} {code : Code} {J J' : Contract X} (h : CodeOk P n0 code J) (e : ∀ k s, J' k s = J k s) : CodeOk P n0 code J' :=
  fun k s r hr => h k s r (by rw [← e]; exact hr)

end
end Go.Ab
end

section
/- A state, or a call's arguments, by a pattern: plain data out of it, and a small heap of its own. No condition. -/
namespace Go.Ab
open Go

/-- where a place of the small heap lies in the great one -/
inductive View where
  | ph
  | full (b : Nat)
  | sub (b off len : Nat)
  | el (b i fo n : Nat)

inductive SV where
  | undef
  | int (k : IntKind)
  | bool
  | str
  | nilPtr
  | nilSlice
  | nilFunc
  | nilIface
  | whole (j : Nat)
  | part (j : Nat)
  | ptr (j fo : Nat)
  | el (j n : Nat)
  | ptr0 (j fo : Nat)
  | func (fn : FuncId) (first cap : List SV)
  | iface (t : TypeId) (v : SV)
  | agg (l : List SV)
  | tuple (l : List SV)

inductive Lf where
  | i (n : Int)
  | b (b : Bool)
  | s (s : ByteArray)
  | n (n : Nat)
  | li (l : List Int)
  | lr (l : List (List Int))

inductive SB where
  | ints (k : IntKind)
  | recs (ks : List IntKind)
  | vals (n : Nat) (l : List SV)
  | dead
  | hole

abbrev Vs := List (Option View)

def vat : Vs → Nat → Option View
  | [], _ => none
  | v :: _, 0 => v
  | _ :: vs, n + 1 => vat vs n

def vset : Vs → Nat → View → Vs
  | [], _, _ => []
  | _ :: vs, 0, v => some v :: vs
  | x :: vs, n + 1, v => x :: vset vs n v

theorem vat_vset (vs : Vs) (j i : Nat) (v : View) : vat (vset vs j v) i = if i = j ∧ j < vs.length then some v else vat vs i := by
  induction vs generalizing j i with
  | nil => simp [vset, vat]
  | cons x xs ih => cases j with
    | zero => cases i <;> simp [vset, vat]
    | succ j => cases i with
      | zero => simp [vset, vat]
      | succ i => simp [vset, vat, ih]

theorem vset_length (vs : Vs) (j : Nat) (v : View) : (vset vs j v).length = vs.length := by
  induction vs generalizing j with
  | nil => rfl
  | cons x xs ih => cases j <;> simp [vset, ih]

def bindV (vs : Vs) (j : Nat) (v : View) : Option Vs := if j < vs.length then some (vset vs j v) else none

/-- a slice at place j -/
def mRef (j : Nat) (x : AV) (vs : Vs) : Option Vs :=
  match vat vs j, x with
  | none, .whole b => bindV vs j (.full b)
  | none, .part b off len => bindV vs j (.sub b off len)
  | none, .nilSlice => bindV vs j .ph
  | some (.full b'), .whole b => if b = b' then some vs else none
  | some .ph, .nilSlice => some vs
  | _, _ => none

def mFull (j b : Nat) (vs : Vs) : Option Vs :=
  match vat vs j with
  | none => bindV vs j (.full b)
  | some (.full b') => if b = b' then some vs else none
  | _ => none

def mFullO (j b : Nat) (vs : Vs) : Option (List Lf × Vs) := match mFull j b vs with | some vs' => some ([], vs') | none => none

mutual
def mV : SV → AV → Vs → Option (List Lf × Vs)
  | .undef, _, vs => some ([], vs)
  | .int k, x, vs => match x with | .int k' n => if k = k' then some ([.i n], vs) else none | _ => none
  | .bool, x, vs => match x with | .bool b => some ([.b b], vs) | _ => none
  | .str, x, vs => match x with | .str b => some ([.s b], vs) | _ => none
  | .nilPtr, x, vs => match x with | .nilPtr => some ([], vs) | _ => none
  | .nilSlice, x, vs => match x with | .nilSlice => some ([], vs) | _ => none
  | .nilFunc, x, vs => match x with | .nilFunc => some ([], vs) | _ => none
  | .nilIface, x, vs => match x with | .nilIface => some ([], vs) | _ => none
  | .whole j, x, vs => match mRef j x vs with | some vs' => some ([], vs') | none => none
  | .part j, x, vs => match x with | .part b off len => (match mFull j b vs with | some vs' => some ([.n off, .n len], vs') | none => none) | _ => none
  | .ptr j fo, x, vs => match x with | .ptr b i fo' => if fo = fo' then (match mFull j b vs with | some vs' => some ([.n i], vs') | none => none) else none | _ => none
  | .ptr0 j fo, x, vs => match x with | .ptr b 0 fo' => if fo = fo' then mFullO j b vs else none | _ => none
  | .el j n, x, vs => match vat vs j, x with | none, .ptr b i fo => (match bindV vs j (.el b i fo n) with | some vs' => some ([], vs') | none => none) | _, _ => none
  | .func fn f c, x, vs => match x with
    | .func (.func fn') f' c' => if fn = fn' then (match mVL f f' vs with
      | some (l1, vs1) => (match mVL c c' vs1 with | some (l2, vs2) => some (l1 ++ l2, vs2) | none => none)
      | none => none) else none
    | _ => none
  | .iface t v, x, vs => match x with | .iface t' v' => if t = t' then mV v v' vs else none | _ => none
  | .agg l, x, vs => match x with | .agg l' => mVL l l' vs | _ => none
  | .tuple l, x, vs => match x with | .tuple l' => mVL l l' vs | _ => none
def mVL : List SV → List AV → Vs → Option (List Lf × Vs)
  | [], xs, vs => match xs with | [] => some ([], vs) | _ => none
  | p :: ps, xs, vs => match xs with
    | x :: xs => (match mV p x vs with
      | some (l1, vs1) => (match mVL ps xs vs1 with | some (l2, vs2) => some (l1 ++ l2, vs2) | none => none)
      | none => none)
    | _ => none
end

mutual
def fV : SV → List Lf → AV × List Lf
  | .undef, l => (.undef, l)
  | .int k, l => match l with | .i n :: l => (.int k n, l) | l => (.undef, l)
  | .bool, l => match l with | .b n :: l => (.bool n, l) | l => (.undef, l)
  | .str, l => match l with | .s n :: l => (.str n, l) | l => (.undef, l)
  | .nilPtr, l => (.nilPtr, l)
  | .nilSlice, l => (.nilSlice, l)
  | .nilFunc, l => (.nilFunc, l)
  | .nilIface, l => (.nilIface, l)
  | .whole j, l => (.whole j, l)
  | .part j, l => match l with | .n off :: .n len :: l => (.part j off len, l) | l => (.undef, l)
  | .ptr j fo, l => match l with | .n i :: l => (.ptr j i fo, l) | l => (.undef, l)
  | .ptr0 j fo, l => (.ptr j 0 fo, l)
  | .el j _, l => (.ptr j 0 0, l)
  | .func fn f c, l => match fVL f l with | (f', l1) => match fVL c l1 with | (c', l2) => (.func (.func fn) f' c', l2)
  | .iface t v, l => match fV v l with | (v', l1) => (.iface t v', l1)
  | .agg ps, l => match fVL ps l with | (ps', l1) => (.agg ps', l1)
  | .tuple ps, l => match fVL ps l with | (ps', l1) => (.tuple ps', l1)
def fVL : List SV → List Lf → List AV × List Lf
  | [], l => ([], l)
  | p :: ps, l => match fV p l with | (x, l1) => match fVL ps l1 with | (xs, l2) => (x :: xs, l2)
end

/-- a value of the great heap as one of the small one -/
inductive Loc (ρ : Nat → Option View) : AV → AV → Prop
  | undef (x : AV) : Loc ρ x .undef
  | int (k : IntKind) (n : Int) : Loc ρ (.int k n) (.int k n)
  | bool (b : Bool) : Loc ρ (.bool b) (.bool b)
  | str (s : ByteArray) : Loc ρ (.str s) (.str s)
  | nilPtr : Loc ρ .nilPtr .nilPtr
  | nilSlice : Loc ρ .nilSlice .nilSlice
  | nilFunc : Loc ρ .nilFunc .nilFunc
  | nilIface : Loc ρ .nilIface .nilIface
  | full (j b : Nat) : ρ j = some (.full b) → Loc ρ (.whole b) (.whole j)
  | sub (j b off len : Nat) : ρ j = some (.sub b off len) → Loc ρ (.part b off len) (.whole j)
  | ph (j : Nat) : ρ j = some .ph → Loc ρ .nilSlice (.whole j)
  | part (j b off len : Nat) : ρ j = some (.full b) → Loc ρ (.part b off len) (.part j off len)
  | ptr (j b i fo : Nat) : ρ j = some (.full b) → Loc ρ (.ptr b i fo) (.ptr j i fo)
  | el (j b i fo n : Nat) : ρ j = some (.el b i fo n) → Loc ρ (.ptr b i fo) (.ptr j 0 0)
  | func (fn : Fn) (f c f' c' : List AV) : f.length = f'.length → c.length = c'.length → (∀ (j : Nat) (x y : AV), f[j]? = some x → f'[j]? = some y → Loc ρ x y) → (∀ (j : Nat) (x y : AV), c[j]? = some x → c'[j]? = some y → Loc ρ x y) → Loc ρ (.func fn f c) (.func fn f' c')
  | iface (t : TypeId) (x y : AV) : Loc ρ x y → Loc ρ (.iface t x) (.iface t y)
  | agg (l l' : List AV) : l.length = l'.length → (∀ (j : Nat) (x y : AV), l[j]? = some x → l'[j]? = some y → Loc ρ x y) → Loc ρ (.agg l) (.agg l')
  | tuple (l l' : List AV) : l.length = l'.length → (∀ (j : Nat) (x y : AV), l[j]? = some x → l'[j]? = some y → Loc ρ x y) → Loc ρ (.tuple l) (.tuple l')

theorem Loc.mono {ρ ρ' : Nat → Option View} (h : ∀ j v, ρ j = some v → ρ' j = some v) {x y : AV} (hl : Loc ρ x y) : Loc ρ' x y := by
  induction hl with
  | undef x => exact .undef x
  | int k n => exact .int k n
  | bool b => exact .bool b
  | str s => exact .str s
  | nilPtr => exact .nilPtr
  | nilSlice => exact .nilSlice
  | nilFunc => exact .nilFunc
  | nilIface => exact .nilIface
  | full j b e => exact .full j b (h _ _ e)
  | sub j b off len e => exact .sub j b off len (h _ _ e)
  | ph j e => exact .ph j (h _ _ e)
  | part j b off len e => exact .part j b off len (h _ _ e)
  | ptr j b i fo e => exact .ptr j b i fo (h _ _ e)
  | el j b i fo n e => exact .el j b i fo n (h _ _ e)
  | func fn f c f' c' h1 h2 _ _ ih1 ih2 => exact .func fn f c f' c' h1 h2 ih1 ih2
  | iface t x y _ ih => exact .iface t x y ih
  | agg l l' h1 _ ih => exact .agg l l' h1 ih
  | tuple l l' h1 _ ih => exact .tuple l l' h1 ih

/-- what is known of a view because a value came through it -/
def VOk (m : Map) (H : Heap) : View → Prop
  | .sub b off len => ∃ v, VR m H (.part b off len) v
  | .el b i fo _ => ∃ v, VR m H (.ptr b i fo) v
  | _ => True

def LeV (vs vs' : Vs) : Prop := vs'.length = vs.length ∧ ∀ j v, vat vs j = some v → vat vs' j = some v

theorem LeV.refl (vs : Vs) : LeV vs vs := ⟨rfl, fun _ _ h => h⟩
theorem LeV.trans {a b c : Vs} (h : LeV a b) (k : LeV b c) : LeV a c := ⟨k.1.trans h.1, fun j v hj => k.2 j v (h.2 j v hj)⟩

theorem bindV_spec {vs vs' : Vs} {j : Nat} {v : View} (h : bindV vs j v = some vs') (hn : vat vs j = none) : LeV vs vs' ∧ vat vs' j = some v ∧ ∀ i u, vat vs' i = some u → vat vs i = some u ∨ u = v := by
  unfold bindV at h
  split at h
  · rename_i hl
    cases h
    refine ⟨⟨vset_length _ _ _, fun i u hi => ?_⟩, by rw [vat_vset, if_pos ⟨rfl, hl⟩], fun i u hi => ?_⟩
    · rw [vat_vset]
      by_cases e : i = j
      · subst e; rw [hn] at hi; cases hi
      · rw [if_neg (fun h => e h.1)]; exact hi
    · rw [vat_vset] at hi
      split at hi
      · cases hi; exact .inr rfl
      · exact .inl hi
  · cases h

theorem mRef_spec {j : Nat} {x : AV} {vs vs' : Vs} (h : mRef j x vs = some vs') : LeV vs vs' ∧ Loc (vat vs') x (.whole j) ∧ ∀ (m : Map) (H : Heap) v, VR m H x v → ∀ i u, vat vs' i = some u → vat vs i = some u ∨ VOk m H u := by
  unfold mRef at h
  split at h
  · rename_i b hv
    obtain ⟨h1, h2, h3⟩ := bindV_spec h hv
    exact ⟨h1, .full _ _ h2, fun m H v _ i u hi => (h3 i u hi).imp id fun e => by rw [e]; trivial⟩
  · rename_i b off len hv
    obtain ⟨h1, h2, h3⟩ := bindV_spec h hv
    exact ⟨h1, .sub _ _ _ _ h2, fun m H v hx i u hi => (h3 i u hi).imp id fun e => by rw [e]; exact ⟨v, hx⟩⟩
  · rename_i hv
    obtain ⟨h1, h2, h3⟩ := bindV_spec h hv
    exact ⟨h1, .ph _ h2, fun m H v _ i u hi => (h3 i u hi).imp id fun e => by rw [e]; trivial⟩
  · rename_i b' b hv
    split at h
    · rename_i e
      cases h
      subst e
      exact ⟨LeV.refl _, .full _ _ hv, fun m H v _ i u hi => .inl hi⟩
    · cases h
  · rename_i hv
    cases h
    exact ⟨LeV.refl _, .ph _ hv, fun m H v _ i u hi => .inl hi⟩
  · cases h

theorem mFull_spec {j b : Nat} {vs vs' : Vs} (h : mFull j b vs = some vs') : LeV vs vs' ∧ vat vs' j = some (.full b) ∧ ∀ (m : Map) (H : Heap), ∀ i u, vat vs' i = some u → vat vs i = some u ∨ VOk m H u := by
  unfold mFull at h
  split at h
  · rename_i hv
    obtain ⟨h1, h2, h3⟩ := bindV_spec h hv
    exact ⟨h1, h2, fun m H i u hi => (h3 i u hi).imp id fun e => by rw [e]; trivial⟩
  · rename_i b' hv
    split at h
    · rename_i e
      cases h
      subst e
      exact ⟨LeV.refl _, hv, fun m H i u hi => .inl hi⟩
    · cases h
  · cases h

/-- what a match says -/
structure MOk (p : SV) (x : AV) (vs vs' : Vs) (ls : List Lf) : Prop where
  le : LeV vs vs'
  fill : ∃ y, (∀ rest, fV p (ls ++ rest) = (y, rest)) ∧ Loc (vat vs') x y
  ok : ∀ (m : Map) (H : Heap) v, VR m H x v → ∀ i u, vat vs' i = some u → vat vs i = some u ∨ VOk m H u

structure MOkL (ps : List SV) (xs : List AV) (vs vs' : Vs) (ls : List Lf) : Prop where
  le : LeV vs vs'
  fill : ∃ ys, (∀ rest, fVL ps (ls ++ rest) = (ys, rest)) ∧ xs.length = ys.length ∧ ∀ (j : Nat) (x y : AV), xs[j]? = some x → ys[j]? = some y → Loc (vat vs') x y
  ok : ∀ (m : Map) (H : Heap), (∀ (j : Nat) (x : AV), xs[j]? = some x → ∃ v, VR m H x v) → ∀ i u, vat vs' i = some u → vat vs i = some u ∨ VOk m H u

theorem vr_all {m : Map} {H : Heap} {l : List AV} {cs : Array Value} (hl : l.length = cs.size) (h : ∀ (j : Nat) (x : AV) (y : Value), l[j]? = some x → cs[j]? = some y → VR m H x y) (j : Nat) (x : AV) (hx : l[j]? = some x) : ∃ v, VR m H x v := by
  have hj : j < cs.size := by rw [← hl]; exact (List.getElem?_eq_some_iff.1 hx).1
  exact ⟨cs[j], h j x _ hx (by simp [hj])⟩

mutual
theorem mV_spec : ∀ (p : SV) (x : AV) (vs vs' : Vs) (ls : List Lf), mV p x vs = some (ls, vs') → MOk p x vs vs' ls
  | .undef, x, vs, vs', ls, h => by
    simp only [mV] at h; cases h
    exact ⟨LeV.refl _, ⟨.undef, fun _ => rfl, .undef x⟩, fun _ _ _ _ i u hi => .inl hi⟩
  | .int k, x, vs, vs', ls, h => by
    simp only [mV] at h
    split at h
    · split at h
      · rename_i e; subst e; cases h
        exact ⟨LeV.refl _, ⟨_, fun _ => rfl, .int _ _⟩, fun _ _ _ _ i u hi => .inl hi⟩
      · cases h
    · cases h
  | .bool, x, vs, vs', ls, h => by
    simp only [mV] at h
    split at h
    · cases h; exact ⟨LeV.refl _, ⟨_, fun _ => rfl, .bool _⟩, fun _ _ _ _ i u hi => .inl hi⟩
    · cases h
  | .str, x, vs, vs', ls, h => by
    simp only [mV] at h
    split at h
    · cases h; exact ⟨LeV.refl _, ⟨_, fun _ => rfl, .str _⟩, fun _ _ _ _ i u hi => .inl hi⟩
    · cases h
  | .nilPtr, x, vs, vs', ls, h => by
    simp only [mV] at h
    split at h
    · cases h; exact ⟨LeV.refl _, ⟨_, fun _ => rfl, .nilPtr⟩, fun _ _ _ _ i u hi => .inl hi⟩
    · cases h
  | .nilSlice, x, vs, vs', ls, h => by
    simp only [mV] at h
    split at h
    · cases h; exact ⟨LeV.refl _, ⟨_, fun _ => rfl, .nilSlice⟩, fun _ _ _ _ i u hi => .inl hi⟩
    · cases h
  | .nilFunc, x, vs, vs', ls, h => by
    simp only [mV] at h
    split at h
    · cases h; exact ⟨LeV.refl _, ⟨_, fun _ => rfl, .nilFunc⟩, fun _ _ _ _ i u hi => .inl hi⟩
    · cases h
  | .nilIface, x, vs, vs', ls, h => by
    simp only [mV] at h
    split at h
    · cases h; exact ⟨LeV.refl _, ⟨_, fun _ => rfl, .nilIface⟩, fun _ _ _ _ i u hi => .inl hi⟩
    · cases h
  | .whole j, x, vs, vs', ls, h => by
    simp only [mV] at h
    split at h
    · rename_i vs1 h1
      cases h
      obtain ⟨a, b, c⟩ := mRef_spec h1
      exact ⟨a, ⟨_, fun _ => rfl, b⟩, c⟩
    · cases h
  | .part j, x, vs, vs', ls, h => by
    simp only [mV] at h
    split at h
    · split at h
      · rename_i vs1 h1
        cases h
        obtain ⟨a, b, c⟩ := mFull_spec h1
        exact ⟨a, ⟨_, fun _ => rfl, .part _ _ _ _ b⟩, fun m H _ _ => c m H⟩
      · cases h
    · cases h
  | .ptr j fo, x, vs, vs', ls, h => by
    simp only [mV] at h
    split at h
    · split at h
      · rename_i e
        subst e
        split at h
        · rename_i vs1 h1
          cases h
          obtain ⟨a, b, c⟩ := mFull_spec h1
          exact ⟨a, ⟨_, fun _ => rfl, .ptr _ _ _ _ b⟩, fun m H _ _ => c m H⟩
        · cases h
      · cases h
    · cases h
  | .ptr0 j fo, x, vs, vs', ls, h => by
    simp only [mV] at h
    split at h
    · split at h
      · rename_i e
        subst e
        unfold mFullO at h
        split at h
        · rename_i vs1 h1
          cases h
          obtain ⟨a, b, c⟩ := mFull_spec h1
          exact ⟨a, ⟨_, fun _ => rfl, .ptr _ _ _ _ b⟩, fun m H _ _ => c m H⟩
        · cases h
      · cases h
    · cases h
  | .el j n, x, vs, vs', ls, h => by
    simp only [mV] at h
    split at h
    · rename_i b i fo hv
      split at h
      · rename_i vs1 h1
        cases h
        obtain ⟨a, b, c⟩ := bindV_spec h1 hv
        exact ⟨a, ⟨_, fun _ => rfl, .el _ _ _ _ _ b⟩, fun m H v hx i u hi => (c i u hi).imp id fun e => by rw [e]; exact ⟨v, hx⟩⟩
      · cases h
    · cases h
  | .func fn f c, x, vs, vs', ls, h => by
    simp only [mV] at h
    split at h
    · split at h
      · rename_i e
        subst e
        split at h
        · rename_i l1 vs1 h1
          split at h
          · rename_i l2 vs2 h2
            cases h
            obtain ⟨a1, ⟨y1, b1, c1, d1⟩, e1⟩ := mVL_spec _ _ _ _ _ h1
            obtain ⟨a2, ⟨y2, b2, c2, d2⟩, e2⟩ := mVL_spec _ _ _ _ _ h2
            refine ⟨a1.trans a2, ⟨_, fun rest => by simp only [fV, List.append_assoc, b1, b2], .func _ _ _ _ _ c1 c2 (fun j x y hx hy => (d1 j x y hx hy).mono a2.2) d2⟩, fun m H v hx i u hi => ?_⟩
            cases hx with
            | func _ _ _ f'' c'' g1 g2 g3 g4 =>
              rcases e2 m H (vr_all g2 g4) i u hi with h | h
              · exact e1 m H (vr_all g1 g3) i u h
              · exact .inr h
          · cases h
        · cases h
      · cases h
    · cases h
  | .iface t v, x, vs, vs', ls, h => by
    simp only [mV] at h
    split at h
    · split at h
      · rename_i e
        subst e
        obtain ⟨a, ⟨y, b, c⟩, d⟩ := mV_spec _ _ _ _ _ h
        refine ⟨a, ⟨_, fun rest => by simp only [fV, b], .iface _ _ _ c⟩, fun m H u hx => ?_⟩
        cases hx with
        | iface _ _ u' hu => exact d m H u' hu
      · cases h
    · cases h
  | .agg l, x, vs, vs', ls, h => by
    simp only [mV] at h
    split at h
    · obtain ⟨a, ⟨y, b, c, d⟩, e⟩ := mVL_spec _ _ _ _ _ h
      refine ⟨a, ⟨_, fun rest => by simp only [fV, b], .agg _ _ c d⟩, fun m H u hx => ?_⟩
      cases hx with
      | agg _ cs g1 g2 => exact e m H (vr_all g1 g2)
    · cases h
  | .tuple l, x, vs, vs', ls, h => by
    simp only [mV] at h
    split at h
    · obtain ⟨a, ⟨y, b, c, d⟩, e⟩ := mVL_spec _ _ _ _ _ h
      refine ⟨a, ⟨_, fun rest => by simp only [fV, b], .tuple _ _ c d⟩, fun m H u hx => ?_⟩
      cases hx with
      | tuple _ cs g1 g2 => exact e m H (vr_all g1 g2)
    · cases h
theorem mVL_spec : ∀ (ps : List SV) (xs : List AV) (vs vs' : Vs) (ls : List Lf), mVL ps xs vs = some (ls, vs') → MOkL ps xs vs vs' ls
  | [], xs, vs, vs', ls, h => by
    simp only [mVL] at h
    split at h
    · cases h; exact ⟨LeV.refl _, ⟨[], fun _ => rfl, rfl, fun j x y hx => by simp at hx⟩, fun _ _ _ i u hi => .inl hi⟩
    · cases h
  | p :: ps, xs, vs, vs', ls, h => by
    simp only [mVL] at h
    split at h
    · rename_i x xs
      split at h
      · rename_i l1 vs1 h1
        split at h
        · rename_i l2 vs2 h2
          cases h
          obtain ⟨a1, ⟨y1, b1, c1⟩, e1⟩ := mV_spec _ _ _ _ _ h1
          obtain ⟨a2, ⟨y2, b2, c2, d2⟩, e2⟩ := mVL_spec _ _ _ _ _ h2
          refine ⟨a1.trans a2, ⟨y1 :: y2, fun rest => by simp only [fVL, List.append_assoc, b1, b2], by simp [c2], fun j x y hx hy => ?_⟩, fun m H hx i u hi => ?_⟩
          · cases j with
            | zero => simp at hx hy; subst hx hy; exact c1.mono a2.2
            | succ j => exact d2 j x y (by simpa using hx) (by simpa using hy)
          · rcases e2 m H (fun j x hj => hx (j + 1) x (by simpa using hj)) i u hi with h | h
            · obtain ⟨v, hv⟩ := hx 0 x rfl
              exact e1 m H v hv i u h
            · exact .inr h
        · cases h
      · cases h
    · cases h
end

end Go.Ab
end

section
/- The small heap stands for the memory, too. No condition. -/
namespace Go.Ab
open Go

def vB (H : Heap) : View → Option (Blk × Md)
  | .ph => none
  | .full b => hget H b
  | .sub b off len => match hget H b with | some (bk, md) => some (bk.sub off len, md) | none => none
  | .el b i fo n => match hget H b with
    | some (bk, md) => if 0 < n ∧ fo + n ≤ bk.str then (match ldn bk i fo n with | some l => some (.vals n l, md) | none => none) else none
    | none => none

def isOwn : Md → Bool
  | .own => true
  | _ => false

/-- where it lies -/
def vP (m : Map) (H : Heap) (own : Bool) : View → Nat × Nat × Nat
  | .ph => (0, 0, 0)
  | .full b => match hget H b with | some (bk, _) => ((m b).1, (m b).2.1, match own with | true => (m b).2.2 | false => bk.num * bk.str) | none => (0, 0, 0)
  | .sub b off len => match hget H b with | some (bk, _) => ((m b).1, (m b).2.1 + off * bk.str, match own with | true => (m b).2.2 - off * bk.str | false => len * bk.str) | none => (0, 0, 0)
  | .el b i fo n => match hget H b with | some (bk, _) => ((m b).1, (m b).2.1 + (i * bk.str + fo), n) | none => (0, 0, 0)

/-- may what lies under a view be used so? -/
def mdFits : View → Md → Md → Bool
  | _, _, .ro => true
  | _, .ro, .rw => false
  | _, _, .rw => true
  | .full _, .own, .own => true
  | .sub _ _ _, .own, .own => true
  | _, _, .own => false

def vId : View → Option Nat
  | .ph => none
  | .full b => some b
  | .sub b _ _ => some b
  | .el b _ _ _ => some b

theorem vB_id {H : Heap} {v : View} {gb : Blk} {md : Md} (h : vB H v = some (gb, md)) : ∃ b bk, vId v = some b ∧ hget H b = some (bk, md) := by
  cases v with
  | ph => cases h
  | full b => exact ⟨b, gb, rfl, h⟩
  | sub b off len =>
    simp only [vB] at h
    split at h
    · rename_i hg; cases h; exact ⟨b, _, rfl, hg⟩
    · cases h
  | el b i fo n =>
    simp only [vB] at h
    split at h
    · rename_i hg
      split at h
      · split at h
        · cases h; exact ⟨b, _, rfl, hg⟩
        · cases h
      · cases h
    · cases h

/-- what lies under a view is a block, too -/
theorem view_BR {m : Map} {H : Heap} {w : World} (hs : Sim m H w) {v : View} {gb : Blk} {md0 md : Md} (hv : vB H v = some (gb, md0)) (hok : VOk m H v) (hmd : mdFits v md0 md = true) : BR m H gb md (vP m H (isOwn md) v) w := by
  have hro : md ≠ .ro → md0 ≠ .ro := by
    intro h e
    subst e
    cases md <;> cases v <;> simp [mdFits] at hmd <;> exact h rfl
  cases v with
  | ph => cases hv
  | full b =>
    have hv' : hget H b = some (gb, md0) := hv
    obtain ⟨b1, b2, b3, b4⟩ := hs.blk b gb md0 hv'
    simp only [vP, hv']
    cases md with
    | own =>
      have : md0 = .own := by cases md0 <;> simp [mdFits] at hmd ⊢
      subst this
      exact ⟨b1, b2, b3, b4⟩
    | ro =>
      simp only [isOwn]
      refine ⟨b1, Nat.le_refl _, fun _ => rfl, fun hp => ?_⟩
      simp only at hp
      obtain ⟨c, e, fr, g1, g2, g3, g4, g5⟩ := b4 (by omega)
      exact ⟨c, e, fr, g1, by simp only; omega, fun h => absurd rfl h, fun j x y => g4 j x (by simp only at y; omega), g5⟩
    | rw =>
      simp only [isOwn]
      refine ⟨b1, Nat.le_refl _, fun _ => rfl, fun hp => ?_⟩
      simp only at hp
      obtain ⟨c, e, fr, g1, g2, g3, g4, g5⟩ := b4 (by omega)
      exact ⟨c, e, fr, g1, by simp only; omega, fun _ j x y => g3 (hro (by simp)) j x (by simp only at y; omega), fun j x y => g4 j x (by simp only at y; omega), g5⟩
  | sub b off len =>
    simp only [vB] at hv
    split at hv
    · rename_i bk md1 hg
      cases hv
      obtain ⟨val, hval⟩ := hok
      have hle : off + len ≤ bk.num := by
        cases hval with
        | part _ _ _ a n cap hk hh => exact (hh _ _ hg).1
      obtain ⟨s3, s1, s2, s4⟩ := sub_ld hle rfl (hs.blk b bk _ hg).1
      obtain ⟨b1, b2, b3, b4⟩ := hs.blk b bk _ hg
      have hpos := b1.pos
      have hmul : (off + len) * bk.str ≤ bk.num * bk.str := Nat.mul_le_mul_right _ hle
      rw [Nat.add_mul] at hmul
      simp only [vP, hg]
      have hx : (len * bk.str ≤ (match isOwn md with | true => (m b).2.2 - off * bk.str | false => len * bk.str)) ∧ off * bk.str + (match isOwn md with | true => (m b).2.2 - off * bk.str | false => len * bk.str) ≤ (m b).2.2 := by
        cases isOwn md <;> simp only <;> omega
      generalize hx0 : (match isOwn md with | true => (m b).2.2 - off * bk.str | false => len * bk.str) = ex at hx
      refine ⟨s3, by rw [s1, s2]; exact hx.1, fun hno => ?_, fun hp => ?_⟩
      · cases md with
        | own => exact absurd rfl hno
        | ro => simp only [isOwn] at hx0; rw [s1, s2, hx0]
        | rw => simp only [isOwn] at hx0; rw [s1, s2, hx0]
      simp only at hp ⊢
      obtain ⟨c, e, fr, g1, g2, g3, g4, g5⟩ := b4 (by omega)
      refine ⟨c, e, fr, g1, by omega, fun h j x y => g3 (hro h) j (by omega) (by omega), fun j x y => g4 j (by omega) (by omega), fun i fo hi hf => ?_⟩
      rw [s1] at hi
      rw [s2] at hf
      obtain ⟨x, u, k1, k2, k3⟩ := g5 (off + i) fo (by omega) hf
      refine ⟨x, u, by rw [s4 i fo hi hf]; exact k1, ?_, k3⟩
      rw [← k2, s2, Nat.add_mul]
      congr 1
      omega
    · cases hv
  | el b i fo n =>
    simp only [vB] at hv
    split at hv
    · rename_i bk md1 hg
      split at hv
      · rename_i hcond
        split at hv
        · rename_i l hl
          cases hv
          obtain ⟨val, hval⟩ := hok
          have hi : i < bk.num ∧ fo < bk.str := by
            cases hval with
            | ptr _ _ _ a hk hh => exact ⟨(hh _ _ hg).1, (hh _ _ hg).2.1⟩
          obtain ⟨cs, e1, e2, e3, e4⟩ := ldn_sound hs hg hi.1 n fo l hcond.2 hl
          obtain ⟨b1, b2, b3, b4⟩ := hs.blk b bk _ hg
          have hin := cell_in hi.1 (show fo + n - 1 < bk.str by omega)
          have hno : md ≠ .own := by rintro rfl; cases md0 <;> simp [mdFits] at hmd
          have hnum : (Blk.vals n l).num = 1 := by simp only [Blk.num, e2]; exact Nat.div_self hcond.1
          simp only [vP, hg]
          refine ⟨⟨hcond.1, by rw [e2]; exact Nat.mod_self _⟩, by rw [hnum]; simp [Blk.str], fun _ => by rw [hnum]; simp [Blk.str], fun hp => ?_⟩
          simp only at hp ⊢
          obtain ⟨c, e, fr, g1, g2, g3, g4, g5⟩ := b4 (by omega)
          refine ⟨c, e, fr, g1, by omega, fun h j x y => g3 (hro h) j (by omega) (by omega), fun j x y => g4 j (by omega) (by omega), fun i' fo' hi' hf' => ?_⟩
          rw [hnum] at hi'
          obtain rfl : i' = 0 := by omega
          have hf' : fo' < n := hf'
          have h1 : fo' < l.length := by omega
          have h2 : fo' < cs.length := by omega
          refine ⟨l[fo'], cs[fo'], by simp [Blk.ld, h1], ?_, e4 fo' _ _ (by simp [h1]) (by simp [h2])⟩
          have := e3 fo' cs[fo'] (by simp [h2])
          simp only [World.cell?, g1] at this
          rw [Nat.zero_mul, Nat.zero_add]
          simpa using this
        · cases hv
      · cases hv
    · cases hv

/-- what a view holds, in the small heap's words -/
inductive Cont (ρ : Nat → Option View) : Blk → Blk → Prop
  | ints (k : IntKind) (l : List Int) : Cont ρ (.ints k l) (.ints k l)
  | recs (ks : List IntKind) (l : List (List Int)) : Cont ρ (.recs ks l) (.recs ks l)
  | vals (n : Nat) (l l' : List AV) : l.length = l'.length → (∀ (j : Nat) (x y : AV), l[j]? = some x → l'[j]? = some y → Loc ρ x y) → Cont ρ (.vals n l) (.vals n l')

theorem Cont.num {ρ : Nat → Option View} {a b : Blk} (h : Cont ρ a b) : b.num = a.num ∧ b.str = a.str := by
  cases h with
  | ints => exact ⟨rfl, rfl⟩
  | recs => exact ⟨rfl, rfl⟩
  | vals n l l' h1 => exact ⟨by simp only [Blk.num, h1], rfl⟩

theorem Cont.ok {ρ : Nat → Option View} {a b : Blk} (h : Cont ρ a b) (ha : a.ok) : b.ok := by
  cases h with
  | ints => exact ha
  | recs => exact ha
  | vals n l l' h1 => exact ⟨ha.1, by rw [← h1]; exact ha.2⟩

theorem Cont.mono {ρ ρ' : Nat → Option View} (h : ∀ j v, ρ j = some v → ρ' j = some v) {a b : Blk} (hc : Cont ρ a b) : Cont ρ' a b := by
  cases hc with
  | ints k l => exact .ints k l
  | recs k l => exact .recs k l
  | vals n l l' h1 h2 => exact .vals n l l' h1 fun j x y hx hy => (h2 j x y hx hy).mono h

/-- a view and what the small heap says there -/
structure Seen (m : Map) (H : Heap) (ρ : Nat → Option View) (lb : Blk) (md : Md) (v : View) : Prop where
  ok : VOk m H v
  ph : v = .ph → lb.num = 0 ∧ lb.ok ∧ md ≠ .own
  at_ : v ≠ .ph → ∃ gb md0, vB H v = some (gb, md0) ∧ mdFits v md0 md = true ∧ Cont ρ gb lb

/-- the small heap through its views -/
structure Small (m : Map) (H : Heap) (ml : Map) (L : Heap) (ρ : Nat → Option View) : Prop where
  kn : ∀ j v, ρ j = some v → hkn L j = true
  seen : ∀ j lb md, hget L j = some (lb, md) → ∃ v, ρ j = some v ∧ Seen m H ρ lb md v ∧ ml j = vP m H (isOwn md) v
  apart : ∀ j j' lb md lb' md' v v' b, hget L j = some (lb, md) → hget L j' = some (lb', md') → j ≠ j' → ρ j = some v → ρ j' = some v' → vId v = some b → vId v' = some b → md = .ro ∧ md' = .ro

theorem Loc.vr {m ml : Map} {H L : Heap} {w : World} {ρ : Nat → Option View} (hs : Sim m H w) (h : Small m H ml L ρ) {x y : AV} (hl : Loc ρ x y) : ∀ v, VR m H x v → VR ml L y v := by
  have get : ∀ j v, ρ j = some v → ∀ lb md, hget L j = some (lb, md) → Seen m H ρ lb md v ∧ ml j = vP m H (isOwn md) v := by
    intro j v hj lb md hg
    obtain ⟨v', h1, h2, h3⟩ := h.seen j lb md hg
    rw [hj] at h1
    cases h1
    exact ⟨h2, h3⟩
  induction hl with
  | undef x => exact fun v _ => .undef v
  | int k n => intro v hv; cases hv; exact .int k n
  | bool b => intro v hv; cases hv; exact .bool b
  | str s => intro v hv; cases hv; exact .str s
  | nilPtr => intro v hv; cases hv; exact .nilPtr
  | nilSlice => intro v hv; cases hv; exact .nilSlice
  | nilFunc => intro v hv; cases hv; exact .nilFunc
  | nilIface => intro v hv; cases hv; exact .nilIface
  | full j b e =>
    intro v hv
    cases hv with
    | whole _ a n cap hb hh =>
      refine .whole j a n cap (h.kn j _ e) fun lb md hg => ?_
      obtain ⟨s1, s2⟩ := get j _ e lb md hg
      obtain ⟨gb, md0, k1, k2, k3⟩ := s1.at_ (by simp)
      obtain ⟨rfl, q1, q2, q3⟩ := hh gb md0 k1
      obtain ⟨n1, n2⟩ := k3.num
      have hb' : hget H b = some (gb, md0) := k1
      simp only [vP, hb'] at s2
      refine ⟨n1.symm, by omega, fun hmd => ?_, fun hc => ?_⟩
      · subst hmd
        have : md0 = .own := by cases md0 <;> simp [mdFits] at k2 ⊢
        rw [s2, n2]
        exact q2 this
      · rw [q3 hc, s2]; simp
  | sub j b off len e =>
    intro v hv
    cases hv with
    | part _ _ _ a n cap hb hh =>
      refine .whole j a n cap (h.kn j _ e) fun lb md hg => ?_
      obtain ⟨s1, s2⟩ := get j _ e lb md hg
      obtain ⟨gb, md0, k1, k2, k3⟩ := s1.at_ (by simp)
      obtain ⟨n1, n2⟩ := k3.num
      simp only [vB] at k1
      split at k1
      · rename_i bk md1 hg'
        cases k1
        obtain ⟨q0, rfl, q1, q2, q3⟩ := hh bk _ hg'
        obtain ⟨_, t1, t2, _⟩ := sub_ld q0 rfl (hs.blk b bk _ hg').1
        simp only [vP, hg'] at s2
        refine ⟨by omega, by omega, fun hmd => ?_, fun hc => ?_⟩
        · subst hmd
          have : md0 = .own := by cases md0 <;> simp [mdFits] at k2 ⊢
          obtain ⟨hq, hnn⟩ := q2 this
          refine ⟨?_, hnn⟩
          rw [Nat.add_mul] at hq
          rw [s2, n2, t2]
          simp only [isOwn]
          rw [Nat.zero_add]
          omega
        · rw [q3 hc, s2]; simp
      · cases k1
  | ph j e =>
    intro v hv
    cases hv
    refine .whole j _ _ _ (h.kn j _ e) fun lb md hg => ?_
    obtain ⟨s1, s2⟩ := get j _ e lb md hg
    obtain ⟨p1, p2, p3⟩ := s1.ph rfl
    refine ⟨p1.symm, by omega, fun hmd => absurd hmd p3, fun hc => absurd hc (by omega)⟩
  | part j b off len e =>
    intro v hv
    cases hv with
    | part _ _ _ a n cap hb hh =>
      refine .part j off len a n cap (h.kn j _ e) fun lb md hg => ?_
      obtain ⟨s1, s2⟩ := get j _ e lb md hg
      obtain ⟨gb, md0, k1, k2, k3⟩ := s1.at_ (by simp)
      obtain ⟨n1, n2⟩ := k3.num
      have hb' : hget H b = some (gb, md0) := k1
      obtain ⟨q0, rfl, q1, q2, q3⟩ := hh gb _ hb'
      simp only [vP, hb'] at s2
      refine ⟨by omega, rfl, q1, fun hmd => ?_, fun hc => ?_⟩
      · subst hmd
        have : md0 = .own := by cases md0 <;> simp [mdFits] at k2 ⊢
        rw [s2, n2]
        exact q2 this
      · rw [q3 hc, s2, n2]
  | ptr j b i fo e =>
    intro v hv
    cases hv with
    | ptr _ _ _ a hb hh =>
      refine .ptr j i fo a (h.kn j _ e) fun lb md hg => ?_
      obtain ⟨s1, s2⟩ := get j _ e lb md hg
      obtain ⟨gb, md0, k1, k2, k3⟩ := s1.at_ (by simp)
      obtain ⟨n1, n2⟩ := k3.num
      have hb' : hget H b = some (gb, md0) := k1
      obtain ⟨q0, q1, rfl⟩ := hh gb _ hb'
      simp only [vP, hb'] at s2
      exact ⟨by omega, by omega, by rw [s2, n2]⟩
  | el j b i fo n e =>
    intro v hv
    cases hv with
    | ptr _ _ _ a hb hh =>
      refine .ptr j 0 0 a (h.kn j _ e) fun lb md hg => ?_
      obtain ⟨s1, s2⟩ := get j _ e lb md hg
      obtain ⟨gb, md0, k1, k2, k3⟩ := s1.at_ (by simp)
      obtain ⟨n1, n2⟩ := k3.num
      simp only [vB] at k1
      split at k1
      · rename_i bk md1 hg'
        split at k1
        · rename_i hcond
          split at k1
          · rename_i l hl
            cases k1
            obtain ⟨q0, q1, rfl⟩ := hh bk _ hg'
            obtain ⟨cs, e1, e2, e3, e4⟩ := ldn_sound hs hg' q0 n fo l hcond.2 hl
            simp only [vP, hg'] at s2
            have hnum : (Blk.vals n l).num = 1 := by simp only [Blk.num, e2]; exact Nat.div_self hcond.1
            refine ⟨by omega, by rw [n2]; exact hcond.1, by rw [s2]; simp⟩
          · cases k1
        · cases k1
      · cases k1
  | func fn f c f' c' h1 h2 _ _ ih1 ih2 =>
    intro v hv
    cases hv with
    | func _ _ _ g d g1 g2 g3 g4 =>
      refine .func fn f' c' g d (by omega) (by omega) (fun j x y hx hy => ?_) (fun j x y hx hy => ?_)
      · have hj : j < f.length := by rw [h1]; exact (List.getElem?_eq_some_iff.1 hx).1
        exact ih1 j f[j] x (by simp [hj]) hx y (g3 j _ y (by simp [hj]) hy)
      · have hj : j < c.length := by rw [h2]; exact (List.getElem?_eq_some_iff.1 hx).1
        exact ih2 j c[j] x (by simp [hj]) hx y (g4 j _ y (by simp [hj]) hy)
  | iface t x y _ ih =>
    intro v hv
    cases hv with
    | iface _ _ u hu => exact .iface t y u (ih u hu)
  | agg l l' h1 _ ih =>
    intro v hv
    cases hv with
    | agg _ cs g1 g2 =>
      refine .agg l' cs (by omega) fun j x y hx hy => ?_
      have hj : j < l.length := by rw [h1]; exact (List.getElem?_eq_some_iff.1 hx).1
      exact ih j l[j] x (by simp [hj]) hx y (g2 j _ y (by simp [hj]) hy)
  | tuple l l' h1 _ ih =>
    intro v hv
    cases hv with
    | tuple _ cs g1 g2 =>
      refine .tuple l' cs (by omega) fun j x y hx hy => ?_
      have hj : j < l.length := by rw [h1]; exact (List.getElem?_eq_some_iff.1 hx).1
      exact ih j l[j] x (by simp [hj]) hx y (g2 j _ y (by simp [hj]) hy)

theorem Cont.ld {m ml : Map} {H L : Heap} {w : World} {ρ : Nat → Option View} (hs : Sim m H w) (h : Small m H ml L ρ) {gb lb : Blk} (hc : Cont ρ gb lb) {i fo : Nat} {x : AV} (hx : gb.ld i fo = some x) : ∃ y, lb.ld i fo = some y ∧ ∀ v, VR m H x v → VR ml L y v := by
  cases hc with
  | ints k l =>
    refine ⟨x, hx, fun v hv => ?_⟩
    cases fo with
    | zero => simp only [Blk.ld] at hx; cases hx; cases hv; exact .int _ _
    | succ n => simp [Blk.ld] at hx
  | recs ks l =>
    refine ⟨x, hx, fun v hv => ?_⟩
    simp only [Blk.ld] at hx
    split at hx
    · cases hx; cases hv; exact .int _ _
    · cases hx
  | vals n l l' h1 h2 =>
    simp only [Blk.ld] at hx ⊢
    have hj : i * n + fo < l'.length := by rw [← h1]; exact (List.getElem?_eq_some_iff.1 hx).1
    exact ⟨l'[i * n + fo], by simp [hj], (h2 _ x _ hx (by simp [hj])).vr hs h⟩

theorem BR.ren {m m' : Map} {H H' : Heap} {bk bk' : Blk} {md : Md} {p : Nat × Nat × Nat} {w : World} (h : BR m H bk md p w) (hn : bk'.num = bk.num) (hs : bk'.str = bk.str) (hok : bk'.ok)
    (hl : ∀ i fo x, i < bk.num → fo < bk.str → bk.ld i fo = some x → ∃ y, bk'.ld i fo = some y ∧ ∀ v, VR m H x v → VR m' H' y v) : BR m' H' bk' md p w := by
  obtain ⟨h1, h2, h3, h4⟩ := h
  refine ⟨hok, by rw [hn, hs]; exact h2, fun hm => by rw [hn, hs]; exact h3 hm, fun hp => ?_⟩
  obtain ⟨c, e, fr, g1, g2, g3, g4, g5⟩ := h4 hp
  refine ⟨c, e, fr, g1, g2, g3, g4, fun i fo hi hf => ?_⟩
  rw [hn] at hi
  rw [hs] at hf ⊢
  obtain ⟨x, v, k1, k2, k3⟩ := g5 i fo hi hf
  obtain ⟨y, k4, k5⟩ := hl i fo x hi hf k1
  exact ⟨y, v, k4, k2, k5 v k3⟩

/-- a view's range lies within its block's -/
theorem vP_in {m : Map} {H : Heap} {w : World} (hs : Sim m H w) {v : View} {gb : Blk} {md0 md : Md} (hv : vB H v = some (gb, md0)) (hok : VOk m H v) : ∃ b bk, vId v = some b ∧ hget H b = some (bk, md0) ∧ (vP m H (isOwn md) v).1 = (m b).1 ∧ (m b).2.1 ≤ (vP m H (isOwn md) v).2.1 ∧
    (vP m H (isOwn md) v).2.1 + (vP m H (isOwn md) v).2.2 ≤ (m b).2.1 + (m b).2.2 := by
  cases v with
  | ph => cases hv
  | full b =>
    have hv' : hget H b = some (gb, md0) := hv
    refine ⟨b, gb, rfl, hv', ?_⟩
    have := (hs.blk b gb md0 hv').2.1
    simp only [vP, hv']
    refine ⟨trivial, Nat.le_refl _, ?_⟩
    cases isOwn md
    · simp only; omega
    · simp only; omega
  | sub b off len =>
    simp only [vB] at hv
    split at hv
    · rename_i bk md1 hg
      cases hv
      obtain ⟨val, hval⟩ := hok
      have hle : off + len ≤ bk.num := by
        cases hval with
        | part _ _ _ a n cap hk hh => exact (hh _ _ hg).1
      have hmul : (off + len) * bk.str ≤ bk.num * bk.str := Nat.mul_le_mul_right _ hle
      rw [Nat.add_mul] at hmul
      have := (hs.blk b bk _ hg).2.1
      refine ⟨b, bk, rfl, hg, ?_⟩
      simp only [vP, hg]
      refine ⟨trivial, by omega, ?_⟩
      cases isOwn md <;> simp only <;> omega
    · cases hv
  | el b i fo n =>
    simp only [vB] at hv
    split at hv
    · rename_i bk md1 hg
      split at hv
      · rename_i hcond
        split at hv
        · rename_i l hl
          cases hv
          obtain ⟨val, hval⟩ := hok
          have hi : i < bk.num ∧ fo < bk.str := by
            cases hval with
            | ptr _ _ _ a hk hh => exact ⟨(hh _ _ hg).1, (hh _ _ hg).2.1⟩
          have hin := cell_in hi.1 (show fo + n - 1 < bk.str by omega)
          have := (hs.blk b bk _ hg).2.1
          refine ⟨b, bk, rfl, hg, ?_⟩
          simp only [vP, hg]
          exact ⟨trivial, by omega, by omega⟩
        · cases hv
      · cases hv
    · cases hv

theorem mdFits_ro {v : View} {md0 md : Md} (h : mdFits v md0 md = true) (hm : md ≠ .ro) : md0 ≠ .ro := by
  rintro rfl
  cases md <;> cases v <;> simp [mdFits] at h <;> exact hm rfl

theorem Small.sim {m ml : Map} {H L : Heap} {w : World} {ρ : Nat → Option View} (hs : Sim m H w) (h : Small m H ml L ρ) : Sim ml L w where
  blk j lb md hg := by
    obtain ⟨v, h1, h2, h3⟩ := h.seen j lb md hg
    rw [h3]
    by_cases e : v = .ph
    · obtain ⟨p1, p2, _⟩ := h2.ph e
      subst e
      simp only [vP]
      exact ⟨p2, by rw [p1]; simp, fun _ => by rw [p1]; simp, fun hp => absurd hp (by simp)⟩
    · obtain ⟨gb, md0, k1, k2, k3⟩ := h2.at_ e
      have := view_BR hs k1 h2.ok k2
      exact this.ren k3.num.1 k3.num.2 (k3.ok this.1) fun i fo x _ _ hx => k3.ld hs h hx
  dis j j' lb md lb' md' hg hg' hne hmm := by
    obtain ⟨v, h1, h2, h3⟩ := h.seen j lb md hg
    obtain ⟨v', h1', h2', h3'⟩ := h.seen j' lb' md' hg'
    rw [h3, h3']
    by_cases e : v = .ph
    · subst e; exact .inl rfl
    · by_cases e' : v' = .ph
      · subst e'; exact .inr (.inl rfl)
      · obtain ⟨gb, md0, k1, k2, _⟩ := h2.at_ e
        obtain ⟨gb', md0', k1', k2', _⟩ := h2'.at_ e'
        obtain ⟨b, bk, i1, i2, i3, i4, i5⟩ := vP_in (md := md) hs k1 h2.ok
        obtain ⟨b', bk', i1', i2', i3', i4', i5'⟩ := vP_in (md := md') hs k1' h2'.ok
        have hb : b ≠ b' := by
          rintro rfl
          obtain ⟨r1, r2⟩ := h.apart j j' lb md lb' md' v v' b hg hg' hne h1 h1' i1 i1'
          rcases hmm with q | q
          · exact q r1
          · exact q r2
        have := hs.dis b b' _ _ _ _ i2 i2' hb (hmm.imp (mdFits_ro k2) (mdFits_ro k2'))
        unfold Ab.apart at this ⊢
        rw [i3, i3']
        omega

end Go.Ab
end

