/- Concrete runs: kept calls as hooks. No condition. -/
import Derived.Test.YtnhbohcjmdfmiaaGreatC26
set_option linter.unusedVariables false
set_option linter.unusedSimpArgs false
namespace Go.Ab
open Go
noncomputable section

def atI (T : HT) (b : Nat) (p : IntKind → Nat → Nat → Bool) : Bool := Bool.rec false (HE.rec false false (fun _ _ _ _ _ _ => false) (fun k num a md _ => Md.rec false false (p k num a) md) (runG (getC 8 b) T)) (Nat.ble b 65535)
def and3 (a b c : Bool) : Bool := Bool.rec false (Bool.rec false c b) a
/-- is it a slice of these numbers? -/
def isSl (T : HT) (k : IntKind) (num a : Nat) (x : CV) : Bool := CV.rec (fun _ => false) (fun _ => false) (fun _ _ _ => false)
  (fun b => atI T b fun k' num' a' => and3 (Nat.beq (kix k) (kix k')) (Nat.beq num num') (Nat.beq a a'))
  (fun b off len => atI T b fun k' num' a' => and3 (Nat.beq (kix k) (kix k')) (Nat.beq num len) (and3 (Nat.ble (Nat.add off len) num') (Nat.beq a (digP a' off len)) true))
  (fun _ _ _ _ => false) (fun _ => false) x
def oneA (T : HT) (y : MA) (x : CV) : Bool := MA.rec (fun u => eqSc x.av u) (fun k num a => isSl T k num a x) y
def matchA (T : HT) (l : List MA) : List CV → Bool := List.rec (motive := fun _ => List CV → Bool) (fun xs => List.rec true (fun _ _ _ => false) xs) (fun y _ ih xs => List.rec false (fun x xs _ => Bool.rec false (ih xs) (oneA T y x)) xs) l
def giveR (r : MR) (T : HT) (n : Nat) : Res := MR.rec (fun u => .ok (toC u) T n) (fun k num a rest => natK n fun n => Bool.rec .bad (.ok (toC ((MR.bl k num a rest).av n)) (runS (setC 8 n) (.ints k num a .own n) T) (Nat.succ n)) (Nat.ble n 65535)) r
def memoF (es : List (List MA × MR)) (args : List CV) (T : HT) (n : Nat) : Res := List.rec .bad (fun p _ ih => Prod.rec (fun l r => Bool.rec ih (giveR r T n) (matchA T l args)) p) es

theorem atI_spec {T : HT} {b : Nat} {p : IntKind → Nat → Nat → Bool} (h : atI T b p = true) : b < 65536 ∧ ∃ k num a s, QT.get 8 b T = .ints k num a .own s ∧ p k num a = true := by
  unfold atI at h
  cases hb : Nat.ble b 65535 with
  | false => rw [hb] at h; cases h
  | true =>
    rw [hb] at h
    have hlt := Nat.le_of_ble_eq_true hb
    rw [getC_run] at h
    refine ⟨by omega, ?_⟩
    cases hq : QT.get 8 b T with
    | hole => rw [hq] at h; cases h
    | dead => rw [hq] at h; cases h
    | cells => rw [hq] at h; cases h
    | ints k num a md s =>
      rw [hq] at h
      cases md with
      | ro => cases h
      | rw => cases h
      | own => exact ⟨k, num, a, s, rfl, h⟩
theorem and3_spec {a b c : Bool} (h : and3 a b c = true) : a = true ∧ b = true ∧ c = true := by
  cases a <;> cases b <;> cases c <;> first | exact ⟨rfl, rfl, rfl⟩ | cases h
theorem matchA_at (T : HT) : ∀ (l : List MA) (xs : List CV), matchA T l xs = true → l.length = xs.length ∧ ∀ (i : Nat) (y : MA) (x : CV), l[i]? = some y → xs[i]? = some x → oneA T y x = true
  | [], [], _ => ⟨rfl, fun i y x h => by simp at h⟩
  | [], x :: xs, h => by cases h
  | y :: l, [], h => by cases h
  | y :: l, x :: xs, h => by
    have e1 : matchA T (y :: l) (x :: xs) = Bool.rec false (matchA T l xs) (oneA T y x) := rfl
    rw [e1] at h
    cases ho : oneA T y x with
    | false => rw [ho] at h; cases h
    | true =>
      rw [ho] at h
      obtain ⟨h1, h2⟩ := matchA_at T l xs h
      refine ⟨by simp [h1], fun i y' x' a b => ?_⟩
      cases i with
      | zero => simp at a b; rw [← a, ← b]; exact ho
      | succ i => exact h2 i y' x' (by simpa using a) (by simpa using b)
/-- a slice of a block of whole numbers, as it lies in the world -/
theorem slj_at {m : Map} {H : Heap} {w : World} (hs : Sim m H w) {b : Nat} {k : IntKind} {num a off len cap : Nat} {x : Option Addr} (hg : hget H b = some (intsBlk k num a, .own)) (hle : off + len ≤ num) (h : SlAt m b (intsBlk k num a) .own off len x cap) {zs : List Int} (hz : ∀ i, i < len → zs.getD i 0 = dDec (dGet a (off + i))) : SlJs k w x len cap zs := by
  obtain ⟨h1, h2, h3⟩ := h
  have hstr : (intsBlk k num a).str = 1 := rfl
  have h2' := h2 rfl
  rw [hstr, Nat.mul_one] at h2'
  refine ⟨h1, fun hc => ?_⟩
  obtain ⟨c1, c2, c3, c4⟩ := hs.blk b _ _ hg
  obtain ⟨c, e, fr, d1, d2, d3, d4, d5⟩ := c4 (by omega)
  refine ⟨(m b).1, (m b).2.1 + off, by rw [h3 hc, hstr, Nat.mul_one], c, e, fr, d1, by omega, fun i hi => ?_⟩
  obtain ⟨u, v, e1, e2, e3⟩ := d5 (off + i) 0 (by rw [ints_num]; omega) Nat.one_pos
  rw [ints_ld (by rw [ints_num]; omega) Nat.one_pos] at e1
  cases e1
  cases e3
  rw [hstr, Nat.mul_one, Nat.add_zero, ← Nat.add_assoc] at e2
  rw [e2, hz i hi]
def slA (v : Option Value) : Option Addr := match v with | some (.slice a _ _) => a | _ => none
def slC (v : Option Value) : Nat := match v with | some (.slice _ _ c) => c | _ => 0

theorem memoF_ok {P : Program} {f : FuncId} : ∀ {es : List (List MA × MR)}, (∀ p ∈ es, MemoAt P f p.1 p.2) → ∀ (args : List CV) (T : HT) (n : Nat) (v : CV) (T' : HT) (n' : Nat), memoF es args T n = .ok v T' n' → TOk T n → Did T n T' n' ∧ CallStep P f (args.map CV.av) (absH T) n v.av (dL (Lof T n T' n') T')
  | [], _, args, T, n, v, T', n', h, _ => by cases h
  | (l, r) :: es, hes, args, T, n, v, T', n', h, hT => by
    have e1 : memoF ((l, r) :: es) args T n = Bool.rec (memoF es args T n) (giveR r T n) (matchA T l args) := rfl
    rw [e1] at h
    cases hm : matchA T l args with
    | false => rw [hm] at h; exact memoF_ok (fun p hp => hes p (List.mem_cons_of_mem _ hp)) args T n v T' n' h hT
    | true =>
      rw [hm] at h
      have hmo := hes (l, r) List.mem_cons_self
      obtain ⟨hlen, hpt⟩ := matchA_at T l args hm
      have henter : EnterOk P f := by
        obtain ⟨_, _, _, _, h1, _⟩ := hmo
        exact h1.1
      -- what the world holds
      have main : ∀ {m : Map} {H : Heap} {w : World} {args' : Array Value}, SubH (absH T) H → Sim m H w → (args.map CV.av).length = args'.size → (∀ (j : Nat) (x : AV) (y : Value), (args.map CV.av)[j]? = some x → args'[j]? = some y → VR m H x y) → ∀ q, hkn H q = false →
          Calls P f args' w fun e w' => ∃ v' m', e = .returned v' ∧ match r with
            | .sc u => m' = m ∧ Sim m H w' ∧ VR m H u v' ∧ Tr m H w m H w'
            | .bl k num a rest => Sim m' (hfill H q (.live (intsBlk k num a) .own)) w' ∧ VR m' (hfill H q (.live (intsBlk k num a) .own)) ((MR.bl k num a rest).av q) v' ∧ Tr m H w m' (hfill H q (.live (intsBlk k num a) .own)) w' := by
        intro m H w args' hsub hsim hl hargs q hq
        have hsz : args'.size = l.length := by rw [← hl, List.length_map, hlen]
        -- one slice
        have one : ∀ (i : Nat) (k : IntKind) (num a : Nat), l[i]? = some (.s k num a) → ∀ y, args'[i]? = some y → ∃ x cap, y = .slice x num cap ∧ SlJs k w x num cap ((List.range num).map fun i => dDec (dGet a i)) := by
          intro i k num a hli y hy
          have hi : i < args.length := by rw [← hlen]; exact (List.getElem?_eq_some_iff.1 hli).1
          have hx := hpt i _ args[i] hli (List.getElem?_eq_getElem hi)
          have hv := hargs i (args[i]).av y (by rw [List.getElem?_map, List.getElem?_eq_getElem hi]; rfl) hy
          generalize args[i] = xv at hx hv
          have hx' : isSl T k num a xv = true := hx
          cases xv with
          | whole b =>
            obtain ⟨hb, k', num', a', s, hq1, hp⟩ := atI_spec (show atI T b _ = true from hx')
            obtain ⟨p1, p2, p3⟩ := and3_spec hp
            obtain rfl := kix_inj p1
            obtain rfl := Nat.eq_of_beq_eq_true p2
            obtain rfl := Nat.eq_of_beq_eq_true p3
            have hg := hsub _ _ (blk_old (T := T) hb hq1 rfl)
            cases hv with
            | whole _ x n0 cap hk hvv =>
              obtain ⟨z1, z2⟩ := hvv _ _ hg
              rw [ints_num] at z1 z2
              subst z1
              exact ⟨x, cap, rfl, slj_at hsim hg (by omega) z2 fun i hi => by simp [List.getD_eq_getElem?_getD, hi]⟩
          | sl b off len =>
            obtain ⟨hb, k', num', a', s, hq1, hp⟩ := atI_spec (show atI T b _ = true from hx')
            obtain ⟨p1, p2, p3⟩ := and3_spec hp
            obtain ⟨p4, p5, _⟩ := and3_spec p3
            obtain rfl := kix_inj p1
            obtain rfl := Nat.eq_of_beq_eq_true p2
            obtain rfl := Nat.eq_of_beq_eq_true p5
            have hle := Nat.le_of_ble_eq_true p4
            have hg := hsub _ _ (blk_old (T := T) hb hq1 rfl)
            cases hv with
            | part _ _ _ x n0 cap hk hvv =>
              obtain ⟨z0, z1, z2⟩ := hvv _ _ hg
              subst z1
              exact ⟨x, cap, rfl, slj_at hsim hg hle z2 fun i hi => by simp [List.getD_eq_getElem?_getD, hi, dGet_digP _ _ _ _ hi]⟩
          | i _ => cases hx'
          | bool _ => cases hx'
          | ptr _ _ _ => cases hx'
          | seg _ _ _ _ => cases hx'
          | oth _ => cases hx'
        have hval : ∀ i, i < l.length → ∃ y, args'[i]? = some y := fun i hi => ⟨args'[i]'(by omega), Array.getElem?_eq_getElem (by omega)⟩
        refine memo_calls hmo hsim hq hsz (A := fun i => match l[i]? with | some (.s _ _ _) => slA args'[i]? | _ => none) (C := fun i => match l[i]? with | some (.s _ _ _) => slC args'[i]? | _ => 0) (fun i k z hz => ?_) fun i x v hx hv => ?_
        · rw [List.getElem?_map] at hz
          cases hli : l[i]? with
          | none => rw [hli] at hz; cases hz
          | some x =>
            rw [hli] at hz
            cases x with
            | i u => cases hz; exact ⟨Nat.zero_le _, fun hc => absurd hc (Nat.lt_irrefl _)⟩
            | s k' num a =>
              obtain ⟨y, hy⟩ := hval i (List.getElem?_eq_some_iff.1 hli).1
              obtain ⟨xa, cap, e1, e2⟩ := one i k' num a hli y hy
              cases hz
              simp only [hy, e1, slA, slC, List.length_map, List.length_range]
              exact e2
        · cases x with
          | i u =>
            have hi : i < args.length := by rw [← hlen]; exact (List.getElem?_eq_some_iff.1 hx).1
            have ho := hpt i _ args[i] hx (List.getElem?_eq_getElem hi)
            have ho' : eqSc (args[i]).av u = true := ho
            obtain ⟨e1, _⟩ := eqSc_spec ho'
            refine ⟨m, H, ?_⟩
            have := hargs i (args[i]).av v (by rw [List.getElem?_map, List.getElem?_eq_getElem hi]; rfl) hv
            rw [e1] at this
            exact this
          | s k num a =>
            obtain ⟨xa, cap, e1, e2⟩ := one i k num a hx v hv
            simp only [hx, hv, e1, slA, slC]
      cases r with
      | sc u =>
        cases h
        have hz : Lof T n T n = [] := Lof_self T n
        refine ⟨.refl _ _, henter, fun m H w args' hsub hfresh hsim hl hargs => ?_⟩
        rw [hz]
        have e2 : (toC u).av = u := toC_av u
        refine (main hsub hsim hl hargs H.length (hkn_len H)).mono fun e w' ⟨v', m', he, hm', h2, h3, h4⟩ => ⟨v', m, he, h2, by rw [e2]; exact h3, h4⟩
      | bl k num a rest =>
        have h' : (natK n fun n => Bool.rec .bad (.ok (toC ((MR.bl k num a rest).av n)) (runS (setC 8 n) (.ints k num a .own n) T) (Nat.succ n)) (Nat.ble n 65535) : Res) = .ok v T' n' := h
        rw [natK_eq] at h'
        cases hb : Nat.ble n 65535 with
        | false => rw [hb] at h'; cases h'
        | true =>
          rw [hb] at h'
          cases h'
          have hn : n < 65536 := by have := Nat.le_of_ble_eq_true hb; omega
          have hmem : ∀ b, b ∈ Lof T n (runS (setC 8 n) (.ints k num a .own n) T) (Nat.succ n) ↔ b = n := fun b => by
            rw [mem_Lof]
            constructor
            · rintro ⟨q1, q2, q3⟩
              rcases q3 with q3 | q3
              · have : b < n + 1 := q2
                omega
              · apply Classical.byContradiction
                intro hne
                rw [get_set8 T n b _ hn q1, if_neg hne] at q3
                exact q3 rfl
            · rintro rfl
              exact ⟨hn, Nat.lt_succ_self _, .inl (Nat.le_refl _)⟩
          refine ⟨.new hn rfl (Nat.lt_irrefl _) (fun w num d c md s he => by cases he), henter, fun m H w args' hsub hfresh hsim hl hargs => ?_⟩
          have hq : hkn H n = false := hfresh (n, _) (List.mem_map_of_mem ((hmem n).2 rfl)) (Nat.le_refl _)
          have hatE : ∀ b, hat (hfill H n (.live (intsBlk k num a) .own)) b = hat (hput H (dL (Lof T n (runS (setC 8 n) (.ints k num a .own n) T) (Nat.succ n)) (runS (setC 8 n) (.ints k num a .own n) T))) b := fun b => by
            rw [hat_fill, hat_dL]
            by_cases e : b = n
            · subst e
              rw [if_pos rfl, if_pos ((hmem b).2 rfl), get_set8 T b b _ hn hn, if_pos rfl]; rfl
            · rw [if_neg e, if_neg (fun q => e ((hmem b).1 q))]
          have e2 : (toC ((MR.bl k num a rest).av n)).av = (MR.bl k num a rest).av n := toC_av _
          refine (main hsub hsim hl hargs n hq).mono fun e w' ⟨v', m', he, h2, h3, h4⟩ => ⟨v', m', he, h2.congr hatE, by rw [e2]; exact h3.mono (Le.congr hatE), h4.congr hatE⟩
/-- some functions by kept calls -/
def hkXL (f : FuncId) (args : List CV) (T : HT) (n : Nat) (l : List (Nat × List (List MA × MR))) : Res := List.rec .bad (fun p _ ih => Prod.rec (fun j es => Bool.rec ih (memoF es args T n) (Nat.beq j f)) p) l
def hkX (m : Nat) (l : List (Nat × List (List MA × MR))) (hk : CallI) : CallI := fun f args T n => Bool.rec (hk f args T n) (hkXL f args T n l) (Nat.beq (Nat.land (Nat.shiftRight m f) 1) 1)
theorem hkX_at {P : Program} {m : Nat} {l : List (Nat × List (List MA × MR))} (h : ∀ p ∈ l, ∀ q ∈ p.2, MemoAt P p.1 q.1 q.2) {hk : CallI} (hhk : HkOk P hk) : HkOk P (hkX m l hk) := by
  intro f args T n v T' n' hr hT
  have e1 : hkX m l hk f args T n = Bool.rec (hk f args T n) (hkXL f args T n l) (Nat.beq (Nat.land (Nat.shiftRight m f) 1) 1) := rfl
  rw [e1] at hr
  cases hb : Nat.beq (Nat.land (Nat.shiftRight m f) 1) 1 with
  | false => rw [hb] at hr; exact hhk _ _ _ _ _ _ _ hr hT
  | true =>
    rw [hb] at hr
    clear e1 hb
    induction l with
    | nil => cases hr
    | cons p l ih =>
      obtain ⟨j, es⟩ := p
      have e2 : hkXL f args T n ((j, es) :: l) = Bool.rec (hkXL f args T n l) (memoF es args T n) (Nat.beq j f) := rfl
      simp only [e2] at hr
      cases hj : Nat.beq j f with
      | false => rw [hj] at hr; exact ih (fun p hp => h p (List.mem_cons_of_mem _ hp)) hr
      | true =>
        rw [hj] at hr
        obtain rfl := Nat.eq_of_beq_eq_true hj
        exact memoF_ok (h _ List.mem_cons_self) _ _ _ _ _ _ hr hT
theorem hkX_ok {P : Program} {c : CallI} (hc : CallsOk P c) {m : Nat} {l : List (Nat × List (List MA × MR))} (h : ∀ p ∈ l, ∀ q ∈ p.2, memoOk c p.1 q.1 q.2 = true) {hk : CallI} (hhk : HkOk P hk) : HkOk P (hkX m l hk) := hkX_at (fun p hp q hq => memoAt_of hc (h p hp q hq)) hhk
end
end Go.Ab
