/- Concrete runs: functions, calls, closed laws. No condition. -/
import Derived.Test.YtnhbohcjmdfmiaaGreatC15
import Derived.Test.YtnhbohcjmdfmiaaGreatBb5
set_option linter.unusedVariables false
set_option linter.unusedSimpArgs false
namespace Go.Ab
open Go Go.RowKit
noncomputable section
variable {e : Nat}

/-! slots -/
theorem slotsE_spec : ∀ (l : List Nat) (j : Nat), (∀ t ∈ l, t < 1024) → ∀ u, lookN (slotsE l j) u = .cst (.oth .undef) ∨ ∃ i, lookN (slotsE l j) u = .slot (j + i) ∧ l[i]? = some u
  | [], j, _, u => by
    left
    show lookN (QT.fill (SR.cst (.oth .undef)) 5) u = _
    unfold lookN
    cases Nat.ble u 1023
    · rfl
    · show runG (getC 5 u) (QT.fill (SR.cst (.oth .undef)) 5) = _
      rw [getC_run, QT.get_fill]
  | t :: l, j, h, u => by
    have e1 : slotsE (t :: l) j = setE (slotsE l (Nat.succ j)) t (.slot j) := rfl
    rw [e1, lookN_set _ _ _ _ (h t (by simp))]
    by_cases hu : u = t
    · rw [if_pos hu]; exact .inr ⟨0, rfl, by rw [hu]; rfl⟩
    · rw [if_neg hu]
      rcases slotsE_spec l (Nat.succ j) (fun x hx => h x (by simp [hx])) u with q | ⟨i, q1, q2⟩
      · exact .inl q
      · exact .inr ⟨i + 1, by rw [q1]; congr 1; omega, by simpa using q2⟩
theorem slots_ok {N : Nat} (hN : N ≤ 1024) {l : List Nat} (h : below N l = true) : LOk N (slotsE l 0) := by
  have hl : ∀ t ∈ l, t < N := fun t ht => Nat.le_of_ble_eq_true (List.all_eq_true.1 h t ht)
  have hl2 : ∀ t ∈ l, t < 1024 := fun t ht => Nat.lt_of_lt_of_le (hl t ht) hN
  refine ⟨fun t => ?_, fun t t' j h1 h2 => ?_, fun t ht => ?_⟩
  · rcases slotsE_spec l 0 hl2 t with q | ⟨i, q, _⟩
    · exact .inl q
    · exact .inr ⟨_, q⟩
  · rcases slotsE_spec l 0 hl2 t with q | ⟨i, q, qi⟩
    · rw [q] at h1; cases h1
    · rcases slotsE_spec l 0 hl2 t' with z | ⟨i', z, zi⟩
      · rw [z] at h2; cases h2
      · rw [q] at h1; rw [z] at h2
        cases h1
        simp only [SR.slot.injEq, Nat.zero_add] at h2
        subst h2
        rw [qi] at zi; cases zi; rfl
  · rcases slotsE_spec l 0 hl2 t with q | ⟨i, q, qi⟩
    · exact q
    · have := hl t (List.mem_of_getElem? qi); omega

/-! arguments -/
theorem ATof_cons (L : EM) (x : CV) (xs : List CV) (i : Nat) (t : QT CV e) : ATof L (x :: xs) i t = match lookN L i with
    | .slot j => if j < 4 ^ e then ATof L xs (i + 1) (QT.set e j x t) else ATof L xs (i + 1) t
    | _ => ATof L xs (i + 1) t := by
  have e1 : ATof L (x :: xs) i t = SR.rec (fun _ => ATof L xs (i + 1) t) (fun j => Bool.rec (ATof L xs (i + 1) t) (ATof L xs (i + 1) (runS (setC e j) x t)) (Nat.ble (Nat.succ j) (Nat.pow 4 e))) (fun _ => ATof L xs (i + 1) t) (lookN L i) := rfl
  rw [e1]
  cases lookN L i with
  | lvl l => rfl
  | cst v => rfl
  | slot j =>
    have e3 : Nat.ble (Nat.succ j) (Nat.pow 4 e) = decide (j < 4 ^ e) := ble_eq _ _
    simp only
    rw [e3, setC_run]
    by_cases h : j < 4 ^ e
    · rw [decide_eq_true h, if_pos h]
    · rw [decide_eq_false h, if_neg h]
theorem ATof_get {L : EM} (hinj : ∀ t t' j, lookN L t = .slot j → lookN L t' = .slot j → t = t') {u j : Nat} (hu : lookN L u = .slot j) (hj : j < 4 ^ e) : ∀ (xs : List CV) (i : Nat) (t : QT CV e), QT.get e j (ATof L xs i t) = if i ≤ u ∧ u < i + xs.length then xs.getD (u - i) (.oth .undef) else QT.get e j t
  | [], i, t => by rw [if_neg (by simp only [List.length_nil]; omega)]; rfl
  | x :: xs, i, t => by
    have key : ∀ t', QT.get e j t' = (if u = i then x else QT.get e j t) → QT.get e j (ATof L xs (i + 1) t') = if i ≤ u ∧ u < i + (x :: xs).length then (x :: xs).getD (u - i) (.oth .undef) else QT.get e j t := by
      intro t' ht'
      rw [ATof_get hinj hu hj xs (i + 1) t', ht']
      simp only [List.length_cons]
      by_cases h1 : i + 1 ≤ u ∧ u < i + 1 + xs.length
      · rw [if_pos h1, if_pos (by omega), show u - i = (u - (i + 1)) + 1 by omega]; rfl
      · rw [if_neg h1]
        by_cases h2 : u = i
        · subst h2; rw [if_pos rfl, if_pos (by omega)]; simp
        · rw [if_neg h2, if_neg (by omega)]
    rw [ATof_cons]
    cases hi : lookN L i with
    | slot j' =>
      simp only
      by_cases hj' : j' < 4 ^ e
      · rw [if_pos hj']
        apply key
        rw [QT.get_set e j j' x t hj hj']
        by_cases h : j = j'
        · subst h; rw [if_pos rfl, if_pos (hinj u i j hu hi)]
        · rw [if_neg h, if_neg]
          rintro rfl
          rw [hu] at hi; cases hi; exact h rfl
      · rw [if_neg hj']
        apply key
        rw [if_neg]
        rintro rfl
        rw [hu] at hi; cases hi; exact hj' hj
    | lvl l =>
      apply key
      rw [if_neg]
      rintro rfl
      rw [hu] at hi; cases hi
    | cst v =>
      apply key
      rw [if_neg]
      rintro rfl
      rw [hu] at hi; cases hi

/-! results -/
theorem ldR_inv {T : HT} {p : CV} {k : CV → Res} (h : ldR T p k ≠ .bad) : ∃ b i fo, p = .ptr b i fo ∧ b < 65536 ∧ ((∃ w num d c md s, QT.get 8 b T = .cells w num d c md s ∧ ldR T p k = k (QT.get d (i * w + fo) c)) ∨ (∃ kd num a md s, QT.get 8 b T = .ints kd num a md s ∧ ldR T p k = k (cI kd (dDec (dGet a i))))) := by
  cases p with
  | ptr b i fo =>
    have e1 : ldR T (.ptr b i fo) k = Bool.rec .bad (HE.rec .bad .bad (fun w _ d c _ _ => k (cellG d i w fo c)) (fun kd _ a _ _ => k (cI kd (dDec (dGet a i)))) (QT.get 8 b T)) (Nat.ble b 65535) := by rw [← getC_run]; rfl
    rw [e1] at h ⊢
    cases hb : Nat.ble b 65535 with
    | false => rw [hb] at h; exact absurd rfl h
    | true =>
      rw [hb] at h
      simp only at h ⊢
      have hlt : b < 65536 := by have := Nat.le_of_ble_eq_true hb; omega
      refine ⟨b, i, fo, rfl, hlt, ?_⟩
      cases hq : QT.get 8 b T with
      | hole => rw [hq] at h; exact absurd rfl h
      | dead => rw [hq] at h; exact absurd rfl h
      | cells w num d c md s => exact .inl ⟨w, num, d, c, md, s, rfl, by simp only [cellG_eq]⟩
      | ints kd num a md s => exact .inr ⟨kd, num, a, md, s, rfl, rfl⟩
  | _ => exact absurd rfl h

theorem ldA_eq (T : HT) (w0 b i fo : Nat) (k : CV → Res) (hb : b < 65536) {w num d : Nat} {c : QT CV d} {md : Md} {s : Nat} (hq : QT.get 8 b T = .cells w num d c md s) : ldA T w0 (.ptr b i fo) k = if fo + w0 ≤ w then k (.oth (.agg (avs (cellsL c (i * w + fo) w0)))) else .bad := by
  have e1 : ldA T w0 (.ptr b i fo) k = Bool.rec .bad (HE.rec .bad .bad (fun w _ d c _ _ => Bool.rec .bad (natK (Nat.add (Nat.mul i w) fo) fun j => k (.oth (.agg (avs (cellsL c j w0))))) (Nat.ble (Nat.add fo w0) w)) (fun _ _ _ _ _ => .bad) (QT.get 8 b T)) (Nat.ble b 65535) := by rw [← getC_run]; rfl
  rw [e1, Nat.ble_eq_true_of_le (by omega : b ≤ 65535), hq]
  simp only [natK_eq]
  have e2 : Nat.ble (Nat.add fo w0) w = decide (fo + w0 ≤ w) := ble_eq _ _
  rw [e2]
  by_cases h : fo + w0 ≤ w
  · rw [decide_eq_true h, if_pos h]; rfl
  · rw [decide_eq_false h, if_neg h]
theorem ldA_inv {T : HT} {w0 : Nat} {p : CV} {k : CV → Res} (h : ldA T w0 p k ≠ .bad) : ∃ b i fo, p = .ptr b i fo ∧ b < 65536 ∧ ∃ w num d c md s, QT.get 8 b T = .cells w num d c md s ∧ fo + w0 ≤ w ∧ ldA T w0 p k = k (.oth (.agg (avs (cellsL c (i * w + fo) w0)))) := by
  cases p with
  | ptr b i fo =>
    have e1 : ldA T w0 (.ptr b i fo) k = Bool.rec .bad (HE.rec .bad .bad (fun w _ d c _ _ => Bool.rec .bad (natK (Nat.add (Nat.mul i w) fo) fun j => k (.oth (.agg (avs (cellsL c j w0))))) (Nat.ble (Nat.add fo w0) w)) (fun _ _ _ _ _ => .bad) (QT.get 8 b T)) (Nat.ble b 65535) := by rw [← getC_run]; rfl
    cases hb : Nat.ble b 65535 with
    | false => rw [e1, hb] at h; exact absurd rfl h
    | true =>
      have hlt : b < 65536 := by have := Nat.le_of_ble_eq_true hb; omega
      cases hq : QT.get 8 b T with
      | hole => rw [e1, hb, hq] at h; exact absurd rfl h
      | dead => rw [e1, hb, hq] at h; exact absurd rfl h
      | ints kd num a md s => rw [e1, hb, hq] at h; exact absurd rfl h
      | cells w num d c md s =>
        rw [ldA_eq T w0 b i fo k hlt hq] at h
        by_cases hle : fo + w0 ≤ w
        · exact ⟨b, i, fo, rfl, hlt, w, num, d, c, md, s, hq, hle, by rw [ldA_eq T w0 b i fo k hlt hq, if_pos hle]⟩
        · rw [if_neg hle] at h; exact absurd rfl h
  | _ => exact absurd rfl h

theorem res_one {P : Program} {N : Nat} {L : EM} (hL : LOk N L) {B : Bs} (hB : BsOk B) {m : Map} {a : Act} {w : World} {tm : QT CV e} {T : HT} {n : Nat} (hd : Did B.T B.n T n) (hA : At m ⟨tmL N L 0 st0 tm, B.at T n⟩ a w) {r : ResultVar} {rest : List ResultVar} {rv : RvC e} {rs : List (RvC e)} (hr : resC P L (r :: rest) = rv :: rs) {k : CV → Res} (h : rv.run tm T k ≠ .bad) :
    rs = resC P L rest ∧ ∃ v, rv.run tm T k = k v ∧ ∃ v', VR m (B.at T n) v.av v' ∧ (resM a r).run P w = .ok v' w := by
  cases r with
  | tmp t =>
    have e1 : resC (e := e) P L (.tmp t :: rest) = (match opA (e := e) L 0 (.tmp t) with | .mk f => RvC.mk fun tm _ k => k (f () tm)) :: resC P L rest := rfl
    rw [e1] at hr
    obtain ⟨h1, h2⟩ := List.cons.inj hr
    refine ⟨h2.symm, ?_⟩
    subst h1
    cases hf : opA (e := e) L 0 (.tmp t) with
    | mk f =>
      refine ⟨f st0 tm, rfl, _, ?_, rfl⟩
      have := hA.tr.at_ t
      simp only [tget_tmL (hL.em 0)] at this
      have e2 := valO_of (E := L) (k := 0) (e := e) (x := .tmp t) hf st0 tm
      have e3 : valO L 0 st0 tm (.tmp t) = valT L 0 st0 tm t := rfl
      rw [← e2, e3]; exact this
  | cell b t =>
    have e1 : resC (e := e) P L (.cell b t :: rest) = (match opA (e := e) L 0 (.tmp b), isAggT P t, sizeT P t with | .mk f, some false, _ => RvC.mk fun tm T k => ldR T (f () tm) k | .mk f, some true, some w => RvC.mk fun tm T k => ldA T w (f () tm) k | _, _, _ => .mk fun _ _ _ => .bad) :: resC P L rest := rfl
    rw [e1] at hr
    obtain ⟨h1, h2⟩ := List.cons.inj hr
    refine ⟨h2.symm, ?_⟩
    split at h1
    · rename_i f hf hagg
      subst h1
      have hrun : (RvC.mk fun tm T k => ldR T (f () tm) k : RvC e).run tm T k = ldR T (f st0 tm) k := rfl
      rw [hrun] at h ⊢
      obtain ⟨c, i, fo, hp, hc, hcase⟩ := ldR_inv h
      have hv0 := hA.tr.at_ b
      simp only [tget_tmL (hL.em 0)] at hv0
      have e2 := valO_of (E := L) (k := 0) (e := e) (x := .tmp b) hf st0 tm
      have e3 : valO L 0 st0 tm (.tmp b) = valT L 0 st0 tm b := rfl
      rw [← e3, e2, hp] at hv0
      generalize hva : a.tmps.getD b Go.undef = va at hv0
      have fin : ∀ (bk : Blk) (md : Md) (x : CV), hget (absH T) c = some (bk, md) → (i < bk.num → fo < bk.str → bk.ld i fo = some x.av) → ∃ v', VR m (B.at T n) x.av v' ∧ (resM a (.cell b t)).run P w = .ok v' w := by
        intro bk md x hg hld
        have hg' := Bs.sub hB hd c _ hg
        obtain ⟨b1, b2⟩ := VR.bounds hv0 hg'
        obtain ⟨v, g1, g2⟩ := (load_sound (P := P) hA.sim hv0 hg').1 _ hagg (hld b1 b2)
        refine ⟨v, g1, ?_⟩
        cases hv0
        simp only [resM, hva, Sem.run_bind, asAddr, Sem.run_pure, Result.andThen_ok]
        simpa [Instr.loadAt, Instr.sureAddr, Sem.run_bind] using g2
      rcases hcase with ⟨w', num, d, cc, md, s, h3, h4⟩ | ⟨kd, num, ad, md, s, h3, h4⟩
      · exact ⟨_, h4, fin (cellsBlk w' num d cc) md _ (blk_old hc h3 rfl) fun hi hf => (cells_ld hi hf).2⟩
      · exact ⟨_, h4, fin (intsBlk kd num ad) md _ (blk_old hc h3 rfl) fun hi hf => by rw [cI_av]; exact ints_ld hi hf⟩
    · rename_i f w0 hf hagg hsz
      subst h1
      have hrun : (RvC.mk fun tm T k => ldA T w0 (f () tm) k : RvC e).run tm T k = ldA T w0 (f st0 tm) k := rfl
      rw [hrun] at h ⊢
      obtain ⟨c, i, fo, hp, hc, w', num, d, cc, md, s, h3, hle, h4⟩ := ldA_inv h
      have hv0 := hA.tr.at_ b
      simp only [tget_tmL (hL.em 0)] at hv0
      have e2 := valO_of (E := L) (k := 0) (e := e) (x := .tmp b) hf st0 tm
      have e3 : valO L 0 st0 tm (.tmp b) = valT L 0 st0 tm b := rfl
      rw [← e3, e2, hp] at hv0
      generalize hva : a.tmps.getD b Go.undef = va at hv0
      have hg' := Bs.sub hB hd c _ (blk_old hc h3 (bk := cellsBlk w' num d cc) (md := md) rfl)
      obtain ⟨b1, b2⟩ := VR.bounds hv0 hg'
      obtain ⟨cs, g1, g2, g3⟩ := (load_sound (P := P) hA.sim hv0 hg').2 w0 _ hagg hsz hle (ldn_cells b1 w0 fo hle)
      refine ⟨_, h4, .agg cs, .agg _ _ g1 g2, ?_⟩
      cases hv0
      simp only [resM, hva, Sem.run_bind, asAddr, Sem.run_pure, Result.andThen_ok]
      simpa [Instr.loadAt, Instr.sureAddr, Sem.run_bind] using g3
    · subst h1; exact absurd rfl h

theorem res_list {P : Program} {N : Nat} {L : EM} (hL : LOk N L) {B : Bs} (hB : BsOk B) {m : Map} {a : Act} {w : World} {tm : QT CV e} {T : HT} {n : Nat} (hd : Did B.T B.n T n) (hA : At m ⟨tmL N L 0 st0 tm, B.at T n⟩ a w) : ∀ (rs : List ResultVar) (k : List AV → Res), evsR (resC (e := e) P L rs) tm T k ≠ .bad →
    ∃ l, evsR (resC (e := e) P L rs) tm T k = k l ∧ l.length = rs.length ∧ ∃ vs : List Value, l.length = vs.length ∧ (∀ (j : Nat) (x : AV) (v : Value), l[j]? = some x → vs[j]? = some v → VR m (B.at T n) x v) ∧ (rs.mapM (resM a)).run P w = .ok vs w
  | [], k, h => ⟨[], rfl, rfl, [], rfl, (fun j x v hx => by simp at hx), rfl⟩
  | r :: rs, k, h => by
    cases hrc : resC (e := e) P L (r :: rs) with
    | nil => cases r <;> cases hrc
    | cons rv rest =>
      rw [hrc] at h
      have e1 : evsR (rv :: rest) tm T k = rv.run tm T fun v => evsR rest tm T fun l => k (CV.av v :: l) := by cases rv; rfl
      rw [e1] at h ⊢
      obtain ⟨h1, v, h2, v', h3, h4⟩ := res_one hL hB hd hA hrc h
      rw [h2] at h ⊢
      subst h1
      obtain ⟨l, h5, h5', vs, h6, h7, h8⟩ := res_list hL hB hd hA rs _ h
      refine ⟨v.av :: l, h5, by simp [h5'], v' :: vs, by simp [h6], fun j x u hx hu => ?_, ?_⟩
      · cases j with
        | zero => simp at hx hu; subst hx hu; exact h3
        | succ j => simp at hx hu; exact h7 j x u hx hu
      · rw [List.mapM_cons]
        simp only [Sem.run_bind, h4, Result.andThen_ok, h8, Sem.run_pure]

/-! functions -/
theorem Lof_self (T : HT) (n : Nat) : Lof T n T n = [] := by
  apply List.eq_nil_iff_forall_not_mem.2
  intro b hb
  obtain ⟨_, h2, h3⟩ := mem_Lof.1 hb
  rcases h3 with h3 | h3
  · omega
  · exact h3 rfl

/-- calls that are told by contracts -/
abbrev HkOk (P : Program) (hk : CallI) : Prop := CallsOk P hk
def hkU (hk : FuncId → List CV → Option CV) : CallI := fun f args T n => Option.rec .bad (fun v => .ok v T n) (hk f args)
theorem hkU_ok {P : Program} {hk : FuncId → List CV → Option CV} (h : ∀ f args v, hk f args = some v → ∀ K q, CallStep P f (args.map CV.av) K q v.av []) : HkOk P (hkU hk) := by
  intro f args T n v T' n' hr hT
  have e : hkU hk f args T n = Option.rec .bad (fun v => .ok v T n) (hk f args) := rfl
  rw [e] at hr
  cases hq : hk f args with
  | none => rw [hq] at hr; cases hr
  | some u =>
    rw [hq] at hr
    cases hr
    refine ⟨.refl _ _, ?_⟩
    rw [Lof_self]
    exact h f args v hq _ _

theorem callI_succ (P : Program) (NN : Nat) (S : Tab) (hk : CallI) (d : Nat) (f : FuncId) (args : List CV) (T : HT) (n : Nat) : callI P NN S hk (d + 1) f args T n = Res.rec
    (FnC.rec .bad (fun _ b ini res => Out.rec .bad res (fun _ _ _ _ => .bad) res (b (callI P NN S hk d) (ini args) T n)) (fnC P NN S f)) (fun v T n => .ok v T n) (hk f args T n) := rfl

/-- a function's body and results -/
structure FnIs (P : Program) (NN : Nat) (S : Tab) (f : FuncId) (fn : Func) (code : Code) (e : Nat) (b : Cf e) (ini : List CV → QT CV e) (res : QT CV e → HT → Nat → Res) : Prop where
  hf : P.funcs[f]? = some fn
  hb : fn.body = some code
  hN : fn.ntmps ≤ 1024
  hs : below fn.ntmps (S f) = true
  hname : (fn.name == "runtime.NumGoroutine") = false
  cm : cmC P fn.ntmps (slotsE (S f) 0) NN code = .mk b
  ini : ini = fun args => ATof (slotsE (S f) 0) args 0 (emp e)
  res : (∃ r, resC (e := e) P (slotsE (S f) 0) fn.results.toList = [r] ∧ res = fun tm T n => r.run tm T fun v => .ok v T n) ∨ ((∀ r, resC (e := e) P (slotsE (S f) 0) fn.results.toList ≠ [r]) ∧ res = fun tm T n => evsR (resC (e := e) P (slotsE (S f) 0) fn.results.toList) tm T fun l => .ok (.oth (.tuple l)) T n)

theorem fnC_inv {P : Program} {NN : Nat} {S : Tab} {f : FuncId} {e : Nat} {b : Cf e} {ini : List CV → QT CV e} {res : QT CV e → HT → Nat → Res} (h : fnC P NN S f = .mk e b ini res) : ∃ fn code, FnIs P NN S f fn code e b ini res := by
  unfold fnC at h
  split at h
  · rename_i fn hf
    split at h
    · rename_i code hb hck
      rw [Bool.and_eq_true, Bool.and_eq_true] at hck
      obtain ⟨c1, c2, c3⟩ := hck
      have hname : (fn.name == "runtime.NumGoroutine") = false := by simpa using c3
      rw [natK_eq] at h
      split at h
      · rename_i b' f' hcm hrc
        cases h
        exact ⟨fn, code, hf, hb, Nat.le_of_ble_eq_true c1, c2, hname, hcm, rfl, .inl ⟨_, hrc, rfl⟩⟩
      · rename_i b' hcm hno
        cases h
        refine ⟨fn, code, hf, hb, Nat.le_of_ble_eq_true c1, c2, hname, hcm, rfl, .inr ⟨fun r hr => ?_, rfl⟩⟩
        cases r
        exact hno _ hr
    · cases h
  · cases h

def RvGood (rv : RvC e) : Prop := ∀ tm T, (∀ k, rv.run tm T k = .bad) ∨ ∃ v, ∀ k, rv.run tm T k = k v
theorem resC_good (P : Program) (L : EM) : ∀ (rs : List ResultVar), ∀ rv ∈ resC (e := e) P L rs, RvGood rv
  | [], rv, h => by cases h
  | .tmp t :: rs, rv, h => by
    have e1 : resC (e := e) P L (.tmp t :: rs) = (match opA (e := e) L 0 (.tmp t) with | .mk f => RvC.mk fun tm _ k => k (f () tm)) :: resC P L rs := rfl
    rw [e1] at h
    rcases List.mem_cons.1 h with rfl | h
    · intro tm T
      split
      rename_i f hf
      exact .inr ⟨f () tm, fun k => rfl⟩
    · exact resC_good P L rs rv h
  | .cell b t :: rs, rv, h => by
    have e1 : resC (e := e) P L (.cell b t :: rs) = (match opA (e := e) L 0 (.tmp b), isAggT P t, sizeT P t with | .mk f, some false, _ => RvC.mk fun tm T k => ldR T (f () tm) k | .mk f, some true, some w => RvC.mk fun tm T k => ldA T w (f () tm) k | _, _, _ => .mk fun _ _ _ => .bad) :: resC P L rs := rfl
    rw [e1] at h
    rcases List.mem_cons.1 h with rfl | h
    · intro tm T
      split
      · rename_i f hf hagg
        by_cases hb : ∃ k, ldR T (f () tm) k ≠ .bad
        · obtain ⟨k0, hk0⟩ := hb
          obtain ⟨b, i, fo, hp, hlt, ⟨w, num, d, c, md, s, h3, h4⟩ | ⟨kd, num, ad, md, s, h3, h4⟩⟩ := ldR_inv hk0
          · refine .inr ⟨QT.get d (i * w + fo) c, fun k => ?_⟩
            show ldR T (f () tm) k = _
            rw [hp]
            have hbl : Nat.ble b 65535 = true := Nat.ble_eq_true_of_le (by omega)
            have e1 : ldR T (.ptr b i fo) k = Bool.rec .bad (HE.rec .bad .bad (fun w _ d c _ _ => k (cellG d i w fo c)) (fun kd _ a _ _ => k (cI kd (dDec (dGet a i)))) (QT.get 8 b T)) (Nat.ble b 65535) := by rw [← getC_run]; rfl
            rw [e1, hbl, h3]
            simp only [cellG_eq]
          · refine .inr ⟨cI kd (dDec (dGet ad i)), fun k => ?_⟩
            show ldR T (f () tm) k = _
            rw [hp]
            have hbl : Nat.ble b 65535 = true := Nat.ble_eq_true_of_le (by omega)
            have e1 : ldR T (.ptr b i fo) k = Bool.rec .bad (HE.rec .bad .bad (fun w _ d c _ _ => k (cellG d i w fo c)) (fun kd _ a _ _ => k (cI kd (dDec (dGet a i)))) (QT.get 8 b T)) (Nat.ble b 65535) := by rw [← getC_run]; rfl
            rw [e1, hbl, h3]
        · exact .inl fun k => Classical.byContradiction fun q => hb ⟨k, q⟩
      · rename_i f w0 hf hagg hsz
        by_cases hb : ∃ k, ldA T w0 (f () tm) k ≠ .bad
        · obtain ⟨k0, hk0⟩ := hb
          obtain ⟨b, i, fo, hp, hlt, w, num, d, c, md, s, h3, hle, h4⟩ := ldA_inv hk0
          refine .inr ⟨.oth (.agg (avs (cellsL c (i * w + fo) w0))), fun k => ?_⟩
          show ldA T w0 (f () tm) k = _
          rw [hp, ldA_eq T w0 b i fo k hlt h3, if_pos hle]
        · exact .inl fun k => Classical.byContradiction fun q => hb ⟨k, q⟩
      · exact .inl fun k => rfl
    · exact resC_good P L rs rv h
theorem resC_len (P : Program) (L : EM) : ∀ (rs : List ResultVar), (resC (e := e) P L rs).length = rs.length
  | [] => rfl
  | .tmp t :: rs => by show (_ :: resC (e := e) P L rs).length = _; simp [resC_len P L rs]
  | .cell b t :: rs => by show (_ :: resC (e := e) P L rs).length = _; simp [resC_len P L rs]
theorem evsR_good {tm : QT CV e} {T : HT} : ∀ {l : List (RvC e)}, (∀ rv ∈ l, RvGood rv) → (∀ k, evsR l tm T k = .bad) ∨ ∃ l', ∀ k, evsR l tm T k = k l'
  | [], _ => .inr ⟨[], fun k => rfl⟩
  | rv :: rest, h => by
    have e1 : ∀ k, evsR (rv :: rest) tm T k = rv.run tm T fun v => evsR rest tm T fun l => k (CV.av v :: l) := fun k => by cases rv; rfl
    rcases h rv (by simp) tm T with q | ⟨v, q⟩
    · exact .inl fun k => by rw [e1, q]
    · rcases evsR_good (tm := tm) (T := T) fun x hx => h x (List.mem_cons_of_mem _ hx) with z | ⟨l', z⟩
      · exact .inl fun k => by rw [e1, q, z]
      · exact .inr ⟨v.av :: l', fun k => by rw [e1, q, z]⟩

/-- what a function hands back -/
theorem res_end {P : Program} {NN : Nat} {S : Tab} {f : FuncId} {fn : Func} {code : Code} {b : Cf e} {ini : List CV → QT CV e} {res : QT CV e → HT → Nat → Res} (F : FnIs P NN S f fn code e b ini res) {tm : QT CV e} {T T' : HT} {n n' : Nat} {v : CV} (h : res tm T n = .ok v T' n') :
    T' = T ∧ n' = n ∧ ∀ {B : Bs}, BsOk B → ∀ {m : Map} {a : Act} {w : World}, Did B.T B.n T n → At m ⟨tmL fn.ntmps (slotsE (S f) 0) 0 st0 tm, B.at T n⟩ a w → ∃ v', VR m (B.at T n) v.av v' ∧ (results fn a.tmps).run P w = .ok v' w := by
  have hL := slots_ok F.hN F.hs
  have hrun : ∀ (a : Act) (w : World) (vs : List Value), (fn.results.toList.mapM (resM a)).run P w = .ok vs w → (results fn a.tmps).run P w = .ok (if h : vs.toArray.size = 1 then vs.toArray[0] else .tuple vs.toArray) w := by
    intro a w vs k3
    have hm : (fn.results.mapM (resM a)).run P w = .ok vs.toArray w := by
      rw [Array.mapM_eq_mapM_toList]
      rw [Sem.run_map, k3]
      rfl
    rw [results_eq]
    simp only [Sem.run_bind, hm, Result.andThen_ok, Sem.run_pure]
  rcases F.res with ⟨r, hr, he⟩ | ⟨hr, he⟩
  · rw [he] at h
    simp only at h
    have hg := resC_good P (slotsE (S f) 0) fn.results.toList r (by rw [hr]; simp)
    rcases hg tm T with q | ⟨u, q⟩
    · rw [q] at h; cases h
    · rw [q] at h
      cases h
      refine ⟨rfl, rfl, fun {B} hB {m a w} hd hA => ?_⟩
      have hlen : fn.results.toList.length = 1 := by rw [← resC_len P (slotsE (S f) 0), hr]; rfl
      cases hrl : fn.results.toList with
      | nil => rw [hrl] at hlen; cases hlen
      | cons r0 rest =>
        rw [hrl] at hlen
        have hrest : rest = [] := by cases rest; rfl; simp at hlen
        subst hrest
        rw [hrl] at hr
        obtain ⟨_, u', h2, v', h3, h4⟩ := res_one (k := fun v => .ok v T n) hL hB hd hA hr (by rw [q]; simp)
        rw [q] at h2
        cases h2
        refine ⟨v', h3, ?_⟩
        have := hrun a w [v'] (by rw [hrl, List.mapM_cons]; simp only [Sem.run_bind, h4, Result.andThen_ok, List.mapM_nil, Sem.run_pure])
        rw [this]; rfl
  · rw [he] at h
    simp only at h
    rcases evsR_good (tm := tm) (T := T) (resC_good P (slotsE (S f) 0) fn.results.toList) with q | ⟨l, q⟩
    · rw [q] at h; cases h
    · rw [q] at h
      cases h
      refine ⟨rfl, rfl, fun {B} hB {m a w} hd hA => ?_⟩
      obtain ⟨l', h5, h5', vs, h6, h7, h8⟩ := res_list hL hB hd hA fn.results.toList (fun l => .ok (.oth (.tuple l)) T n) (by rw [q]; simp)
      rw [q] at h5
      simp only [Res.ok.injEq, CV.oth.injEq, AV.tuple.injEq, and_true] at h5
      subst h5
      refine ⟨.tuple vs.toArray, .tuple _ _ (by simpa using h6) fun j x y hx hy => h7 j x y hx (by simpa using hy), ?_⟩
      rw [hrun a w vs h8, dif_neg]
      intro h1
      have h9 : (resC (e := e) P (slotsE (S f) 0) fn.results.toList).length = 1 := by rw [resC_len, ← h5', h6]; simpa using h1
      cases hq : resC (e := e) P (slotsE (S f) 0) fn.results.toList with
      | nil => rw [hq] at h9; cases h9
      | cons x xs =>
        rw [hq] at h9
        cases xs with
        | nil => exact hr x hq
        | cons => simp at h9

theorem callI_ok {P : Program} (hm : P.follows .mixedOrders = true) (NN : Nat) (S : Tab) {hk : CallI} (hhk : HkOk P hk) : ∀ d, CallsOk P (callI P NN S hk d)
  | 0 => fun f args T n v T' n' h _ => by cases h
  | d + 1 => by
    intro f args T n v T' n' h hT
    rw [callI_succ] at h
    cases hq : hk f args T n with
    | ok u T1 n1 =>
      rw [hq] at h
      cases h
      exact hhk f args T n v T' n' hq hT
    | bad =>
      rw [hq] at h
      simp only at h
      cases hfc : fnC P NN S f with
      | bad => rw [hfc] at h; cases h
      | mk e b ini res =>
        rw [hfc] at h
        simp only at h
        obtain ⟨fn, code, F⟩ := fnC_inv hfc
        have hc := callI_ok hm NN S hhk d
        have hL := slots_ok F.hN F.hs
        have hcm := cm_ok hm F.hN hL hc NN code b F.cm
        have hbad : b (callI P NN S hk d) (ini args) T n ≠ .bad := fun q => by rw [q] at h; cases h
        obtain ⟨c1, c2⟩ := hcm (ini args) T n hT hbad
        -- how it ends
        obtain ⟨ex, tm1, T1, n1, ho, hex, hres⟩ : ∃ ex tm1 T1 n1, OutIs (b (callI P NN S hk d) (ini args) T n) ex tm1 T1 n1 ∧ (ex = .normal ∨ ex = .ret) ∧ res tm1 T1 n1 = .ok v T' n' := by
          cases hob : b (callI P NN S hk d) (ini args) T n with
          | bad => exact absurd hob hbad
          | norm tm1 T1 n1 => rw [hob] at h; exact ⟨_, _, _, _, .norm _ _ _, .inl rfl, h⟩
          | ret tm1 T1 n1 => rw [hob] at h; exact ⟨_, _, _, _, .ret _ _ _, .inr rfl, h⟩
          | exit id tm1 T1 n1 => rw [hob] at h; cases h
        have uniq : ∀ ex' tm2 T2 n2, OutIs (b (callI P NN S hk d) (ini args) T n) ex' tm2 T2 n2 → ex' = ex ∧ tm2 = tm1 ∧ T2 = T1 ∧ n2 = n1 := by
          intro ex' tm2 T2 n2 ho'
          generalize b (callI P NN S hk d) (ini args) T n = o at ho ho'
          cases ho <;> cases ho' <;> exact ⟨rfl, rfl, rfl, rfl⟩
        obtain ⟨rfl, rfl, hend⟩ := res_end F hres
        have hdid := c1 _ _ _ _ ho
        refine ⟨hdid, ⟨fn, F.hf, by rw [F.hb]; rfl, F.hname⟩, fun m H w args' hsub hfresh hsim hlen hargs => ?_⟩
        let B : Bs := ⟨H, T, n, n'⟩
        have hB : BsOk B := ⟨hsub, hT, fun b' hb h1 h2 => hfresh (b', (QT.get 8 b' T').ent) (List.mem_map_of_mem (mem_Lof.2 ⟨hb, h2, .inl h1⟩)) h1⟩
        have hat0 : ∀ b', hat H b' = hat (B.at T n) b' := fun b' => by rw [Bs.hat, Lof_self, if_neg (by simp)]
        have hatE : B.at T' n' = hput H (dL (Lof T n T' n') T') := B.at_eq _ _
        have hon : On ⟨m, H, w, []⟩ m ⟨tmL fn.ntmps (slotsE (S f) 0) 0 st0 (ini args), B.at T n⟩ { tmps := args' ++ Array.replicate (fn.ntmps - args'.size) Go.undef, defers := [] } w := by
          refine ⟨⟨hsim.congr hat0, ⟨by rw [tmL_length]; simp; omega, fun t => ?_⟩⟩, (Tr.refl m H w).congr hat0, rfl⟩
          simp only [tget_tmL (hL.em 0)]
          rcases hL.kind t with q | ⟨j, q⟩
          · have : valT (slotsE (S f) 0) 0 st0 (ini args) t = .oth .undef := by unfold valT; rw [q]; rfl
            rw [this]; exact .undef _
          · have e1 : valT (slotsE (S f) 0) 0 st0 (ini args) t = if j < 4 ^ e then QT.get e j (ini args) else .oth .undef := by
              unfold valT; rw [q]; exact srC_slot_run (k := 0) j st0 _
            rw [e1]
            by_cases hj : j < 4 ^ e
            · rw [if_pos hj, F.ini]
              simp only
              rw [ATof_get hL.inj q hj args 0 (emp e)]
              by_cases ht : t < args.length
              · rw [if_pos (by omega)]
                have ht2 : t < args'.size := by rw [← hlen]; simpa using ht
                have e2 : (args' ++ Array.replicate (fn.ntmps - args'.size) Go.undef).getD t Go.undef = args'[t] := by
                  simp [Array.getD_eq_getD_getElem?, Array.getElem?_append_left ht2, ht2]
                rw [e2]
                have := hargs t (args[t].av) args'[t] (by simp [ht]) (by simp [ht2])
                have e3 : (args.getD (t - 0) (.oth .undef)).av = args[t].av := by simp [List.getD_eq_getElem?_getD, ht]
                rw [e3]
                exact this.mono (Le.congr hat0)
              · rw [if_neg (by omega)]
                have : QT.get e j (emp e) = .oth .undef := QT.get_fill _ _ _
                rw [this]; exact .undef _
            · rw [if_neg hj]; exact .undef _
        refine calls_of_wp F.hf F.hb (c2 hB (.refl _ _) hon _ fun ex' tm2 T2 n2 ho' => ?_)
        obtain ⟨rfl, rfl, rfl, rfl⟩ := uniq _ _ _ _ ho'
        refine ⟨Nat.le_refl _, fun m' a' w' hon' => ?_⟩
        obtain ⟨v', g1, g2⟩ := hend hB hdid hon'.at_
        have fin : a'.defers = [] ∧ ∃ u, (results fn a'.tmps).run P w' = .ok u w' ∧ ∃ v' m', Ending.returned u = .returned v' ∧ Sim m' (hput H (dL (Lof T n T2 n2) T2)) w' ∧ VR m' (hput H (dL (Lof T n T2 n2) T2)) v.av v' ∧ Tr m H w m' (hput H (dL (Lof T n T2 n2) T2)) w' := by
          refine ⟨hon'.defers, v', g2, v', m', rfl, ?_, ?_, ?_⟩
          · rw [← hatE]; exact hon'.at_.sim
          · rw [← hatE]; exact g1
          · rw [← hatE]; exact hon'.tr
        rcases hex with rfl | rfl
        · exact fin
        · exact fin

/-! closed laws -/
def isTrue (r : Res) : Bool := Res.rec false (fun v _ _ => CV.rec (fun _ => false) (fun b => b) (fun _ _ _ => false) (fun _ => false) (fun _ _ _ => false) (fun _ _ _ _ => false) (fun _ => false) v) r
theorem isTrue_spec {r : Res} (h : isTrue r = true) : ∃ T n, r = .ok (.bool true) T n := by
  cases r with
  | bad => cases h
  | ok v T n => cases v with
    | bool b => cases b; cases h; exact ⟨T, n, rfl⟩
    | _ => cases h
def noH : HT := QT.fill .hole 8
theorem noH_ok : TOk noH 0 := ⟨fun b hb _ => QT.get_fill _ _ _, fun b hb w num d c md s he => by
  have : QT.get 8 b noH = .hole := QT.get_fill _ _ _
  rw [this] at he; cases he⟩

/-- a closed law that was run -/
theorem ce_law {P : Program} {c : CallI} (hc : CallsOk P c) {f : FuncId} (h : isTrue (c f [] noH 0) = true) (w : World) : Calls P f #[] w fun e w' => e = .returned (.bool true) ∧ Below w.heap.size w w' := by
  obtain ⟨T, n, hr⟩ := isTrue_spec h
  obtain ⟨_, _, h2⟩ := hc _ _ _ _ _ _ _ hr noH_ok
  have hsim : Sim (fun _ => (0, 0, 0)) [] w := ⟨fun _ _ _ h => (by cases h), fun _ _ _ _ _ _ h => (by cases h)⟩
  have hsub : SubH (absH noH) [] := fun b x hx => by
    have hb := hget_abs_lt hx
    rw [hget_abs noH hb] at hx
    have : QT.get 8 b noH = .hole := QT.get_fill _ _ _
    rw [this] at hx; cases hx
  refine (h2 (fun _ => (0, 0, 0)) [] w #[] hsub (fun d _ _ => rfl) hsim rfl fun j x y hx => by simp at hx).mono fun e w' ⟨v', m', he, _, hv, ht⟩ => ?_
  subst he
  cases hv
  refine ⟨rfl, ht.os, ht.tape, ht.output, ht.size, fun b hb => ?_⟩
  rcases ht.frame b hb with h3 | ⟨c, c', e, fr, f1, f2, f3, f4⟩
  · exact h3
  · have : c' = c := Array.ext f3 fun i h1 h2 => by
      have := f4 i (fun ⟨b', bk, md, g1, _⟩ => by cases g1)
      simp [h1, h2] at this
      exact this
    rw [f1, f2, this]
end
end Go.Ab
