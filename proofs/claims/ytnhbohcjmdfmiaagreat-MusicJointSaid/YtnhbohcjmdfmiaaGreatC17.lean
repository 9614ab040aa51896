/- Concrete runs: append; all operations together. No condition. -/
import Derived.Test.YtnhbohcjmdfmiaaGreatC16
set_option linter.unusedVariables false
set_option linter.unusedSimpArgs false
namespace Go.Ab
open Go
noncomputable section
variable {e k : Nat} {P : Program} {E : EM} {dst : Option Tmp} {ty : TypeId} {pos : String} {after : Array Edge} {guard : Option (Nat × Bool)}

theorem digP_lt (a off len : Nat) : digP a off len < dB ^ len := Nat.mod_lt _ (Nat.pow_pos (by decide))
theorem dGet_mod (a len i : Nat) (h : i < len) : dGet (a % dB ^ len) i = dGet a i := by
  have h1 := dGet_lo (a := a % dB ^ len) (a / dB ^ len) h
  rw [← h1]
  congr 1
  have := Nat.div_add_mod a (dB ^ len)
  rw [Nat.mul_comm] at this
  omega
theorem dGet_digP (a off len i : Nat) (h : i < len) : dGet (digP a off len) i = dGet a (off + i) := by
  have e1 : digP a off len = (a / dB ^ off) % dB ^ len := rfl
  rw [e1, dGet_mod _ _ _ h, dGet_eq, dGet_eq, Nat.div_div_eq_div_mul, ← Nat.pow_add]

theorem whole_cells (w num d : Nat) (c : QT CV d) : cellsBlk w num d c = .vals w ((cellsL c 0 (num * w)).map CV.av) := by
  unfold cellsBlk
  rw [cellsL_eq, List.map_map]
  congr 1
  apply List.map_congr_left
  intro j _
  simp
theorem sub_cells {w num d : Nat} {c : QT CV d} {off len : Nat} (h : off + len ≤ num) : (cellsBlk w num d c).sub off len = .vals w ((cellsL c (off * w) (len * w)).map CV.av) := by
  unfold cellsBlk
  simp only [Blk.sub]
  rw [cellsL_eq, List.map_map]
  congr 1
  have h2 : off * w + len * w ≤ num * w := by rw [← Nat.add_mul]; exact Nat.mul_le_mul_right _ h
  apply List.ext_getElem?
  intro i
  by_cases hi : i < len * w
  · have h3 : off * w + i < num * w := by omega
    simp [List.getElem?_take, hi, List.getElem?_drop, h3]
  · rw [List.getElem?_eq_none (by simp; omega), List.getElem?_eq_none (by simp; omega)]
theorem whole_ints (k : IntKind) (num a : Nat) : intsBlk k num a = intsBlk k num (digP a 0 num) := by
  unfold intsBlk
  congr 1
  apply List.map_congr_left
  intro i hi
  rw [dGet_digP _ _ _ _ (List.mem_range.1 hi), Nat.zero_add]
theorem sub_ints {k : IntKind} {num a off len : Nat} (h : off + len ≤ num) : (intsBlk k num a).sub off len = intsBlk k len (digP a off len) := by
  unfold intsBlk
  simp only [Blk.sub]
  congr 1
  apply List.ext_getElem?
  intro i
  by_cases hi : i < len
  · have h3 : off + i < num := by omega
    simp [List.getElem?_take, hi, List.getElem?_drop, h3, dGet_digP _ _ _ _ hi]
  · rw [List.getElem?_eq_none (by simp; omega), List.getElem?_eq_none (by simp; omega)]
theorem cat_ints {k : IntKind} {num num' a a' : Nat} (h : a' < dB ^ num') : catB (intsBlk k num' a') (intsBlk k num a) = some (intsBlk k (num' + num) (a' + a * dB ^ num')) := by
  unfold intsBlk catB
  simp only [if_true]
  congr 2
  apply List.ext_getElem?
  intro i
  by_cases h1 : i < num'
  · rw [List.getElem?_append_left (by simpa using h1)]
    have h2 : i < num' + num := by omega
    simp only [List.getElem?_map, List.getElem?_range h1, List.getElem?_range h2, Option.map_some]
    rw [dGet_lo _ h1]
  · by_cases h2 : i < num' + num
    · obtain ⟨j, rfl⟩ : ∃ j, i = num' + j := ⟨i - num', by omega⟩
      rw [List.getElem?_append_right (by simp)]
      have h3 : num' + j - ((List.range num').map fun i => dDec (dGet a' i)).length = j := by simp
      rw [h3]
      have h4 : j < num := by omega
      simp only [List.getElem?_map, List.getElem?_range h4, List.getElem?_range h2, Option.map_some]
      rw [dGet_hi h]
    · rw [List.getElem?_eq_none (by simp; omega), List.getElem?_eq_none (by simp; omega)]

/-- what a slice holds -/
def Holds (T : HT) (x : CV) (cb : Blk) : Prop := ∀ K, (∀ b, hget K b = hget (absH T) b) → content K x.av = some (some cb)

theorem srcS_inv {T : HT} {x : CV} {kc : Nat → Nat → List CV → Out e} {ki : IntKind → Nat → Nat → Out e} {kn : Out e} (h : srcS T x kc ki kn ≠ .bad) :
    (x = .oth .nilSlice ∧ srcS T x kc ki kn = kn) ∨ (∃ w num l, srcS T x kc ki kn = kc w num l ∧ l.length = num * w ∧ Holds T x (.vals w (l.map CV.av))) ∨ (∃ kd num a, srcS T x kc ki kn = ki kd num a ∧ a < dB ^ num ∧ Holds T x (intsBlk kd num a)) := by
  rcases onSlice_inv h with ⟨hx, h6⟩ | ⟨b, hx, h6⟩ | ⟨b, o, len, hx, h6⟩ | ⟨b, j, o, len, hx, h6⟩
  · exact .inl ⟨hx, h6⟩
  · change srcS T x kc ki kn = _ at h6
    rw [h6] at h ⊢
    obtain ⟨hb, ⟨wd, num, d, cc, md, s, h7, h8⟩ | ⟨kd, num, a, md, s, h7, h8⟩⟩ := atB_inv h
    · refine .inr (.inl ⟨_, _, _, h8, by rw [cellsL_eq]; simp, fun K hK => ?_⟩)
      have hg : hget K b = some (cellsBlk wd num d cc, md) := by rw [hK]; exact blk_old hb h7 rfl
      rw [hx]; simp only [CV.av, content, hg]; rw [whole_cells]; rfl
    · refine .inr (.inr ⟨_, _, _, h8, digP_lt _ _ _, fun K hK => ?_⟩)
      have hg : hget K b = some (intsBlk kd num a, md) := by rw [hK]; exact blk_old hb h7 rfl
      rw [hx]; simp only [CV.av, content, hg]; rw [whole_ints]
  · change srcS T x kc ki kn = _ at h6
    rw [h6] at h ⊢
    obtain ⟨hb, ⟨wd, num, d, cc, md, s, h7, h8⟩ | ⟨kd, num, a, md, s, h7, h8⟩⟩ := atB_inv h
    · rw [h8] at h ⊢
      obtain ⟨h9, h10⟩ := chk_inv h
      refine .inr (.inl ⟨_, _, _, h10, by rw [cellsL_eq]; simp, fun K hK => ?_⟩)
      have hg : hget K b = some (cellsBlk wd num d cc, md) := by rw [hK]; exact blk_old hb h7 rfl
      rw [hx]; simp only [CV.av, content, hg]; rw [sub_cells (Nat.le_of_ble_eq_true h9)]; rfl
    · rw [h8] at h ⊢
      obtain ⟨h9, h10⟩ := chk_inv h
      refine .inr (.inr ⟨_, _, _, h10, digP_lt _ _ _, fun K hK => ?_⟩)
      have hg : hget K b = some (intsBlk kd num a, md) := by rw [hK]; exact blk_old hb h7 rfl
      rw [hx]; simp only [CV.av, content, hg]; rw [sub_ints (Nat.le_of_ble_eq_true h9)]
  · change srcS T x kc ki kn = _ at h6
    rw [h6] at h; exact absurd rfl h

theorem ownOk_eq {md : Md} (h : ownOk md = true) : md = .own := by cases md <;> first | rfl | (simp [ownOk] at h)

theorem dstS_acc {T : HT} {x : CV} {kc : Nat → Nat → Nat → List CV → Out e} {ki : Nat → IntKind → Nat → Nat → Out e} {kn : Out e} (h : dstS T x kn kc ki ≠ .bad) : isAcc x.av = false := by
  cases x with
  | oth v => cases v <;> first | rfl | exact absurd rfl h
  | _ => rfl
theorem dstS_inv {T : HT} {x : CV} {kc : Nat → Nat → Nat → List CV → Out e} {ki : Nat → IntKind → Nat → Nat → Out e} {kn : Out e} (h : dstS T x kn kc ki ≠ .bad) :
    (x = .oth .nilSlice ∧ dstS T x kn kc ki = kn) ∨ ∃ b, b < 65536 ∧ (QT.get 8 b T).md? = some .own ∧ (∀ K, (∀ b, hget K b = hget (absH T) b) → killed K x.av = some [(b, .dead)]) ∧
      ((∃ w num l, dstS T x kn kc ki = kc b w num l ∧ l.length = num * w ∧ Holds T x (.vals w (l.map CV.av))) ∨ (∃ kd num a, dstS T x kn kc ki = ki b kd num a ∧ a < dB ^ num ∧ Holds T x (intsBlk kd num a))) := by
  rcases onSlice_inv h with ⟨hx, h6⟩ | ⟨b, hx, h6⟩ | ⟨b, o, len, hx, h6⟩ | ⟨b, j, o, len, hx, h6⟩
  · exact .inl ⟨hx, h6⟩
  · change dstS T x kn kc ki = _ at h6
    rw [h6] at h ⊢
    obtain ⟨hb, ⟨wd, num, d, cc, md, s, h7, h8⟩ | ⟨kd, num, a, md, s, h7, h8⟩⟩ := atB_inv h
    · rw [h8] at h ⊢
      obtain ⟨h9, h10⟩ := chk_inv h
      obtain rfl := ownOk_eq h9
      have hg : ∀ K, (∀ b, hget K b = hget (absH T) b) → hget K b = some (cellsBlk wd num d cc, .own) := fun K hK => by rw [hK]; exact blk_old hb h7 rfl
      refine .inr ⟨b, hb, by rw [h7]; rfl, fun K hK => by rw [hx]; simp only [CV.av, killed, hg K hK], .inl ⟨_, _, _, h10, by rw [cellsL_eq]; simp, fun K hK => ?_⟩⟩
      rw [hx]; simp only [CV.av, content, hg K hK]; rw [whole_cells]; rfl
    · rw [h8] at h ⊢
      obtain ⟨h9, h10⟩ := chk_inv h
      obtain rfl := ownOk_eq h9
      have hg : ∀ K, (∀ b, hget K b = hget (absH T) b) → hget K b = some (intsBlk kd num a, .own) := fun K hK => by rw [hK]; exact blk_old hb h7 rfl
      refine .inr ⟨b, hb, by rw [h7]; rfl, fun K hK => by rw [hx]; simp only [CV.av, killed, hg K hK], .inr ⟨_, _, _, h10, digP_lt _ _ _, fun K hK => ?_⟩⟩
      rw [hx]; simp only [CV.av, content, hg K hK]; rw [whole_ints]
  · change dstS T x kn kc ki = _ at h6
    rw [h6] at h ⊢
    obtain ⟨hb, ⟨wd, num, d, cc, md, s, h7, h8⟩ | ⟨kd, num, a, md, s, h7, h8⟩⟩ := atB_inv h
    · rw [h8] at h ⊢
      obtain ⟨h9, h10⟩ := chk_inv h
      rw [h10] at h ⊢
      obtain ⟨h11, h12⟩ := chk_inv h
      obtain rfl := ownOk_eq h9
      have hg : ∀ K, (∀ b, hget K b = hget (absH T) b) → hget K b = some (cellsBlk wd num d cc, .own) := fun K hK => by rw [hK]; exact blk_old hb h7 rfl
      refine .inr ⟨b, hb, by rw [h7]; rfl, fun K hK => by rw [hx]; simp only [CV.av, killed, hg K hK], .inl ⟨_, _, _, h12, by rw [cellsL_eq]; simp, fun K hK => ?_⟩⟩
      rw [hx]; simp only [CV.av, content, hg K hK]; rw [sub_cells (Nat.le_of_ble_eq_true h11)]; rfl
    · rw [h8] at h ⊢
      obtain ⟨h9, h10⟩ := chk_inv h
      rw [h10] at h ⊢
      obtain ⟨h11, h12⟩ := chk_inv h
      obtain rfl := ownOk_eq h9
      have hg : ∀ K, (∀ b, hget K b = hget (absH T) b) → hget K b = some (intsBlk kd num a, .own) := fun K hK => by rw [hK]; exact blk_old hb h7 rfl
      refine .inr ⟨b, hb, by rw [h7]; rfl, fun K hK => by rw [hx]; simp only [CV.av, killed, hg K hK], .inr ⟨_, _, _, h12, digP_lt _ _ _, fun K hK => ?_⟩⟩
      rw [hx]; simp only [CV.av, content, hg K hK]; rw [sub_ints (Nat.le_of_ble_eq_true h11)]
  · change dstS T x kn kc ki = _ at h6
    rw [h6] at h; exact absurd rfl h

/-- one block ends, a new one is there -/
theorem Ran.app {o : Oper} {ev : Operand → AV} {T : HT} {n b : Nat} {x : HE} {v : AV} (hT : TOk T n) (hb : b < 65536) (h1 : (QT.get 8 b T).md? = some .own) (hn : n < 65536) (h2 : x.md? = some .own) (h3 : ¬ x.older n) (h4 : ∀ w num d c md s, x = .cells w num d c md s → num * w ≤ 4 ^ d)
    (hcls : clsOf P o.op = .x) (h6 : ∀ K, (∀ b, hget K b = hget (absH T) b) → Step P o ev K n v [(b, .dead), (n, x.ent)]) : Ran P o ev T n v (runS (setC 8 n) x (killB T b)) (n + 1) [b, n] := by
  have hbn : b < n := by
    apply Classical.byContradiction
    intro q
    rw [hT.top b hb (by omega)] at h1
    cases h1
  have gb : QT.get 8 b (runS (setC 8 n) x (killB T b)) = .dead := by
    rw [get_set8 _ n b _ hn hb, if_neg (by omega)]
    unfold killB
    rw [get_set8 _ b b _ hb hb, if_pos rfl]
  have gn : QT.get 8 n (runS (setC 8 n) x (killB T b)) = x := by rw [get_set8 _ n n _ hn hn, if_pos rfl]
  refine ⟨(Did.kill hb h1).trans (.new hn h2 h3 h4), fun c hc => ?_, fun c hc => ?_, fun c hc hno => ?_, by rw [hcls]; trivial, fun c hc => ?_, fun c hc hlt => ?_, (fun l hl => by rw [hcls] at hl; cases hl), fun K hK => ?_⟩
  · rcases List.mem_cons.1 hc with rfl | hc
    · exact hb
    · obtain rfl := List.mem_singleton.1 hc; exact hn
  · rcases List.mem_cons.1 hc with rfl | hc
    · rw [gb]; exact id
    · obtain rfl := List.mem_singleton.1 hc; rw [gn]; exact h3
  · rw [get_set8 _ n c _ hn hc, if_neg (fun q => hno (by simp [q]))]
    unfold killB
    rw [get_set8 _ b c _ hb hc, if_neg (fun q => hno (by simp [q]))]
  · rcases List.mem_cons.1 hc with rfl | hc
    · omega
    · obtain rfl := List.mem_singleton.1 hc; omega
  · rcases List.mem_cons.1 hc with rfl | hc
    · rw [h1]; simp
    · obtain rfl := List.mem_singleton.1 hc; omega
  · have : dL [b, n] (runS (setC 8 n) x (killB T b)) = [(b, .dead), (n, x.ent)] := by
      unfold dL
      simp only [List.map_cons, List.map_nil, gb, gn]; rfl
    rw [this]
    rw [hcls] at hK
    exact h6 K hK

theorem vals_num {w num : Nat} {l : List CV} (hw : 0 < w) (h : l.length = num * w) : (Blk.vals w (l.map CV.av)).num = num := by
  show (l.map CV.av).length / w = num
  rw [List.length_map, h, Nat.mul_div_cancel _ hw]

theorem good_append (cl : Call) (hcal : cl.callee = .builtin .append) : OpGood P E k (op_append (e := e) P E k cl) ⟨dst, .call cl, ty, pos, after, guard⟩ := by
  intro c st tm T n K hc hT h
  generalize hF : op_append P E k cl = F at h ⊢
  have hcl : clsOf P (.call cl) = .x := by simp only [clsOf, hcal]
  unfold op_append at hF
  split at hF
  · rename_i s x t t' ha ht ht' hsz
    split at hF
    · rename_i el el' f g hu hu' hs hx
      split at hF
      · rename_i i zs hi hzs
        simp only [natK_eq] at hF
        split at hF
        · rename_i hby
          subst hF
          dsimp only [OpC.run] at h ⊢
          have hsz2 : cl.argTypes.size = 2 := Nat.eq_of_beq_eq_true hsz
          have hbp : 0 < i.bytes := Nat.le_of_ble_eq_true hby
          obtain ⟨i', z', hi', hz', hzs', hpos, _⟩ := zerosOf_sound hzs
          rw [hi] at hi'
          cases hi'
          obtain ⟨h1, hsx⟩ := strS_inv h
          rw [h1] at h ⊢
          obtain ⟨h2, hss⟩ := strS_inv h
          rw [h2] at h ⊢
          have hsv : (valO E k st tm s).av = (f st tm).av := by rw [valO_of hs]
          have hxv : (valO E k st tm x).av = (g st tm).av := by rw [valO_of hx]
          have hargs : cl.args.toList.map (fun x => (valO E k st tm x).av) = [(f st tm).av, (g st tm).av] := by rw [ha]; simp only [List.map_cons, List.map_nil, hsv, hxv]
          -- what a content's width is
          have wid : ∀ (y : CV) (cb : Blk), (y = .oth .nilSlice ∨ ∃ b bk md, blkA y.av = some b ∧ b < 65536 ∧ hget (absH T) b = some (bk, md) ∧ (((y = .whole b ∨ ∃ o l, y = .sl b o l) ∧ bk.str = i.size) ∨ ((∃ i' o l, y = .seg b i' o l) ∧ i.size = 1))) → Holds T y cb → cb.str = i.size ∧ (∀ b j o l, y ≠ .seg b j o l) := by
            intro y cb hy hcb
            have h0 := hcb (absH T) fun _ => rfl
            have hns : ∀ b j o l, y ≠ .seg b j o l := by
              intro b j o l q
              rw [q] at h0; simp [CV.av, content] at h0
            refine ⟨?_, hns⟩
            have := strIs_of (KH := absH T) hy hns fun _ _ bk md hg => ⟨bk, md, hg, rfl, rfl⟩
            simp only [strIs, h0] at this
            simpa using this
          have stp : ∀ (v : AV) (D : Delta) (KH : Heap), (∀ b, hget KH b = hget (absH T) b) → (∀ b j o l, f st tm ≠ .seg b j o l) → (∀ b j o l, g st tm ≠ .seg b j o l) → app KH i.bytes (f st tm).av (g st tm).av n (fun v D => some (v, D)) = some (v, D) →
              Step P ⟨dst, .call cl, ty, pos, after, guard⟩ (fun x => (valO E k st tm x).av) KH n v D := by
            intro v D KH hK hn1 hn2 happ
            exact st_append hcal hargs ht ht' hsz2 hu hu' hi hzs hbp (strIs_of hsx hn2 fun b _ bk md hg => ⟨bk, md, by rw [hK]; exact hg, rfl, rfl⟩) (strIs_of hss hn1 fun b _ bk md hg => ⟨bk, md, by rw [hK]; exact hg, rfl, rfl⟩) happ
          have nilc : ∀ KH : Heap, content KH (CV.oth .nilSlice).av = some none := fun _ => rfl
          have nilk : ∀ KH : Heap, killed KH (CV.oth .nilSlice).av = some [] := fun _ => rfl
          -- onto nothing
          have new : ∀ (xe : HE) (bk : Blk), f st tm = .oth .nilSlice → Holds T (g st tm) bk → xe.ent = .live bk .own → n < 65536 → xe.md? = some .own → ¬ xe.older n → (∀ w num d c md s, xe = .cells w num d c md s → num * w ≤ 4 ^ d) → bk.num * i.bytes ≤ 140737488355328 ∧ 0 < bk.num →
              ∃ L, Ran P ⟨dst, .call cl, ty, pos, after, guard⟩ (fun x => (valO E k st tm x).av) T n (CV.whole n).av (runS (setC 8 n) xe T) (n + 1) L := by
            intro xe bk hf hcx he hn q1 q2 q3 hfit
            refine ⟨[n], Ran.new1 hn q1 q2 q3 (by rw [hcl]; trivial) fun KH hK => ?_⟩
            have hK' : ∀ b, hget KH b = hget (absH T) b := by rw [hcl] at hK; exact hK
            refine stp _ _ KH hK' (by rw [hf]; simp) (wid _ _ hsx hcx).2 ?_
            have hcx' := hcx KH hK'
            rw [he]
            simp only [app, hcx']
            rw [hf]
            simp only [nilc, nilk, joinB]
            show need _ _ = _
            rw [need_mk ⟨hfit.1, fun _ => hfit.2⟩]; rfl
          have new2 : ∀ (xe : HE) (bk cs : Blk) (cx : Option Blk) (b : Nat), isAcc (f st tm).av = false → Holds T (f st tm) cs → b < 65536 → (QT.get 8 b T).md? = some .own → (∀ K, (∀ b, hget K b = hget (absH T) b) → killed K (f st tm).av = some [(b, .dead)]) → (∀ K, (∀ b, hget K b = hget (absH T) b) → content K (g st tm).av = some cx) → (∀ b j o l, g st tm ≠ .seg b j o l) →
              joinB (some cs) cx = some bk → xe.ent = .live bk .own → n < 65536 → xe.md? = some .own → ¬ xe.older n → (∀ w num d c md s, xe = .cells w num d c md s → num * w ≤ 4 ^ d) → bk.num * i.bytes ≤ 140737488355328 →
              ∃ L, Ran P ⟨dst, .call cl, ty, pos, after, guard⟩ (fun x => (valO E k st tm x).av) T n (CV.whole n).av (runS (setC 8 n) xe (killB T b)) (n + 1) L := by
            intro xe bk cs cx b hac hcs hb hmd hkill hcx hseg hjoin he hn q1 q2 q3 hfit
            refine ⟨[b, n], Ran.app hT hb hmd hn q1 q2 q3 hcl fun KH hK => ?_⟩
            refine stp _ _ KH hK (wid _ _ hss hcs).2 hseg ?_
            rw [he]
            have hcs' := hcs KH hK
            have hcx' := hcx KH hK
            cases cx with
            | none =>
              simp only [app, hcs', hcx', hjoin, hkill KH hK, hac]
              rw [need_mk ⟨hfit, fun h => by cases h⟩]; rfl
            | some cx =>
              simp only [app, hcs', hcx', hjoin, hkill KH hK, hac]
              rw [need_mk ⟨hfit, fun h => by cases h⟩]; rfl
          have fit : ∀ {m : Nat} {bk : Blk}, fitB i.bytes m = true → bk.num = m → bk.num * i.bytes ≤ 140737488355328 := by
            intro m bk h1 h2
            rw [h2]; exact Nat.le_of_ble_eq_true h1
          have fit1' : ∀ {m : Nat} {bk : Blk}, fit1 i.bytes m = true → bk.num = m → bk.num * i.bytes ≤ 140737488355328 ∧ 0 < bk.num := by
            intro m bk h1 h2
            unfold fit1 at h1
            cases hq : fitB i.bytes m with
            | false => rw [hq] at h1; cases h1
            | true => rw [hq] at h1; exact ⟨fit hq h2, by rw [h2]; exact Nat.le_of_ble_eq_true h1⟩
          rcases srcS_inv h with ⟨hgx, h3⟩ | ⟨w, num, l, h3, hl, hcx⟩ | ⟨kd, num, a, h3, hl, hcx⟩
          · rw [h3] at h ⊢
            have hac := dstS_acc h
            rcases dstS_inv h with ⟨hfx, h4⟩ | ⟨b, hb, hmd, hkill, ⟨w', num', l', h4, hl', hcs⟩ | ⟨kd', num', a', h4, hl', hcs⟩⟩
            · rw [h4]
              refine ⟨_, T, n, [], rfl, Ran.pure (by rw [hcl]; simp) fun KH hK => ?_⟩
              refine stp _ _ KH (by rw [hcl] at hK; exact hK) (by rw [hfx]; simp) (by rw [hgx]; simp) ?_
              rw [hfx, hgx]; rfl
            · rw [h4] at h ⊢
              obtain ⟨h5, h6⟩ := chk_inv h
              rw [h6] at h ⊢
              obtain ⟨hn, h7, d, h8, h9⟩ := newL_inv h
              have hw : w' = i.size := (wid _ _ hss hcs).1
              obtain ⟨L, hL⟩ := new2 (.cells w' num' d (putL (emp d) 0 l') .own n) (.vals w' (l'.map CV.av)) _ none b hac hcs hb hmd hkill (fun K hK => by rw [hgx]; rfl) (by rw [hgx]; simp) rfl (by show Ent.live (cellsBlk _ _ _ _) _ = _; rw [cells_putL h7 h8]) hn rfl (Nat.lt_irrefl _) (fun w num d c md s he => by cases he; exact h8) (fit h5 (vals_num (by omega) hl'))
              exact ⟨_, _, _, L, h9, hL⟩
            · rw [h4] at h ⊢
              obtain ⟨h5, h6⟩ := chk_inv h
              rw [h6] at h ⊢
              obtain ⟨hn, h7⟩ := newH_inv h
              obtain ⟨L, hL⟩ := new2 (.ints kd' num' a' .own n) _ _ none b hac hcs hb hmd hkill (fun K hK => by rw [hgx]; rfl) (by rw [hgx]; simp) rfl rfl hn rfl (Nat.lt_irrefl _) (fun w num d c md s he => by cases he) (fit h5 (ints_num _ _ _))
              exact ⟨_, _, _, L, h7, hL⟩
          · rw [h3] at h ⊢
            have hwx : w = i.size := (wid _ _ hsx hcx).1
            have hsegx := (wid _ _ hsx hcx).2
            have hac := dstS_acc h
            rcases dstS_inv h with ⟨hfx, h4⟩ | ⟨b, hb, hmd, hkill, ⟨w', num', l', h4, hl', hcs⟩ | ⟨kd', num', a', h4, hl', hcs⟩⟩
            · rw [h4] at h ⊢
              obtain ⟨h5, h6⟩ := chk_inv h
              rw [h6] at h ⊢
              obtain ⟨hn, h7, d, h8, h9⟩ := newL_inv h
              obtain ⟨L, hL⟩ := new (.cells w num d (putL (emp d) 0 l) .own n) _ hfx hcx (by show Ent.live (cellsBlk _ _ _ _) _ = _; rw [cells_putL h7 h8]) hn rfl (Nat.lt_irrefl _) (fun w num d c md s he => by cases he; exact h8) (fit1' h5 (vals_num (by omega) hl))
              exact ⟨_, _, _, L, h9, hL⟩
            · rw [h4] at h ⊢
              obtain ⟨h5, h6⟩ := chk_inv h
              rw [h6] at h ⊢
              obtain ⟨h10, h11⟩ := chk_inv h
              rw [h11] at h ⊢
              obtain ⟨hn, h7, d, h8, h9⟩ := newL_inv h
              change _ = (num' + num) * w at h7
              change (num' + num) * w ≤ _ at h8
              obtain rfl : w = w' := Nat.eq_of_beq_eq_true h5
              obtain ⟨L, hL⟩ := new2 (.cells w (num' + num) d (putL (emp d) 0 (l' ++ l)) .own n) (.vals w ((l' ++ l).map CV.av)) _ (some _) b hac hcs hb hmd hkill (fun K hK => hcx K hK) hsegx (by simp only [joinB, catB, if_true, List.map_append]) (by show Ent.live (cellsBlk _ _ _ _) _ = _; rw [cells_putL h7 h8]) hn rfl (Nat.lt_irrefl _) (fun w num d c md s he => by cases he; exact h8) (fit h10 (vals_num (by omega) h7))
              exact ⟨_, _, _, L, h9, hL⟩
            · rw [h4] at h; exact absurd rfl h
          · rw [h3] at h ⊢
            have hsegx := (wid _ _ hsx hcx).2
            have hac := dstS_acc h
            rcases dstS_inv h with ⟨hfx, h4⟩ | ⟨b, hb, hmd, hkill, ⟨w', num', l', h4, hl', hcs⟩ | ⟨kd', num', a', h4, hl', hcs⟩⟩
            · rw [h4] at h ⊢
              obtain ⟨h5, h6⟩ := chk_inv h
              rw [h6] at h ⊢
              obtain ⟨hn, h7⟩ := newH_inv h
              obtain ⟨L, hL⟩ := new (.ints kd num a .own n) _ hfx hcx rfl hn rfl (Nat.lt_irrefl _) (fun w num d c md s he => by cases he) (fit1' h5 (ints_num _ _ _))
              exact ⟨_, _, _, L, h7, hL⟩
            · rw [h4] at h; exact absurd rfl h
            · rw [h4] at h ⊢
              obtain ⟨h5, h6⟩ := chk_inv h
              rw [h6] at h ⊢
              obtain ⟨h10, h11⟩ := chk_inv h
              rw [h11] at h ⊢
              obtain ⟨hn, h7⟩ := newH_inv h
              obtain rfl := kix_inj h5
              obtain ⟨L, hL⟩ := new2 (.ints kd (num' + num) (a' + a * dB ^ num') .own n) _ _ (some _) b hac hcs hb hmd hkill (fun K hK => hcx K hK) hsegx (by simp only [joinB]; exact cat_ints hl') rfl hn rfl (Nat.lt_irrefl _) (fun w num d c md s he => by cases he) (fit h10 (ints_num _ _ _))
              exact ⟨_, _, _, L, h7, hL⟩
        · subst hF; exact absurd rfl h
      · subst hF; exact absurd rfl h
    · subst hF; exact absurd rfl h
  · subst hF; exact absurd rfl h
end
end Go.Ab
