/- Concrete runs: copy. No condition. -/
import Derived.Test.YtnhbohcjmdfmiaaGreatC17
set_option linter.unusedVariables false
set_option linter.unusedSimpArgs false
namespace Go.Ab
open Go
noncomputable section

variable {e k : Nat} {P : Program} {E : EM} {dst : Option Tmp} {ty : TypeId} {pos : String} {after : Array Edge} {guard : Option (Nat × Bool)}

theorem linS_inv {T : HT} {x : CV} {f : Nat → Nat → Nat → Out e} (h : linS T x f ≠ .bad) : ∃ b s l, linS T x f = f b s l ∧ b < 65536 ∧ (∃ bk md, hget (absH T) b = some (bk, md) ∧ ∀ K, (∀ b, hget K b = hget (absH T) b) → bk.ok → Lin K x.av = some (b, s, l)) := by
  rcases onSlice_inv h with ⟨hx, h6⟩ | ⟨b, hx, h6⟩ | ⟨b, o, l, hx, h6⟩ | ⟨b, j, o, l, hx, h6⟩
  · change linS T x f = _ at h6
    rw [h6] at h; exact absurd rfl h
  · change linS T x f = _ at h6
    rw [h6] at h ⊢
    obtain ⟨hb, ⟨wd, num, d, cc, md, s, h7, h8⟩ | ⟨kd, num, a, md, s, h7, h8⟩⟩ := atB_inv h
    · rw [h8] at h ⊢
      obtain ⟨h9, h10⟩ := chk_inv h
      have hg := blk_old (T := T) hb h7 (x := .cells wd num d cc md s) rfl
      refine ⟨_, _, _, h10, hb, _, md, hg, fun K hK ok => ?_⟩
      have hw : wd = 1 := Nat.eq_of_beq_eq_true h9
      subst hw
      rw [hx]; simp only [CV.av, Lin, hK, hg]
      rw [if_pos (show (cellsBlk 1 num d cc).str = 1 from rfl), cells_num (by omega)]
    · have hg := blk_old (T := T) hb h7 (x := .ints kd num a md s) rfl
      refine ⟨_, _, _, h8, hb, _, md, hg, fun K hK ok => ?_⟩
      rw [hx]; simp only [CV.av, Lin, hK, hg]
      rw [if_pos (show (intsBlk kd num a).str = 1 from rfl), ints_num]
  · change linS T x f = _ at h6
    rw [h6] at h ⊢
    obtain ⟨hb, ⟨wd, num, d, cc, md, s, h7, h8⟩ | ⟨kd, num, a, md, s, h7, h8⟩⟩ := atB_inv h
    · rw [h8] at h ⊢
      obtain ⟨h9, h10⟩ := chk_inv h
      have hg := blk_old (T := T) hb h7 (x := .cells wd num d cc md s) rfl
      refine ⟨_, _, _, h10, hb, _, md, hg, fun K hK ok => ?_⟩
      have hw : wd = 1 := Nat.eq_of_beq_eq_true h9
      subst hw
      rw [hx]; simp only [CV.av, Lin, hK, hg]
      rw [if_pos (show (cellsBlk 1 num d cc).str = 1 from rfl)]
    · have hg := blk_old (T := T) hb h7 (x := .ints kd num a md s) rfl
      refine ⟨_, _, _, h8, hb, _, md, hg, fun K hK ok => ?_⟩
      rw [hx]; simp only [CV.av, Lin, hK, hg]
      rw [if_pos (show (intsBlk kd num a).str = 1 from rfl)]
  · change linS T x f = _ at h6
    rw [h6] at h ⊢
    obtain ⟨hb, ⟨wd, num, d, cc, md, s, h7, h8⟩ | ⟨kd, num, a, md, s, h7, h8⟩⟩ := atB_inv h
    · have hg := blk_old (T := T) hb h7 (x := .cells wd num d cc md s) rfl
      refine ⟨_, _, _, h8, hb, _, md, hg, fun K hK ok => ?_⟩
      rw [hx]; simp only [CV.av, Lin, hK, hg]
      rfl
    · rw [h8] at h; exact absurd rfl h

theorem cells_fl {w num d : Nat} {c : QT CV d} (hw : 0 < w) {p : Nat} (hp : p < num * w) : (cellsBlk w num d c).fl p = some (QT.get d p c).av := by
  unfold Blk.fl
  have hi : p / w < (cellsBlk w num d c).num := by rw [cells_num hw]; exact (Nat.div_lt_iff_lt_mul hw).2 hp
  have := (cells_ld hi (Nat.mod_lt p hw)).2
  rw [Nat.mul_comm, Nat.div_add_mod] at this
  exact this
theorem ints_fl {k : IntKind} {num a p : Nat} (hp : p < num) : (intsBlk k num a).fl p = some (.int k (dDec (dGet a p))) := by
  unfold Blk.fl
  have e1 : (intsBlk k num a).str = 1 := rfl
  rw [e1, Nat.div_one, Nat.mod_one]
  exact ints_ld (by rw [ints_num]; exact hp) Nat.one_pos

theorem dGet_digR {a off len v p : Nat} (hv : v < dB ^ len) : dGet (digR a off len v) p = if off ≤ p ∧ p < off + len then dGet v (p - off) else dGet a p := by
  have e0 : digR a off len v = a % dB ^ off + (v + (a / dB ^ (off + len)) * dB ^ len) * dB ^ off := by
    show a % dB ^ off + v * dB ^ off + a / dB ^ (off + len) * dB ^ (off + len) = _
    rw [Nat.add_mul, Nat.mul_assoc, ← Nat.pow_add, Nat.add_comm len off, Nat.add_assoc]
  have hm : a % dB ^ off < dB ^ off := Nat.mod_lt _ (Nat.pow_pos (by decide))
  rw [e0]
  by_cases h1 : p < off
  · rw [if_neg (by omega), dGet_lo _ h1, dGet_mod _ _ _ h1]
  · obtain ⟨j, rfl⟩ : ∃ j, p = off + j := ⟨p - off, by omega⟩
    rw [dGet_hi hm]
    by_cases h2 : j < len
    · rw [if_pos (by omega), dGet_lo _ h2]; congr 1; omega
    · obtain ⟨i, rfl⟩ : ∃ i, j = len + i := ⟨j - len, by omega⟩
      rw [if_neg (by omega), dGet_hi hv, dGet_eq, dGet_eq, Nat.div_div_eq_div_mul, ← Nat.pow_add, Nat.add_assoc]

theorem undig_len (k : IntKind) : ∀ (n a : Nat), (undig k a n).length = n
  | 0, _ => rfl
  | n + 1, a => by show (undig k (Nat.div a 73786976294838206464) n).length + 1 = n + 1; rw [undig_len k n]
theorem undig_at (k : IntKind) : ∀ (n a i : Nat), i < n → (undig k a n).getD i (.oth .undef) = cI k (dDec (dGet a i))
  | 0, _, _, h => by omega
  | n + 1, a, i, h => by
    have e1 : undig k a (n + 1) = cI k (dDec (Nat.mod a 73786976294838206464)) :: undig k (Nat.div a 73786976294838206464) n := rfl
    rw [e1]
    cases i with
    | zero =>
      have : dGet a 0 = Nat.mod a 73786976294838206464 := by rw [dGet_eq, Nat.pow_zero, Nat.div_one]; rfl
      rw [this]; rfl
    | succ i =>
      have : dGet a (i + 1) = dGet (Nat.div a 73786976294838206464) i := by
        rw [dGet_eq, dGet_eq, Nat.pow_succ', ← Nat.div_div_eq_div_mul]; rfl
      rw [this]
      simpa using undig_at k n (Nat.div a 73786976294838206464) i (by omega)

theorem shiftT_get : ∀ (d i : Nat) (t : QT CV d), i < 4 ^ d → 0 < i → QT.get d i (shiftT d t) = QT.get d (i - 1) t
  | 0, i, t, hi, h0 => by omega
  | d + 1, i, t, hi, h0 => by
    have e4 : (4 : Nat) ^ (d + 1) = 4 * 4 ^ d := Nat.pow_succ'
    have key : ∀ q : Q4 (QT CV d), QT.get d (i / 4) (Q4.at (⟨shiftT d q.d, q.a, q.b, q.c⟩ : Q4 (QT CV d)) (i % 4)) = QT.get d ((i - 1) / 4) (Q4.at q ((i - 1) % 4)) := by
      intro q
      have hm : i % 4 < 4 := Nat.mod_lt _ (by omega)
      rcases (by omega : i % 4 = 0 ∨ i % 4 = 1 ∨ i % 4 = 2 ∨ i % 4 = 3) with h | h | h | h
      · have e1 : (i - 1) % 4 = 3 := by omega
        have e2 : (i - 1) / 4 = i / 4 - 1 := by omega
        rw [h, e1, e2]
        show QT.get d (i / 4) (shiftT d q.d) = QT.get d (i / 4 - 1) q.d
        exact shiftT_get d (i / 4) q.d (by omega) (by omega)
      · have e1 : (i - 1) % 4 = 0 := by omega
        have e2 : (i - 1) / 4 = i / 4 := by omega
        rw [h, e1, e2]; rfl
      · have e1 : (i - 1) % 4 = 1 := by omega
        have e2 : (i - 1) / 4 = i / 4 := by omega
        rw [h, e1, e2]; rfl
      · have e1 : (i - 1) % 4 = 2 := by omega
        have e2 : (i - 1) / 4 = i / 4 := by omega
        rw [h, e1, e2]; rfl
    exact key t
theorem cellsL_getD {d : Nat} (c : QT CV d) (j n i : Nat) (hi : i < n) : (cellsL c j n).getD i (.oth .undef) = QT.get d (j + i) c := by
  rw [cellsL_eq]; simp [List.getD_eq_getElem?_getD, hi]
theorem cellsL_len {d : Nat} (c : QT CV d) (j n : Nat) : (cellsL c j n).length = n := by rw [cellsL_eq]; simp
theorem fastS_spec {b b2 sx sy m : Nat} (h : fastS b b2 sx sy m = true) : b = b2 ∧ sx = sy + 1 := by
  unfold fastS at h
  cases h1 : Nat.beq b b2 with
  | false => rw [h1] at h; cases h
  | true =>
    rw [h1] at h
    cases h2 : Nat.beq sx (Nat.succ sy) with
    | false => rw [h2] at h; cases h
    | true => exact ⟨Nat.eq_of_beq_eq_true h1, Nat.eq_of_beq_eq_true h2⟩
theorem cpL_get {fast : Bool} {W sx sy m d : Nat} {c : QT CV d} {l : List CV} (hl : l.length = m) (hW : W ≤ 4 ^ d) (hb : sx + m ≤ W) (hf : fast = true → sx = sy + 1 ∧ l = cellsL c sy m) {p : Nat} (hp : p < W) : QT.get d p (cpL fast W sx m c l) = if sx ≤ p ∧ p < sx + m then l.getD (p - sx) (.oth .undef) else QT.get d p c := by
  cases fast with
  | false =>
    show QT.get d p (putL c sx l) = _
    rw [putL_get l c sx p (by omega) (by omega), hl]
  | true =>
    obtain ⟨h1, h2⟩ := hf rfl
    show QT.get d p (putL (putL (shiftT d c) 0 (cellsL c 0 sx)) (sx + m) (cellsL c (sx + m) (W - (sx + m)))) = _
    rw [putL_get _ _ _ _ (by rw [cellsL_len]; omega) (by omega), cellsL_len]
    by_cases ha : sx + m ≤ p
    · rw [if_pos (by omega), if_neg (by omega), cellsL_getD _ _ _ _ (by omega)]
      congr 1; omega
    · rw [if_neg (by omega), putL_get _ _ _ _ (by rw [cellsL_len]; omega) (by omega), cellsL_len]
      by_cases hc : p < sx
      · rw [if_pos (by omega), if_neg (by omega), cellsL_getD _ _ _ _ (by omega)]
        congr 1; omega
      · rw [if_neg (by omega), if_pos (by omega), shiftT_get d p c (by omega) (by omega), h2, cellsL_getD _ _ _ _ (by omega)]
        congr 1; omega
theorem good_copy (cl : Call) (hcal : cl.callee = .builtin .copy) : OpGood P E k (op_copy (e := e) P E k cl) ⟨dst, .call cl, ty, pos, after, guard⟩ := by
  intro c st tm T n K hc hT h
  generalize hF : op_copy P E k cl = F at h ⊢
  have hcl : clsOf P (.call cl) = .x := by simp only [clsOf, hcal]
  unfold op_copy at hF
  split at hF
  · rename_i x y t ha ht
    split at hF
    · rename_i el f g hu hx hy
      split at hF
      · rename_i hsz
        subst hF
        dsimp only [OpC.run] at h ⊢
        unfold copyS at h ⊢
        obtain ⟨bx, sx, lx, h1, hbx, bkx, mdx, hgx, hlinx⟩ := linS_inv h
        rw [h1] at h ⊢
        obtain ⟨by_, sy, ly, h2, hby, bky, mdy, hgy, hliny⟩ := linS_inv h
        rw [h2] at h ⊢
        simp only [natK_eq, minN_eq] at h ⊢
        have hargs : cl.args.toList.map (fun x => (valO E k st tm x).av) = [(f st tm).av, (g st tm).av] := by rw [ha]; simp only [List.map_cons, List.map_nil, valO_of hx, valO_of hy]
        -- how it ends
        have fin : ∀ (xe : HE) (bk2 : Blk), (QT.get 8 bx T).md? = some mdx → xe.md? = some mdx → ¬ xe.older n → (∀ w num d c md s, xe = .cells w num d c md s → ∃ c' s', QT.get 8 bx T = .cells w num d c' md s') → (∀ bk md bk' md', (QT.get 8 bx T).ent = .live bk md → xe.ent = .live bk' md' → bk'.num = bk.num ∧ bk'.str = bk.str) → wrOk mdx = true → xe.ent = .live bk2 mdx → (bkx.ok → bk2.num = bkx.num ∧ bk2.str = bkx.str ∧ bk2.ok) →
            (bkx.ok → bky.ok → sx + min ly lx ≤ bkx.num * bkx.str → sy + min ly lx ≤ bky.num * bky.str → ∀ p, p < bkx.num * bkx.str → bk2.fl p = if sx ≤ p ∧ p < sx + min ly lx then bky.fl (sy + (p - sx)) else bkx.fl p) →
            Ran P ⟨dst, .call cl, ty, pos, after, guard⟩ (fun x => (valO E k st tm x).av) T n (CV.i (.ofNat (min ly lx))).av (runS (setC 8 bx) xe T) n [bx] := by
          intro xe bk2 q1 q2 q3 q4 q9 q5 q6 q7 q8
          refine Ran.write1 hT hbx q1 q2 q3 q4 q9 (by rw [hcl]; trivial) fun KH hK => ?_
          have hK' : ∀ b, hget KH b = hget (absH T) b := by rw [hcl] at hK; exact hK
          rw [q6]
          have hgx' : hget KH bx = some (bkx, mdx) := by rw [hK']; exact hgx
          have hgy' : hget KH by_ = some (bky, mdy) := by rw [hK']; exact hgy
          by_cases okx : bkx.ok
          · by_cases oky : bky.ok
            · exact st_copy hcal hargs ht hu hsz (hlinx KH hK' okx) hgx' (wrOk_ne q5) (hliny KH hK' oky) hgy' (fun a _ _ _ => q7 a) q8
            · exact Step.vac hgy' oky
          · exact Step.vac hgx' okx
        -- into cells
        have put : ∀ (w' num' d' : Nat) (c' c2 : QT CV d') (md' : Md) (s' : Nat) (l : List CV), QT.get 8 bx T = .cells w' num' d' c' md' s' → wrOk md' = true → l.length = min ly lx → (∀ i, i < min ly lx → bky.ok → sy + min ly lx ≤ bky.num * bky.str → bky.fl (sy + i) = some (l.getD i (.oth .undef)).av) →
            (num' * w' ≤ 4 ^ d' → sx + min ly lx ≤ num' * w' → ∀ p, p < num' * w' → QT.get d' p c2 = if sx ≤ p ∧ p < sx + min ly lx then l.getD (p - sx) (.oth .undef) else QT.get d' p c') →
            Ran P ⟨dst, .call cl, ty, pos, after, guard⟩ (fun x => (valO E k st tm x).av) T n (CV.i (.ofNat (min ly lx))).av (runS (setC 8 bx) (.cells w' num' d' c2 md' n) T) n [bx] := by
          intro w' num' d' c' c2 md' s' l hq hmd hl hval hc2
          have hg2 := blk_old (T := T) hbx hq rfl
          rw [hgx] at hg2
          cases hg2
          have hwf := hT.wf bx hbx _ _ _ _ _ _ hq
          refine fin _ (cellsBlk w' num' d' c2) (by rw [hq]; rfl) rfl (Nat.lt_irrefl _) (fun w num d c md s he => by cases he; exact ⟨_, _, hq⟩) (fun bk1 md1 bk2 md2 e1 e2 => by rw [hq] at e1; cases e1; cases e2; exact cells_shape _ _ _ _ _ _) hmd rfl (fun ok => ⟨by rw [cells_num ok.1, cells_num ok.1], rfl, ok.1, by rw [cells_len]; exact Nat.mul_mod_left _ _⟩) fun okx oky b1 b2 p hp => ?_
          have hstr : (cellsBlk w' num' d' c').str = w' := rfl
          rw [cells_num okx.1, hstr] at b1 hp
          rw [cells_fl okx.1 hp, hc2 hwf b1 p hp]
          by_cases hr : sx ≤ p ∧ p < sx + min ly lx
          · rw [if_pos hr, if_pos hr, hval (p - sx) (by omega) oky b2]
          · rw [if_neg hr, if_neg hr, cells_fl okx.1 hp]
        obtain ⟨_, ⟨w, num, d, cc, md, s, h3, h4⟩ | ⟨kd, num, a, md, s, h3, h4⟩⟩ := atB_inv h
        · rw [h4] at h ⊢
          have hg2 := blk_old (T := T) hby h3 rfl
          rw [hgy] at hg2
          cases hg2
          obtain ⟨_, ⟨w', num', d', c', md', s', h5, h6⟩ | ⟨kd', num', a', md', s', h5, h6⟩⟩ := atB_inv h
          · rw [h6] at h ⊢
            obtain ⟨h7, h8⟩ := chk_inv h
            rw [h8]
            refine ⟨_, _, n, _, rfl, put w' num' d' c' _ md' s' (cellsL cc sy (min ly lx)) h5 h7 (cellsL_len _ _ _) (fun i hi oky hb2 => ?_) fun hW hB p hp => cpL_get (sy := sy) (cellsL_len _ _ _) hW hB (fun hfs => ?_) hp⟩
            · have hb2' : sy + min ly lx ≤ num * w := by rw [cells_num oky.1] at hb2; exact hb2
              rw [cells_fl oky.1 (by omega), cellsL_getD _ _ _ _ hi]
            · obtain ⟨q1, q2⟩ := fastS_spec hfs
              subst q1
              rw [h3] at h5
              cases h5
              exact ⟨q2, rfl⟩
          · rw [h6] at h; exact absurd rfl h
        · rw [h4] at h ⊢
          have hg2 := blk_old (T := T) hby h3 rfl
          rw [hgy] at hg2
          cases hg2
          obtain ⟨_, ⟨w', num', d', c', md', s', h5, h6⟩ | ⟨kd', num', a', md', s', h5, h6⟩⟩ := atB_inv h
          · rw [h6] at h ⊢
            obtain ⟨h7, h8⟩ := chk_inv h
            rw [h8]
            refine ⟨_, _, n, _, rfl, put w' num' d' c' _ md' s' _ h5 h7 (undig_len _ _ _) (fun i hi oky hb2 => ?_) fun hW hB p hp => by rw [putL_get _ c' sx p (by rw [undig_len]; omega) (by omega), undig_len]⟩
            have hb2' : sy + min ly lx ≤ num := by rw [ints_num] at hb2; simpa [intsBlk, Blk.str] using hb2
            rw [ints_fl (by omega), undig_at _ _ _ _ hi, cI_av, dGet_digP _ _ _ _ hi]
          · rw [h6] at h ⊢
            obtain ⟨h7, h8⟩ := chk_inv h
            rw [h8] at h ⊢
            obtain ⟨h9, h10⟩ := chk_inv h
            rw [h10]
            obtain rfl := kix_inj h9
            have hg3 := blk_old (T := T) hbx h5 rfl
            rw [hgx] at hg3
            cases hg3
            refine ⟨_, _, n, _, rfl, fin _ (intsBlk kd num' (digR a' sx (min ly lx) (digP a sy (min ly lx)))) (by rw [h5]; rfl) rfl (Nat.lt_irrefl _) (fun w num d c md s he => by cases he) (fun bk1 md1 bk2 md2 e1 e2 => by rw [h5] at e1; cases e1; cases e2; exact ⟨by rw [ints_num, ints_num], rfl⟩) h7 rfl (fun _ => ⟨by rw [ints_num, ints_num], rfl, trivial⟩) fun okx oky b1 b2 p hp => ?_⟩
            have hs1 : ∀ (z q : Nat), (intsBlk kd z q).str = 1 := fun _ _ => rfl
            rw [ints_num, hs1, Nat.mul_one] at b1 b2 hp
            rw [ints_fl hp, dGet_digR (digP_lt _ _ _)]
            by_cases hr : sx ≤ p ∧ p < sx + min ly lx
            · rw [if_pos hr, if_pos hr, ints_fl (by omega), dGet_digP _ _ _ _ (by omega)]
            · rw [if_neg hr, if_neg hr, ints_fl hp]
      · subst hF; exact absurd rfl h
    · subst hF; exact absurd rfl h
  · subst hF; exact absurd rfl h
end
end Go.Ab
