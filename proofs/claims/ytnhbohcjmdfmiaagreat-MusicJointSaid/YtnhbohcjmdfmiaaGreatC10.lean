/- Concrete runs: slices, append. No condition. -/
import Derived.Test.YtnhbohcjmdfmiaaGreatC9
set_option linter.unusedVariables false
set_option linter.unusedSimpArgs false
namespace Go.Ab
open Go
noncomputable section
variable {e k : Nat} {P : Program} {E : EM} {dst : Option Tmp} {ty : TypeId} {pos : String} {after : Array Edge} {guard : Option (Nat × Bool)}

theorem bndS_inv {n : Nat} {lo hi : CV} {f : Nat → Nat → Out e} (h : bndS n lo hi f ≠ .bad) : ∃ kl l kh u, lo.av = .int kl (.ofNat l) ∧ hi.av = .int kh (.ofNat u) ∧ l ≤ u ∧ u ≤ n ∧ bndS n lo hi f = f l (u - l) := by
  obtain ⟨kl, l, h1, h2⟩ := natI_inv h
  change bndS n lo hi f = _ at h2
  rw [h2] at h ⊢
  obtain ⟨kh, u, h3, h4⟩ := natI_inv h
  rw [h4] at h ⊢
  obtain ⟨h5, h6⟩ := chk_inv h
  rw [h6] at h ⊢
  obtain ⟨h7, h8⟩ := chk_inv h
  exact ⟨kl, l, kh, u, h1, h3, Nat.le_of_ble_eq_true h5, Nat.le_of_ble_eq_true h7, h8⟩

theorem bnd_eq {X : Type} {n : Nat} {lo hi : Option AV} {l u : Nat} (f : Int → Int → Option X) (hlo : (lo = none ∧ l = 0) ∨ ∃ k, lo = some (.int k (.ofNat l))) (hhi : (hi = none ∧ u = n) ∨ ∃ k, hi = some (.int k (.ofNat u))) (h1 : l ≤ u) (h2 : u ≤ n) : bnd n lo hi f = f (.ofNat l) (.ofNat u) := by
  have i1 : (0 : Int) ≤ .ofNat l := Int.natCast_nonneg l
  have i2 : (0 : Int) ≤ .ofNat u := Int.natCast_nonneg u
  have i3 : Int.ofNat u ≤ (n : Int) := Int.ofNat_le.2 h2
  have i4 : Int.ofNat l ≤ (.ofNat u : Int) := Int.ofNat_le.2 h1
  rcases hlo with ⟨rfl, rfl⟩ | ⟨ka, rfl⟩ <;> rcases hhi with ⟨rfl, rfl⟩ | ⟨kb, rfl⟩
  · rfl
  · simp only [bnd]; exact need_mk ⟨i2, i3⟩ _
  · simp only [bnd]; exact need_mk ⟨i1, i4⟩ _
  · simp only [bnd]; exact need_mk ⟨i1, i4, i3⟩ _

theorem sub_nat (l u : Nat) : (Int.ofNat u - Int.ofNat l).toNat = u - l := by
  show ((u : Int) - (l : Int)).toNat = u - l
  omega
def LenIs (T : HT) (x : CV) (m : Nat) : Prop :=
  (x = .oth .nilSlice ∧ m = 0) ∨ (∃ b, x = .whole b ∧ ∀ bk md, hget (absH T) b = some (bk, md) → bk.ok → bk.num = m) ∨ (∃ b o, x = .sl b o m) ∨ (∃ b i o, x = .seg b i o m)

theorem lenS_is {T : HT} {x : CV} {f : Nat → Out e} (h : lenS T x f ≠ .bad) : ∃ m, LenIs T x m ∧ lenS T x f = f m := by
  rcases lenS_inv h with ⟨hx, h3⟩ | ⟨b, bk, md, m, hb, hg, h3, ⟨hx, h5⟩ | ⟨o, hx⟩ | ⟨i, o, hx⟩⟩
  · exact ⟨0, .inl ⟨hx, rfl⟩, h3⟩
  · exact ⟨m, .inr (.inl ⟨b, hx, fun bk' md' hg' ok => by rw [hg] at hg'; cases hg'; exact h5 ok⟩), h3⟩
  · exact ⟨m, .inr (.inr (.inl ⟨b, o, hx⟩)), h3⟩
  · exact ⟨m, .inr (.inr (.inr ⟨b, i, o, hx⟩)), h3⟩

theorem strS_inv {T : HT} {x : CV} {w : Nat} {r : Out e} (h : strS T x w r ≠ .bad) : strS T x w r = r ∧ (x = .oth .nilSlice ∨ ∃ b bk md, blkA x.av = some b ∧ b < 65536 ∧ hget (absH T) b = some (bk, md) ∧
    (((x = .whole b ∨ ∃ o l, x = .sl b o l) ∧ bk.str = w) ∨ ((∃ i o l, x = .seg b i o l) ∧ w = 1))) := by
  rcases onSlice_inv h with ⟨hx, h6⟩ | ⟨b, hx, h6⟩ | ⟨b, o, l, hx, h6⟩ | ⟨b, j, o, l, hx, h6⟩
  · exact ⟨h6, .inl hx⟩
  · change strS T x w r = _ at h6
    rw [h6] at h ⊢
    obtain ⟨hb, ⟨wd, num, d, cc, md, s, h7, h8⟩ | ⟨kd, num, a, md, s, h7, h8⟩⟩ := atB_inv h
    · rw [h8] at h ⊢
      obtain ⟨h9, h10⟩ := chk_inv h
      exact ⟨h10, .inr ⟨b, _, md, by rw [hx]; rfl, hb, blk_old hb h7 rfl, .inl ⟨.inl hx, Nat.eq_of_beq_eq_true h9⟩⟩⟩
    · rw [h8] at h ⊢
      obtain ⟨h9, h10⟩ := chk_inv h
      exact ⟨h10, .inr ⟨b, _, md, by rw [hx]; rfl, hb, blk_old hb h7 rfl, .inl ⟨.inl hx, Nat.eq_of_beq_eq_true h9⟩⟩⟩
  · change strS T x w r = _ at h6
    rw [h6] at h ⊢
    obtain ⟨hb, ⟨wd, num, d, cc, md, s, h7, h8⟩ | ⟨kd, num, a, md, s, h7, h8⟩⟩ := atB_inv h
    · rw [h8] at h ⊢
      obtain ⟨h9, h10⟩ := chk_inv h
      exact ⟨h10, .inr ⟨b, _, md, by rw [hx]; rfl, hb, blk_old hb h7 rfl, .inl ⟨.inr ⟨o, l, hx⟩, Nat.eq_of_beq_eq_true h9⟩⟩⟩
    · rw [h8] at h ⊢
      obtain ⟨h9, h10⟩ := chk_inv h
      exact ⟨h10, .inr ⟨b, _, md, by rw [hx]; rfl, hb, blk_old hb h7 rfl, .inl ⟨.inr ⟨o, l, hx⟩, Nat.eq_of_beq_eq_true h9⟩⟩⟩
  · change strS T x w r = _ at h6
    rw [h6] at h ⊢
    obtain ⟨hb, ⟨bk, md, hg⟩, h7⟩ := liveB_inv h
    rw [h7] at h ⊢
    obtain ⟨h9, h10⟩ := chk_inv h
    exact ⟨h10, .inr ⟨b, bk, md, by rw [hx]; rfl, hb, hg, .inr ⟨⟨j, o, l, hx⟩, (Nat.eq_of_beq_eq_true h9).symm⟩⟩⟩

theorem strIs_of {T : HT} {x : CV} {w : Nat} {KH : Heap} (h : x = .oth .nilSlice ∨ ∃ b bk md, blkA x.av = some b ∧ b < 65536 ∧ hget (absH T) b = some (bk, md) ∧ (((x = .whole b ∨ ∃ o l, x = .sl b o l) ∧ bk.str = w) ∨ ((∃ i o l, x = .seg b i o l) ∧ w = 1)))
    (hn : ∀ b i o l, x ≠ .seg b i o l) (hK : ∀ b, blkA x.av = some b → AgrS T KH b) : strIs KH x.av w = true := by
  rcases h with rfl | ⟨b, bk, md, h1, hb, hg, ⟨⟨rfl | ⟨o, l, rfl⟩, h2⟩⟩ | ⟨⟨i, o, l, h2⟩, _⟩⟩
  · rfl
  · obtain ⟨bk', md', hg', q1, q2⟩ := hK b rfl _ _ hg
    simp only [CV.av, strIs, content, hg', q2, h2]; simp
  · obtain ⟨bk', md', hg', q1, q2⟩ := hK b rfl _ _ hg
    rw [← q2] at h2
    simp only [CV.av, strIs, content, hg']
    cases bk' <;> simpa [Blk.sub, Blk.str] using h2
  · exact absurd h2 (hn _ _ _ _)

theorem good_slice (t : TypeId) (x : Operand) (lo hi : Option Operand) : OpGood P E k (op_slice (e := e) P E k t x lo hi) ⟨dst, .slice t x lo hi none, ty, pos, after, guard⟩ := by
  intro c st tm T n K hc hT h
  generalize hF : op_slice P E k t x lo hi = F at h ⊢
  have hw : ∀ z, clsOf P (.slice t x lo hi none) ≠ .w z := by intro z; simp [clsOf]
  have hsee : ∀ KH, AgrC (fun x => (valO E k st tm x).av) T KH (clsOf P (.slice t x lo hi none)) → ∀ b, blkA (valO E k st tm x).av = some b → AgrS T KH b :=
    fun KH hK b hb bk md hg => by
      obtain ⟨bk', md', q, q1, q2, _⟩ := hK (x, .shape) (List.mem_singleton.2 rfl) b hb bk md hg
      exact ⟨bk', md', q, q1, q2⟩
  -- what a slice of a slice is
  have sl : ∀ (el : TypeId) (w : Nat) (f : Of e k) (lv hv : CV), P.underlying t = some (.slice el) → sizeT P el = some w → opA E k x = .mk f →
      (f st tm = .oth .nilSlice ∨ ∃ b bk md, blkA (f st tm).av = some b ∧ b < 65536 ∧ hget (absH T) b = some (bk, md) ∧ (((f st tm = .whole b ∨ ∃ o l, f st tm = .sl b o l) ∧ bk.str = w) ∨ ((∃ i o l, f st tm = .seg b i o l) ∧ w = 1))) →
      (∀ kl l, lv.av = .int kl (.ofNat l) → (lo = none ∧ l = 0) ∨ ∃ ka, lo.map (fun x => (valO E k st tm x).av) = some (.int ka (.ofNat l))) →
      (∀ kh u, hv.av = .int kh (.ofNat u) → (hi = none ∧ LenIs T (f st tm) u) ∨ ∃ ka, hi.map (fun x => (valO E k st tm x).av) = some (.int ka (.ofNat u))) → (lo ≠ none ∨ hi ≠ none) →
      sliceS T (f st tm) lv hv (fun v => K v T n) ≠ .bad → ∃ v T' n' L, sliceS T (f st tm) lv hv (fun v => K v T n) = K v T' n' ∧ Ran P ⟨dst, .slice t x lo hi none, ty, pos, after, guard⟩ (fun x => (valO E k st tm x).av) T n v.av T' n' L := by
    intro el w f lv hv h1 h2 h3 hstr hlo hhi hne h
    have hxv : (valO E k st tm x).av = (f st tm).av := by rw [valO_of h3]
    have optlo : ∀ l, ((lo = none ∧ l = 0) ∨ ∃ ka, lo.map (fun x => (valO E k st tm x).av) = some (.int ka (.ofNat l))) → (lo.map (fun x => (valO E k st tm x).av) = none ∧ l = 0) ∨ ∃ ka, lo.map (fun x => (valO E k st tm x).av) = some (.int ka (.ofNat l)) := fun l hl => hl.imp (fun q => ⟨by rw [q.1]; rfl, q.2⟩) id
    rcases onSlice_inv h with ⟨hx, h6⟩ | ⟨b, hx, h6⟩ | ⟨b, o, len, hx, h6⟩ | ⟨b, j, o, len, hx, h6⟩
    · change sliceS T (f st tm) lv hv (fun v => K v T n) = _ at h6
      rw [h6] at h ⊢
      obtain ⟨kl, l, kh, u, a1, a2, a3, a4, a5⟩ := bndS_inv h
      rw [a5]
      refine ⟨_, T, n, [], rfl, Ran.pure hw fun KH hK => ?_⟩
      refine st_slice h1 h2 ?_ (by rw [hxv, hx]; simp [CV.av]) ?_
      · rw [hxv]; exact strIs_of hstr (by rw [hx]; simp) fun b hb => hsee KH hK b (by rw [hxv]; exact hb)
      · have hxa : (valO E k st tm x).av = .nilSlice := by rw [hxv, hx]; rfl
        simp only [hxa, sliceOp]
        exact bnd_eq (l := l) (u := u) _ (optlo l (hlo kl l a1)) (((hhi kh u a2)).imp (fun q => ⟨by rw [q.1]; rfl, by omega⟩) id) a3 a4
    · change sliceS T (f st tm) lv hv (fun v => K v T n) = _ at h6
      rw [h6] at h ⊢
      obtain ⟨m, hm, h7⟩ := lenS_is h
      rw [h7] at h ⊢
      obtain ⟨kl, l, kh, u, a1, a2, a3, a4, a5⟩ := bndS_inv h
      rw [a5]
      obtain ⟨b', bk, md, e1, hb, hg, _⟩ : ∃ b' bk md, blkA (f st tm).av = some b' ∧ b' < 65536 ∧ hget (absH T) b' = some (bk, md) ∧ True := by
        rcases hstr with q | ⟨b', bk, md, q1, q2, q3, _⟩
        · rw [hx] at q; cases q
        · exact ⟨b', bk, md, q1, q2, q3, trivial⟩
      rw [hx] at e1
      cases e1
      have hmk : bk.ok → bk.num = m := by
        rcases hm with ⟨q, _⟩ | ⟨b2, q1, q2⟩ | ⟨b2, o2, q⟩ | ⟨b2, i2, o2, q⟩
        · rw [hx] at q; cases q
        · rw [hx] at q1; cases q1; exact q2 bk md hg
        · rw [hx] at q; cases q
        · rw [hx] at q; cases q
      refine ⟨_, T, n, [], rfl, Ran.pure hw fun KH hK => ?_⟩
      obtain ⟨bk', md', hgK, z1, z2⟩ := hsee KH hK b (by rw [hxv, hx]; rfl) _ _ hg
      by_cases hok' : bk'.ok
      · refine st_slice h1 h2 ?_ (by rw [hxv, hx]; simp [CV.av]) ?_
        · rw [hxv]; exact strIs_of hstr (by rw [hx]; simp) fun b hb => hsee KH hK b (by rw [hxv]; exact hb)
        · have hok := abs_ok hg (by rw [← z2]; exact hok'.pos)
          have hq : bnd bk'.num (lo.map fun x => (valO E k st tm x).av) (hi.map fun x => (valO E k st tm x).av) (fun l h => some (AV.part b l.toNat (h - l).toNat)) = some (.part b l (u - l)) := by
            rw [bnd_eq (l := l) (u := u) _ (optlo l (hlo kl l a1)) (((hhi kh u a2)).imp (fun q => ⟨by rw [q.1]; rfl, by
              rcases q.2 with ⟨z, _⟩ | ⟨b2, z1, z2⟩ | ⟨b2, o2, z⟩ | ⟨b2, i2, o2, z⟩
              · rw [hx] at z; cases z
              · rw [hx] at z1; cases z1; rw [‹bk'.num = bk.num›]; exact (z2 bk md hg hok).symm
              · rw [hx] at z; cases z
              · rw [hx] at z; cases z⟩) id) a3 (by rw [‹bk'.num = bk.num›, hmk hok]; exact a4)]
            show some (AV.part b l (Int.ofNat u - Int.ofNat l).toNat) = _
            rw [sub_nat]
          have hxa : (valO E k st tm x).av = .whole b := by rw [hxv, hx]; rfl
          simp only [hxa, sliceOp, hgK]
          cases lo with
          | none =>
            cases hi with
            | none => rcases hne with q | q <;> exact absurd rfl q
            | some z => exact hq
          | some z => exact hq
      · exact Step.vac hgK hok'
    · change sliceS T (f st tm) lv hv (fun v => K v T n) = _ at h6
      rw [h6] at h ⊢
      obtain ⟨kl, l, kh, u, a1, a2, a3, a4, a5⟩ := bndS_inv h
      rw [a5]
      obtain ⟨b', bk, md, e1, hb, hg, _⟩ : ∃ b' bk md, blkA (f st tm).av = some b' ∧ b' < 65536 ∧ hget (absH T) b' = some (bk, md) ∧ True := by
        rcases hstr with q | ⟨b', bk, md, q1, q2, q3, _⟩
        · rw [hx] at q; cases q
        · exact ⟨b', bk, md, q1, q2, q3, trivial⟩
      rw [hx] at e1
      cases e1
      refine ⟨_, T, n, [], rfl, Ran.pure hw fun KH hK => ?_⟩
      obtain ⟨bk', md', hgK, w1, w2⟩ := hsee KH hK b (by rw [hxv, hx]; rfl) _ _ hg
      refine st_slice h1 h2 ?_ (by rw [hxv, hx]; simp [CV.av]) ?_
      · rw [hxv]; exact strIs_of hstr (by rw [hx]; simp) fun b hb => hsee KH hK b (by rw [hxv]; exact hb)
      · have hxa : (valO E k st tm x).av = .part b o len := by rw [hxv, hx]; rfl
        simp only [hxa, sliceOp, hgK]
        rw [bnd_eq (l := l) (u := u) _ (optlo l (hlo kl l a1)) (((hhi kh u a2)).imp (fun q => ⟨by rw [q.1]; rfl, by
              rcases q.2 with ⟨z, _⟩ | ⟨b2, z1, z2⟩ | ⟨b2, o2, z⟩ | ⟨b2, i2, o2, z⟩
              · rw [hx] at z; cases z
              · rw [hx] at z1; cases z1
              · rw [hx] at z; cases z; rfl
              · rw [hx] at z; cases z⟩) id) a3 a4]
        show some (AV.part b (o + l) (Int.ofNat u - Int.ofNat l).toNat) = _
        rw [sub_nat]; rfl
    · change sliceS T (f st tm) lv hv (fun v => K v T n) = _ at h6
      rw [h6] at h ⊢
      obtain ⟨kl, l, kh, u, a1, a2, a3, a4, a5⟩ := bndS_inv h
      rw [a5]
      obtain ⟨b', bk, md, e1, hb, hg, hw1⟩ : ∃ b' bk md, blkA (f st tm).av = some b' ∧ b' < 65536 ∧ hget (absH T) b' = some (bk, md) ∧ w = 1 := by
        rcases hstr with q | ⟨b', bk, md, q1, q2, q3, ⟨⟨q4 | ⟨_, _, q4⟩, _⟩⟩ | ⟨_, q5⟩⟩
        · rw [hx] at q; cases q
        · rw [hx] at q4; cases q4
        · rw [hx] at q4; cases q4
        · exact ⟨b', bk, md, q1, q2, q3, q5⟩
      rw [hx] at e1
      cases e1
      subst hw1
      refine ⟨_, T, n, [], rfl, Ran.pure hw fun KH hK => ?_⟩
      obtain ⟨bk', md', hgK, w1, w2⟩ := hsee KH hK b (by rw [hxv, hx]; rfl) _ _ hg
      refine st_sliceSeg (bk := bk') (md := md') (len := len) (l := l) (u := u) h1 (by rw [hxv, hx]; rfl) h2 hgK ?_
      exact bnd_eq (l := l) (u := u) _ (optlo l (hlo kl l a1)) (((hhi kh u a2)).imp (fun q => ⟨by rw [q.1]; rfl, by
              rcases q.2 with ⟨z, _⟩ | ⟨b2, z1, z2⟩ | ⟨b2, o2, z⟩ | ⟨b2, i2, o2, z⟩
              · rw [hx] at z; cases z
              · rw [hx] at z1; cases z1
              · rw [hx] at z; cases z
              · rw [hx] at z; cases z; rfl⟩) id) a3 a4
  unfold op_slice at hF
  split at hF
  · rename_i el f h1 h2
    split at hF
    · rename_i w h3 
      subst hF
      dsimp only [OpC.run] at h ⊢
      obtain ⟨h4, hstr⟩ := strS_inv h
      rw [h4]
      have hxv : (valO E k st tm x).av = (f st tm).av := by rw [valO_of h2]
      refine ⟨_, T, n, [], rfl, Ran.pure hw fun KH hK => ?_⟩
      rcases hstr with hx | ⟨b, bk, md, q1, q2, q3, ⟨⟨hx | ⟨o, l, hx⟩, q5⟩⟩ | ⟨⟨i, o, l, hx⟩, q5⟩⟩
      · refine st_slice h1 h3 ?_ (by rw [hxv, hx]; simp [CV.av]) ?_
        · rw [hxv, hx]; rfl
        · have hxa : (valO E k st tm x).av = .nilSlice := by rw [hxv, hx]; rfl
          rw [hx]; simp only [hxa]; rfl
      · obtain ⟨bk', md', hgK, w1, w2⟩ := hsee KH hK b (by rw [hxv]; exact q1) _ _ q3
        refine st_slice h1 h3 ?_ (by rw [hxv, hx]; simp [CV.av]) ?_
        · rw [hxv]; exact strIs_of (.inr ⟨b, bk, md, q1, q2, q3, .inl ⟨.inl hx, q5⟩⟩) (by rw [hx]; simp) fun b hb => hsee KH hK b (by rw [hxv]; exact hb)
        · have hxa : (valO E k st tm x).av = .whole b := by rw [hxv, hx]; rfl
          rw [hx]; simp only [hxa, sliceOp, hgK]; rfl
      · obtain ⟨bk', md', hgK, w1, w2⟩ := hsee KH hK b (by rw [hxv]; exact q1) _ _ q3
        refine st_slice h1 h3 ?_ (by rw [hxv, hx]; simp [CV.av]) ?_
        · rw [hxv]; exact strIs_of (.inr ⟨b, bk, md, q1, q2, q3, .inl ⟨.inr ⟨o, l, hx⟩, q5⟩⟩) (by rw [hx]; simp) fun b hb => hsee KH hK b (by rw [hxv]; exact hb)
        · have hxa : (valO E k st tm x).av = .part b o l := by rw [hxv, hx]; rfl
          rw [hx]; simp only [hxa, sliceOp, hgK]
          simp [bnd, CV.av]
      · subst q5
        obtain ⟨bk', md', hgK, w1, w2⟩ := hsee KH hK b (by rw [hxv]; exact q1) _ _ q3
        have := st_sliceSeg (P := P) (e := fun x => (valO E k st tm x).av) (K := KH) (q := n) (dst := dst) (ty := ty) (pos := pos) (after := after) (guard := guard) (x := x) (lo := none) (hi := none) (bk := bk') (md := md') (len := l) (l := 0) (u := l) (b := b) (i := i) (fo := o) h1 (by rw [hxv, hx]; rfl) h3 hgK rfl
        rw [hx]
        exact this
    · rename_i w lo' h3
      split at hF
      rename_i fl h4
      subst hF
      dsimp only [OpC.run] at h ⊢
      obtain ⟨h5, hstr⟩ := strS_inv h
      rw [h5] at h ⊢
      obtain ⟨m, hm, h6⟩ := lenS_is h
      rw [h6] at h ⊢
      exact sl el w f _ _ h1 h3 h2 hstr (fun kl l hl => .inr ⟨kl, by simp only [Option.map_some, valO_of h4, hl]⟩) (fun kh u hu => .inl ⟨rfl, by cases hu; exact hm⟩) (.inl (by simp)) h
    · rename_i w hi' h3
      split at hF
      rename_i fh h4
      subst hF
      dsimp only [OpC.run] at h ⊢
      obtain ⟨h5, hstr⟩ := strS_inv h
      rw [h5] at h ⊢
      exact sl el w f _ _ h1 h3 h2 hstr (fun kl l hl => .inl ⟨rfl, by cases hl; rfl⟩) (fun kh u hu => .inr ⟨kh, by simp only [Option.map_some, valO_of h4, hu]⟩) (.inr (by simp)) h
    · rename_i w lo' hi' h3
      split at hF
      rename_i fl fh h4 h4'
      subst hF
      dsimp only [OpC.run] at h ⊢
      obtain ⟨h5, hstr⟩ := strS_inv h
      rw [h5] at h ⊢
      exact sl el w f _ _ h1 h3 h2 hstr (fun kl l hl => .inr ⟨kl, by simp only [Option.map_some, valO_of h4, hl]⟩) (fun kh u hu => .inr ⟨kh, by simp only [Option.map_some, valO_of h4', hu]⟩) (.inr (by simp)) h
    · subst hF; exact absurd rfl h
  · rename_i N el f h1 h2
    split at hF
    · rename_i h3
      split at hF
      rename_i fl fh h4 h5
      subst hF
      dsimp only [OpC.run] at h ⊢
      obtain ⟨b, i, fo, hy, h6⟩ := onPtr_inv h
      rw [h6] at h ⊢
      have hxv : (valO E k st tm x).av = .ptr b i fo := by rw [valO_of h2, hy]; rfl
      obtain ⟨hb, ⟨wd, num, d, cc, md, s, h7, h8⟩ | ⟨kd, num, a, md, s, h7, h8⟩⟩ := atB_inv h
      · rw [h8] at h ⊢
        obtain ⟨h9, h10⟩ := chk_inv h
        rw [h10] at h ⊢
        obtain ⟨kl, l, kh, u, a1, a2, a3, a4, a5⟩ := bndS_inv h
        rw [a5]
        refine ⟨_, T, n, [], rfl, Ran.pure hw fun KH hK => ?_⟩
        obtain ⟨bk', md', hgK, w1, w2⟩ := hsee KH hK b (by rw [hxv]; rfl) _ _ (blk_old hb h7 (bk := cellsBlk wd num d cc) (md := md) rfl)
        refine st_sliceArr (l := l) (u := u) h1 hxv h3 hgK (by rw [w2]; exact Nat.le_of_ble_eq_true h9) (bnd_eq (l := l) (u := u) _ ?_ ?_ a3 a4)
        · cases lo with
          | none => simp only [OpA.mk.injEq] at h4; subst h4; cases a1; exact .inl ⟨rfl, rfl⟩
          | some lo' => exact .inr ⟨kl, by simp only [Option.map_some, valO_of h4, a1]⟩
        · cases hi with
          | none => simp only [OpA.mk.injEq] at h5; subst h5; cases a2; exact .inl ⟨rfl, rfl⟩
          | some hi' => exact .inr ⟨kh, by simp only [Option.map_some, valO_of h5, a2]⟩
      · rw [h8] at h; exact absurd rfl h
    · subst hF; exact absurd rfl h
  · rename_i f h1 h2
    have str : ∀ (fl fh : Of e k) (s : ByteArray), (valO E k st tm x).av = .str s → (∀ kl l, (fl st tm).av = .int kl (.ofNat l) → (lo = none ∧ l = 0) ∨ ∃ ka, lo.map (fun x => (valO E k st tm x).av) = some (.int ka (.ofNat l))) →
        (∀ kh u, (fh st tm).av = .int kh (.ofNat u) → (hi = none ∧ u = s.size) ∨ ∃ ka, hi.map (fun x => (valO E k st tm x).av) = some (.int ka (.ofNat u))) →
        bndS s.size (fl st tm) (fh st tm) (fun l h => K (.oth (.str (s.extract l (Nat.add l h)))) T n) ≠ .bad → ∃ v T' n' L, bndS s.size (fl st tm) (fh st tm) (fun l h => K (.oth (.str (s.extract l (Nat.add l h)))) T n) = K v T' n' ∧ Ran P ⟨dst, .slice t x lo hi none, ty, pos, after, guard⟩ (fun x => (valO E k st tm x).av) T n v.av T' n' L := by
      intro fl fh s hs hlo hhi h
      obtain ⟨kl, l, kh, u, a1, a2, a3, a4, a5⟩ := bndS_inv h
      rw [a5]
      refine ⟨_, T, n, [], rfl, Ran.pure hw fun KH hK => ?_⟩
      refine st_sliceStr h1 hs ?_
      simp only [sliceOp]
      rw [bnd_eq (l := l) (u := u) _ ((hlo kl l a1).imp (fun q => ⟨by rw [q.1]; rfl, q.2⟩) id) ((hhi kh u a2).imp (fun q => ⟨by rw [q.1]; rfl, q.2⟩) id) a3 a4]
      show some (AV.str (s.extract l u)) = some (.str (s.extract l (l + (u - l))))
      rw [Nat.add_sub_cancel' a3]
    split at hF
    · rename_i fl h3
      subst hF
      dsimp only [OpC.run] at h ⊢
      obtain ⟨y, hy, h6⟩ := onOth_inv h
      rw [h6] at h ⊢
      obtain ⟨s, hs, h7⟩ := othStr_inv h
      rw [h7] at h ⊢
      refine str fl (fun _ _ => .i (.ofNat s.size)) s (by rw [valO_of h2, hy, hs]; rfl) (fun kl l hl => ?_) (fun kh u hu => .inl ⟨rfl, by cases hu; rfl⟩) h
      cases lo with
      | none => simp only [OpA.mk.injEq] at h3; subst h3; cases hl; exact .inl ⟨rfl, rfl⟩
      | some lo' => exact .inr ⟨kl, by simp only [Option.map_some, valO_of h3, hl]⟩
    · rename_i fl hi' h3
      split at hF
      rename_i fh h4
      subst hF
      dsimp only [OpC.run] at h ⊢
      obtain ⟨y, hy, h6⟩ := onOth_inv h
      rw [h6] at h ⊢
      obtain ⟨s, hs, h7⟩ := othStr_inv h
      rw [h7] at h ⊢
      refine str fl fh s (by rw [valO_of h2, hy, hs]; rfl) (fun kl l hl => ?_) (fun kh u hu => .inr ⟨kh, by simp only [Option.map_some, valO_of h4, hu]⟩) h
      cases lo with
      | none => simp only [OpA.mk.injEq] at h3; subst h3; cases hl; exact .inl ⟨rfl, rfl⟩
      | some lo' => exact .inr ⟨kl, by simp only [Option.map_some, valO_of h3, hl]⟩
  · subst hF; exact absurd rfl h
end
end Go.Ab
