/- The law of two channels told jointly. No condition. -/
import Derived.Test.YtnhbohcjmdfmiaaGreatMP2
set_option linter.unusedVariables false
set_option linter.unusedSimpArgs false
namespace Go.Proofs.YtnhbohcjmdfmiaaGreat
open Go Go.Ab Go.Proofs
set_option maxRecDepth 100000

theorem new_two : music_New 5000 8000 = some (8000, List.replicate 13 30, 80, 20, 20, 20, 160, 20, 40, 20, 0, 0, List.replicate 13 30, 80, 20, 20, 20, 160, 20, 40, 20, 0, 0, List.replicate 80 0, List.replicate 20 0, List.replicate 160 0, List.replicate 40 0, List.replicate 80 0, List.replicate 20 0, List.replicate 160 0, List.replicate 40 0) := by kernel_rfl
theorem new_one : music_New_2 5000 8000 = some (8000, List.replicate 13 30, 80, 20, 20, 20, 160, 20, 40, 20, 0, 0, List.replicate 80 0, List.replicate 20 0, List.replicate 160 0, List.replicate 40 0) := by kernel_rfl
def joined (kk : Int) (f : List Int) := music_channel_join 5000 kk false f 80 20 20 20 160 20 40 20 (List.replicate 80 0) (List.replicate 20 0) (List.replicate 160 0) (List.replicate 40 0)
def heard (kk : Int) (f : List Int) : Option (List Int) := (joined kk f).bind fun r => (emph_Filter_Lower 5000 0 0 r.2.2.2.2.2.2.2.2.1).bind fun s => music_Player_Play_l2v1 5000 5000 ((s.2.2.length : Int), 0, s.2.2)
theorem joined_ok (kk : Int) (f : List Int) (h : kk = 0 ∧ f.length = 80 ∨ kk = 1 ∧ f.length = 160) : Ok (joined kk f) fun r => r.2.2.2.2.2.2.2.2.1.length = f.length := by
  unfold joined music_channel_join music_channel_join_c2
  rcases h with ⟨rfl, hf⟩ | ⟨rfl, hf⟩
  · refine ok_need ⟨by omega, by omega⟩ (ok_brd (fun h => by omega) fun _ => ok_bind (R := fun r => r.2.2.2.2.1.length = f.length) ?_ fun r hr => ok_some hr)
    refine ok_br (fun _ => ok_bind (next_ok 5000 (by omega) 80 20 f (List.replicate 80 0) hf (by simp) (by decide)) ?_) (fun h => by cases h)
    rintro r ⟨out, kept', rfl, h1, h2⟩
    exact ok_some (by rw [hf]; exact h1)
  · refine ok_need ⟨by omega, by omega⟩ (ok_brd (fun h => ok_bind (R := fun r => r.2.2.2.2.1.length = f.length) ?_ fun r hr => ok_some hr) fun h => by omega)
    refine ok_br (fun _ => ok_bind (next_ok 5000 (by omega) 160 20 f (List.replicate 160 0) hf (by simp) (by decide)) ?_) (fun h => by cases h)
    rintro r ⟨out, kept', rfl, h1, h2⟩
    exact ok_some (by rw [hf]; exact h1)
theorem heard_ok (kk : Int) (f : List Int) (h : kk = 0 ∧ f.length = 80 ∨ kk = 1 ∧ f.length = 160) : Ok (heard kk f) fun r => r.length = f.length := by
  unfold heard
  refine ok_bind (joined_ok kk f h) fun r hr => ok_bind (lower_ok 5000 (by omega) 0 0 _ (by omega)) fun s hs => ?_
  exact ok_mono (clip_ok 5000 s.2.2 (by omega) (by omega)) fun o ho => by omega
theorem may_two (ms : Int) (h : ms = 10 ∨ ms = 20) : music_Player_may 5000 8000 ms 0 8000 = some true := by
  rcases h with rfl | rfl <;> kernel_rfl
theorem may_one (ms : Int) (h : ms = 10 ∨ ms = 20) : music_Player_may_2 5000 8000 ms 0 8000 = some true := by
  rcases h with rfl | rfl <;> kernel_rfl
theorem whole1 (l : List Int) (ms : Int) (c z : Int) (h : ms = 10 ∨ ms = 20) (hl : (l.length : Int) = 8 * ms) : music_Shape_whole_1 l 8000 ms c z = some false := by
  unfold music_Shape_whole_1 music_Shape_samples
  have e : IntKind.i64.wrap ((IntKind.i64.wrap (8000 * ms)).tdiv 1000) = 8 * ms := by
    rcases h with rfl | rfl <;> decide
  simp only [Option.bind_some, e, hl]
  simp
theorem whole_two (f z : List Int) (ms : Int) (h : ms = 10 ∨ ms = 20) (hf : (f.length : Int) = 8 * ms) (hz : (z.length : Int) = 8 * ms) (b : Bool) : music_Shape_whole 8000 ms 0 false false b f z = some true := by
  unfold music_Shape_whole slices_ContainsFunc_int64_int64 slices_IndexFunc_int64_int64
  rw [whole1 f ms _ _ h hf, whole1 z ms _ _ h hz]
  rfl
theorem whole_one (f : List Int) (ms : Int) (h : ms = 10 ∨ ms = 20) (hf : (f.length : Int) = 8 * ms) (b : Bool) : music_Shape_whole_2 8000 ms 0 false false b f = some true := by
  unfold music_Shape_whole_2 slices_ContainsFunc_int64_int64_2 slices_IndexFunc_int64_int64_2
  rw [whole1 f ms _ _ h hf]
  rfl
theorem kk_of (ms : Int) (f : List Int) (h : ms = 10 ∨ ms = 20) (hf : (f.length : Int) = 8 * ms) : IntKind.i64.wrap (ms.tdiv 20) = 0 ∧ f.length = 80 ∨ IntKind.i64.wrap (ms.tdiv 20) = 1 ∧ f.length = 160 := by
  rcases h with rfl | rfl
  · exact .inl ⟨by decide, by omega⟩
  · exact .inr ⟨by decide, by omega⟩
theorem play_two (f : List Int) (ms : Int) (h : ms = 10 ∨ ms = 20) (hf : (f.length : Int) = 8 * ms) : Ok (music_Player_Play 5000 8000 ms 0 false false true 8000 f (List.replicate f.length 0) 80 20 20 20 160 20 40 20 0 0 80 20 20 20 160 20 40 20 0 0 (List.replicate 80 0) (List.replicate 20 0) (List.replicate 160 0) (List.replicate 40 0) (List.replicate 80 0) (List.replicate 20 0) (List.replicate 160 0) (List.replicate 40 0)) fun r => r.2.2.2.2.2.2.2.2.2.2.2.2.2.2.2.2.2.2.2.2.2.2.2.2.2.2.2.2.1.length = f.length ∧ ((∀ i : Nat, i < f.length → f.getD i 0 ≤ 17179869184 ∧ -17179869184 ≤ f.getD i 0) → heard (IntKind.i64.wrap (ms.tdiv 20)) f = some r.2.2.2.2.2.2.2.2.2.2.2.2.2.2.2.2.2.2.2.2.2.2.2.2.2.2.2.2.1 ∧ heard (IntKind.i64.wrap (ms.tdiv 20)) f = some r.2.2.2.2.2.2.2.2.2.2.2.2.2.2.2.2.2.2.2.2.2.2.2.2.2.2.2.2.2) := by
  have hlen : f.length ≤ 4096 := by omega
  unfold music_Player_Play
  rw [may_two ms h, whole_two f _ ms h hf (by simp only [List.length_replicate]; exact hf)]
  show Ok (Option.bind (music_apart 5000 f (List.replicate f.length 0)) _) _
  refine ok_bind (apart_ok 5000 (by omega) f hlen) ?_
  rintro ⟨x, y⟩ ⟨hx, hy, hxy⟩
  simp only at hx hy hxy ⊢
  have kx := kk_of ms x h (by omega)
  have ky := kk_of ms y h (by omega)
  obtain ⟨r1, e1, l1⟩ := joined_ok _ x kx
  obtain ⟨s1, e2, l2⟩ := lower_ok 5000 (by omega) 0 0 r1.2.2.2.2.2.2.2.2.1 (by omega)
  obtain ⟨o1, e3, l3⟩ := clip_ok 5000 s1.2.2 (by omega) (by omega)
  obtain ⟨r2, e4, l4⟩ := joined_ok _ y ky
  obtain ⟨s2, e5, l5⟩ := lower_ok 5000 (by omega) 0 0 r2.2.2.2.2.2.2.2.2.1 (by omega)
  obtain ⟨o2, e6, l6⟩ := clip_ok 5000 s2.2.2 (by omega) (by omega)
  have h1 : heard (IntKind.i64.wrap (ms.tdiv 20)) x = some o1 := by unfold heard; rw [e1]; simp only [Option.bind_some, e2, e3]
  have h2 : heard (IntKind.i64.wrap (ms.tdiv 20)) y = some o2 := by unfold heard; rw [e4]; simp only [Option.bind_some, e5, e6]
  unfold joined at e1 e4
  rw [e1]
  simp only [Option.bind_some]
  rw [e2]
  simp only [Option.bind_some]
  rw [e3]
  simp only [Option.bind_some]
  rw [e4]
  simp only [Option.bind_some]
  rw [e5]
  simp only [Option.bind_some]
  rw [e6]
  simp only [Option.bind_some]
  refine ok_some ⟨by simp only; omega, fun hb => ?_⟩
  obtain ⟨rfl, rfl⟩ := hxy hb
  exact ⟨h1, h2⟩
theorem play_one (f : List Int) (ms : Int) (h : ms = 10 ∨ ms = 20) (hf : (f.length : Int) = 8 * ms) : Ok (music_Player_Play_2 5000 8000 ms 0 false false false 8000 f 80 20 20 20 160 20 40 20 0 0 (List.replicate 80 0) (List.replicate 20 0) (List.replicate 160 0) (List.replicate 40 0)) fun r => heard (IntKind.i64.wrap (ms.tdiv 20)) f = some r.2.2.2.2.2.2.2.2.2.2.2.2.2.2 := by
  have hlen : f.length ≤ 4096 := by omega
  unfold music_Player_Play_2
  rw [may_one ms h, whole_one f ms h hf]
  have kx := kk_of ms f h hf
  obtain ⟨r1, e1, l1⟩ := joined_ok _ f kx
  obtain ⟨s1, e2, l2⟩ := lower_ok 5000 (by omega) 0 0 r1.2.2.2.2.2.2.2.2.1 (by omega)
  obtain ⟨o1, e3, l3⟩ := clip_ok 5000 s1.2.2 (by omega) (by omega)
  have h1 : heard (IntKind.i64.wrap (ms.tdiv 20)) f = some o1 := by unfold heard; rw [e1]; simp only [Option.bind_some, e2, e3]
  unfold joined at e1
  show Ok (Option.bind (music_channel_join 5000 _ false f 80 20 20 20 160 20 40 20 _ _ _ _) _) _
  rw [e1]
  simp only [Option.bind_some]
  rw [e2]
  simp only [Option.bind_some]
  rw [clip_2, e3]
  simp only [Option.bind_some]
  exact ok_some h1
theorem bounded_ok (f : List Int) (h : f.length ≤ 4096) : Ok (madrigallaw21_MusicJoint_l0 5000 5000 (0, f)) fun r => r = .inr true ∨ r = .inl () ∧ ∀ i : Nat, i < f.length → f.getD i 0 ≤ 17179869184 ∧ -17179869184 ≤ f.getD i 0 := by
  refine ok_it (fun m d => 0 ≤ d.1 ∧ d.1 + m = (f.length : Int) ∧ d.2 = f ∧ ∀ i : Nat, (i : Int) < d.1 → f.getD i 0 ≤ 17179869184 ∧ -17179869184 ≤ f.getD i 0) ?_ 5000 f.length _ ⟨by simp only; omega, by simp only; omega, rfl, fun i hi => by simp only at hi; omega⟩ (by omega)
  rintro m ⟨i, x⟩ rec ⟨e1, e2, e3, e4⟩ ih
  simp only at e1 e2 e3 e4
  subst e3
  unfold madrigallaw21_MusicJoint_l0F
  refine ok_brd (fun hlt => ok_need ⟨by omega, by omega⟩ (ok_brd (fun _ => ok_some (.inl rfl)) fun b1 => ok_need ⟨by omega, by omega⟩ (ok_brd (fun _ => ok_some (.inl rfl)) fun b2 => ih (m - 1) _ (by omega) ⟨?_, ?_, rfl, ?_⟩))) fun hge => ok_some (.inr ⟨rfl, fun j hj => e4 j (by omega)⟩)
  · simp only; rw [wr (by omega) (by omega)]; omega
  · simp only; rw [wr (by omega) (by omega)]; omega
  · intro j hj
    simp only at hj
    rw [wr (by omega) (by omega)] at hj
    by_cases e : (j : Int) < i
    · exact e4 j e
    · have : j = i.toNat := by omega
      subst this
      omega
theorem core (f : List Int) (ms : Int) (h : ms = 10 ∨ ms = 20) (hf : (f.length : Int) = 8 * ms) : madrigallaw21_MusicJoint_c5 5000 (ms, f) = some true := by
  have hlen : f.length ≤ 4096 := by omega
  unfold madrigallaw21_MusicJoint_c5
  simp only [new_two, new_one, Option.bind_some, Int.toNat_natCast]
  have e0 : ∀ t : Option Bool, need (0 ≤ (f.length : Int) ∧ True ∧ 8 * (f.length : Int) ≤ 281474976710656 ∧ (f.length : Int) ≤ 9223372036854775807) t = t := fun t => by unfold need; rw [if_pos ⟨by omega, trivial, by omega, by omega⟩]
  rw [e0]
  obtain ⟨r, e1, l1, b1⟩ := play_two f ms h hf
  obtain ⟨s, e2, b2⟩ := play_one f ms h hf
  obtain ⟨o, e3, b3⟩ := bounded_ok f hlen
  rw [e1]
  simp only [Option.bind_some]
  rw [e2]
  simp only [Option.bind_some]
  rw [e3]
  simp only [Option.bind_some]
  rcases b3 with rfl | ⟨rfl, hb⟩
  · rfl
  · obtain ⟨q1, q2⟩ := b1 hb
    have q3 := b2
    rw [q1] at q2 q3
    injection q2 with q2
    injection q3 with q3
    show Option.bind (madrigallaw21_same 5000 r.2.2.2.2.2.2.2.2.2.2.2.2.2.2.2.2.2.2.2.2.2.2.2.2.2.2.2.2.1 r.2.2.2.2.2.2.2.2.2.2.2.2.2.2.2.2.2.2.2.2.2.2.2.2.2.2.2.2.2) _ = _
    rw [← q2, ← q3, same_ok 5000 (by omega) _ (by omega)]
    rfl
def Pure.MusicJoint : Prop := ∀ (ms : Int) (f : List Int), ∃ k, madrigallaw21_MusicJoint k ms f = some true
theorem pure : Pure.MusicJoint := fun ms f => ⟨5000, by
  unfold madrigallaw21_MusicJoint
  show br _ _ _ = _
  by_cases h1 : ms = 10
  · subst h1
    show br (!decide ((f.length : Int) = 80)) _ _ = _
    by_cases h2 : (f.length : Int) = 80
    · rw [decide_eq_true h2, core f 10 (.inl rfl) (by omega)]; rfl
    · rw [decide_eq_false h2]; rfl
  · rw [decide_eq_false h1]
    by_cases h3 : ms = 20
    · subst h3
      show br (!decide ((f.length : Int) = 160)) _ _ = _
      by_cases h2 : (f.length : Int) = 160
      · rw [decide_eq_true h2, core f 20 (.inr rfl) (by omega)]; rfl
      · rw [decide_eq_false h2]; rfl
    · show br (!decide (ms = 20)) _ _ = _
      rw [decide_eq_false h3]; rfl⟩
end Go.Proofs.YtnhbohcjmdfmiaaGreat
