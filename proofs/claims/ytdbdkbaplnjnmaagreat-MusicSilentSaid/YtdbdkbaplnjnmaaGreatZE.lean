/- Plain laws of the Lean functions, or the contract of a function of the library. Conditions: those of each statement. -/
import Derived.Test.YtdbdkbaplnjnmaaGreatBb5
import Derived.Test.YtdbdkbaplnjnmaaGreatZA
import Derived.Test.YtdbdkbaplnjnmaaGreatRows
set_option linter.unusedVariables false
set_option linter.unusedSimpArgs false
namespace Go.Proofs.YtdbdkbaplnjnmaaGreat
open Go Go.Ab Go.Proofs
def awake_c : Option Bool := some true
noncomputable def awake_c.fn : AbFn Tryz.prog := ⟨⟨5, [], [], fun X args K q k => match args with | [] => awake_c.bind fun r => k (.bool r) [] | _ => none⟩, by
  intro X args K q k r h
  cases args with
  | nil => exact ⟨.bool true, [], h, hAwake_ok [] (.bool true) rfl K q⟩
  | cons => cases h⟩
-- madrigal/madrigallaw21.MusicSilent
def madrigallaw21_MusicSilent (k : Nat) (s_0 : Int) (s_1 : Int) (s_2 : Int) (s_3 : Int) (sudden : Bool) (joint : Bool) : Option (Bool) :=
  (awake_c).bind fun t15 =>
  br (!t15) (
    some false)
  (
    (music_Good k s_0 s_1 s_2 s_3).bind fun t18 =>
    br (!t18) (
      some true)
    (
      (madrigallaw21_small s_0 s_1 s_2 s_3).bind fun t22 =>
      br (!t22) (
        some true)
      (
        none)))
noncomputable def madrigallaw21_MusicSilent.fn (k : Nat) : AbFn Tryz.prog := mkFn hm0 [awake_c.fn, music_Good.fn k, madrigallaw21_small.fn] [.agg [.int .i64, .int .i64, .int .i64, .int .i64], .bool, .bool] [] [] [] [] 3 Tryz.f3 (1, ⟨1, 0, [(0, .bool)], []⟩) [] (fun d => match d with | (s_0, s_1, s_2, s_3, sudden, joint) => madrigallaw21_MusicSilent k s_0 s_1 s_2 s_3 sudden joint) Tryz.func3 (by kernel_rfl) (by kernel_rfl) (by intro d; kernel_rfl)

end Go.Proofs.YtdbdkbaplnjnmaaGreat
