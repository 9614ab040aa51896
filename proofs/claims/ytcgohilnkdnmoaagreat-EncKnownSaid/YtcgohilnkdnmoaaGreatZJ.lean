/- What the program is, for the row. No condition. -/
import Derived.Test.YtcgohilnkdnmoaaGreatRows
import Derived.Test.YtcgohilnkdnmoaaGreatChecked
import Derived.JoinedOf
set_option linter.unusedVariables false
set_option linter.unusedSimpArgs false
namespace Go.Proofs.YtcgohilnkdnmoaaGreat.encKnown
open Go
theorem j0 : (Rows.encKnownRow.named == Tryz.pinned.checked.prog.varsNamed 3) = true := by kernel_rfl
theorem j1 : (Rows.encKnownRow.inPlace == Tryz.pinned.checked.prog.inPlace 3) = true := by kernel_rfl
theorem j2 : (Rows.encKnownRow.unfollowed == Tryz.pinned.checked.prog.unfollowed 3) = true := by kernel_rfl
theorem j3 : (Rows.encKnownRow.recurses == Tryz.pinned.checked.prog.recurses 3) = true := by kernel_rfl
theorem j4 : laidOutB Tryz.pinned.checked.prog = true := by kernel_rfl
end Go.Proofs.YtcgohilnkdnmoaaGreat.encKnown
