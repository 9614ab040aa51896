/- The plain law AllocKnown over the Lean functions. Condition: the values are ones that Go can hold. -/
import Derived.Test.YtdimjdlomgpbgaaF
set_option linter.unusedVariables false
set_option linter.unusedSimpArgs false
namespace Go.Proofs.Ytdimjdlomgpbgaa.Pure
open Go Go.Ab
theorem AllocKnown : ∃ k, madrigallaw18_AllocKnown k = some true := ⟨100, by kernel_rfl⟩
end Go.Proofs.Ytdimjdlomgpbgaa.Pure
