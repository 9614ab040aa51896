/- Kept calls, together. No condition. -/
import Derived.Test.YtcgohilnkdnmoaaGreatZB
import Derived.Test.YtcgohilnkdnmoaaGreatZQc
set_option linter.unusedVariables false
set_option linter.unusedSimpArgs false
