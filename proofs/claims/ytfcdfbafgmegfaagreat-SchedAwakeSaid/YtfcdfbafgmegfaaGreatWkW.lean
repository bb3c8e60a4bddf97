/- Printed by wip/tools/Walk.lean out of wip/walks/W.lean: each stretch of code, with a continuation per path. -/
import Derived.Test.YtfcdfbafgmegfaaGreatFnK
import Derived.Test.YtfcdfbafgmegfaaGreatChecked
namespace Go.Hb
open Go.RowKit Go.Proofs
set_option maxRecDepth 100000
set_option linter.unusedVariables false
end Go.Hb
