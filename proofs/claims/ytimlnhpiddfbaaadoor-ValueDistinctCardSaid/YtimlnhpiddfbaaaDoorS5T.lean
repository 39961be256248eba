
/- What the reference shows; what both parse. -/
import Derived.Test.YtimlnhpiddfbaaaDoorS5S
namespace Go.Den
open Go
set_option linter.unusedSimpArgs false
set_option linter.unusedVariables false
set_option maxRecDepth 100000
set_option maxHeartbeats 1000000
end Go.Den
