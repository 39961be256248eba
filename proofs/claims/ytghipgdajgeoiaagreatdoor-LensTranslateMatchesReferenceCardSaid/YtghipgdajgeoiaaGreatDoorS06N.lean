
/- The reference's Valid and Same. -/
import Derived.Test.YtghipgdajgeoiaaGreatDoorS06M
namespace Go.Den
open Go
set_option linter.unusedSimpArgs false
set_option linter.unusedVariables false
set_option maxRecDepth 100000
set_option maxHeartbeats 1000000
end Go.Den
