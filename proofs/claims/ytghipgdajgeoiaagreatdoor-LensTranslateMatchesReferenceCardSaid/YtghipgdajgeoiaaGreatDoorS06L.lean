
/- Ch. 06: SchemaNumbersNeverReturn as stated. -/
import Derived.Test.YtghipgdajgeoiaaGreatDoorS06K
import Derived.Test.YtghipgdajgeoiaaGreatDoorSh06
namespace Go.Den
open Go Go.Proofs
set_option linter.unusedSimpArgs false
set_option linter.unusedVariables false
set_option maxRecDepth 100000
set_option maxHeartbeats 1000000
end Go.Den
