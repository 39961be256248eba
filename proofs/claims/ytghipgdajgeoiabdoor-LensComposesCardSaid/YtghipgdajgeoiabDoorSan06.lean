/- The fixed examples, evaluated. -/
import Derived.Test.YtghipgdajgeoiabDoorTy
import Derived.Test.YtghipgdajgeoiabDoorFn7B
import Derived.KernelRfl
namespace Go.Den
open Go
end Go.Den
