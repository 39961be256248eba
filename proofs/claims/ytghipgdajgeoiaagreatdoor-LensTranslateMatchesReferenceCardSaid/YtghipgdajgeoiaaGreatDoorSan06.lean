/- The fixed examples, evaluated. -/
import Derived.Test.YtghipgdajgeoiaaGreatDoorTy
import Derived.Test.YtghipgdajgeoiaaGreatDoorFn7Z
import Derived.KernelRfl
namespace Go.Den
open Go
end Go.Den
