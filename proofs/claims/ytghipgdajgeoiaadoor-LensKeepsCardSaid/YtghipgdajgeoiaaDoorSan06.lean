/- The fixed examples, evaluated. -/
import Derived.Test.YtghipgdajgeoiaaDoorTy
import Derived.Test.YtghipgdajgeoiaaDoorFn7D
import Derived.KernelRfl
namespace Go.Den
open Go
end Go.Den
