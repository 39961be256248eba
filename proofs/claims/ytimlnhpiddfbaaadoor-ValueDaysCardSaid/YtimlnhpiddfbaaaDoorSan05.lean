/- The fixed examples, evaluated. -/
import Derived.Test.YtimlnhpiddfbaaaDoorTy
import Derived.Test.YtimlnhpiddfbaaaDoorFn5D
import Derived.KernelRfl
namespace Go.Den
open Go
set_option maxRecDepth 100000
theorem sanity05_N : denN prog 100 443 [] [] = some (.bool true, []) := by kernel_rfl
theorem sanity05 : Den prog 443 [] [] = some (.bool true, []) := (Den_iff prog).2 ⟨100, sanity05_N⟩
end Go.Den
