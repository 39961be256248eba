/- The fixed examples, evaluated. -/
import Derived.Test.YtghipgdajgeoiaaGreatDoorTy
import Derived.Test.YtghipgdajgeoiaaGreatDoorFn7Z
import Derived.KernelRfl
namespace Go.Den
open Go
set_option maxRecDepth 100000
theorem sanity07_N : denN prog 100 251 [] [] = some (.bool true, []) := by kernel_rfl
@[go_sem] theorem sanity07 : Den prog 251 [] [] = some (.bool true, []) := (Den_iff prog).2 ⟨100, sanity07_N⟩
end Go.Den
