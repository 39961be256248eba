/- Ch. 29: the fixed examples, evaluated. -/
import Derived.Test.YtjdnmifdkkohnaaTy
import Derived.Test.YtjdnmifdkkohnaaFn29
import Derived.KernelRfl
namespace Go.Den
open Go
theorem sanity_N : denN prog 20 36 [] [] = some (.bool true, []) := by kernel_rfl
@[go_sem] theorem sanity : Den prog 36 [] [] = some (.bool true, []) := (Den_iff prog).2 ⟨20, sanity_N⟩
end Go.Den
