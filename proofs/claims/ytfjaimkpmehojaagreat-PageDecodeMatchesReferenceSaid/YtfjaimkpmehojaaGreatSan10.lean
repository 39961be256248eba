/- The fixed examples, evaluated. -/
import Derived.Test.YtfjaimkpmehojaaGreatTy
import Derived.Test.YtfjaimkpmehojaaGreatFn10W
import Derived.KernelRfl
namespace Go.Den
open Go
set_option maxRecDepth 100000
theorem sanity10_N : denN prog 100 491 [] [] = some (.bool true, []) := by kernel_rfl
theorem sanity10 : Den prog 491 [] [] = some (.bool true, []) := (Den_iff prog).2 ⟨100, sanity10_N⟩
attribute [go_sem] sanity10
end Go.Den
