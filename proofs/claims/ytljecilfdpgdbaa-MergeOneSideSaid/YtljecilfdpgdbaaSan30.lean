/- Ch. 30: the fixed examples, evaluated. -/
import Derived.Test.YtljecilfdpgdbaaTy
import Derived.Test.YtljecilfdpgdbaaFn30
import Derived.KernelRfl
namespace Go.Den
open Go
theorem sanity_N : denN prog 40 141 [] [] = some (.bool true, []) := by kernel_rfl
@[go_sem] theorem sanity : Den prog 141 [] [] = some (.bool true, []) := (Den_iff prog).2 ⟨40, sanity_N⟩
end Go.Den
