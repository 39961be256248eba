/- The fixed examples, evaluated. -/
import Derived.Test.YtcbehobgahcdkaaTy
import Derived.Test.YtcbehobgahcdkaaFnTp
import Derived.KernelRfl
namespace Go.Den
open Go
theorem sanity_N : denN prog 40 166 [] [] = some (.bool true, []) := by kernel_rfl
@[go_sem] theorem sanity : Den prog 166 [] [] = some (.bool true, []) := (Den_iff prog).2 ⟨40, sanity_N⟩
end Go.Den
