/- The fixed examples, evaluated. -/
import Derived.Test.YtggelolphgcpgaaTy
import Derived.Test.YtggelolphgcpgaaFn06
import Derived.KernelRfl
namespace Go.Den
open Go
theorem sanity_N : denN prog 60 210 [] [] = some (.bool true, []) := by kernel_rfl
@[go_sem] theorem sanity : Den prog 210 [] [] = some (.bool true, []) := (Den_iff prog).2 ⟨60, sanity_N⟩
end Go.Den
