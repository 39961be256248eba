/- Small functions of the laws. -/
import Derived.Test.YtimlnhpiddfbaaaDoorS5I
import Derived.Test.YtimlnhpiddfbaaaDoorSan05
import Derived.Test.YtimlnhpiddfbaaaDoorShB
namespace Go.Den
open Go
set_option linter.unusedSimpArgs false
set_option linter.unusedVariables false
set_option maxRecDepth 100000
set_option maxHeartbeats 1000000
@[go_sem] theorem value_Same (a b : Bool) (n m : Int) (s z : ByteArray) : Den prog 445 [.agg [.bool a, .int .i64 n, .str s], .agg [.bool b, .int .i64 m, .str z]] [] = some (.bool ((a == b) && (decide (n = m) && decide (s = z))), []) := by
  rw [Den_ofK [] pr_value_Same rfl]
  simp only [f_value_Same, go_sem]
theorem L05_num (n : Int) : Den prog 441 [.int .i64 n] [] = some (.agg [.bool false, .int .i64 n, .str ⟨#[]⟩], []) := by
  rw [Den_ofK [] pr_L05_num rfl]
  simp only [f_L05_num, go_sem]
end Go.Den
