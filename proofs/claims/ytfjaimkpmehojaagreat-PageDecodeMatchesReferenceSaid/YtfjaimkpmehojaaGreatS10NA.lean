/- Ch. 10: equal pages. -/
import Derived.Test.YtfjaimkpmehojaaGreatS10C
import Derived.Test.YtfjaimkpmehojaaGreatS5E
namespace Go.Den
open Go
set_option linter.unusedSimpArgs false
set_option linter.unusedVariables false
set_option maxRecDepth 100000
set_option maxHeartbeats 1000000
theorem R10_Same (p q : Pg) (hp : p.b.length < 10000000000) (hq : q.b.length < 10000000000) : Den prog 483 [.agg p.cells, .agg q.cells] [] = some (.bool (samP p q), []) := by
  rw [Den_ofK [] pr_R10_Same rfl]
  have h := R01_Same p.b q.b hp hq
  unfold samP Pg.cells
  cases d1 : decide (p.kind = q.kind) <;> cases d2 : decide (p.rows = q.rows) <;> cases d3 : decide (p.b = q.b) <;> rw [d3] at h <;>
  simp only [f_R10_Same, d1, d2, h, Bool.true_and, Bool.false_and, Bool.and_false, Bool.and_true, go_sem]
theorem samP_iff {p q : Pg} : samP p q = true ↔ p = q := by
  obtain ⟨a, b, c⟩ := p
  obtain ⟨d, e, f⟩ := q
  unfold samP
  simp [Pg.mk.injEq]
end Go.Den
