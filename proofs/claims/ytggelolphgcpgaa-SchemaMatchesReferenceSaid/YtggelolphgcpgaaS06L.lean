/- Ch. 06: SchemaNumbersNeverReturn as stated. -/
import Derived.Test.YtggelolphgcpgaaS06K
import Derived.Test.YtggelolphgcpgaaSh06
namespace Go.Den
open Go Go.Proofs
set_option linter.unusedSimpArgs false
set_option linter.unusedVariables false
set_option maxRecDepth 100000
set_option maxHeartbeats 1000000
theorem row_SNN (xs : List AV) (h : Args Try.prog [22, 5] xs) : Den prog 218 xs [] = some (.bool true, []) := by
  obtain ⟨n, x, ys, rfl, h1, h⟩ := h.one
  obtain ⟨n2, x2, ys2, rfl, h2, h⟩ := h.one
  cases h.none
  obtain ⟨L, rfl, hL, hc⟩ := sh_chgs h1
  obtain ⟨i, rfl, hk⟩ := h2.int (k := .u8) Try.underlying5
  simp [Lit.wf, IntKind.min, IntKind.max, IntKind.bits, IntKind.signed] at hk
  simp only [avOf, Try.underlying22, Try.underlying5]
  exact law_Numbers L i (by omega) hc (by omega) (by omega)
end Go.Den
