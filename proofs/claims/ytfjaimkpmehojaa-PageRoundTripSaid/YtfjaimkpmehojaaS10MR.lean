/- Ch. 10: the row of PageRoundTrip. -/
import Derived.Test.YtfjaimkpmehojaaS10M
import Derived.Test.YtfjaimkpmehojaaSh10
namespace Go.Den
open Go Go.Proofs
set_option linter.unusedSimpArgs false
set_option linter.unusedVariables false
set_option maxRecDepth 100000
set_option maxHeartbeats 1000000
theorem row_RT (xs : List AV) (h : Args Try.prog [24] xs) : Den prog 502 xs [] = some (.bool true, []) := by
  obtain ⟨n, x, ys, rfl, h1, h⟩ := h.one
  cases h.none
  obtain ⟨L, m, rfl, hL, hi, h0, h2⟩ := sh_col h1
  simp only [avOf, Try.underlying24]
  exact L10_RoundTrip L m hL hi h0 h2
end Go.Den
