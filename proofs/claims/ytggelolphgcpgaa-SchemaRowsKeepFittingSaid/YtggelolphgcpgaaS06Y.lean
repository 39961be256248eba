/- Ch. 06: the rows of SchemaFitsMatchesReference and SchemaRowsKeepFitting. -/
import Derived.Test.YtggelolphgcpgaaS06W
namespace Go.Den
open Go Go.Proofs
set_option linter.unusedSimpArgs false
set_option linter.unusedVariables false
set_option maxRecDepth 100000
set_option maxHeartbeats 1000000
theorem row_SFM (xs : List AV) (h : Args Try.prog [22, 46, 50] xs) : Den prog 220 xs [] = some (.bool true, []) := by
  obtain ⟨n, x, ys, rfl, h1, h⟩ := h.one
  obtain ⟨n2, x2, ys2, rfl, h2, h⟩ := h.one
  obtain ⟨n3, x3, ys3, rfl, h3, h⟩ := h.one
  cases h.none
  obtain ⟨L, rfl, hL, hc⟩ := sh_chgs h1
  obtain ⟨R, rfl, hR, hr⟩ := sh_vals h2
  obtain ⟨c, rfl, hc1, hc2⟩ := sh_cell h3
  simp only [avOf, Try.underlying22, Try.underlying46, Try.underlying50]
  exact law_Fits L R c (by omega) hc (fun v hv => (hr v hv).2) hc2
theorem row_SRK (xs : List AV) (h : Args Try.prog [22, 46, 22] xs) : Den prog 221 xs [] = some (.bool true, []) := by
  obtain ⟨n, x, ys, rfl, h1, h⟩ := h.one
  obtain ⟨n2, x2, ys2, rfl, h2, h⟩ := h.one
  obtain ⟨n3, x3, ys3, rfl, h3, h⟩ := h.one
  cases h.none
  obtain ⟨L, rfl, hL, hc⟩ := sh_chgs h1
  obtain ⟨R, rfl, hR, hr⟩ := sh_vals h2
  obtain ⟨M, rfl, hM, hm⟩ := sh_chgs h3
  simp only [avOf, Try.underlying22, Try.underlying46]
  exact law_Keep L R M (by omega) (by omega) hc hm (fun v hv => (hr v hv).2)
end Go.Den
