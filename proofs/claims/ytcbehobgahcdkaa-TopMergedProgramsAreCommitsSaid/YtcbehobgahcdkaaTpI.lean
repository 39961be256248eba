/- Top: typed arguments; TopFeedsFollowPrograms. -/
import Derived.Test.YtcbehobgahcdkaaTpH
namespace Go.Den
open Go Go.Proofs
set_option linter.unusedSimpArgs false
set_option linter.unusedVariables false
set_option maxRecDepth 100000
set_option maxHeartbeats 1000000
theorem Parts.p5 {R : TypeId → List AV → Prop} {a b c d e : TypeId} {ps : List (List AV)} (h : Parts R [a, b, c, d, e] ps) : ∃ p q r s u, ps = [p, q, r, s, u] ∧ R a p ∧ R b q ∧ R c r ∧ R d s ∧ R e u := by
  obtain ⟨p, qs, rfl, h1, h⟩ := h.one
  obtain ⟨q, r, s, u, rfl, h2, h3, h4, h5⟩ := h.p4
  exact ⟨p, q, r, s, u, rfl, h1, h2, h3, h4, h5⟩
theorem sh_cmt {n : Nat} {xs : List AV} (h : Sh Try.prog n 33 xs) : ∃ x : Cmt, xs = x.cells ∧ CmtOk x := by
  obtain ⟨ps, m, rfl, hp⟩ := h.struct Try.underlying33
  obtain ⟨p, q, r, s, u, rfl, h1, h2, h3, h4, h5⟩ := hp.p5
  obtain ⟨L, rfl, hL, hc⟩ := sh_chgs h1
  obtain ⟨V, rfl, hV⟩ := sh_valss h2
  obtain ⟨A, rfl, hA, oA⟩ := sh_raws h3
  obtain ⟨P, rfl, oP⟩ := sh_rawok h4
  obtain ⟨Q, rfl, oQ⟩ := sh_rawok h5
  refine ⟨⟨L, V, A, P, Q⟩, by simp [Cmt.cells], hc, ?_, ?_, ?_, oA, oP, oQ⟩ <;> simp only [] <;> omega
theorem row_TFP (xs : List AV) (h : Args Try.prog [33] xs) : Den prog 170 xs [] = some (.bool true, []) := by
  obtain ⟨n, x, ys, rfl, h1, h⟩ := h.one
  cases h.none
  obtain ⟨c, rfl, hc⟩ := sh_cmt h1
  simp only [avOf, Try.underlying33]
  exact law_Feeds c hc
end Go.Den
