/- Ch. 10: typed arguments. -/
import Derived.Test.YtfjaimkpmehojaaGreatShB
import Derived.Test.YtfjaimkpmehojaaGreatS5B
import Derived.Test.YtfjaimkpmehojaaGreatS10C
namespace Go.Den
open Go Go.Proofs
set_option linter.unusedSimpArgs false
set_option linter.unusedVariables false
set_option maxRecDepth 100000
set_option maxHeartbeats 1000000
theorem sh_val10 {n : Nat} {xs : List AV} (h : Sh Tryz.prog n 43 xs) : ∃ v : Val, xs = v.cells ∧ (InB v ∧ v.s.size ≤ 140737488351232) := by
  obtain ⟨b, j, s, rfl, hj, hs⟩ := sh_valb h
  exact ⟨⟨b, j, s⟩, rfl, hj, hs⟩
theorem sh_vals10 {n : Nat} {xs : List AV} (h : Sh Tryz.prog n 22 xs) : ∃ L : List Val, xs = [.sl (L.map Val.cells)] ∧ L.length < 1000000000000000 ∧ ∀ v ∈ L, InB v ∧ v.s.size ≤ 140737488351232 := by
  obtain ⟨es, k, rfl, hb, he⟩ := h.slice Tryz.underlying22
  obtain ⟨L, rfl, hL⟩ := list_typed fun y hy => sh_val10 (he y hy)
  have e : Tryz.prog.bytesOf 43 = 32 := by kernel_rfl
  rw [e, List.length_map] at hb
  exact ⟨L, rfl, by omega, hL⟩
theorem sh_col {n : Nat} {xs : List AV} (h : Sh Tryz.prog n 24 xs) : ∃ (L : List Val) (m : Int), xs = [.sl (L.map Val.cells), .int .u8 m] ∧ L.length < 1000000000000000 ∧ (∀ v ∈ L, InB v) ∧ 0 ≤ m ∧ m < 256 := by
  obtain ⟨ps, k, rfl, hp⟩ := h.struct Tryz.underlying24
  obtain ⟨p, q, rfl, h1, h2⟩ := hp.p2
  obtain ⟨L, rfl, hL, hv⟩ := sh_vals10 h1
  obtain ⟨m, rfl, hm⟩ := sh_u8 h2
  exact ⟨L, m, rfl, hL, fun v hv' => (hv v hv').1, hm.1, by omega⟩
theorem sh_page {n : Nat} {xs : List AV} (h : Sh Tryz.prog n 29 xs) : ∃ p : Pg, xs = p.cells ∧ (-9223372036854775808 ≤ p.kind ∧ p.kind ≤ 9223372036854775807) ∧ (-9223372036854775808 ≤ p.rows ∧ p.rows ≤ 9223372036854775807) ∧ p.b.length ≤ 140737488351232 := by
  obtain ⟨ps, k, rfl, hp⟩ := h.struct Tryz.underlying29
  obtain ⟨p, q, r, rfl, h1, h2, h3⟩ := hp.p3
  obtain ⟨i, rfl, hi⟩ := sh_int h1
  obtain ⟨j, rfl, hj⟩ := sh_int h2
  obtain ⟨b, rfl, hb⟩ := sh_bytes h3
  exact ⟨⟨i, j, b⟩, rfl, hi, hj, hb⟩
end Go.Den
