/- Ch. 06: typed arguments. -/
import Derived.Test.YtghipgdajgeoiaaGreatDoorShA
import Derived.Test.YtghipgdajgeoiaaGreatDoorS06
namespace Go.Den
open Go Go.Proofs
set_option linter.unusedSimpArgs false
set_option linter.unusedVariables false
set_option maxRecDepth 100000
set_option maxHeartbeats 1000000
theorem sh_val {n : Nat} {xs : List AV} (h : Sh Tryz.prog n 58 xs) : ∃ v : Val, xs = [.bool v.null, .int .i64 v.n, .str v.s] ∧ v.s.size ≤ 140737488351232 ∧ -9223372036854775808 ≤ v.n ∧ v.n ≤ 9223372036854775807 := by
  obtain ⟨ps, m, rfl, hp⟩ := h.struct Tryz.underlying58
  obtain ⟨p, q, r, rfl, h1, h2, h3⟩ := hp.p3
  obtain ⟨b, rfl⟩ := h1.bool Tryz.underlying4
  obtain ⟨j, rfl, hj⟩ := Sh.int h2 Tryz.underlying2
  simp [Lit.wf, IntKind.min, IntKind.max, IntKind.bits, IntKind.signed] at hj
  obtain ⟨s, rfl, hs⟩ := Sh.str h3 Tryz.underlying9
  exact ⟨⟨b, j, s⟩, rfl, hs, hj.1, hj.2⟩
theorem sh_cell {n : Nat} {xs : List AV} (h : Sh Tryz.prog n 62 xs) : ∃ c : Cell, xs = c.cells ∧ c.v.s.size ≤ 140737488351232 ∧ -9223372036854775808 ≤ c.v.n ∧ c.v.n ≤ 9223372036854775807 := by
  obtain ⟨ps, m, rfl, hp⟩ := h.struct Tryz.underlying62
  obtain ⟨p, q, rfl, h1, h2⟩ := hp.p2
  obtain ⟨v, rfl, hs⟩ := sh_val h2
  obtain ⟨i, rfl, _⟩ := h1.int Tryz.underlying3
  exact ⟨⟨i, v⟩, rfl, hs⟩
theorem sh_vals {n : Nat} {xs : List AV} (h : Sh Tryz.prog n 25 xs) : ∃ L : List Val, xs = [.sl (L.map Val.cells)] ∧ L.length * 32 ≤ 140737488351232 ∧ ∀ v ∈ L, v.s.size ≤ 140737488351232 ∧ -9223372036854775808 ≤ v.n ∧ v.n ≤ 9223372036854775807 := by
  obtain ⟨es, k, rfl, hb, he⟩ := h.slice Tryz.underlying25
  obtain ⟨L, rfl, hL⟩ := list_typed (f := Val.cells) fun y hy => sh_val (he y hy)
  have e : Tryz.prog.bytesOf 58 = 32 := by kernel_rfl
  rw [e] at hb
  exact ⟨L, rfl, by simpa using hb, hL⟩
theorem sh_chg {n : Nat} {xs : List AV} (h : Sh Tryz.prog n 24 xs) : ∃ c : Chg, xs = c.cells ∧ COK2 c := by
  obtain ⟨ps, m, rfl, hp⟩ := h.struct Tryz.underlying24
  obtain ⟨p, q, r, s, u, v, w, z, rfl, h1, h2, h3, h4, h5, h6, h7, h8⟩ := hp.p8
  obtain ⟨i1, rfl, _⟩ := Sh.int h1 Tryz.underlying3
  obtain ⟨i2, rfl, _⟩ := Sh.int h2 Tryz.underlying3
  obtain ⟨i3, rfl, _⟩ := Sh.int h3 Tryz.underlying3
  obtain ⟨s1, rfl, hs1⟩ := Sh.str h4 Tryz.underlying9
  obtain ⟨s2, rfl, hs2⟩ := Sh.str h5 Tryz.underlying9
  obtain ⟨i4, rfl, _⟩ := Sh.int h6 Tryz.underlying3
  obtain ⟨i5, rfl, _⟩ := Sh.int h7 Tryz.underlying3
  obtain ⟨s3, rfl, _⟩ := Sh.str h8 Tryz.underlying9
  exact ⟨⟨i1, i2, i3, s1, s2, i4, i5, s3⟩, rfl, ⟨by show s1.size < _; omega, by show s2.size < _; omega⟩⟩
theorem sh_chgs {n : Nat} {xs : List AV} (h : Sh Tryz.prog n 22 xs) : ∃ L : List Chg, xs = [.sl (L.map Chg.cells)] ∧ L.length * 88 ≤ 140737488351232 ∧ ∀ c ∈ L, COK2 c := by
  obtain ⟨es, k, rfl, hb, he⟩ := h.slice Tryz.underlying22
  obtain ⟨L, rfl, hL⟩ := list_typed (f := Chg.cells) fun y hy => sh_chg (he y hy)
  have e : Tryz.prog.bytesOf 24 = 88 := by kernel_rfl
  rw [e] at hb
  exact ⟨L, rfl, by simpa using hb, hL⟩
end Go.Den
