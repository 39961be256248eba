/- Typed arguments: predicates, changes, raw programs. -/
import Derived.Test.YtcbehobgahcdkaaShV
import Derived.Test.YtcbehobgahcdkaaS27
namespace Go.Den
open Go Go.Proofs
set_option linter.unusedSimpArgs false
set_option linter.unusedVariables false
set_option maxRecDepth 100000
set_option maxHeartbeats 1000000
theorem sh_vals {n : Nat} {xs : List AV} (h : Sh Try.prog n 25 xs) : ∃ L : List Val, xs = [.sl (L.map Val.cells)] ∧ L.length * 32 ≤ 140737488351232 ∧ ∀ v ∈ L, v.s.size ≤ 140737488351232 := by
  obtain ⟨es, k, rfl, hb, he⟩ := h.slice Try.underlying25
  obtain ⟨L, rfl, hL⟩ := list_typed (f := Val.cells) fun y hy => sh_val (he y hy)
  have e : Try.prog.bytesOf 64 = 32 := by kernel_rfl
  rw [e] at hb
  exact ⟨L, rfl, by simpa using hb, hL⟩
theorem sh_valss {n : Nat} {xs : List AV} (h : Sh Try.prog n 23 xs) : ∃ L : List (List Val), xs = [.sl (L.map vals)] ∧ L.length * 24 ≤ 140737488351232 := by
  obtain ⟨es, k, rfl, hb, he⟩ := h.slice Try.underlying23
  obtain ⟨L, rfl, _⟩ := list_typed (f := vals) (P := fun _ => True) fun y hy => by
    obtain ⟨L, hL, _⟩ := sh_vals (he y hy)
    exact ⟨L, hL, trivial⟩
  have e : Try.prog.bytesOf 25 = 24 := by kernel_rfl
  rw [e] at hb
  exact ⟨L, rfl, by simpa using hb⟩
theorem sh_pred : ∀ (n : Nat) {xs : List AV}, Sh Try.prog n 28 xs → ∃ p : Prd, xs = p.cells ∧ POK p
  | 0, xs, h => h.elim
  | 1, xs, h => by
    obtain ⟨ps, rfl, hp⟩ := Sh.struct2 h Try.underlying28
    obtain ⟨p, q, r, s, u, v, w, rfl, h1, h2, h3, h4, h5, h6, h7⟩ := hp.p7
    exact h1.elim
  | n + 2, xs, h => by
    obtain ⟨ps, rfl, hp⟩ := Sh.struct2 h Try.underlying28
    obtain ⟨p, q, r, s, u, v, w, rfl, h1, h2, h3, h4, h5, h6, h7⟩ := hp.p7
    obtain ⟨i1, rfl, _⟩ := Sh.int h1 Try.underlying3
    obtain ⟨i2, rfl, _⟩ := Sh.int h2 Try.underlying3
    obtain ⟨i3, rfl, _⟩ := Sh.int h3 Try.underlying2
    obtain ⟨i4, rfl, _⟩ := Sh.int h4 Try.underlying2
    obtain ⟨L, rfl, hb, hL⟩ := sh_vals h5
    obtain ⟨t, rfl, ht⟩ := Sh.str h6 Try.underlying9
    obtain ⟨es, rfl, hb2, he⟩ := Sh.slice2 h7 Try.underlying26
    obtain ⟨K, rfl, hK⟩ := list_typed (f := Prd.cells) fun y hy => sh_pred n (he y hy)
    have e : Try.prog.bytesOf 28 = 96 := by kernel_rfl
    rw [e, List.length_map] at hb2
    refine ⟨.mk i1 i2 i3 i4 L t K, by rw [Prd.cells_mk]; rfl, .mk _ _ _ _ _ _ _ (by omega) (by omega) hK (fun v hv => by have := hL v hv; omega) (by omega)⟩
theorem sh_guard {n : Nat} {xs : List AV} (h : Sh Try.prog n 129 xs) : ∃ g : Grd, xs = g.cells ∧ POK g.w := by
  obtain ⟨ps, m, rfl, hp⟩ := h.struct Try.underlying129
  obtain ⟨p, q, r, s, rfl, h1, h2, h3, h4⟩ := hp.p4
  obtain ⟨w, rfl, hw⟩ := sh_pred _ h1
  obtain ⟨i2, rfl, _⟩ := Sh.int h2 Try.underlying3
  obtain ⟨i3, rfl, _⟩ := Sh.int h3 Try.underlying2
  obtain ⟨i4, rfl, _⟩ := Sh.int h4 Try.underlying2
  exact ⟨⟨w, i2, i3, i4⟩, by simp [Grd.cells], hw⟩
theorem sh_chg {n : Nat} {xs : List AV} (h : Sh Try.prog n 121 xs) : ∃ c : Chg, xs = c.cells ∧ COK2 c := by
  obtain ⟨ps, m, rfl, hp⟩ := h.struct Try.underlying121
  obtain ⟨p, q, r, s, u, v, w, z, rfl, h1, h2, h3, h4, h5, h6, h7, h8⟩ := hp.p8
  obtain ⟨i1, rfl, _⟩ := Sh.int h1 Try.underlying3
  obtain ⟨i2, rfl, _⟩ := Sh.int h2 Try.underlying3
  obtain ⟨i3, rfl, _⟩ := Sh.int h3 Try.underlying3
  obtain ⟨s1, rfl, hs1⟩ := Sh.str h4 Try.underlying9
  obtain ⟨s2, rfl, hs2⟩ := Sh.str h5 Try.underlying9
  obtain ⟨i4, rfl, _⟩ := Sh.int h6 Try.underlying3
  obtain ⟨i5, rfl, _⟩ := Sh.int h7 Try.underlying3
  obtain ⟨s3, rfl, _⟩ := Sh.str h8 Try.underlying9
  exact ⟨⟨i1, i2, i3, s1, s2, i4, i5, s3⟩, rfl, ⟨by show s1.size < _; omega, by show s2.size < _; omega⟩⟩
theorem sh_chgs {n : Nat} {xs : List AV} (h : Sh Try.prog n 22 xs) : ∃ L : List Chg, xs = [.sl (L.map Chg.cells)] ∧ L.length * 88 ≤ 140737488351232 ∧ ∀ c ∈ L, COK2 c := by
  obtain ⟨es, k, rfl, hb, he⟩ := h.slice Try.underlying22
  obtain ⟨L, rfl, hL⟩ := list_typed (f := Chg.cells) fun y hy => sh_chg (he y hy)
  have e : Try.prog.bytesOf 121 = 88 := by kernel_rfl
  rw [e] at hb
  exact ⟨L, rfl, by simpa using hb, hL⟩
theorem sh_raw {n : Nat} {xs : List AV} (h : Sh Try.prog n 31 xs) : ∃ r : Raw, xs = r.cells ∧ POK r.read ∧ POK r.rem ∧ r.add.length * 24 ≤ 140737488351232 ∧ r.gs.length * 120 ≤ 140737488351232 ∧ ∀ g ∈ r.gs, POK g.w := by
  obtain ⟨ps, m, rfl, hp⟩ := h.struct Try.underlying31
  obtain ⟨p, q, r, s, rfl, h1, h2, h3, h4⟩ := hp.p4
  obtain ⟨w, rfl, hw⟩ := sh_pred _ h1
  obtain ⟨w2, rfl, hw2⟩ := sh_pred _ h2
  obtain ⟨L, rfl, hb⟩ := sh_valss h3
  obtain ⟨es, k, rfl, hb2, he⟩ := h4.slice Try.underlying29
  obtain ⟨G, rfl, hG⟩ := list_typed (f := Grd.cells) fun y hy => sh_guard (he y hy)
  have e : Try.prog.bytesOf 129 = 120 := by kernel_rfl
  rw [e, List.length_map] at hb2
  exact ⟨⟨w, w2, L, G⟩, by simp [Raw.cells], hw, hw2, hb, hb2, hG⟩
end Go.Den
