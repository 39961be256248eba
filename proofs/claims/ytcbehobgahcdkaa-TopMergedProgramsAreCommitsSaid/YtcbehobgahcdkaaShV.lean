/- Typed arguments: values, rows, tables, events. -/
import Derived.Test.YtcbehobgahcdkaaShA
namespace Go.Den
open Go Go.Proofs
set_option linter.unusedSimpArgs false
set_option linter.unusedVariables false
set_option maxRecDepth 100000
set_option maxHeartbeats 1000000
theorem sh_val {n : Nat} {xs : List AV} (h : Sh Try.prog n 64 xs) : ∃ v : Val, xs = [.bool v.null, .int .i64 v.n, .str v.s] ∧ v.s.size ≤ 140737488351232 := by
  obtain ⟨ps, m, rfl, hp⟩ := h.struct Try.underlying64
  obtain ⟨p, q, r, rfl, h1, h2, h3⟩ := hp.p3
  obtain ⟨b, rfl⟩ := h1.bool Try.underlying4
  obtain ⟨j, rfl, _⟩ := Sh.int h2 Try.underlying2
  obtain ⟨s, rfl, hs⟩ := Sh.str h3 Try.underlying9
  exact ⟨⟨b, j, s⟩, rfl, hs⟩
theorem sh_cell {n : Nat} {xs : List AV} (h : Sh Try.prog n 66 xs) : ∃ c : Cell, xs = c.cells ∧ c.v.s.size ≤ 140737488351232 := by
  obtain ⟨ps, m, rfl, hp⟩ := h.struct Try.underlying66
  obtain ⟨p, q, rfl, h1, h2⟩ := hp.p2
  obtain ⟨v, rfl, hs⟩ := sh_val h2
  obtain ⟨i, rfl, _⟩ := h1.int Try.underlying3
  exact ⟨⟨i, v⟩, rfl, hs⟩
theorem sh_row {n : Nat} {xs : List AV} (h : Sh Try.prog n 69 xs) : ∃ L : List Cell, xs = [.sl (L.map Cell.cells)] ∧ L.length * 40 ≤ 140737488351232 := by
  obtain ⟨ps, m, rfl, hp⟩ := h.struct Try.underlying69
  obtain ⟨p, rfl, h1⟩ := hp.p1
  obtain ⟨es, k, rfl, hb, he⟩ := h1.slice Try.underlying67
  obtain ⟨L, rfl, _⟩ := list_typed fun y hy => sh_cell (he y hy)
  have e : Try.prog.bytesOf 66 = 40 := by kernel_rfl
  rw [e] at hb
  exact ⟨L, rfl, by simpa using hb⟩
theorem sh_line {n : Nat} {xs : List AV} (h : Sh Try.prog n 71 xs) : ∃ l : Line, xs = l.cells ∧ l.r.length * 40 ≤ 140737488351232 := by
  obtain ⟨ps, m, rfl, hp⟩ := h.struct Try.underlying71
  obtain ⟨p, q, rfl, h1, h2⟩ := hp.p2
  obtain ⟨i, rfl, _⟩ := h1.int Try.underlying2
  obtain ⟨L, rfl, hL⟩ := sh_row h2
  exact ⟨⟨i, L⟩, rfl, hL⟩
theorem sh_event {n : Nat} {xs : List AV} (h : Sh Try.prog n 75 xs) : ∃ e : Event, xs = e.cells ∧ e.l.r.length * 40 ≤ 140737488351232 := by
  obtain ⟨ps, m, rfl, hp⟩ := h.struct Try.underlying75
  obtain ⟨p, q, rfl, h1, h2⟩ := hp.p2
  obtain ⟨i, rfl, _⟩ := h1.int Try.underlying3
  obtain ⟨l, rfl, hl⟩ := sh_line h2
  exact ⟨⟨i, l⟩, rfl, hl⟩
theorem sh_lines {n : Nat} {xs : List AV} (h : Sh Try.prog n 38 xs) : ∃ L : List Line, xs = [.sl (L.map Line.cells)] ∧ L.length * 32 ≤ 140737488351232 ∧ ∀ l ∈ L, l.r.length * 40 ≤ 140737488351232 := by
  obtain ⟨es, k, rfl, hb, he⟩ := h.slice Try.underlying38
  obtain ⟨L, rfl, hL⟩ := list_typed fun y hy => sh_line (he y hy)
  have e : Try.prog.bytesOf 71 = 32 := by kernel_rfl
  rw [e] at hb
  exact ⟨L, rfl, by simpa using hb, hL⟩
theorem sh_events {n : Nat} {xs : List AV} (h : Sh Try.prog n 50 xs) : ∃ L : List Event, xs = [.sl (L.map Event.cells)] ∧ L.length * 40 ≤ 140737488351232 ∧ ∀ e ∈ L, e.l.r.length * 40 ≤ 140737488351232 := by
  obtain ⟨es, k, rfl, hb, he⟩ := h.slice Try.underlying50
  obtain ⟨L, rfl, hL⟩ := list_typed fun y hy => sh_event (he y hy)
  have e : Try.prog.bytesOf 75 = 40 := by kernel_rfl
  rw [e] at hb
  exact ⟨L, rfl, by simpa using hb, hL⟩
theorem sh_table {n : Nat} {xs : List AV} (h : Sh Try.prog n 40 xs) : ∃ t : Table, xs = t.cells ∧ t.l.length * 32 ≤ 140737488351232 ∧ ∀ l ∈ t.l, l.r.length * 40 ≤ 140737488351232 := by
  obtain ⟨ps, m, rfl, hp⟩ := h.struct Try.underlying40
  obtain ⟨p, q, rfl, h1, h2⟩ := hp.p2
  obtain ⟨i, rfl, _⟩ := h1.int Try.underlying2
  obtain ⟨L, rfl, hL⟩ := sh_lines h2
  exact ⟨⟨i, L⟩, rfl, hL⟩
end Go.Den
