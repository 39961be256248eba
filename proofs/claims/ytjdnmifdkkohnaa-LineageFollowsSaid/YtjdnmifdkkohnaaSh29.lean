/- Ch. 29: what the arguments' readings are, typed. -/
import Derived.Test.YtjdnmifdkkohnaaRows
import Derived.Test.YtjdnmifdkkohnaaDenZ
import Derived.Test.YtjdnmifdkkohnaaTy
namespace Go.Den
open Go Go.Proofs
set_option linter.unusedSimpArgs false
set_option linter.unusedVariables false
set_option maxRecDepth 100000
set_option maxHeartbeats 1000000
theorem Parts.one {R : TypeId → List AV → Prop} {t : TypeId} {ts : List TypeId} {ps : List (List AV)} (h : Parts R (t :: ts) ps) : ∃ p qs, ps = p :: qs ∧ R t p ∧ Parts R ts qs := by
  cases h with
  | cons h r => exact ⟨_, _, rfl, h, r⟩
theorem Parts.none {R : TypeId → List AV → Prop} {ps : List (List AV)} (h : Parts R [] ps) : ps = [] := by
  cases h; rfl
theorem Parts.p1 {R : TypeId → List AV → Prop} {a : TypeId} {ps : List (List AV)} (h : Parts R [a] ps) : ∃ p, ps = [p] ∧ R a p := by
  obtain ⟨p, qs, rfl, h1, h⟩ := h.one
  cases h.none
  exact ⟨_, rfl, h1⟩
theorem Parts.p2 {R : TypeId → List AV → Prop} {a b : TypeId} {ps : List (List AV)} (h : Parts R [a, b] ps) : ∃ p q, ps = [p, q] ∧ R a p ∧ R b q := by
  obtain ⟨p, qs, rfl, h1, h⟩ := h.one
  obtain ⟨q, rfl, h2⟩ := h.p1
  exact ⟨_, _, rfl, h1, h2⟩
theorem Parts.p3 {R : TypeId → List AV → Prop} {a b c : TypeId} {ps : List (List AV)} (h : Parts R [a, b, c] ps) : ∃ p q r, ps = [p, q, r] ∧ R a p ∧ R b q ∧ R c r := by
  obtain ⟨p, qs, rfl, h1, h⟩ := h.one
  obtain ⟨q, r, rfl, h2, h3⟩ := h.p2
  exact ⟨_, _, _, rfl, h1, h2, h3⟩
theorem Parts.p4 {R : TypeId → List AV → Prop} {a b c d : TypeId} {ps : List (List AV)} (h : Parts R [a, b, c, d] ps) : ∃ p q r s, ps = [p, q, r, s] ∧ R a p ∧ R b q ∧ R c r ∧ R d s := by
  obtain ⟨p, qs, rfl, h1, h⟩ := h.one
  obtain ⟨q, r, s, rfl, h2, h3, h4⟩ := h.p3
  exact ⟨_, _, _, _, rfl, h1, h2, h3, h4⟩
theorem list_typed {α : Type} {f : α → List AV} {P : α → Prop} : ∀ {es : List (List AV)}, (∀ y ∈ es, ∃ c, y = f c ∧ P c) → ∃ L : List α, es = L.map f ∧ ∀ c ∈ L, P c
  | [], _ => ⟨[], rfl, by simp⟩
  | e :: r, h => by
    obtain ⟨c, hc, hp⟩ := h e (by simp)
    obtain ⟨L, hL, hq⟩ := list_typed (es := r) fun y hy => h y (by simp [hy])
    refine ⟨c :: L, by simp [hc, hL], ?_⟩
    intro x hx
    simp at hx
    rcases hx with rfl | hx
    · exact hp
    · exact hq x hx
section
variable {P : Program} {n : Nat} {t : TypeId} {xs : List AV}
theorem Sh.int (h : Sh P n t xs) {k : IntKind} (hu : P.underlying t = some (.int k)) : ∃ i, xs = [.int k i] ∧ (Lit.int k i).wf = true := by
  cases n with
  | zero => exact h.elim
  | succ n => simp only [Sh, hu] at h; exact h
theorem Sh.bool (h : Sh P n t xs) (hu : P.underlying t = some .bool) : ∃ b, xs = [.bool b] := by
  cases n with
  | zero => exact h.elim
  | succ n => simp only [Sh, hu] at h; exact h
theorem Sh.str (h : Sh P n t xs) (hu : P.underlying t = some .string) : ∃ s : ByteArray, xs = [.str s] ∧ s.size ≤ 140737488351232 := by
  cases n with
  | zero => exact h.elim
  | succ n => simp only [Sh, hu] at h; exact h
theorem Sh.slice (h : Sh P n t xs) {e : TypeId} (hu : P.underlying t = some (.slice e)) : ∃ es m, xs = [.sl es] ∧ es.length * P.bytesOf e ≤ 140737488351232 ∧ ∀ y ∈ es, Sh P m e y := by
  cases n with
  | zero => exact h.elim
  | succ n => simp only [Sh, hu] at h; obtain ⟨es, h1, h2, h3⟩ := h; exact ⟨es, n, h1, h2, h3⟩
theorem Sh.struct (h : Sh P n t xs) {fs : Array Field} (hu : P.underlying t = some (.struct fs)) : ∃ parts m, xs = parts.flatten ∧ Parts (Sh P m) (fs.toList.map (·.type)) parts := by
  cases n with
  | zero => exact h.elim
  | succ n => simp only [Sh, hu] at h; obtain ⟨ps, h1, h2⟩ := h; exact ⟨ps, n, h1, h2⟩
theorem Sh.array (h : Sh P n t xs) {k : Nat} {e : TypeId} (hu : P.underlying t = some (.array k e)) : ∃ (parts : List (List AV)) (m : Nat), parts.length = k ∧ xs = parts.flatten ∧ ∀ y ∈ parts, Sh P m e y := by
  cases n with
  | zero => exact h.elim
  | succ n => simp only [Sh, hu] at h; obtain ⟨ps, h1, h2, h3⟩ := h; exact ⟨ps, n, h1, h2, h3⟩
end
theorem sh_val {n : Nat} {xs : List AV} (h : Sh Try.prog n 115 xs) : ∃ v : Val, xs = [.bool v.null, .int .i64 v.n, .str v.s] ∧ v.s.size ≤ 140737488351232 := by
  obtain ⟨ps, m, rfl, hp⟩ := h.struct Try.underlying115
  obtain ⟨p, q, r, rfl, h1, h2, h3⟩ := hp.p3
  obtain ⟨b, rfl⟩ := h1.bool Try.underlying4
  obtain ⟨j, rfl, _⟩ := Sh.int h2 Try.underlying2
  obtain ⟨s, rfl, hs⟩ := Sh.str h3 Try.underlying9
  exact ⟨⟨b, j, s⟩, rfl, hs⟩
theorem sh_cell {n : Nat} {xs : List AV} (h : Sh Try.prog n 117 xs) : ∃ c : Cell, xs = c.cells ∧ c.v.s.size ≤ 140737488351232 := by
  obtain ⟨ps, m, rfl, hp⟩ := h.struct Try.underlying117
  obtain ⟨p, q, rfl, h1, h2⟩ := hp.p2
  obtain ⟨v, rfl, hs⟩ := sh_val h2
  obtain ⟨i, rfl, _⟩ := h1.int Try.underlying3
  exact ⟨⟨i, v⟩, rfl, hs⟩
theorem sh_row {n : Nat} {xs : List AV} (h : Sh Try.prog n 49 xs) : ∃ L : List Cell, xs = [.sl (L.map Cell.cells)] ∧ L.length * 40 ≤ 140737488351232 := by
  obtain ⟨ps, m, rfl, hp⟩ := h.struct Try.underlying49
  obtain ⟨p, rfl, h1⟩ := hp.p1
  obtain ⟨es, k, rfl, hb, he⟩ := h1.slice Try.underlying47
  obtain ⟨L, rfl, _⟩ := list_typed fun y hy => sh_cell (he y hy)
  have e : Try.prog.bytesOf 117 = 40 := by kernel_rfl
  rw [e] at hb
  exact ⟨L, rfl, by simpa using hb⟩
theorem sh_line {n : Nat} {xs : List AV} (h : Sh Try.prog n 53 xs) : ∃ l : Line, xs = l.cells ∧ l.r.length * 40 ≤ 140737488351232 := by
  obtain ⟨ps, m, rfl, hp⟩ := h.struct Try.underlying53
  obtain ⟨p, q, rfl, h1, h2⟩ := hp.p2
  obtain ⟨i, rfl, _⟩ := h1.int Try.underlying2
  obtain ⟨L, rfl, hL⟩ := sh_row h2
  exact ⟨⟨i, L⟩, rfl, hL⟩
theorem sh_event {n : Nat} {xs : List AV} (h : Sh Try.prog n 55 xs) : ∃ e : Event, xs = e.cells ∧ e.l.r.length * 40 ≤ 140737488351232 := by
  obtain ⟨ps, m, rfl, hp⟩ := h.struct Try.underlying55
  obtain ⟨p, q, rfl, h1, h2⟩ := hp.p2
  obtain ⟨i, rfl, _⟩ := h1.int Try.underlying3
  obtain ⟨l, rfl, hl⟩ := sh_line h2
  exact ⟨⟨i, l⟩, rfl, hl⟩
theorem sh_lines {n : Nat} {xs : List AV} (h : Sh Try.prog n 22 xs) : ∃ L : List Line, xs = [.sl (L.map Line.cells)] ∧ L.length * 32 ≤ 140737488351232 ∧ ∀ l ∈ L, l.r.length * 40 ≤ 140737488351232 := by
  obtain ⟨es, k, rfl, hb, he⟩ := h.slice Try.underlying22
  obtain ⟨L, rfl, hL⟩ := list_typed fun y hy => sh_line (he y hy)
  have e : Try.prog.bytesOf 53 = 32 := by kernel_rfl
  rw [e] at hb
  exact ⟨L, rfl, by simpa using hb, hL⟩
theorem sh_events {n : Nat} {xs : List AV} (h : Sh Try.prog n 25 xs) : ∃ L : List Event, xs = [.sl (L.map Event.cells)] ∧ L.length * 40 ≤ 140737488351232 ∧ ∀ e ∈ L, e.l.r.length * 40 ≤ 140737488351232 := by
  obtain ⟨es, k, rfl, hb, he⟩ := h.slice Try.underlying25
  obtain ⟨L, rfl, hL⟩ := list_typed fun y hy => sh_event (he y hy)
  have e : Try.prog.bytesOf 55 = 40 := by kernel_rfl
  rw [e] at hb
  exact ⟨L, rfl, by simpa using hb, hL⟩
theorem sh_table {n : Nat} {xs : List AV} (h : Sh Try.prog n 24 xs) : ∃ t : Table, xs = t.cells ∧ t.l.length * 32 ≤ 140737488351232 ∧ ∀ l ∈ t.l, l.r.length * 40 ≤ 140737488351232 := by
  obtain ⟨ps, m, rfl, hp⟩ := h.struct Try.underlying24
  obtain ⟨p, q, rfl, h1, h2⟩ := hp.p2
  obtain ⟨i, rfl, _⟩ := h1.int Try.underlying2
  obtain ⟨L, rfl, hL⟩ := sh_lines h2
  exact ⟨⟨i, L⟩, rfl, hL⟩
theorem Args.one {P : Program} {t : TypeId} {ts : List TypeId} {xs : List AV} (h : Args P (t :: ts) xs) : ∃ n x ys, xs = avOf P t x :: ys ∧ Sh P n t x ∧ Args P ts ys := by
  cases h with
  | cons n h r => exact ⟨n, _, _, rfl, h, r⟩
theorem Args.none {P : Program} {xs : List AV} (h : Args P [] xs) : xs = [] := by
  cases h; rfl
end Go.Den
