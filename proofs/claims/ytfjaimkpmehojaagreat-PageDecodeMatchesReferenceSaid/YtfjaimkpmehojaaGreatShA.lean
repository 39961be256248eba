/- What the arguments' readings are, typed. -/
import Derived.Test.YtfjaimkpmehojaaGreatRows
import Derived.Test.YtfjaimkpmehojaaGreatDenY
import Derived.Test.YtfjaimkpmehojaaGreatTy
namespace Go.Den
open Go Go.Proofs
set_option linter.unusedSimpArgs false
set_option linter.unusedVariables false
set_option maxRecDepth 100000
set_option maxHeartbeats 1000000
theorem Parts.one {R : TypeId → List AV → Prop} {t : TypeId} {ts : List TypeId} {ps : List (List AV)} (h : Parts R (t :: ts) ps) : ∃ p qs, ps = p :: qs ∧ R t p ∧ Parts R ts qs := by
  cases h with
  | cons h r => exact ⟨_, _, rfl, h, r⟩
theorem Parts.none {R : TypeId → List AV → Prop} {ps : List (List AV)} (h : Parts R [] ps) : ps = [] := by
  cases h; rfl
theorem Parts.p1 {R : TypeId → List AV → Prop} {a : TypeId} {ps : List (List AV)} (h : Parts R [a] ps) : ∃ p, ps = [p] ∧ R a p := by
  obtain ⟨p, qs, rfl, h1, h⟩ := h.one
  cases h.none
  exact ⟨_, rfl, h1⟩
theorem Parts.p2 {R : TypeId → List AV → Prop} {a b : TypeId} {ps : List (List AV)} (h : Parts R [a, b] ps) : ∃ p q, ps = [p, q] ∧ R a p ∧ R b q := by
  obtain ⟨p, qs, rfl, h1, h⟩ := h.one
  obtain ⟨q, rfl, h2⟩ := h.p1
  exact ⟨_, _, rfl, h1, h2⟩
theorem Parts.p3 {R : TypeId → List AV → Prop} {a b c : TypeId} {ps : List (List AV)} (h : Parts R [a, b, c] ps) : ∃ p q r, ps = [p, q, r] ∧ R a p ∧ R b q ∧ R c r := by
  obtain ⟨p, qs, rfl, h1, h⟩ := h.one
  obtain ⟨q, r, rfl, h2, h3⟩ := h.p2
  exact ⟨_, _, _, rfl, h1, h2, h3⟩
theorem Parts.p4 {R : TypeId → List AV → Prop} {a b c d : TypeId} {ps : List (List AV)} (h : Parts R [a, b, c, d] ps) : ∃ p q r s, ps = [p, q, r, s] ∧ R a p ∧ R b q ∧ R c r ∧ R d s := by
  obtain ⟨p, qs, rfl, h1, h⟩ := h.one
  obtain ⟨q, r, s, rfl, h2, h3, h4⟩ := h.p3
  exact ⟨_, _, _, _, rfl, h1, h2, h3, h4⟩
theorem list_typed {α : Type} {f : α → List AV} {P : α → Prop} : ∀ {es : List (List AV)}, (∀ y ∈ es, ∃ c, y = f c ∧ P c) → ∃ L : List α, es = L.map f ∧ ∀ c ∈ L, P c
  | [], _ => ⟨[], rfl, by simp⟩
  | e :: r, h => by
    obtain ⟨c, hc, hp⟩ := h e (by simp)
    obtain ⟨L, hL, hq⟩ := list_typed (es := r) fun y hy => h y (by simp [hy])
    refine ⟨c :: L, by simp [hc, hL], ?_⟩
    intro x hx
    simp at hx
    rcases hx with rfl | hx
    · exact hp
    · exact hq x hx
section
variable {P : Program} {n : Nat} {t : TypeId} {xs : List AV}
theorem Sh.int (h : Sh P n t xs) {k : IntKind} (hu : P.underlying t = some (.int k)) : ∃ i, xs = [.int k i] ∧ (Lit.int k i).wf = true := by
  cases n with
  | zero => exact h.elim
  | succ n => simp only [Sh, hu] at h; exact h
theorem Sh.bool (h : Sh P n t xs) (hu : P.underlying t = some .bool) : ∃ b, xs = [.bool b] := by
  cases n with
  | zero => exact h.elim
  | succ n => simp only [Sh, hu] at h; exact h
theorem Sh.str (h : Sh P n t xs) (hu : P.underlying t = some .string) : ∃ s : ByteArray, xs = [.str s] ∧ s.size ≤ 140737488351232 := by
  cases n with
  | zero => exact h.elim
  | succ n => simp only [Sh, hu] at h; exact h
theorem Sh.slice (h : Sh P n t xs) {e : TypeId} (hu : P.underlying t = some (.slice e)) : ∃ es m, xs = [.sl es] ∧ es.length * P.bytesOf e ≤ 140737488351232 ∧ ∀ y ∈ es, Sh P m e y := by
  cases n with
  | zero => exact h.elim
  | succ n => simp only [Sh, hu] at h; obtain ⟨es, h1, h2, h3⟩ := h; exact ⟨es, n, h1, h2, h3⟩
theorem Sh.struct (h : Sh P n t xs) {fs : Array Field} (hu : P.underlying t = some (.struct fs)) : ∃ parts m, xs = parts.flatten ∧ Parts (Sh P m) (fs.toList.map (·.type)) parts := by
  cases n with
  | zero => exact h.elim
  | succ n => simp only [Sh, hu] at h; obtain ⟨ps, h1, h2⟩ := h; exact ⟨ps, n, h1, h2⟩
theorem Sh.array (h : Sh P n t xs) {k : Nat} {e : TypeId} (hu : P.underlying t = some (.array k e)) : ∃ (parts : List (List AV)) (m : Nat), parts.length = k ∧ xs = parts.flatten ∧ ∀ y ∈ parts, Sh P m e y := by
  cases n with
  | zero => exact h.elim
  | succ n => simp only [Sh, hu] at h; obtain ⟨ps, h1, h2, h3⟩ := h; exact ⟨ps, n, h1, h2, h3⟩
end
section
variable {P : Program} {n : Nat} {t : TypeId} {xs : List AV}
theorem Sh.slice2 (h : Sh P (n + 1) t xs) {e : TypeId} (hu : P.underlying t = some (.slice e)) : ∃ es, xs = [.sl es] ∧ es.length * P.bytesOf e ≤ 140737488351232 ∧ ∀ y ∈ es, Sh P n e y := by
  simp only [Sh, hu] at h; obtain ⟨es, h1, h2, h3⟩ := h; exact ⟨es, h1, h2, h3⟩
theorem Sh.struct2 (h : Sh P (n + 1) t xs) {fs : Array Field} (hu : P.underlying t = some (.struct fs)) : ∃ parts, xs = parts.flatten ∧ Parts (Sh P n) (fs.toList.map (·.type)) parts := by
  simp only [Sh, hu] at h; obtain ⟨ps, h1, h2⟩ := h; exact ⟨ps, h1, h2⟩
theorem Parts.p7 {R : TypeId → List AV → Prop} {a b c d e f g : TypeId} {ps : List (List AV)} (h : Parts R [a, b, c, d, e, f, g] ps) : ∃ p q r s u v w, ps = [p, q, r, s, u, v, w] ∧ R a p ∧ R b q ∧ R c r ∧ R d s ∧ R e u ∧ R f v ∧ R g w := by
  obtain ⟨p, qs, rfl, h1, h⟩ := h.one
  obtain ⟨q, qs, rfl, h2, h⟩ := h.one
  obtain ⟨r, qs, rfl, h3, h⟩ := h.one
  obtain ⟨s, u, v, w, rfl, h4, h5, h6, h7⟩ := h.p4
  exact ⟨_, _, _, _, _, _, _, rfl, h1, h2, h3, h4, h5, h6, h7⟩
theorem Parts.p8 {R : TypeId → List AV → Prop} {a b c d e f g k : TypeId} {ps : List (List AV)} (h : Parts R [a, b, c, d, e, f, g, k] ps) : ∃ p q r s u v w z, ps = [p, q, r, s, u, v, w, z] ∧ R a p ∧ R b q ∧ R c r ∧ R d s ∧ R e u ∧ R f v ∧ R g w ∧ R k z := by
  obtain ⟨p, qs, rfl, h0, h⟩ := h.one
  obtain ⟨q, r, s, u, v, w, z, rfl, h1, h2, h3, h4, h5, h6, h7⟩ := h.p7
  exact ⟨_, _, _, _, _, _, _, _, rfl, h0, h1, h2, h3, h4, h5, h6, h7⟩
end
theorem Args.one {P : Program} {t : TypeId} {ts : List TypeId} {xs : List AV} (h : Args P (t :: ts) xs) : ∃ n x ys, xs = avOf P t x :: ys ∧ Sh P n t x ∧ Args P ts ys := by
  cases h with
  | cons n h r => exact ⟨n, _, _, rfl, h, r⟩
theorem Args.none {P : Program} {xs : List AV} (h : Args P [] xs) : xs = [] := by
  cases h; rfl
end Go.Den
