/- Ch. 10, plain: the shortest page. -/
import Derived.Test.YtfjaimkpmehojaaS10C
namespace Go.Den
open Go
set_option linter.unusedSimpArgs false
set_option linter.unusedVariables false
set_option maxRecDepth 100000
set_option maxHeartbeats 1000000
/-! The shortest page. -/
def BestI (l : List Val) (t K : Int) (B : Pg) : Prop := ∃ k0, 1 ≤ k0 ∧ k0 ≤ K ∧ (encP l t k0).2 = 0 ∧ B = (encP l t k0).1 ∧
  ∀ k, 1 ≤ k → k ≤ K → (encP l t k).2 = 0 → B.b.length ≤ (encP l t k).1.b.length ∧ (k < k0 → B.b.length < (encP l t k).1.b.length)
theorem better_I {l : List Val} {t K : Int} {B : Pg} (h : BestI l t K B) : BestI l t (K + 1) (better l t (K + 1) B) := by
  obtain ⟨k0, h1, h2, h3, h4, h5⟩ := h
  unfold better
  cases d : (decide ((encP l t (K + 1)).2 = 0) && decide ((encP l t (K + 1)).1.b.length < B.b.length)) with
  | true =>
    simp only [Bool.and_eq_true, decide_eq_true_eq] at d
    rw [cond_true]
    refine ⟨K + 1, by omega, Int.le_refl _, d.1, rfl, fun k a b c => ?_⟩
    by_cases e : k = K + 1
    · subst e; exact ⟨Nat.le_refl _, fun h => by omega⟩
    · have := h5 k a (by omega) c
      omega
  | false =>
    rw [cond_false]
    refine ⟨k0, h1, by omega, h3, h4, fun k a b c => ?_⟩
    by_cases e : k = K + 1
    · subst e
      rw [decide_eq_true c, Bool.true_and, decide_eq_false_iff_not] at d
      exact ⟨by omega, fun h => by omega⟩
    · exact h5 k a (by omega) c
theorem best_I (l : List Val) (t : Int) (h : (encP l t 1).2 = 0) : (bestP l t).2 = 0 ∧ BestI l t 4 (bestP l t).1 := by
  have h1 : BestI l t 1 (encP l t 1).1 := ⟨1, by decide, by decide, h, rfl, fun k a b c => by
    have : k = 1 := by omega
    subst this
    exact ⟨Nat.le_refl _, fun h => by omega⟩⟩
  unfold bestP
  rw [decide_eq_true h, Bool.not_true, cond_false]
  exact ⟨rfl, better_I (better_I (better_I h1))⟩
end Go.Den
