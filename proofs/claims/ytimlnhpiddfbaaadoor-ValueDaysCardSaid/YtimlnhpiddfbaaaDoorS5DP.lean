/- The day after. -/
import Derived.Test.YtimlnhpiddfbaaaDoorS5K
namespace Go.Den
open Go
set_option linter.unusedSimpArgs false
set_option linter.unusedVariables false
set_option maxRecDepth 100000
set_option maxHeartbeats 1000000
/-- A day's number says its year, month and day. -/
theorem date_uniq {z Y : Int} {M D : Nat} (h1 : 1 ≤ M) (h2 : M ≤ 12) (h3 : D < monL (leapB Y) M) (hz : z = janD Y + ((cumL (leapB Y) M + D : Nat) : Int)) : yearZ z = Y ∧ monZ z = M ∧ domZ z = D := by
  obtain ⟨_, _, _, _, _, _, _, q8, q9, q10, q11, q12, q13⟩ := dateZ z
  have c13 : (cumL (leapB Y) 13 : Int) = lenD Y := by rw [cum_year]; rfl
  have hc := cum_step (leapB Y) M h1
  have hm := cum_mono (leapB Y) (k := 13 - (M + 1)) (m := M + 1) (by omega)
  rw [show M + 1 + (13 - (M + 1)) = 13 by omega] at hm
  have hs := jan_step Y
  have hy : yearZ z = Y := by
    refine jan_uniq q12 q13 ?_ ?_
    · omega
    · omega
  rw [hy] at q10 q11
  have hc2 := cum_step (leapB Y) (monZ z) q8
  have hM : monZ z = M := by
    refine cum_uniq (l := leapB Y) (j := cumL (leapB Y) M + D) q8 h1 ?_ ?_ ?_ ?_
    · omega
    · omega
    · omega
    · omega
  rw [hM] at q10
  exact ⟨hy, hM, by omega⟩
theorem monL_ge (l : Bool) (m : Nat) : 28 ≤ monL l m ∧ (m ≠ 2 → 30 ≤ monL l m) := by
  unfold monL; split <;> (try cases l) <;> simp
theorem day_next (z : Int) : (yearZ (z + 1) = yearZ z ∧ monZ (z + 1) = monZ z ∧ domZ (z + 1) = domZ z + 1) ∨
    (monZ z = 12 ∧ yearZ (z + 1) = yearZ z + 1 ∧ monZ (z + 1) = 1 ∧ domZ (z + 1) = 0 ∧ domZ z + 1 = 31) ∨
    (monZ z ≠ 12 ∧ yearZ (z + 1) = yearZ z ∧ monZ (z + 1) = monZ z + 1 ∧ domZ (z + 1) = 0 ∧ 28 ≤ domZ z + 1 ∧ (monZ z ≠ 2 → 30 ≤ domZ z + 1)) := by
  obtain ⟨_, _, _, _, _, _, _, q8, q9, q10, q11, q12, q13⟩ := dateZ z
  have hg := monL_ge (leapB (yearZ z)) (monZ z)
  have hc := cum_step (leapB (yearZ z)) (monZ z) q8
  by_cases h : domZ z + 1 < monL (leapB (yearZ z)) (monZ z)
  · left
    exact date_uniq q8 q9 h (by omega)
  · right
    have e : domZ z + 1 = monL (leapB (yearZ z)) (monZ z) := by omega
    by_cases h12 : monZ z = 12
    · left
      have hs := jan_step (yearZ z)
      have c13 : (cumL (leapB (yearZ z)) 13 : Int) = lenD (yearZ z) := by rw [cum_year]; rfl
      rw [h12] at hc e q10
      have e31 : monL (leapB (yearZ z)) 12 = 31 := rfl
      have m31 : 0 < monL (leapB (yearZ z + 1)) 1 := by have := (monL_ge (leapB (yearZ z + 1)) 1).1; omega
      have c1 : cumL (leapB (yearZ z + 1)) 1 = 0 := rfl
      obtain ⟨r1, r2, r3⟩ := date_uniq (z := z + 1) (Y := yearZ z + 1) (M := 1) (D := 0) (by omega) (by omega) m31 (by rw [c1]; simp only [show (12 : Nat) + 1 = 13 from rfl] at hc; omega)
      exact ⟨h12, r1, r2, r3, by omega⟩
    · right
      have m0 : 0 < monL (leapB (yearZ z)) (monZ z + 1) := by have := (monL_ge (leapB (yearZ z)) (monZ z + 1)).1; omega
      obtain ⟨r1, r2, r3⟩ := date_uniq (z := z + 1) (Y := yearZ z) (M := monZ z + 1) (D := 0) (by omega) (by omega) m0 (by omega)
      exact ⟨h12, r1, r2, r3, by omega, fun h2 => by have := hg.2 h2; omega⟩
theorem sgn4_inj {y y' : Int} (h0 : -10000 < y) (h1 : y < 10000) (h2 : -10000 < y') (h3 : y' < 10000) (h : sgnL y 4 = sgnL y' 4) : y = y' := by
  have := pInt32 y 4 (by omega) (by omega) (by omega) (by omega)
  rw [h, pInt32 y' 4 (by omega) (by omega) (by omega) (by omega)] at this
  exact (Prod.mk.inj this).1.symm
end Go.Den
