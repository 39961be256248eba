/- What is shown tells what was shown. -/
import Derived.Test.YtimlnhpiddfbaaaDoorS5Y
namespace Go.Den
open Go
set_option linter.unusedSimpArgs false
set_option linter.unusedVariables false
set_option maxRecDepth 100000
set_option maxHeartbeats 1000000
theorem padF_two {m : Nat} (h : m < 100) : padF 25 m 2 = [UInt8.ofNat (48 + m / 10), UInt8.ofNat (48 + m % 10)] := by
  have e : padF 25 m 2 = padF 24 (m / 10) 1 ++ [UInt8.ofNat (48 + m % 10)] := by simp [padF]
  have e2 : padF 24 (m / 10) 1 = padF 23 (m / 10 / 10) 0 ++ [UInt8.ofNat (48 + m / 10 % 10)] := by simp [padF]
  rw [e, e2, show m / 10 / 10 = 0 by omega, padF_zero, show m / 10 % 10 = m / 10 by omega]
  rfl
theorem padF_four {m : Nat} (h : m < 10000) : (padF 25 m 4).length = 4 := by
  have e : padF 25 m 4 = padF 24 (m / 10) 3 ++ [UInt8.ofNat (48 + m % 10)] := by simp [padF]
  have e2 : padF 24 (m / 10) 3 = padF 23 (m / 10 / 10) 2 ++ [UInt8.ofNat (48 + m / 10 % 10)] := by simp [padF]
  have e3 : padF 23 (m / 10 / 10) 2 = padF 22 (m / 10 / 10 / 10) 1 ++ [UInt8.ofNat (48 + m / 10 / 10 % 10)] := by simp [padF]
  have e4 : padF 22 (m / 10 / 10 / 10) 1 = padF 21 (m / 10 / 10 / 10 / 10) 0 ++ [UInt8.ofNat (48 + m / 10 / 10 / 10 % 10)] := by simp [padF]
  rw [e, e2, e3, e4, show m / 10 / 10 / 10 / 10 = 0 by omega, padF_zero]
  rfl
theorem sgnL_nat (m k : Nat) : sgnL (m : Int) k = padF 25 m k := by
  unfold sgnL
  rw [decide_eq_false (by omega), cond_false]; rfl
theorem sgnL_four {y : Int} (h0 : -10000 < y) (h1 : y < 10000) : 4 ≤ (sgnL y 4).length ∧ (sgnL y 4).length ≤ 5 := by
  have := padF_four (m := y.natAbs) (by omega)
  unfold sgnL
  cases decide (y < 0) <;> simp [this]
/-- The parts of a day's text. -/
theorem dayB_parts (n : Int) (h0 : -1000000 ≤ n) (h1 : n ≤ 1000000) : ∃ (Y M D : List UInt8), dayB n = Y ++ 45 :: (M ++ 45 :: D) ∧ Y = sgnL (yearZ (n + 719468)) 4 ∧ M = padF 25 (monZ (n + 719468)) 2 ∧ D = padF 25 (domZ (n + 719468) + 1) 2 ∧ 4 ≤ Y.length ∧ Y.length ≤ 5 ∧ M.length = 2 ∧ D.length = 2 := by
  have hy := year_bnd h0 h1
  have hm := mon_bnd (n + 719468)
  have hd := dom_bnd (n + 719468)
  have hl := sgnL_four (y := yearZ (n + 719468)) (by omega) (by
    obtain ⟨_, _, q3, _⟩ := dateZ (n + 719468)
    unfold yearZ eraK
    split <;> omega)
  refine ⟨_, _, _, ?_, rfl, rfl, rfl, hl.1, hl.2, by rw [padF_two (by omega)]; rfl, by rw [padF_two (by omega)]; rfl⟩
  unfold dayB
  rw [sgnL_nat, show ((domZ (n + 719468) : Int) + 1) = ((domZ (n + 719468) + 1 : Nat) : Int) by omega, sgnL_nat]
  simp
theorem day_cut (Y M D : List UInt8) (hM : M.length = 2) (hD : D.length = 2) : (Y ++ 45 :: (M ++ 45 :: D)).length = Y.length + 6 ∧ (Y ++ 45 :: (M ++ 45 :: D)).take ((Y ++ 45 :: (M ++ 45 :: D)).length - 6) = Y ∧ ((Y ++ 45 :: (M ++ 45 :: D)).drop ((Y ++ 45 :: (M ++ 45 :: D)).length - 5)).take 2 = M ∧ (Y ++ 45 :: (M ++ 45 :: D)).drop ((Y ++ 45 :: (M ++ 45 :: D)).length - 2) = D := by
  have hl : (Y ++ 45 :: (M ++ 45 :: D)).length = Y.length + 6 := by simp; omega
  obtain ⟨a, b, rfl⟩ : ∃ a b, M = [a, b] := by
    match M, hM with
    | [a, b], _ => exact ⟨a, b, rfl⟩
  refine ⟨hl, ?_, ?_, ?_⟩
  · rw [hl, show Y.length + 6 - 6 = Y.length by omega]; simp
  · rw [hl, show Y.length + 6 - 5 = Y.length + 1 by omega, List.drop_append, List.drop_eq_nil_of_le (by omega)]; simp
  · rw [hl, show Y.length + 6 - 2 = Y.length + 4 by omega, List.drop_append, List.drop_eq_nil_of_le (by omega)]; simp
theorem pInt_sgn (n : Int) (k : Nat) (B : Nat) (hB : B = 32 ∨ B = 64) (hk : 1 ≤ k) (hk2 : k ≤ 20) (h0 : -((2 ^ (B - 1) : Nat) : Int) ≤ n) (h1 : n < ((2 ^ (B - 1) : Nat) : Int)) : pInt B (sgnL n k) = (n, true) := by
  unfold pInt; rw [parse_sgn n k B hB hk hk2 h0 h1]
theorem pInt32 (n : Int) (k : Nat) (hk : 1 ≤ k) (hk2 : k ≤ 20) (h0 : -2147483648 ≤ n) (h1 : n < 2147483648) : pInt 32 (sgnL n k) = (n, true) :=
  pInt_sgn n k 32 (.inl rfl) hk hk2 h0 h1
theorem pInt64 (n : Int) (k : Nat) (hk : 1 ≤ k) (hk2 : k ≤ 20) (h0 : -9223372036854775808 ≤ n) (h1 : n ≤ 9223372036854775807) : pInt 64 (sgnL n k) = (n, true) :=
  pInt_sgn n k 64 (.inr rfl) hk hk2 h0 (by show n < 9223372036854775808; omega)
theorem pDay_dayB (n : Int) (h0 : -1000000 ≤ n) (h1 : n ≤ 1000000) : pDay (dayB n) = (n, true) := by
  obtain ⟨Y, M, D, e, eY, eM, eD, y4, y5, m2, d2⟩ := dayB_parts n h0 h1
  obtain ⟨c0, c1, c2, c3⟩ := day_cut Y M D m2 d2
  have hy := year_bnd h0 h1
  have hm := mon_bnd (n + 719468)
  have hd := dom_bnd (n + 719468)
  rw [← e] at c0 c1 c2 c3
  unfold pDay
  rw [c1, c2, c3, decide_eq_false (by omega), decide_eq_false (by omega), Bool.or_self, cond_false, eM, ← sgnL_nat, eD, ← sgnL_nat, eY, pInt32 _ 4 (by omega) (by omega) (by omega) (by omega), pInt32 _ 2 (by omega) (by omega) (by omega) (by omega), pInt32 _ 2 (by omega) (by omega) (by omega) (by omega)]
  simp only [Bool.true_and]
  have := dayF_z (n + 719468)
  rw [show ((domZ (n + 719468) + 1 : Nat) : Int) = (domZ (n + 719468) : Int) + 1 by omega, this, show n + 719468 - 719468 = n by omega, decide_eq_true (by omega), decide_eq_true (by omega)]
  rfl
theorem quoteL_inj {p q : List UInt8} (h : quoteL p = quoteL q) (hl : (quoteL p).length < 100000000) : p = q := by
  obtain ⟨r, ok, _, h2⟩ := value_unquote (quoteL p) hl
  exact (h2 p rfl).1.symm.trans (h2 q h).1
end Go.Den
