
/- What both parse: numbers, days. -/
import Derived.Test.YtimlnhpiddfbaaaDoorS5Q
import Derived.Test.YtimlnhpiddfbaaaDoorS5T
namespace Go.Den
open Go
set_option linter.unusedSimpArgs false
set_option linter.unusedVariables false
set_option maxRecDepth 100000
set_option maxHeartbeats 1000000
/-- A number guessed. -/
def gInt (l : List UInt8) : Int := match l with
  | [] => 0
  | c :: r => bif decide (c = 45) then IntKind.wrap .i64 (0 - IntKind.wrap .i64 (numI 0 r)) else IntKind.wrap .i64 (numI 0 (c :: r))
theorem gInt_bnd (l : List UInt8) : -9223372036854775808 ≤ gInt l ∧ gInt l ≤ 9223372036854775807 := by
  have h : ∀ a : Int, -9223372036854775808 ≤ IntKind.wrap .i64 a ∧ IntKind.wrap .i64 a ≤ 9223372036854775807 := by
    intro a; simp [IntKind.wrap, IntKind.bits, IntKind.signed]; omega
  unfold gInt
  cases l with
  | nil => decide
  | cons c r => simp only []; cases decide (c = 45) <;> exact h _
theorem gInt_sgn (n : Int) (k : Nat) (hk : 1 ≤ k) (hk2 : k ≤ 20) (h0 : -9223372036854775808 ≤ n) (h1 : n ≤ 9223372036854775807) : gInt (sgnL n k) = n := by
  have hp : (10 : Nat) ^ 20 = 100000000000000000000 := by decide
  have hn : n.natAbs < 10 ^ 25 := by
    have : (10 : Nat) ^ 20 < 10 ^ 25 := by decide
    omega
  have hnum := numI_pad 25 n.natAbs k hn (by omega)
  have hlen := padF_len 25 n.natAbs k (by omega)
  have hdig := padF_dig2 25 n.natAbs k
  unfold sgnL
  generalize hP : padF 25 n.natAbs k = P at *
  by_cases hs : n < 0
  · rw [decide_eq_true hs, cond_true]
    show IntKind.wrap .i64 (0 - IntKind.wrap .i64 (numI 0 P)) = n
    rw [hnum]
    by_cases h63 : n.natAbs = 9223372036854775808
    · have : n = -9223372036854775808 := by omega
      subst this; rfl
    · rw [wrap_i64 (a := (n.natAbs : Int)) (by omega) (by omega), wrap_i64 (by omega) (by omega)]; omega
  · rw [decide_eq_false hs, cond_false]
    obtain ⟨c, r, hc⟩ : ∃ c r, P = c :: r := by
      cases P with
      | nil => simp at hlen; omega
      | cons c r => exact ⟨c, r, rfl⟩
    have hd := hdig c (by rw [hc]; simp)
    subst hc
    have hc45 : decide (c = 45) = false := by
      rw [decide_eq_false_iff_not]
      intro e; subst e; exact absurd hd.1 (by decide)
    show (bif decide (c = 45) then IntKind.wrap .i64 (0 - IntKind.wrap .i64 (numI 0 r)) else IntKind.wrap .i64 (numI 0 (c :: r))) = n
    rw [hc45, cond_false, hnum, wrap_i64 (by omega) (by omega)]
    omega
/-- A day guessed. -/
def gDay (l : List UInt8) : Int :=
  bif decide (l.length < 10) || decide (12 < l.length) then 0 else
  let y := gInt (l.take (l.length - 6))
  let m := IntKind.wrap .i64 (numI 0 ((l.drop (l.length - 5)).take 2))
  let d := IntKind.wrap .i64 (numI 0 (l.drop (l.length - 2)))
  bif decide (y < -1000) || decide (5000 < y) || decide (m < 1) || decide (12 < m) || decide (d < 1) || decide (31 < d) then 0 else
  janD y - 719468 + (cumL (leapB y) m.toNat : Nat) + d - 1
theorem jan_bnd {a b : Int} (h : a ≤ b) : janD b - janD a ≤ 366 * (b - a) ∧ 0 ≤ janD b - janD a := by
  obtain ⟨k, rfl⟩ : ∃ k : Nat, b = a + k := ⟨(b - a).toNat, by omega⟩
  clear h
  induction k with
  | zero => simp
  | succ k ih =>
    have e := jan_step (a + k)
    have := lenD_pos (a + k)
    rw [show a + ((k + 1 : Nat) : Int) = a + k + 1 by omega, e]
    omega
end Go.Den
