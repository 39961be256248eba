/- Numerals and dates read back: plain laws. -/
import Derived.Test.YtimlnhpiddfbaaaDoorS5P
namespace Go.Den
open Go
set_option linter.unusedSimpArgs false
set_option linter.unusedVariables false
set_option maxRecDepth 100000
set_option maxHeartbeats 1000000
/-- The number that digits denote, modulo 2 ^ 64. -/
def numI (a : Int) (l : List UInt8) : Int := l.foldl (fun a c => IntKind.wrap .u64 (IntKind.wrap .u64 (IntKind.wrap .u64 (10 * a) + c.toNat) - 48)) a
theorem numI_pad : ∀ (f n k : Nat), n < 10 ^ f → n < 18446744073709551616 → numI 0 (padF f n k) = n
  | 0, n, k, h, _ => by
    have : n = 0 := by simp at h; omega
    subst this; rfl
  | f + 1, n, k, h, h2 => by
    rw [padF]
    split
    · rename_i hc; rw [hc.1]; rfl
    · have ih := numI_pad f (n / 10) (k - 1) (by rw [Nat.pow_succ] at h; omega) (by omega)
      unfold numI at ih ⊢
      rw [List.foldl_append, ih, List.foldl_cons, List.foldl_nil]
      have e : (UInt8.ofNat (48 + n % 10)).toNat = 48 + n % 10 := by simp; omega
      rw [e]
      have : (10 : Int) * ((n / 10 : Nat) : Int) + ((48 + n % 10 : Nat) : Int) = n + 48 := by omega
      by_cases hb : n < 18446744073709551568
      · rw [wrap_u64 (a := 10 * ((n / 10 : Nat) : Int)) (by omega) (by omega), this, wrap_u64 (a := (n : Int) + 48) (by omega) (by omega), wrap_u64 (by omega) (by omega)]
        omega
      · rw [wrap_u64 (a := 10 * ((n / 10 : Nat) : Int)) (by omega) (by omega), this]
        have w : IntKind.wrap .u64 ((n : Int) + 48) = n + 48 - 18446744073709551616 := by
          simp [IntKind.wrap, IntKind.bits, IntKind.signed]; omega
        rw [w, wrap_u64_neg (by omega) (by omega)]
        omega
theorem padF_dig2 : ∀ (f n k : Nat), ∀ c ∈ padF f n k, 48 ≤ c.toNat ∧ c.toNat ≤ 57
  | 0, n, k => by simp [padF]
  | f + 1, n, k => by
    intro c hc
    rw [padF] at hc
    split at hc
    · simp at hc
    · rcases List.mem_append.1 hc with h | h
      · exact padF_dig2 f _ _ c h
      · simp at h
        subst h
        simp; omega
theorem parseM_app (M : Nat) : ∀ (l : List UInt8) (acc : Nat) (r : List UInt8) (a : Nat), Lib.parseUintM M acc l = .ok a → Lib.parseUintM M acc (l ++ r) = Lib.parseUintM M a r
  | [], acc, r, a, h => by
    simp [Lib.parseUintM] at h; subst h; rfl
  | c :: l, acc, r, a, h => by
    rw [List.cons_append, Lib.parseUintM]
    rw [Lib.parseUintM] at h
    split at h
    · rename_i h1
      rw [if_pos h1]
      split at h
      · exact absurd h (by simp)
      · rename_i h2
        rw [if_neg h2]
        split at h
        · exact absurd h (by simp)
        · rename_i h3
          rw [if_neg h3]
          exact parseM_app M l _ r a h
    · exact absurd h (by simp)
theorem parseM_pad (M : Nat) (hM : M < 18446744073709551616) : ∀ (f n k : Nat), n < 10 ^ f → n ≤ M → Lib.parseUintM M 0 (padF f n k) = .ok n
  | 0, n, k, h, _ => by
    have : n = 0 := by simp at h; omega
    subst this; rfl
  | f + 1, n, k, h, h2 => by
    rw [padF]
    split
    · rename_i hc; rw [hc.1]; rfl
    · have ih := parseM_pad M hM f (n / 10) (k - 1) (by rw [Nat.pow_succ] at h; omega) (by omega)
      rw [parseM_app M _ 0 _ _ ih]
      have e : (UInt8.ofNat (48 + n % 10)).toNat = 48 + n % 10 := by simp; omega
      unfold Lib.parseUintM
      rw [e, if_pos (by omega), if_neg (by omega), if_neg (by omega)]
      unfold Lib.parseUintM
      congr 1
      omega
theorem parse_sgn (n : Int) (k : Nat) (B : Nat) (hB : B = 32 ∨ B = 64) (hk : 1 ≤ k) (hk2 : k ≤ 20) (h0 : -((2 ^ (B - 1) : Nat) : Int) ≤ n) (h1 : n < ((2 ^ (B - 1) : Nat) : Int)) : Lib.parseIntB B (sgnL n k) = .ok n := by
  have hp : (10 : Nat) ^ 20 = 100000000000000000000 := by decide
  have hM : 2 ^ B - 1 < 18446744073709551616 := by rcases hB with rfl | rfl <;> decide
  have hMB : 2 ^ (B - 1) ≤ 2 ^ B - 1 := by rcases hB with rfl | rfl <;> decide
  have hB2 : 2 ^ (B - 1) ≤ 9223372036854775808 := by rcases hB with rfl | rfl <;> decide
  have hn : n.natAbs < 10 ^ 25 := by
    have : (10 : Nat) ^ 20 < 10 ^ 25 := by decide
    omega
  have hpm := parseM_pad (2 ^ B - 1) hM 25 n.natAbs k hn (by omega)
  have hlen := padF_len 25 n.natAbs k (by omega)
  have hdig := padF_dig2 25 n.natAbs k
  unfold sgnL
  generalize hP : padF 25 n.natAbs k = P at *
  have hne : P ≠ [] := by intro e; rw [e] at hlen; simp at hlen; omega
  by_cases hs : n < 0
  · rw [decide_eq_true hs, cond_true]
    unfold Lib.parseIntB Lib.parseUintB
    simp only [show (45 : UInt8).toNat = 45 from rfl, or_true, if_true, if_neg hne, hpm, not_true, false_and, if_false, true_and]
    rw [if_neg (by omega)]
    congr 1
    omega
  · rw [decide_eq_false hs, cond_false]
    obtain ⟨c, r, hc⟩ : ∃ c r, P = c :: r := by
      cases P with
      | nil => exact absurd rfl hne
      | cons c r => exact ⟨c, r, rfl⟩
    have hd := hdig c (by rw [hc]; simp)
    subst hc
    unfold Lib.parseIntB Lib.parseUintB
    have h43 : ¬ c.toNat = 43 := by omega
    have h45 : ¬ c.toNat = 45 := by omega
    simp only [h43, h45, or_self, if_false, if_neg hne, hpm, not_false_iff, true_and, false_and]
    rw [if_neg (by omega)]
    congr 1
    omega
/-! Days. -/
/-- The day of a date, as the program reckons it. -/
def dayF (y m d : Int) : Int :=
  let y' := bif decide (m ≤ 2) then y - 1 else y
  let m' := bif decide (m ≤ 2) then m + 12 else m
  y' / 400 * 146097 + (y' - y' / 400 * 400) * 365 + (y' - y' / 400 * 400).tdiv 4 - (y' - y' / 400 * 400).tdiv 100 + (153 * (m' - 3) + 2).tdiv 5 + d - 1 - 719468
theorem eD_k (y : Int) : y / 400 * 146097 + (y - y / 400 * 400) * 365 + (y - y / 400 * 400).tdiv 4 - (y - y / 400 * 400).tdiv 100 = eD y := by
  obtain ⟨q, hq⟩ : ∃ q : Nat, (q : Int) = y - y / 400 * 400 := ⟨(y - y / 400 * 400).toNat, by omega⟩
  have hq2 : q < 400 := by omega
  have e := eD_era (y / 400) q
  rw [show 400 * (y / 400) + (q : Int) = y by omega] at e
  rw [e, ← hq]
  have t1 : (q : Int).tdiv 4 = ((q / 4 : Nat) : Int) := rfl
  have t2 : (q : Int).tdiv 100 = ((q / 100 : Nat) : Int) := rfl
  rw [t1, t2]
  unfold stD
  omega
theorem dayF_ok (Y : Int) (M D : Nat) (h1 : 1 ≤ M) (h2 : M ≤ 12) : dayF Y M ((D : Int) + 1) = janD Y + ((cumL (leapB Y) M + D : Nat) : Int) - 719468 := by
  have hs := jan_step Y
  have hj : janD (Y + 1) = eD Y + 306 := by unfold janD; rw [show Y + 1 - 1 = Y by omega]
  have hj0 : janD Y = eD (Y - 1) + 306 := rfl
  have hl : lenD Y = 365 + ((bif leapB Y then 1 else 0 : Nat) : Int) := by unfold lenD; cases leapB Y <;> rfl
  unfold dayF
  by_cases hm : M ≤ 2
  · have hm' : ((M : Nat) : Int) ≤ 2 := by omega
    simp only [decide_eq_true hm', cond_true]
    rw [eD_k]
    have : M = 1 ∨ M = 2 := by omega
    rcases this with rfl | rfl
    · rw [show cumL (leapB Y) 1 = 0 from rfl, show (153 * (((1 : Nat) : Int) + 12 - 3) + 2).tdiv 5 = 306 from rfl]; omega
    · rw [show cumL (leapB Y) 2 = 31 by cases leapB Y <;> rfl, show (153 * (((2 : Nat) : Int) + 12 - 3) + 2).tdiv 5 = 337 from rfl]; omega
  · have hm' : ¬ ((M : Nat) : Int) ≤ 2 := by omega
    simp only [decide_eq_false hm', cond_false]
    rw [eD_k]
    have hc : cumL (leapB Y) M = (153 * (M - 3) + 2) / 5 + 59 + (bif leapB Y then 1 else 0) := by
      have : M = 3 ∨ M = 4 ∨ M = 5 ∨ M = 6 ∨ M = 7 ∨ M = 8 ∨ M = 9 ∨ M = 10 ∨ M = 11 ∨ M = 12 := by omega
      rcases this with rfl | rfl | rfl | rfl | rfl | rfl | rfl | rfl | rfl | rfl <;> cases leapB Y <;> rfl
    have ht : (153 * (((M : Nat) : Int) - 3) + 2).tdiv 5 = (((153 * (M - 3) + 2) / 5 : Nat) : Int) := by
      have : (153 * (((M : Nat) : Int) - 3) + 2) = ((153 * (M - 3) + 2 : Nat) : Int) := by omega
      rw [this]; rfl
    rw [ht, hc]
    omega
theorem dayF_z (z : Int) : dayF (yearZ z) (monZ z) ((domZ z : Int) + 1) = z - 719468 := by
  obtain ⟨_, _, _, _, _, _, _, q8, q9, q10, _, _, _⟩ := dateZ z
  rw [dayF_ok _ _ _ q8 q9]
  omega
end Go.Den
