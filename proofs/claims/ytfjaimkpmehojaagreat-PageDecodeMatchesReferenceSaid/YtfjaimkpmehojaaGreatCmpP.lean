/- value.Compare. -/
import Derived.Test.YtfjaimkpmehojaaGreatCmpV
import Derived.Test.YtfjaimkpmehojaaGreatTy
import Derived.Test.YtfjaimkpmehojaaGreatDenLp
import Derived.Test.YtfjaimkpmehojaaGreatFn10W
namespace Go.Den
open Go
set_option linter.unusedSimpArgs false
set_option linter.unusedVariables false
set_option maxRecDepth 100000
set_option maxHeartbeats 1000000
theorem cmp_isNaN_int64 (n : Int) : Den prog 277 [.int .i64 n] [] = some (.bool false, []) := by
  have h : decide (n = n) = true := decide_eq_true rfl
  rw [Den_ofK [] pr_cmp_isNaN_int64 rfl]
  simp only [f_cmp_isNaN_int64, h, go_sem]
theorem cmp_Compare_int64 (n m : Int) : Den prog 279 [.int .i64 n, .int .i64 m] [] = some (.int .i64 (bif decide (n < m) then -1 else bif decide (m < n) then 1 else 0), []) := by
  rw [Den_ofK [] pr_cmp_Compare_int64 rfl]
  have h1 := cmp_isNaN_int64 n
  have h2 := cmp_isNaN_int64 m
  cases g1 : decide (n < m) <;> cases g2 : decide (m < n) <;> simp only [f_cmp_Compare_int64, h1, h2, g1, g2, cond_true, cond_false, go_sem]
theorem strings_Compare (a b : ByteArray) : Den prog 280 [.str a, .str b] [] = some (.int .i64 (cmpB a.data.toList b.data.toList), []) := by
  have h : Den prog 278 [.str a, .str b] [] = some (.int .i64 (cmpB a.data.toList b.data.toList), []) := by
    rw [Den_x [] pr_internal_bytealg_CompareString rfl, ← cmp_bytes]
    rfl
  rw [Den_ofK [] pr_strings_Compare rfl]
  simp only [f_strings_Compare, h, go_sem]
theorem cmp_Or_int (x y : Int) : Den prog 281 [.sl [[.int .i64 x], [.int .i64 y]]] [] = some (.int .i64 (bif decide (x = 0) then y else x), []) := by
  rw [Den_ofK [] pr_cmp_Or_int rfl]
  have l02 : decide ((0 : Int) < 2) = true := rfl
  have l12 : decide ((1 : Int) < 2) = true := rfl
  have l22 : decide ((2 : Int) < 2) = false := rfl
  have w1 : IntKind.wrap .i64 1 = 1 := rfl
  have w2 : IntKind.wrap .i64 2 = 2 := rfl
  have e0 : getE [[AV.int .i64 x], [AV.int .i64 y]] 0 = some [AV.int .i64 x] := rfl
  have e1 : getE [[AV.int .i64 x], [AV.int .i64 y]] 1 = some [AV.int .i64 y] := rfl
  simp only [f_cmp_Or_int, go_sem]
  rw [Run_loop]
  cases gx : decide (x = 0) with
  | false => simp only [f_cmp_Or_int_l0_eq, f_cmp_Or_int_l0u, l02, e0, gx, cond_false, go_sem]
  | true =>
    simp only [f_cmp_Or_int_l0_eq, f_cmp_Or_int_l0u, l02, e0, w1, gx, cond_true, go_sem]
    rw [Run_loop]
    cases gy : decide (y = 0) with
    | false => simp only [f_cmp_Or_int_l0_eq, f_cmp_Or_int_l0u, l12, e1, gy, cond_false, go_sem]
    | true =>
      have hy : y = 0 := by simpa using gy
      subst hy
      simp only [f_cmp_Or_int_l0_eq, f_cmp_Or_int_l0u, l12, e1, w2, gy, cond_true, go_sem]
      rw [Run_loop]
      simp only [f_cmp_Or_int_l0_eq, f_cmp_Or_int_l0u, l22, go_sem]
theorem value_Compare (a b : Val) : Den prog 282 [.agg [.bool a.null, .int .i64 a.n, .str a.s], .agg [.bool b.null, .int .i64 b.n, .str b.s]] [] = some (.int .i64 (cmpV a b), []) := by
  rw [Den_ofK [] pr_value_Compare rfl]
  have h1 := cmp_Compare_int64 a.n b.n
  have h2 := strings_Compare a.s b.s
  have h3 := cmp_Or_int (bif decide (a.n < b.n) then -1 else bif decide (b.n < a.n) then 1 else 0) (cmpB a.s.data.toList b.s.data.toList)
  have b1 : (true == false) = false := rfl
  have b2 : (false == true) = false := rfl
  unfold cmpV
  cases a.null <;> cases b.null <;> cases g1 : decide (a.n < b.n) <;> cases g2 : decide (b.n < a.n) <;> rw [g1] at h1 h3 <;> (try rw [g2] at h1 h3) <;> simp only [cond_true, cond_false] at h1 h3 <;>
  simp only [f_value_Compare, h1, h2, h3, b1, b2, beq_self_eq_true, cond_true, cond_false, go_sem] <;> try rfl
end Go.Den
