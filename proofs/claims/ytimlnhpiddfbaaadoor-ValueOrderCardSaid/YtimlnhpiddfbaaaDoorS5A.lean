/- value.Compare and its order. -/
import Derived.Test.YtimlnhpiddfbaaaDoorS5D
namespace Go.Den
open Go
set_option linter.unusedSimpArgs false
set_option linter.unusedVariables false
set_option maxRecDepth 100000
set_option maxHeartbeats 1000000
theorem cmp_bytes : ∀ a b : List UInt8, Lib.compareBytes a b = cmpB a b
  | [], [] => rfl
  | [], _ :: _ => rfl
  | _ :: _, [] => rfl
  | a :: r, b :: q => by
    unfold Lib.compareBytes cmpB
    rw [cmp_bytes r q]
    simp only [UInt8.lt_iff_toNat_lt]
theorem cmpB_rng : ∀ a b : List UInt8, -1 ≤ cmpB a b ∧ cmpB a b ≤ 1
  | [], [] => by simp [cmpB]
  | [], _ :: _ => by simp [cmpB]
  | _ :: _, [] => by simp [cmpB]
  | a :: r, b :: q => by
    have := cmpB_rng r q
    unfold cmpB
    split
    · omega
    · split <;> omega
theorem cmpB_neg : ∀ a b : List UInt8, cmpB b a = - cmpB a b
  | [], [] => by simp [cmpB]
  | [], _ :: _ => by simp [cmpB]
  | _ :: _, [] => by simp [cmpB]
  | a :: r, b :: q => by
    have := cmpB_neg r q
    unfold cmpB
    split
    · rw [if_neg (by omega)]; try rfl
    · split <;> omega
theorem cmpB_eq : ∀ a b : List UInt8, cmpB a b = 0 ↔ a = b
  | [], [] => by simp [cmpB]
  | [], _ :: _ => by simp [cmpB]
  | _ :: _, [] => by simp [cmpB]
  | a :: r, b :: q => by
    have := cmpB_eq r q
    unfold cmpB
    simp only [List.cons.injEq]
    split
    · rename_i h
      constructor
      · intro h2; exact absurd h2 (by decide)
      · intro h2; rw [h2.1] at h; omega
    · split
      · rename_i h
        constructor
        · intro h2; exact absurd h2 (by decide)
        · intro h2; rw [h2.1] at h; omega
      · have e : a = b := UInt8.toNat_inj.1 (by omega)
        rw [this]; simp [e]
theorem cmpB_trans : ∀ a b c : List UInt8, cmpB a b ≤ 0 → cmpB b c ≤ 0 → cmpB a c ≤ 0
  | [], _, [] => by intros; simp [cmpB]
  | [], _, _ :: _ => by intros; simp [cmpB]
  | _ :: _, [], _ => by intro h; simp [cmpB] at h
  | _ :: _, _ :: _, [] => by intro _ h; simp [cmpB] at h
  | a :: r, b :: q, c :: p => by
    intro h1 h2
    have := cmpB_trans r q p
    unfold cmpB at h1 h2 ⊢
    split at h1
    · split at h2
      · rw [if_pos (by omega)]; decide
      · split at h2
        · exact absurd h2 (by decide)
        · rw [if_pos (by omega)]; decide
    · split at h1
      · exact absurd h1 (by decide)
      · split at h2
        · rw [if_pos (by omega)]; decide
        · split at h2
          · exact absurd h2 (by decide)
          · rw [if_neg (by omega), if_neg (by omega)]; exact this h1 h2
theorem cmpV_rng (a b : Val) : -1 ≤ cmpV a b ∧ cmpV a b ≤ 1 := by
  have := cmpB_rng a.s.data.toList b.s.data.toList
  unfold cmpV
  cases a.null <;> cases b.null <;> cases decide (a.n < b.n) <;> cases decide (b.n < a.n) <;> simp <;> omega
theorem cmpV_neg (a b : Val) : cmpV b a = - cmpV a b := by
  have := cmpB_neg a.s.data.toList b.s.data.toList
  unfold cmpV
  cases a.null <;> cases b.null <;> cases h1 : decide (a.n < b.n) <;> cases h2 : decide (b.n < a.n) <;> simp at h1 h2 ⊢ <;> omega
theorem cmpV_eq (a b : Val) : (a.null == b.null && (decide (a.n = b.n) && decide (a.s = b.s))) = decide (cmpV a b = 0) := by
  have h3 := cmpB_eq a.s.data.toList b.s.data.toList
  have h4 : a.s.data.toList = b.s.data.toList ↔ a.s = b.s := by
    constructor
    · intro h; apply ByteArray.ext; exact Array.toList_inj.1 h
    · intro h; rw [h]
  rw [h4] at h3
  unfold cmpV
  cases a.null <;> cases b.null <;> cases h1 : decide (a.n < b.n) <;> cases h2 : decide (b.n < a.n) <;> simp at h1 h2 ⊢
  all_goals first
    | (have e : a.n = b.n := by omega
       rw [decide_eq_true e, Bool.true_and, Bool.eq_iff_iff, decide_eq_true_eq, decide_eq_true_eq]; exact h3.symm)
    | (intro e; omega)
    | skip
theorem cmpV_trans (a b c : Val) (h1 : cmpV a b ≤ 0) (h2 : cmpV b c ≤ 0) : cmpV a c ≤ 0 := by
  have h3 := cmpB_trans a.s.data.toList b.s.data.toList c.s.data.toList
  unfold cmpV at *
  revert h1 h2
  cases a.null <;> cases b.null <;> cases c.null <;> simp
  all_goals
    by_cases p1 : a.n < b.n <;> by_cases p2 : b.n < c.n <;> by_cases p3 : b.n < a.n <;> by_cases p4 : c.n < b.n <;> by_cases p5 : a.n < c.n <;> by_cases p6 : c.n < a.n <;> simp [p1, p2, p3, p4, p5, p6] <;> first | omega | (intro h1 h2; exact h3 h1 h2) | skip
theorem cmpV_null (a b : Val) (h1 : a.null = true) (h2 : b.null = false) : cmpV a b = -1 := by
  unfold cmpV; rw [h1, h2]; rfl
theorem cmp_isNaN_int64 (n : Int) : Den prog 277 [.int .i64 n] [] = some (.bool false, []) := by
  have h : decide (n = n) = true := decide_eq_true rfl
  rw [Den_ofK [] pr_cmp_isNaN_int64 rfl]
  simp only [f_cmp_isNaN_int64, h, go_sem]
theorem cmp_Compare_int64 (n m : Int) : Den prog 279 [.int .i64 n, .int .i64 m] [] = some (.int .i64 (bif decide (n < m) then -1 else bif decide (m < n) then 1 else 0), []) := by
  rw [Den_ofK [] pr_cmp_Compare_int64 rfl]
  have h1 := cmp_isNaN_int64 n
  have h2 := cmp_isNaN_int64 m
  cases g1 : decide (n < m) <;> cases g2 : decide (m < n) <;> simp only [f_cmp_Compare_int64, h1, h2, g1, g2, cond_true, cond_false, go_sem]
theorem strings_Compare (a b : ByteArray) : Den prog 280 [.str a, .str b] [] = some (.int .i64 (cmpB a.data.toList b.data.toList), []) := by
  have h : Den prog 278 [.str a, .str b] [] = some (.int .i64 (cmpB a.data.toList b.data.toList), []) := by
    rw [Den_x [] pr_internal_bytealg_CompareString rfl, ← cmp_bytes]
    rfl
  rw [Den_ofK [] pr_strings_Compare rfl]
  simp only [f_strings_Compare, h, go_sem]
theorem cmp_Or_int (x y : Int) : Den prog 281 [.sl [[.int .i64 x], [.int .i64 y]]] [] = some (.int .i64 (bif decide (x = 0) then y else x), []) := by
  rw [Den_ofK [] pr_cmp_Or_int rfl]
  have l02 : decide ((0 : Int) < 2) = true := rfl
  have l12 : decide ((1 : Int) < 2) = true := rfl
  have l22 : decide ((2 : Int) < 2) = false := rfl
  have w1 : IntKind.wrap .i64 1 = 1 := rfl
  have w2 : IntKind.wrap .i64 2 = 2 := rfl
  have e0 : getE [[AV.int .i64 x], [AV.int .i64 y]] 0 = some [AV.int .i64 x] := rfl
  have e1 : getE [[AV.int .i64 x], [AV.int .i64 y]] 1 = some [AV.int .i64 y] := rfl
  simp only [f_cmp_Or_int, go_sem]
  rw [Run_loop]
  cases gx : decide (x = 0) with
  | false => simp only [f_cmp_Or_int_l0_eq, f_cmp_Or_int_l0u, l02, e0, gx, cond_false, go_sem]
  | true =>
    simp only [f_cmp_Or_int_l0_eq, f_cmp_Or_int_l0u, l02, e0, w1, gx, cond_true, go_sem]
    rw [Run_loop]
    cases gy : decide (y = 0) with
    | false => simp only [f_cmp_Or_int_l0_eq, f_cmp_Or_int_l0u, l12, e1, gy, cond_false, go_sem]
    | true =>
      have hy : y = 0 := by simpa using gy
      subst hy
      simp only [f_cmp_Or_int_l0_eq, f_cmp_Or_int_l0u, l12, e1, w2, gy, cond_true, go_sem]
      rw [Run_loop]
      simp only [f_cmp_Or_int_l0_eq, f_cmp_Or_int_l0u, l22, go_sem]
theorem value_Compare (a b : Val) : Den prog 282 [.agg [.bool a.null, .int .i64 a.n, .str a.s], .agg [.bool b.null, .int .i64 b.n, .str b.s]] [] = some (.int .i64 (cmpV a b), []) := by
  rw [Den_ofK [] pr_value_Compare rfl]
  have h1 := cmp_Compare_int64 a.n b.n
  have h2 := strings_Compare a.s b.s
  have h3 := cmp_Or_int (bif decide (a.n < b.n) then -1 else bif decide (b.n < a.n) then 1 else 0) (cmpB a.s.data.toList b.s.data.toList)
  have b1 : (true == false) = false := rfl
  have b2 : (false == true) = false := rfl
  unfold cmpV
  cases a.null <;> cases b.null <;> cases g1 : decide (a.n < b.n) <;> cases g2 : decide (b.n < a.n) <;> rw [g1] at h1 h3 <;> (try rw [g2] at h1 h3) <;> simp only [cond_true, cond_false] at h1 h3 <;>
  simp only [f_value_Compare, h1, h2, h3, b1, b2, beq_self_eq_true, cond_true, cond_false, go_sem] <;> try rfl
end Go.Den
