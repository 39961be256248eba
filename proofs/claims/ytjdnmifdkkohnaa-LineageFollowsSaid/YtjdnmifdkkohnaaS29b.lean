/- Ch. 29: rows and tables. -/
import Derived.Test.YtjdnmifdkkohnaaS29a
namespace Go.Den
open Go
set_option linter.unusedSimpArgs false
set_option linter.unusedVariables false
set_option maxRecDepth 100000
set_option maxHeartbeats 1000000
@[go_sem] theorem lineage_equal (A B : List Cell) (hL : A.length < 1000000000000000) : Den prog 2 [.agg [.sl (A.map Cell.cells)], .agg [.sl (B.map Cell.cells)]] [] = some (.bool (decide (A = B)), []) := by
  rw [Den_ofK [] pr_lineage_equal rfl]
  simp only [f_lineage_equal, hL, go_sem, Nat.reduceEqDiff, ↓reduceIte, Nat.reduceAdd, Nat.reduceLeDiff, Nat.reduceLT, reduceCtorEq, Nat.reduceBEq, Nat.reduceMul, Nat.reduceSub, ne_eq, not_false_eq_true, Int.reduceSub, Int.reduceAdd, Int.reduceLE, Int.reduceLT, Int.reduceToNat, Int.toNat_zero, implies_true]
theorem SameRow_l0 (A B : List Cell) (hl : A.length = B.length) (hL : A.length < 1000000000000000) : ∀ (r s p q : List Cell), A = p ++ r → B = q ++ s → p.length = q.length → p = q →
    Run prog 0 (.loop 0 [2, 3, 5] f_R06_SameRow_l0) [(2, .rptr [.sl (A.map Cell.cells)]), (3, .rptr [.sl (B.map Cell.cells)]), (5, .int .i64 p.length)] [] =
      brk (decide (A = B)) (some (.exit 0, [(2, .rptr [.sl (A.map Cell.cells)]), (3, .rptr [.sl (B.map Cell.cells)]), (5, .int .i64 A.length), (17, .bool false)], [])) (some (.ret, [(4, .bool false)], []))
  | [], s, p, q, hp, hq, hpq, he => by
    have hlen : p.length = A.length := by simp [hp]
    have hs : s = [] := by
      have : s.length = 0 := by have := congrArg List.length hq; simp at this; omega
      simpa using this
    have hab : decide (A = B) = true := by simp [hp, hq, hs, he]
    rw [Run_loop]
    simp only [f_R06_SameRow_l0_eq, f_R06_SameRow_l0u, hlen, hab, go_sem, Nat.reduceEqDiff, ↓reduceIte, Nat.reduceAdd, Nat.reduceLeDiff, Nat.reduceLT, reduceCtorEq, Nat.reduceBEq, Nat.reduceMul, Nat.reduceSub, ne_eq, not_false_eq_true, Int.reduceSub, Int.reduceAdd, Int.reduceLE, Int.reduceLT, Int.reduceToNat, Int.toNat_zero, implies_true]
  | x :: r, [], p, q, hp, hq, hpq, he => by
    exfalso
    have h1 := congrArg List.length hp
    have h2 := congrArg List.length hq
    simp at h1 h2; omega
  | x :: r, y :: s, p, q, hp, hq, hpq, he => by
    have hlen := congrArg List.length hp
    simp only [List.length_append, List.length_cons] at hlen
    have hw : IntKind.wrap .i64 ((p.length : Int) + 1) = p.length + 1 := wrap_i64 (by omega) (by omega)
    have hx := getE_at hp
    have hy : getE B (p.length : Int) = some y := by rw [hpq]; exact getE_at hq
    have hc : decide ((p.length : Int) < A.length) = true := by simp; omega
    have hcell := eqcell x y
    by_cases hxy : x = y
    · have ih := SameRow_l0 A B hl hL r s (p ++ [x]) (q ++ [y]) (by simpa using hp) (by simpa using hq) (by simpa using hpq) (by rw [he, hxy])
      simp only [List.length_append, List.length_cons, List.length_nil, Nat.zero_add, Int.natCast_add, Int.cast_ofNat_Int] at ih
      have hd : decide (x = y) = true := by simpa using hxy
      rw [Run_loop]
      simp only [f_R06_SameRow_l0_eq, f_R06_SameRow_l0u, hw, hx, hy, hc, hcell, hd, ih, go_sem, Nat.reduceEqDiff, ↓reduceIte, Nat.reduceAdd, Nat.reduceLeDiff, Nat.reduceLT, reduceCtorEq, Nat.reduceBEq, Nat.reduceMul, Nat.reduceSub, ne_eq, not_false_eq_true, Int.reduceSub, Int.reduceAdd, Int.reduceLE, Int.reduceLT, Int.reduceToNat, Int.toNat_zero, implies_true]
    · have hd : decide (x = y) = false := by simpa using hxy
      have hab : decide (A = B) = false := by
        simp only [decide_eq_false_iff_not]
        intro h
        rw [hp, hq, he] at h
        simp at h
        exact hxy h.1
      rw [Run_loop]
      simp only [f_R06_SameRow_l0_eq, f_R06_SameRow_l0u, hw, hx, hy, hc, hcell, hd, hab, go_sem, Nat.reduceEqDiff, ↓reduceIte, Nat.reduceAdd, Nat.reduceLeDiff, Nat.reduceLT, reduceCtorEq, Nat.reduceBEq, Nat.reduceMul, Nat.reduceSub, ne_eq, not_false_eq_true, Int.reduceSub, Int.reduceAdd, Int.reduceLE, Int.reduceLT, Int.reduceToNat, Int.toNat_zero, implies_true]
@[go_sem] theorem R06_SameRow (A B : List Cell) (hL : A.length < 1000000000000000) : Den prog 12 [.agg [.sl (A.map Cell.cells)], .agg [.sl (B.map Cell.cells)]] [] = some (.bool (decide (A = B)), []) := by
  rw [Den_ofK [] pr_R06_SameRow rfl]
  by_cases hl : A.length = B.length
  · have h := SameRow_l0 A B hl hL A B [] [] rfl rfl rfl rfl
    simp only [List.length_nil, Int.natCast_zero] at h
    have hd : decide ((A.length : Int) = B.length) = true := by rw [decide_eq_true_eq]; omega
    simp only [f_R06_SameRow, h, hd, go_sem, Nat.reduceEqDiff, ↓reduceIte, Nat.reduceAdd, Nat.reduceLeDiff, Nat.reduceLT, reduceCtorEq, Nat.reduceBEq, Nat.reduceMul, Nat.reduceSub, ne_eq, not_false_eq_true, Int.reduceSub, Int.reduceAdd, Int.reduceLE, Int.reduceLT, Int.reduceToNat, Int.toNat_zero, implies_true]
    repeat' (first
      | (refine grd_split (fun h => ?_) (fun h => ?_) <;> simp only [h, h, go_sem, Nat.reduceEqDiff, ↓reduceIte, Nat.reduceAdd, Nat.reduceLeDiff, Nat.reduceLT, reduceCtorEq, Nat.reduceBEq, Nat.reduceMul, Nat.reduceSub, ne_eq, not_false_eq_true, Int.reduceSub, Int.reduceAdd, Int.reduceLE, Int.reduceLT, Int.reduceToNat, Int.toNat_zero, implies_true])
      | (refine condR_split (fun h => ?_) (fun h => ?_) <;> simp only [h, h, go_sem, Nat.reduceEqDiff, ↓reduceIte, Nat.reduceAdd, Nat.reduceLeDiff, Nat.reduceLT, reduceCtorEq, Nat.reduceBEq, Nat.reduceMul, Nat.reduceSub, ne_eq, not_false_eq_true, Int.reduceSub, Int.reduceAdd, Int.reduceLE, Int.reduceLT, Int.reduceToNat, Int.toNat_zero, implies_true])
      | (refine grdD_split (fun h => ?_) (fun h => ?_) <;> simp only [h, h, go_sem, Nat.reduceEqDiff, ↓reduceIte, Nat.reduceAdd, Nat.reduceLeDiff, Nat.reduceLT, reduceCtorEq, Nat.reduceBEq, Nat.reduceMul, Nat.reduceSub, ne_eq, not_false_eq_true, Int.reduceSub, Int.reduceAdd, Int.reduceLE, Int.reduceLT, Int.reduceToNat, Int.toNat_zero, implies_true])
      | (refine brk_split (fun h => ?_) (fun h => ?_) <;> simp only [h, h, go_sem, Nat.reduceEqDiff, ↓reduceIte, Nat.reduceAdd, Nat.reduceLeDiff, Nat.reduceLT, reduceCtorEq, Nat.reduceBEq, Nat.reduceMul, Nat.reduceSub, ne_eq, not_false_eq_true, Int.reduceSub, Int.reduceAdd, Int.reduceLE, Int.reduceLT, Int.reduceToNat, Int.toNat_zero, implies_true])
      | (refine pickV_split (fun h => ?_) (fun h => ?_) <;> simp only [h, h, go_sem, Nat.reduceEqDiff, ↓reduceIte, Nat.reduceAdd, Nat.reduceLeDiff, Nat.reduceLT, reduceCtorEq, Nat.reduceBEq, Nat.reduceMul, Nat.reduceSub, ne_eq, not_false_eq_true, Int.reduceSub, Int.reduceAdd, Int.reduceLE, Int.reduceLT, Int.reduceToNat, Int.toNat_zero, implies_true]))
  · have hd : decide ((A.length : Int) = B.length) = false := by simp; omega
    have hab : decide (A = B) = false := by simp only [decide_eq_false_iff_not]; intro h; exact hl (by rw [h])
    simp only [f_R06_SameRow, hd, hab, go_sem, Nat.reduceEqDiff, ↓reduceIte, Nat.reduceAdd, Nat.reduceLeDiff, Nat.reduceLT, reduceCtorEq, Nat.reduceBEq, Nat.reduceMul, Nat.reduceSub, ne_eq, not_false_eq_true, Int.reduceSub, Int.reduceAdd, Int.reduceLE, Int.reduceLT, Int.reduceToNat, Int.toNat_zero, implies_true]
theorem lineage_Valid_l0 {β : Type} {K : Ex × Env × St → Option β} {Z : Option β} (nx : Int) (L : List Line) (hL : L.length < 1000000000000000) : ∀ (rest pre : List Line) (last : Int), L = pre ++ rest → -1 ≤ last →
    (rise nx last rest = true → ∀ l, K (.exit 0, [(1, .rptr [.int .i64 nx, .sl (L.map Line.cells)]), (3, .int .i64 l), (21, .sl (L.map Line.cells)), (22, .int .i64 L.length), (23, .int .i64 L.length), (24, .bool false)], []) = Z) →
    (rise nx last rest = false → ∀ s, K (.ret, [(2, .bool false)], s) = Z) →
    (Run prog 0 (.loop 0 [1, 3, 21, 22, 23] f_lineage_Valid_l0) [(1, .rptr [.int .i64 nx, .sl (L.map Line.cells)]), (3, .int .i64 last), (21, .sl (L.map Line.cells)), (22, .int .i64 L.length), (23, .int .i64 pre.length)] []).bind K = Z
  | [], pre, last, hp, h1, k1, k0 => by
    have hlen : pre.length = L.length := by simp [hp]
    have k := k1 rfl last
    rw [Run_loop]
    simp only [f_lineage_Valid_l0_eq, f_lineage_Valid_l0u, hlen, k, go_sem, Nat.reduceEqDiff, ↓reduceIte, Nat.reduceAdd, Nat.reduceLeDiff, Nat.reduceLT, reduceCtorEq, Nat.reduceBEq, Nat.reduceMul, Nat.reduceSub, ne_eq, not_false_eq_true, Int.reduceSub, Int.reduceAdd, Int.reduceLE, Int.reduceLT, Int.reduceToNat, Int.toNat_zero, implies_true]
  | x :: rest, pre, last, hp, h1, k1, k0 => by
    have hlen := congrArg List.length hp
    simp only [List.length_append, List.length_cons] at hlen
    have hw : IntKind.wrap .i64 ((pre.length : Int) + 1) = pre.length + 1 := wrap_i64 (by omega) (by omega)
    have hx := getE_at hp
    have hc : decide ((pre.length : Int) < L.length) = true := by simp; omega
    rw [Run_loop]
    simp only [f_lineage_Valid_l0_eq, f_lineage_Valid_l0u, hw, hx, hc, go_sem, Nat.reduceEqDiff, ↓reduceIte, Nat.reduceAdd, Nat.reduceLeDiff, Nat.reduceLT, reduceCtorEq, Nat.reduceBEq, Nat.reduceMul, Nat.reduceSub, ne_eq, not_false_eq_true, Int.reduceSub, Int.reduceAdd, Int.reduceLE, Int.reduceLT, Int.reduceToNat, Int.toNat_zero, implies_true]
    repeat' (first
      | (refine grd_split (fun h => ?_) (fun h => ?_) <;> simp only [h, hw, hx, hc, go_sem, Nat.reduceEqDiff, ↓reduceIte, Nat.reduceAdd, Nat.reduceLeDiff, Nat.reduceLT, reduceCtorEq, Nat.reduceBEq, Nat.reduceMul, Nat.reduceSub, ne_eq, not_false_eq_true, Int.reduceSub, Int.reduceAdd, Int.reduceLE, Int.reduceLT, Int.reduceToNat, Int.toNat_zero, implies_true])
      | (refine condR_split (fun h => ?_) (fun h => ?_) <;> simp only [h, hw, hx, hc, go_sem, Nat.reduceEqDiff, ↓reduceIte, Nat.reduceAdd, Nat.reduceLeDiff, Nat.reduceLT, reduceCtorEq, Nat.reduceBEq, Nat.reduceMul, Nat.reduceSub, ne_eq, not_false_eq_true, Int.reduceSub, Int.reduceAdd, Int.reduceLE, Int.reduceLT, Int.reduceToNat, Int.toNat_zero, implies_true])
      | (refine grdD_split (fun h => ?_) (fun h => ?_) <;> simp only [h, hw, hx, hc, go_sem, Nat.reduceEqDiff, ↓reduceIte, Nat.reduceAdd, Nat.reduceLeDiff, Nat.reduceLT, reduceCtorEq, Nat.reduceBEq, Nat.reduceMul, Nat.reduceSub, ne_eq, not_false_eq_true, Int.reduceSub, Int.reduceAdd, Int.reduceLE, Int.reduceLT, Int.reduceToNat, Int.toNat_zero, implies_true])
      | (refine brk_split (fun h => ?_) (fun h => ?_) <;> simp only [h, hw, hx, hc, go_sem, Nat.reduceEqDiff, ↓reduceIte, Nat.reduceAdd, Nat.reduceLeDiff, Nat.reduceLT, reduceCtorEq, Nat.reduceBEq, Nat.reduceMul, Nat.reduceSub, ne_eq, not_false_eq_true, Int.reduceSub, Int.reduceAdd, Int.reduceLE, Int.reduceLT, Int.reduceToNat, Int.toNat_zero, implies_true])
      | (refine pickV_split (fun h => ?_) (fun h => ?_) <;> simp only [h, hw, hx, hc, go_sem, Nat.reduceEqDiff, ↓reduceIte, Nat.reduceAdd, Nat.reduceLeDiff, Nat.reduceLT, reduceCtorEq, Nat.reduceBEq, Nat.reduceMul, Nat.reduceSub, ne_eq, not_false_eq_true, Int.reduceSub, Int.reduceAdd, Int.reduceLE, Int.reduceLT, Int.reduceToNat, Int.toNat_zero, implies_true]))
    all_goals simp only [decide_eq_true_eq, decide_eq_false_iff_not] at *
    · exact k0 (by rw [rise, if_pos (by omega)]) _
    · exact k0 (by rw [rise, if_pos (by omega)]) _
    · have e : rise nx last (x :: rest) = rise nx x.n rest := by rw [rise, if_neg (by omega)]
      rw [e] at k1 k0
      have ih := lineage_Valid_l0 nx L hL rest (pre ++ [x]) x.n (by simpa using hp) (by omega) k1 k0
      simpa only [List.length_append, List.length_cons, List.length_nil, Nat.zero_add, Int.natCast_add, Int.cast_ofNat_Int] using ih
@[go_sem] theorem lineage_Valid (t : Table) (hL : t.l.length < 1000000000000000) : Den prog 5 [.agg [.int .i64 t.next, .sl (t.l.map Line.cells)]] [] = some (.bool (valid t), []) := by
  rw [Den_ofK [] pr_lineage_Valid rfl]
  simp only [f_lineage_Valid, go_sem, Nat.reduceEqDiff, ↓reduceIte, Nat.reduceAdd, Nat.reduceLeDiff, Nat.reduceLT, reduceCtorEq, Nat.reduceBEq, Nat.reduceMul, Nat.reduceSub, ne_eq, not_false_eq_true, Int.reduceSub, Int.reduceAdd, Int.reduceLE, Int.reduceLT, Int.reduceToNat, Int.toNat_zero, implies_true]
  repeat' (first
    | (refine grd_split (fun h => ?_) (fun h => ?_) <;> simp only [h, go_sem, Nat.reduceEqDiff, ↓reduceIte, Nat.reduceAdd, Nat.reduceLeDiff, Nat.reduceLT, reduceCtorEq, Nat.reduceBEq, Nat.reduceMul, Nat.reduceSub, ne_eq, not_false_eq_true, Int.reduceSub, Int.reduceAdd, Int.reduceLE, Int.reduceLT, Int.reduceToNat, Int.toNat_zero, implies_true])
    | (refine condR_split (fun h => ?_) (fun h => ?_) <;> simp only [h, go_sem, Nat.reduceEqDiff, ↓reduceIte, Nat.reduceAdd, Nat.reduceLeDiff, Nat.reduceLT, reduceCtorEq, Nat.reduceBEq, Nat.reduceMul, Nat.reduceSub, ne_eq, not_false_eq_true, Int.reduceSub, Int.reduceAdd, Int.reduceLE, Int.reduceLT, Int.reduceToNat, Int.toNat_zero, implies_true])
    | (refine grdD_split (fun h => ?_) (fun h => ?_) <;> simp only [h, go_sem, Nat.reduceEqDiff, ↓reduceIte, Nat.reduceAdd, Nat.reduceLeDiff, Nat.reduceLT, reduceCtorEq, Nat.reduceBEq, Nat.reduceMul, Nat.reduceSub, ne_eq, not_false_eq_true, Int.reduceSub, Int.reduceAdd, Int.reduceLE, Int.reduceLT, Int.reduceToNat, Int.toNat_zero, implies_true])
    | (refine brk_split (fun h => ?_) (fun h => ?_) <;> simp only [h, go_sem, Nat.reduceEqDiff, ↓reduceIte, Nat.reduceAdd, Nat.reduceLeDiff, Nat.reduceLT, reduceCtorEq, Nat.reduceBEq, Nat.reduceMul, Nat.reduceSub, ne_eq, not_false_eq_true, Int.reduceSub, Int.reduceAdd, Int.reduceLE, Int.reduceLT, Int.reduceToNat, Int.toNat_zero, implies_true])
    | (refine pickV_split (fun h => ?_) (fun h => ?_) <;> simp only [h, go_sem, Nat.reduceEqDiff, ↓reduceIte, Nat.reduceAdd, Nat.reduceLeDiff, Nat.reduceLT, reduceCtorEq, Nat.reduceBEq, Nat.reduceMul, Nat.reduceSub, ne_eq, not_false_eq_true, Int.reduceSub, Int.reduceAdd, Int.reduceLE, Int.reduceLT, Int.reduceToNat, Int.toNat_zero, implies_true]))
  all_goals simp only [decide_eq_true_eq, decide_eq_false_iff_not] at *
  · rw [valid, if_pos (by omega)]
  · rw [valid, if_pos (by omega)]
  · rw [valid, if_pos (by omega)]
  · refine lineage_Valid_l0 t.next t.l hL t.l [] (-1) rfl (by omega) (fun h l => ?_) (fun h s => ?_)
    · rw [valid, if_neg (by omega), h]
      simp only [go_sem, Nat.reduceEqDiff, ↓reduceIte, Nat.reduceAdd, Nat.reduceLeDiff, Nat.reduceLT, reduceCtorEq, Nat.reduceBEq, Nat.reduceMul, Nat.reduceSub, ne_eq, not_false_eq_true, Int.reduceSub, Int.reduceAdd, Int.reduceLE, Int.reduceLT, Int.reduceToNat, Int.toNat_zero, implies_true]
    · rw [valid, if_neg (by omega), h]
      simp only [go_sem, Nat.reduceEqDiff, ↓reduceIte, Nat.reduceAdd, Nat.reduceLeDiff, Nat.reduceLT, reduceCtorEq, Nat.reduceBEq, Nat.reduceMul, Nat.reduceSub, ne_eq, not_false_eq_true, Int.reduceSub, Int.reduceAdd, Int.reduceLE, Int.reduceLT, Int.reduceToNat, Int.toNat_zero, implies_true]
end Go.Den
