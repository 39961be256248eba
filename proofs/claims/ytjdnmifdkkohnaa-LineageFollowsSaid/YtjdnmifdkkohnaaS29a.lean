import Derived.Test.YtjdnmifdkkohnaaTy
import Derived.Test.YtjdnmifdkkohnaaFn29
namespace Go.Den
open Go
set_option linter.unusedSimpArgs false
set_option linter.unusedVariables false
set_option maxRecDepth 100000
set_option maxHeartbeats 1000000


/-- The numbers of lines rise from last on, below nx. -/
def rise (nx : Int) : Int → List Line → Bool
  | _, [] => true
  | last, x :: r => if x.n < 0 ∨ nx ≤ x.n ∨ x.n ≤ last then false else rise nx x.n r
theorem R29_Valid_l0 (nx : Int) (L : List Line) (hL : L.length < 1000000000000000) : ∀ (rest pre : List Line) (last : Int), L = pre ++ rest → (pre = [] → last = -1) → (∀ p x, pre = p ++ [x] → last = x.n) → 
    Run prog 0 (.loop 0 [1, 3] f_R29_Valid_l0) [(1, .rptr [.int .i64 nx, .sl (L.map Line.cells)]), (3, .int .i64 pre.length)] [] =
      brk (rise nx last rest) (some (.exit 0, [(1, .rptr [.int .i64 nx, .sl (L.map Line.cells)]), (3, .int .i64 L.length), (23, .bool false)], []))
        (some (.ret, [(2, .bool false)], []))
  | [], pre, last, hp, h1, h2 => by
    have hlen : pre.length = L.length := by simp [hp]
    rw [Run_loop]
    simp only [f_R29_Valid_l0_eq, f_R29_Valid_l0u, rise, hlen, go_sem, Nat.reduceEqDiff, ↓reduceIte, Nat.reduceAdd, Nat.reduceLeDiff, Nat.reduceLT, reduceCtorEq, Nat.reduceBEq, Nat.reduceMul, Nat.reduceSub, ne_eq, not_false_eq_true, Int.reduceSub, Int.reduceAdd, Int.reduceLE, Int.reduceLT, Int.reduceToNat, Int.toNat_zero, implies_true]
  | x :: rest, pre, last, hp, h1, h2 => by
    have ih := R29_Valid_l0 nx L hL rest (pre ++ [x]) x.n (by simpa using hp) (by simp) (by intro p y h; simp at h; rw [h.2])
    have hlen : L.length = pre.length + (rest.length + 1) := by simp [hp]
    simp only [List.length_append, List.length_cons, List.length_nil, Nat.zero_add, Int.natCast_add, Int.cast_ofNat_Int] at ih
    rw [Run_loop]
    have hw : IntKind.wrap .i64 ((pre.length : Int) + 1) = pre.length + 1 := wrap_i64 (by omega) (by omega)
    have hx := getE_at hp
    have hc : decide ((pre.length : Int) < L.length) = true := by simp; omega
    rcases List.eq_nil_or_concat pre with h0 | ⟨p, y, h0⟩
    · have hl := h1 h0
      have hz : decide ((0:Int) < pre.length) = false := by simp [h0]
      simp only [f_R29_Valid_l0_eq, f_R29_Valid_l0u, hw, hx, hc, hz, ih, go_sem, Nat.reduceEqDiff, ↓reduceIte, Nat.reduceAdd, Nat.reduceLeDiff, Nat.reduceLT, reduceCtorEq, Nat.reduceBEq, Nat.reduceMul, Nat.reduceSub, ne_eq, not_false_eq_true, Int.reduceSub, Int.reduceAdd, Int.reduceLE, Int.reduceLT, Int.reduceToNat, Int.toNat_zero, implies_true]
      repeat' (first
        | (refine grd_split (fun h => ?_) (fun h => ?_) <;> simp only [h, hw, hx, hc, hz, ih, go_sem, Nat.reduceEqDiff, ↓reduceIte, Nat.reduceAdd, Nat.reduceLeDiff, Nat.reduceLT, reduceCtorEq, Nat.reduceBEq, Nat.reduceMul, Nat.reduceSub, ne_eq, not_false_eq_true, Int.reduceSub, Int.reduceAdd, Int.reduceLE, Int.reduceLT, Int.reduceToNat, Int.toNat_zero, implies_true])
        | (refine condR_split (fun h => ?_) (fun h => ?_) <;> simp only [h, hw, hx, hc, hz, ih, go_sem, Nat.reduceEqDiff, ↓reduceIte, Nat.reduceAdd, Nat.reduceLeDiff, Nat.reduceLT, reduceCtorEq, Nat.reduceBEq, Nat.reduceMul, Nat.reduceSub, ne_eq, not_false_eq_true, Int.reduceSub, Int.reduceAdd, Int.reduceLE, Int.reduceLT, Int.reduceToNat, Int.toNat_zero, implies_true])
        | (refine grdD_split (fun h => ?_) (fun h => ?_) <;> simp only [h, hw, hx, hc, hz, ih, go_sem, Nat.reduceEqDiff, ↓reduceIte, Nat.reduceAdd, Nat.reduceLeDiff, Nat.reduceLT, reduceCtorEq, Nat.reduceBEq, Nat.reduceMul, Nat.reduceSub, ne_eq, not_false_eq_true, Int.reduceSub, Int.reduceAdd, Int.reduceLE, Int.reduceLT, Int.reduceToNat, Int.toNat_zero, implies_true])
        | (refine brk_split (fun h => ?_) (fun h => ?_) <;> simp only [h, hw, hx, hc, hz, ih, go_sem, Nat.reduceEqDiff, ↓reduceIte, Nat.reduceAdd, Nat.reduceLeDiff, Nat.reduceLT, reduceCtorEq, Nat.reduceBEq, Nat.reduceMul, Nat.reduceSub, ne_eq, not_false_eq_true, Int.reduceSub, Int.reduceAdd, Int.reduceLE, Int.reduceLT, Int.reduceToNat, Int.toNat_zero, implies_true])
        | (refine pickV_split (fun h => ?_) (fun h => ?_) <;> simp only [h, hw, hx, hc, hz, ih, go_sem, Nat.reduceEqDiff, ↓reduceIte, Nat.reduceAdd, Nat.reduceLeDiff, Nat.reduceLT, reduceCtorEq, Nat.reduceBEq, Nat.reduceMul, Nat.reduceSub, ne_eq, not_false_eq_true, Int.reduceSub, Int.reduceAdd, Int.reduceLE, Int.reduceLT, Int.reduceToNat, Int.toNat_zero, implies_true]))
      all_goals clear ih hw hx
      all_goals simp only [decide_eq_true_eq, decide_eq_false_iff_not] at *
      all_goals first | (rw [rise, if_pos (by omega)]; simp only [brk_false]) | (rw [rise, if_neg (by omega)])
    · have hl := h2 p y (by simpa using h0)
      have hg : getE L (IntKind.wrap .i64 (pre.length - 1)) = some y := by
        rw [wrap_i64 (by omega) (by omega)]
        exact getE_prev (p := p) (r := x :: rest) (by rw [hp, h0]; simp) (by rw [h0]; simp)
      have hz : decide ((0:Int) < pre.length) = true := by simp [h0]
      simp only [f_R29_Valid_l0_eq, f_R29_Valid_l0u, hw, hx, hc, hz, hg, ih, go_sem, Nat.reduceEqDiff, ↓reduceIte, Nat.reduceAdd, Nat.reduceLeDiff, Nat.reduceLT, reduceCtorEq, Nat.reduceBEq, Nat.reduceMul, Nat.reduceSub, ne_eq, not_false_eq_true, Int.reduceSub, Int.reduceAdd, Int.reduceLE, Int.reduceLT, Int.reduceToNat, Int.toNat_zero, implies_true]
      repeat' (first
        | (refine grd_split (fun h => ?_) (fun h => ?_) <;> simp only [h, hw, hx, hc, hz, hg, ih, go_sem, Nat.reduceEqDiff, ↓reduceIte, Nat.reduceAdd, Nat.reduceLeDiff, Nat.reduceLT, reduceCtorEq, Nat.reduceBEq, Nat.reduceMul, Nat.reduceSub, ne_eq, not_false_eq_true, Int.reduceSub, Int.reduceAdd, Int.reduceLE, Int.reduceLT, Int.reduceToNat, Int.toNat_zero, implies_true])
        | (refine condR_split (fun h => ?_) (fun h => ?_) <;> simp only [h, hw, hx, hc, hz, hg, ih, go_sem, Nat.reduceEqDiff, ↓reduceIte, Nat.reduceAdd, Nat.reduceLeDiff, Nat.reduceLT, reduceCtorEq, Nat.reduceBEq, Nat.reduceMul, Nat.reduceSub, ne_eq, not_false_eq_true, Int.reduceSub, Int.reduceAdd, Int.reduceLE, Int.reduceLT, Int.reduceToNat, Int.toNat_zero, implies_true])
        | (refine grdD_split (fun h => ?_) (fun h => ?_) <;> simp only [h, hw, hx, hc, hz, hg, ih, go_sem, Nat.reduceEqDiff, ↓reduceIte, Nat.reduceAdd, Nat.reduceLeDiff, Nat.reduceLT, reduceCtorEq, Nat.reduceBEq, Nat.reduceMul, Nat.reduceSub, ne_eq, not_false_eq_true, Int.reduceSub, Int.reduceAdd, Int.reduceLE, Int.reduceLT, Int.reduceToNat, Int.toNat_zero, implies_true])
        | (refine brk_split (fun h => ?_) (fun h => ?_) <;> simp only [h, hw, hx, hc, hz, hg, ih, go_sem, Nat.reduceEqDiff, ↓reduceIte, Nat.reduceAdd, Nat.reduceLeDiff, Nat.reduceLT, reduceCtorEq, Nat.reduceBEq, Nat.reduceMul, Nat.reduceSub, ne_eq, not_false_eq_true, Int.reduceSub, Int.reduceAdd, Int.reduceLE, Int.reduceLT, Int.reduceToNat, Int.toNat_zero, implies_true])
        | (refine pickV_split (fun h => ?_) (fun h => ?_) <;> simp only [h, hw, hx, hc, hz, hg, ih, go_sem, Nat.reduceEqDiff, ↓reduceIte, Nat.reduceAdd, Nat.reduceLeDiff, Nat.reduceLT, reduceCtorEq, Nat.reduceBEq, Nat.reduceMul, Nat.reduceSub, ne_eq, not_false_eq_true, Int.reduceSub, Int.reduceAdd, Int.reduceLE, Int.reduceLT, Int.reduceToNat, Int.toNat_zero, implies_true]))
      all_goals clear ih hw hx hg
      all_goals simp only [decide_eq_true_eq, decide_eq_false_iff_not] at *
      all_goals first | (rw [rise, if_pos (by omega)]; simp only [brk_false]) | (rw [rise, if_neg (by omega)])
/-- L1. -/
def valid (t : Table) : Bool := if t.next < 0 ∨ 4611686018427387904 < t.next ∨ 4096 < t.l.length then false else rise t.next (-1) t.l
theorem R29_Valid (t : Table) (hL : t.l.length < 1000000000000000) : Den prog 29 [.agg (Table.cells t)] [] = some (.bool (valid t), []) := by
  have hl := R29_Valid_l0 t.next t.l hL t.l [] (-1) rfl (fun _ => rfl) (by simp)
  simp only [List.length_nil, Int.natCast_zero] at hl
  rw [Den_ofK [] pr_R29_Valid rfl]
  simp only [f_R29_Valid, hl, go_sem, Nat.reduceEqDiff, ↓reduceIte, Nat.reduceAdd, Nat.reduceLeDiff, Nat.reduceLT, reduceCtorEq, Nat.reduceBEq, Nat.reduceMul, Nat.reduceSub, ne_eq, not_false_eq_true, Int.reduceSub, Int.reduceAdd, Int.reduceLE, Int.reduceLT, Int.reduceToNat, Int.toNat_zero, implies_true]
  repeat' (first
    | (refine grd_split (fun h => ?_) (fun h => ?_) <;> simp only [h, hl, go_sem, Nat.reduceEqDiff, ↓reduceIte, Nat.reduceAdd, Nat.reduceLeDiff, Nat.reduceLT, reduceCtorEq, Nat.reduceBEq, Nat.reduceMul, Nat.reduceSub, ne_eq, not_false_eq_true, Int.reduceSub, Int.reduceAdd, Int.reduceLE, Int.reduceLT, Int.reduceToNat, Int.toNat_zero, implies_true])
    | (refine condR_split (fun h => ?_) (fun h => ?_) <;> simp only [h, hl, go_sem, Nat.reduceEqDiff, ↓reduceIte, Nat.reduceAdd, Nat.reduceLeDiff, Nat.reduceLT, reduceCtorEq, Nat.reduceBEq, Nat.reduceMul, Nat.reduceSub, ne_eq, not_false_eq_true, Int.reduceSub, Int.reduceAdd, Int.reduceLE, Int.reduceLT, Int.reduceToNat, Int.toNat_zero, implies_true])
    | (refine grdD_split (fun h => ?_) (fun h => ?_) <;> simp only [h, hl, go_sem, Nat.reduceEqDiff, ↓reduceIte, Nat.reduceAdd, Nat.reduceLeDiff, Nat.reduceLT, reduceCtorEq, Nat.reduceBEq, Nat.reduceMul, Nat.reduceSub, ne_eq, not_false_eq_true, Int.reduceSub, Int.reduceAdd, Int.reduceLE, Int.reduceLT, Int.reduceToNat, Int.toNat_zero, implies_true])
    | (refine brk_split (fun h => ?_) (fun h => ?_) <;> simp only [h, hl, go_sem, Nat.reduceEqDiff, ↓reduceIte, Nat.reduceAdd, Nat.reduceLeDiff, Nat.reduceLT, reduceCtorEq, Nat.reduceBEq, Nat.reduceMul, Nat.reduceSub, ne_eq, not_false_eq_true, Int.reduceSub, Int.reduceAdd, Int.reduceLE, Int.reduceLT, Int.reduceToNat, Int.toNat_zero, implies_true])
    | (refine pickV_split (fun h => ?_) (fun h => ?_) <;> simp only [h, hl, go_sem, Nat.reduceEqDiff, ↓reduceIte, Nat.reduceAdd, Nat.reduceLeDiff, Nat.reduceLT, reduceCtorEq, Nat.reduceBEq, Nat.reduceMul, Nat.reduceSub, ne_eq, not_false_eq_true, Int.reduceSub, Int.reduceAdd, Int.reduceLE, Int.reduceLT, Int.reduceToNat, Int.toNat_zero, implies_true]))
  all_goals clear hl
  all_goals simp only [decide_eq_true_eq, decide_eq_false_iff_not] at *
  all_goals first | (rw [valid, if_pos (by omega)]; done) | (rw [valid, if_neg (by omega)]; simp only [*]; done)

theorem bool_eq_iff {a b : Bool} (h : a = true ↔ b = true) : a = b := by cases a <;> cases b <;> simp_all
theorem eqcell (a b : Cell) : (decide (a.id = b.id) && ((a.v.null == b.v.null) && (decide (a.v.n = b.v.n) && decide (a.v.s = b.v.s)))) = decide (a = b) := by
  obtain ⟨i, ⟨n, k, s⟩⟩ := a
  obtain ⟨i', ⟨n', k', s'⟩⟩ := b
  apply bool_eq_iff
  simp
theorem slices_Equal_l0 (A B : List Cell) (hl : A.length = B.length) (hL : A.length < 1000000000000000) : ∀ (r s p q : List Cell), A = p ++ r → B = q ++ s → p.length = q.length → p = q →
    Run prog 0 (.loop 0 [0, 1, 12, 13] f_slices_Equal_api_Cell_api_Cell_l0) [(0, .sl (A.map Cell.cells)), (1, .sl (B.map Cell.cells)), (12, .int .i64 A.length), (13, .int .i64 p.length)] [] =
      brk (decide (A = B)) (some (.exit 0, [(0, .sl (A.map Cell.cells)), (1, .sl (B.map Cell.cells)), (12, .int .i64 A.length), (13, .int .i64 A.length), (14, .bool false)], [])) (some (.ret, [(4, .bool false)], []))
  | [], s, p, q, hp, hq, hpq, he => by
    have hlen : p.length = A.length := by simp [hp]
    have hs : s = [] := by
      have : s.length = 0 := by have := congrArg List.length hq; simp at this; omega
      simpa using this
    have hab : decide (A = B) = true := by simp [hp, hq, hs, he]
    rw [Run_loop]
    simp only [f_slices_Equal_api_Cell_api_Cell_l0_eq, f_slices_Equal_api_Cell_api_Cell_l0u, hlen, hab, go_sem, Nat.reduceEqDiff, ↓reduceIte, Nat.reduceAdd, Nat.reduceLeDiff, Nat.reduceLT, reduceCtorEq, Nat.reduceBEq, Nat.reduceMul, Nat.reduceSub, ne_eq, not_false_eq_true, Int.reduceSub, Int.reduceAdd, Int.reduceLE, Int.reduceLT, Int.reduceToNat, Int.toNat_zero, implies_true]
  | x :: r, [], p, q, hp, hq, hpq, he => by
    exfalso
    have h1 := congrArg List.length hp
    have h2 := congrArg List.length hq
    simp at h1 h2; omega
  | x :: r, y :: s, p, q, hp, hq, hpq, he => by
    have hlen := congrArg List.length hp
    simp only [List.length_append, List.length_cons] at hlen
    have hw : IntKind.wrap .i64 ((p.length : Int) + 1) = p.length + 1 := wrap_i64 (by omega) (by omega)
    have hx := getE_at hp
    have hy : getE B (p.length : Int) = some y := by rw [hpq]; exact getE_at hq
    have hc : decide ((p.length : Int) < A.length) = true := by simp; omega
    have hcell := eqcell x y
    by_cases hxy : x = y
    · have ih := slices_Equal_l0 A B hl hL r s (p ++ [x]) (q ++ [y]) (by simpa using hp) (by simpa using hq) (by simpa using hpq) (by rw [he, hxy])
      simp only [List.length_append, List.length_cons, List.length_nil, Nat.zero_add, Int.natCast_add, Int.cast_ofNat_Int] at ih
      have hd : decide (x = y) = true := by simpa using hxy
      rw [Run_loop]
      simp only [f_slices_Equal_api_Cell_api_Cell_l0_eq, f_slices_Equal_api_Cell_api_Cell_l0u, hw, hx, hy, hc, hcell, hd, Bool.not_true, ih, go_sem, Nat.reduceEqDiff, ↓reduceIte, Nat.reduceAdd, Nat.reduceLeDiff, Nat.reduceLT, reduceCtorEq, Nat.reduceBEq, Nat.reduceMul, Nat.reduceSub, ne_eq, not_false_eq_true, Int.reduceSub, Int.reduceAdd, Int.reduceLE, Int.reduceLT, Int.reduceToNat, Int.toNat_zero, implies_true]
    · have hd : decide (x = y) = false := by simpa using hxy
      have hab : decide (A = B) = false := by
        simp only [decide_eq_false_iff_not]
        intro h
        rw [hp, hq, he] at h
        simp at h
        exact hxy h.1
      rw [Run_loop]
      simp only [f_slices_Equal_api_Cell_api_Cell_l0_eq, f_slices_Equal_api_Cell_api_Cell_l0u, hw, hx, hy, hc, hcell, hd, hab, Bool.not_false, go_sem, Nat.reduceEqDiff, ↓reduceIte, Nat.reduceAdd, Nat.reduceLeDiff, Nat.reduceLT, reduceCtorEq, Nat.reduceBEq, Nat.reduceMul, Nat.reduceSub, ne_eq, not_false_eq_true, Int.reduceSub, Int.reduceAdd, Int.reduceLE, Int.reduceLT, Int.reduceToNat, Int.toNat_zero, implies_true]
@[go_sem] theorem slices_Equal (A B : List Cell) (hL : A.length < 1000000000000000) : Den prog 1 [.sl (A.map Cell.cells), .sl (B.map Cell.cells)] [] = some (.bool (decide (A = B)), []) := by
  rw [Den_ofK [] pr_slices_Equal_api_Cell_api_Cell rfl]
  by_cases hl : A.length = B.length
  · have h := slices_Equal_l0 A B hl hL A B [] [] rfl rfl rfl rfl
    simp only [List.length_nil, Int.natCast_zero] at h
    have hd : decide ((A.length : Int) = B.length) = true := by rw [decide_eq_true_eq]; omega
    simp only [f_slices_Equal_api_Cell_api_Cell, h, hd, Bool.not_true, go_sem, Nat.reduceEqDiff, ↓reduceIte, Nat.reduceAdd, Nat.reduceLeDiff, Nat.reduceLT, reduceCtorEq, Nat.reduceBEq, Nat.reduceMul, Nat.reduceSub, ne_eq, not_false_eq_true, Int.reduceSub, Int.reduceAdd, Int.reduceLE, Int.reduceLT, Int.reduceToNat, Int.toNat_zero, implies_true]
    repeat' (first
      | (refine grd_split (fun h => ?_) (fun h => ?_) <;> simp only [h, h, go_sem, Nat.reduceEqDiff, ↓reduceIte, Nat.reduceAdd, Nat.reduceLeDiff, Nat.reduceLT, reduceCtorEq, Nat.reduceBEq, Nat.reduceMul, Nat.reduceSub, ne_eq, not_false_eq_true, Int.reduceSub, Int.reduceAdd, Int.reduceLE, Int.reduceLT, Int.reduceToNat, Int.toNat_zero, implies_true])
      | (refine condR_split (fun h => ?_) (fun h => ?_) <;> simp only [h, h, go_sem, Nat.reduceEqDiff, ↓reduceIte, Nat.reduceAdd, Nat.reduceLeDiff, Nat.reduceLT, reduceCtorEq, Nat.reduceBEq, Nat.reduceMul, Nat.reduceSub, ne_eq, not_false_eq_true, Int.reduceSub, Int.reduceAdd, Int.reduceLE, Int.reduceLT, Int.reduceToNat, Int.toNat_zero, implies_true])
      | (refine grdD_split (fun h => ?_) (fun h => ?_) <;> simp only [h, h, go_sem, Nat.reduceEqDiff, ↓reduceIte, Nat.reduceAdd, Nat.reduceLeDiff, Nat.reduceLT, reduceCtorEq, Nat.reduceBEq, Nat.reduceMul, Nat.reduceSub, ne_eq, not_false_eq_true, Int.reduceSub, Int.reduceAdd, Int.reduceLE, Int.reduceLT, Int.reduceToNat, Int.toNat_zero, implies_true])
      | (refine brk_split (fun h => ?_) (fun h => ?_) <;> simp only [h, h, go_sem, Nat.reduceEqDiff, ↓reduceIte, Nat.reduceAdd, Nat.reduceLeDiff, Nat.reduceLT, reduceCtorEq, Nat.reduceBEq, Nat.reduceMul, Nat.reduceSub, ne_eq, not_false_eq_true, Int.reduceSub, Int.reduceAdd, Int.reduceLE, Int.reduceLT, Int.reduceToNat, Int.toNat_zero, implies_true])
      | (refine pickV_split (fun h => ?_) (fun h => ?_) <;> simp only [h, h, go_sem, Nat.reduceEqDiff, ↓reduceIte, Nat.reduceAdd, Nat.reduceLeDiff, Nat.reduceLT, reduceCtorEq, Nat.reduceBEq, Nat.reduceMul, Nat.reduceSub, ne_eq, not_false_eq_true, Int.reduceSub, Int.reduceAdd, Int.reduceLE, Int.reduceLT, Int.reduceToNat, Int.toNat_zero, implies_true]))
  · have hd : decide ((A.length : Int) = B.length) = false := by simp; omega
    have hab : decide (A = B) = false := by simp only [decide_eq_false_iff_not]; intro h; exact hl (by rw [h])
    simp only [f_slices_Equal_api_Cell_api_Cell, hd, hab, Bool.not_false, go_sem, Nat.reduceEqDiff, ↓reduceIte, Nat.reduceAdd, Nat.reduceLeDiff, Nat.reduceLT, reduceCtorEq, Nat.reduceBEq, Nat.reduceMul, Nat.reduceSub, ne_eq, not_false_eq_true, Int.reduceSub, Int.reduceAdd, Int.reduceLE, Int.reduceLT, Int.reduceToNat, Int.toNat_zero, implies_true]
end Go.Den
