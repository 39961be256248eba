/- Ch. 29: feeds. -/
import Derived.Test.YtjdnmifdkkohnaaS29b
namespace Go.Den
open Go
set_option linter.unusedSimpArgs false
set_option linter.unusedVariables false
set_option maxRecDepth 100000
set_option maxHeartbeats 1000000
/-- A list of events is a feed; p comes ahead of it. -/
def feedOk : Option Event → List Event → Bool
  | _, [] => true
  | none, x :: r => if (x.kind ≠ 1 ∧ x.kind ≠ 2) ∨ x.l.n < 0 ∨ 4611686018427387904 ≤ x.l.n then false else feedOk (some x) r
  | some y, x :: r => if (x.kind ≠ 1 ∧ x.kind ≠ 2) ∨ x.l.n < 0 ∨ 4611686018427387904 ≤ x.l.n then false else
      if y.l.n < x.l.n then feedOk (some x) r else if x.l.n < y.l.n ∨ y.kind ≠ 2 ∨ x.kind ≠ 1 ∨ x.l.r = y.l.r then false else feedOk (some x) r
theorem not_dec {p : Prop} [Decidable p] : (!decide p) = true ↔ ¬ p := by simp
theorem not_decf {p : Prop} [Decidable p] : (!decide p) = false ↔ p := by simp
theorem lineage_isFeed_l0 {β : Type} {K : Ex × Env × St → Option β} {Z : Option β} (L : List Event) (hL : L.length < 1000000000000000) (hR : ∀ e ∈ L, e.l.r.length < 1000000000000000) : ∀ (rest pre : List Event) (p : Option Event), L = pre ++ rest → p = pre.getLast? →
    (feedOk p rest = true → K (.exit 0, [(0, .sl (L.map Event.cells)), (6, .sl (L.map Event.cells)), (7, .int .i64 L.length), (8, .int .i64 L.length), (9, .bool false)], []) = Z) →
    (feedOk p rest = false → ∀ s, K (.ret, [(2, .bool false)], s) = Z) →
    (Run prog 0 (.loop 0 [0, 6, 7, 8] f_lineage_isFeed_l0) [(0, .sl (L.map Event.cells)), (6, .sl (L.map Event.cells)), (7, .int .i64 L.length), (8, .int .i64 pre.length)] []).bind K = Z
  | [], pre, p, hp, h1, k1, k0 => by
    have hlen : pre.length = L.length := by simp [hp]
    have k := k1 (by cases p <;> rfl)
    rw [Run_loop]
    simp only [f_lineage_isFeed_l0_eq, f_lineage_isFeed_l0u, hlen, k, go_sem, Nat.reduceEqDiff, ↓reduceIte, Nat.reduceAdd, Nat.reduceLeDiff, Nat.reduceLT, reduceCtorEq, Nat.reduceBEq, Nat.reduceMul, Nat.reduceSub, ne_eq, not_false_eq_true, Int.reduceSub, Int.reduceAdd, Int.reduceLE, Int.reduceLT, Int.reduceToNat, Int.toNat_zero, implies_true]
  | x :: rest, pre, p, hp, h1, k1, k0 => by
    have hlen := congrArg List.length hp
    simp only [List.length_append, List.length_cons] at hlen
    have hw : IntKind.wrap .i64 ((pre.length : Int) + 1) = pre.length + 1 := wrap_i64 (by omega) (by omega)
    have hx := getE_at hp
    have hc : decide ((pre.length : Int) < L.length) = true := by simp; omega
    have hxr := hR x (by rw [hp]; simp)
    have ih := lineage_isFeed_l0 (K := K) (Z := Z) L hL hR rest (pre ++ [x]) (some x) (by simpa using hp) (by simp)
    simp only [List.length_append, List.length_cons, List.length_nil, Nat.zero_add, Int.natCast_add, Int.cast_ofNat_Int] at ih
    rw [Run_loop]
    rcases List.eq_nil_or_concat pre with h0 | ⟨q, y, h0⟩
    · have hz : decide ((pre.length : Int) = 0) = true := by simp [h0]
      have hp0 : p = none := by rw [h1, h0]; rfl
      subst hp0
      simp only [f_lineage_isFeed_l0_eq, f_lineage_isFeed_l0u, hw, hx, hc, hz, go_sem, Nat.reduceEqDiff, ↓reduceIte, Nat.reduceAdd, Nat.reduceLeDiff, Nat.reduceLT, reduceCtorEq, Nat.reduceBEq, Nat.reduceMul, Nat.reduceSub, ne_eq, not_false_eq_true, Int.reduceSub, Int.reduceAdd, Int.reduceLE, Int.reduceLT, Int.reduceToNat, Int.toNat_zero, implies_true]
      repeat' (first
        | (refine grd_split (fun h => ?_) (fun h => ?_) <;> simp only [h, hw, hx, hc, hz, go_sem, Nat.reduceEqDiff, ↓reduceIte, Nat.reduceAdd, Nat.reduceLeDiff, Nat.reduceLT, reduceCtorEq, Nat.reduceBEq, Nat.reduceMul, Nat.reduceSub, ne_eq, not_false_eq_true, Int.reduceSub, Int.reduceAdd, Int.reduceLE, Int.reduceLT, Int.reduceToNat, Int.toNat_zero, implies_true])
        | (refine condR_split (fun h => ?_) (fun h => ?_) <;> simp only [h, hw, hx, hc, hz, go_sem, Nat.reduceEqDiff, ↓reduceIte, Nat.reduceAdd, Nat.reduceLeDiff, Nat.reduceLT, reduceCtorEq, Nat.reduceBEq, Nat.reduceMul, Nat.reduceSub, ne_eq, not_false_eq_true, Int.reduceSub, Int.reduceAdd, Int.reduceLE, Int.reduceLT, Int.reduceToNat, Int.toNat_zero, implies_true])
        | (refine grdD_split (fun h => ?_) (fun h => ?_) <;> simp only [h, hw, hx, hc, hz, go_sem, Nat.reduceEqDiff, ↓reduceIte, Nat.reduceAdd, Nat.reduceLeDiff, Nat.reduceLT, reduceCtorEq, Nat.reduceBEq, Nat.reduceMul, Nat.reduceSub, ne_eq, not_false_eq_true, Int.reduceSub, Int.reduceAdd, Int.reduceLE, Int.reduceLT, Int.reduceToNat, Int.toNat_zero, implies_true])
        | (refine brk_split (fun h => ?_) (fun h => ?_) <;> simp only [h, hw, hx, hc, hz, go_sem, Nat.reduceEqDiff, ↓reduceIte, Nat.reduceAdd, Nat.reduceLeDiff, Nat.reduceLT, reduceCtorEq, Nat.reduceBEq, Nat.reduceMul, Nat.reduceSub, ne_eq, not_false_eq_true, Int.reduceSub, Int.reduceAdd, Int.reduceLE, Int.reduceLT, Int.reduceToNat, Int.toNat_zero, implies_true])
        | (refine pickV_split (fun h => ?_) (fun h => ?_) <;> simp only [h, hw, hx, hc, hz, go_sem, Nat.reduceEqDiff, ↓reduceIte, Nat.reduceAdd, Nat.reduceLeDiff, Nat.reduceLT, reduceCtorEq, Nat.reduceBEq, Nat.reduceMul, Nat.reduceSub, ne_eq, not_false_eq_true, Int.reduceSub, Int.reduceAdd, Int.reduceLE, Int.reduceLT, Int.reduceToNat, Int.toNat_zero, implies_true]))
      all_goals simp only [not_dec, not_decf, decide_eq_true_eq, decide_eq_false_iff_not] at *
      all_goals first
        | exact k0 (by rw [feedOk, if_pos (by omega)]) _
        | exact ih (fun h => k1 (by rw [feedOk, if_neg (by omega)]; exact h)) (fun h => k0 (by rw [feedOk, if_neg (by omega)]; exact h))
    · have hz : decide ((pre.length : Int) = 0) = false := by rw [decide_eq_false_iff_not, h0]; simp; omega
      have hp0 : p = some y := by rw [h1, h0]; simp
      have hg : getE L (IntKind.wrap .i64 (pre.length - 1)) = some y := by
        rw [wrap_i64 (by omega) (by omega)]
        exact getE_prev (p := q) (r := x :: rest) (by rw [hp, h0]; simp) (by rw [h0]; simp)
      subst hp0
      simp only [f_lineage_isFeed_l0_eq, f_lineage_isFeed_l0u, hw, hx, hc, hz, hg, hxr, go_sem, Nat.reduceEqDiff, ↓reduceIte, Nat.reduceAdd, Nat.reduceLeDiff, Nat.reduceLT, reduceCtorEq, Nat.reduceBEq, Nat.reduceMul, Nat.reduceSub, ne_eq, not_false_eq_true, Int.reduceSub, Int.reduceAdd, Int.reduceLE, Int.reduceLT, Int.reduceToNat, Int.toNat_zero, implies_true]
      repeat' (first
        | (refine grd_split (fun h => ?_) (fun h => ?_) <;> simp only [h, hw, hx, hc, hz, hg, hxr, go_sem, Nat.reduceEqDiff, ↓reduceIte, Nat.reduceAdd, Nat.reduceLeDiff, Nat.reduceLT, reduceCtorEq, Nat.reduceBEq, Nat.reduceMul, Nat.reduceSub, ne_eq, not_false_eq_true, Int.reduceSub, Int.reduceAdd, Int.reduceLE, Int.reduceLT, Int.reduceToNat, Int.toNat_zero, implies_true])
        | (refine condR_split (fun h => ?_) (fun h => ?_) <;> simp only [h, hw, hx, hc, hz, hg, hxr, go_sem, Nat.reduceEqDiff, ↓reduceIte, Nat.reduceAdd, Nat.reduceLeDiff, Nat.reduceLT, reduceCtorEq, Nat.reduceBEq, Nat.reduceMul, Nat.reduceSub, ne_eq, not_false_eq_true, Int.reduceSub, Int.reduceAdd, Int.reduceLE, Int.reduceLT, Int.reduceToNat, Int.toNat_zero, implies_true])
        | (refine grdD_split (fun h => ?_) (fun h => ?_) <;> simp only [h, hw, hx, hc, hz, hg, hxr, go_sem, Nat.reduceEqDiff, ↓reduceIte, Nat.reduceAdd, Nat.reduceLeDiff, Nat.reduceLT, reduceCtorEq, Nat.reduceBEq, Nat.reduceMul, Nat.reduceSub, ne_eq, not_false_eq_true, Int.reduceSub, Int.reduceAdd, Int.reduceLE, Int.reduceLT, Int.reduceToNat, Int.toNat_zero, implies_true])
        | (refine brk_split (fun h => ?_) (fun h => ?_) <;> simp only [h, hw, hx, hc, hz, hg, hxr, go_sem, Nat.reduceEqDiff, ↓reduceIte, Nat.reduceAdd, Nat.reduceLeDiff, Nat.reduceLT, reduceCtorEq, Nat.reduceBEq, Nat.reduceMul, Nat.reduceSub, ne_eq, not_false_eq_true, Int.reduceSub, Int.reduceAdd, Int.reduceLE, Int.reduceLT, Int.reduceToNat, Int.toNat_zero, implies_true])
        | (refine pickV_split (fun h => ?_) (fun h => ?_) <;> simp only [h, hw, hx, hc, hz, hg, hxr, go_sem, Nat.reduceEqDiff, ↓reduceIte, Nat.reduceAdd, Nat.reduceLeDiff, Nat.reduceLT, reduceCtorEq, Nat.reduceBEq, Nat.reduceMul, Nat.reduceSub, ne_eq, not_false_eq_true, Int.reduceSub, Int.reduceAdd, Int.reduceLE, Int.reduceLT, Int.reduceToNat, Int.toNat_zero, implies_true]))
      all_goals simp only [not_dec, not_decf, decide_eq_true_eq, decide_eq_false_iff_not] at *
      all_goals clear hw hx hg hp h1
      all_goals first
        | exact k0 (by rw [feedOk, if_pos (by omega)]) _
        | exact ih (fun h => k1 (by rw [feedOk, if_neg (by omega), if_pos (by omega)]; exact h)) (fun h => k0 (by rw [feedOk, if_neg (by omega), if_pos (by omega)]; exact h))
        | exact k0 (by rw [feedOk, if_neg (by omega), if_neg (by omega), if_pos (by grind)]) _
        | exact ih (fun h => k1 (by rw [feedOk, if_neg (by omega), if_neg (by omega), if_neg (by grind)]; exact h)) (fun h => k0 (by rw [feedOk, if_neg (by omega), if_neg (by omega), if_neg (by grind)]; exact h))
@[go_sem] theorem lineage_isFeed (L : List Event) (hL : L.length < 1000000000000000) (hR : ∀ e ∈ L, e.l.r.length < 1000000000000000) : Den prog 6 [.sl (L.map Event.cells)] [] = some (.bool (feedOk none L), []) := by
  rw [Den_ofK [] pr_lineage_isFeed rfl]
  simp only [f_lineage_isFeed, go_sem, Nat.reduceEqDiff, ↓reduceIte, Nat.reduceAdd, Nat.reduceLeDiff, Nat.reduceLT, reduceCtorEq, Nat.reduceBEq, Nat.reduceMul, Nat.reduceSub, ne_eq, not_false_eq_true, Int.reduceSub, Int.reduceAdd, Int.reduceLE, Int.reduceLT, Int.reduceToNat, Int.toNat_zero, implies_true]
  refine lineage_isFeed_l0 L hL hR L [] none rfl rfl (fun h => ?_) (fun h s => ?_)
  · simp only [h, go_sem, Nat.reduceEqDiff, ↓reduceIte, Nat.reduceAdd, Nat.reduceLeDiff, Nat.reduceLT, reduceCtorEq, Nat.reduceBEq, Nat.reduceMul, Nat.reduceSub, ne_eq, not_false_eq_true, Int.reduceSub, Int.reduceAdd, Int.reduceLE, Int.reduceLT, Int.reduceToNat, Int.toNat_zero, implies_true]
  · simp only [h, go_sem, Nat.reduceEqDiff, ↓reduceIte, Nat.reduceAdd, Nat.reduceLeDiff, Nat.reduceLT, reduceCtorEq, Nat.reduceBEq, Nat.reduceMul, Nat.reduceSub, ne_eq, not_false_eq_true, Int.reduceSub, Int.reduceAdd, Int.reduceLE, Int.reduceLT, Int.reduceToNat, Int.toNat_zero, implies_true]
theorem R29_IsFeed_l0 {β : Type} {K : Ex × Env × St → Option β} {Z : Option β} (L : List Event) (hL : L.length < 1000000000000000) (hR : ∀ e ∈ L, e.l.r.length < 1000000000000000) : ∀ (rest pre : List Event) (p : Option Event), L = pre ++ rest → p = pre.getLast? →
    (feedOk p rest = true → K (.exit 0, [(0, .sl (L.map Event.cells)), (3, .int .i64 L.length), (9, .bool false)], []) = Z) →
    (feedOk p rest = false → ∀ s, K (.ret, [(2, .bool false)], s) = Z) →
    (Run prog 0 (.loop 0 [0, 3] f_R29_IsFeed_l0) [(0, .sl (L.map Event.cells)), (3, .int .i64 pre.length)] []).bind K = Z
  | [], pre, p, hp, h1, k1, k0 => by
    have hlen : pre.length = L.length := by simp [hp]
    have k := k1 (by cases p <;> rfl)
    rw [Run_loop]
    simp only [f_R29_IsFeed_l0_eq, f_R29_IsFeed_l0u, hlen, k, go_sem, Nat.reduceEqDiff, ↓reduceIte, Nat.reduceAdd, Nat.reduceLeDiff, Nat.reduceLT, reduceCtorEq, Nat.reduceBEq, Nat.reduceMul, Nat.reduceSub, ne_eq, not_false_eq_true, Int.reduceSub, Int.reduceAdd, Int.reduceLE, Int.reduceLT, Int.reduceToNat, Int.toNat_zero, implies_true]
  | x :: rest, pre, p, hp, h1, k1, k0 => by
    have hlen := congrArg List.length hp
    simp only [List.length_append, List.length_cons] at hlen
    have hw : IntKind.wrap .i64 ((pre.length : Int) + 1) = pre.length + 1 := wrap_i64 (by omega) (by omega)
    have hx := getE_at hp
    have hc : decide ((pre.length : Int) < L.length) = true := by simp; omega
    have hxr := hR x (by rw [hp]; simp)
    have hyr : ∀ y ∈ pre, y.l.r.length < 1000000000000000 := fun y hy => hR y (by rw [hp]; simp [hy])
    have ih := R29_IsFeed_l0 (K := K) (Z := Z) L hL hR rest (pre ++ [x]) (some x) (by simpa using hp) (by simp)
    simp only [List.length_append, List.length_cons, List.length_nil, Nat.zero_add, Int.natCast_add, Int.cast_ofNat_Int] at ih
    rw [Run_loop]
    rcases List.eq_nil_or_concat pre with h0 | ⟨q, y, h0⟩
    · have hz : decide ((pre.length : Int) = 0) = true := by simp [h0]
      have hp0 : p = none := by rw [h1, h0]; rfl
      subst hp0
      simp only [f_R29_IsFeed_l0_eq, f_R29_IsFeed_l0u, hw, hx, hc, hz, go_sem, Nat.reduceEqDiff, ↓reduceIte, Nat.reduceAdd, Nat.reduceLeDiff, Nat.reduceLT, reduceCtorEq, Nat.reduceBEq, Nat.reduceMul, Nat.reduceSub, ne_eq, not_false_eq_true, Int.reduceSub, Int.reduceAdd, Int.reduceLE, Int.reduceLT, Int.reduceToNat, Int.toNat_zero, implies_true]
      repeat' (first
        | (refine grd_split (fun h => ?_) (fun h => ?_) <;> simp only [h, hw, hx, hc, hz, go_sem, Nat.reduceEqDiff, ↓reduceIte, Nat.reduceAdd, Nat.reduceLeDiff, Nat.reduceLT, reduceCtorEq, Nat.reduceBEq, Nat.reduceMul, Nat.reduceSub, ne_eq, not_false_eq_true, Int.reduceSub, Int.reduceAdd, Int.reduceLE, Int.reduceLT, Int.reduceToNat, Int.toNat_zero, implies_true])
        | (refine condR_split (fun h => ?_) (fun h => ?_) <;> simp only [h, hw, hx, hc, hz, go_sem, Nat.reduceEqDiff, ↓reduceIte, Nat.reduceAdd, Nat.reduceLeDiff, Nat.reduceLT, reduceCtorEq, Nat.reduceBEq, Nat.reduceMul, Nat.reduceSub, ne_eq, not_false_eq_true, Int.reduceSub, Int.reduceAdd, Int.reduceLE, Int.reduceLT, Int.reduceToNat, Int.toNat_zero, implies_true])
        | (refine grdD_split (fun h => ?_) (fun h => ?_) <;> simp only [h, hw, hx, hc, hz, go_sem, Nat.reduceEqDiff, ↓reduceIte, Nat.reduceAdd, Nat.reduceLeDiff, Nat.reduceLT, reduceCtorEq, Nat.reduceBEq, Nat.reduceMul, Nat.reduceSub, ne_eq, not_false_eq_true, Int.reduceSub, Int.reduceAdd, Int.reduceLE, Int.reduceLT, Int.reduceToNat, Int.toNat_zero, implies_true])
        | (refine brk_split (fun h => ?_) (fun h => ?_) <;> simp only [h, hw, hx, hc, hz, go_sem, Nat.reduceEqDiff, ↓reduceIte, Nat.reduceAdd, Nat.reduceLeDiff, Nat.reduceLT, reduceCtorEq, Nat.reduceBEq, Nat.reduceMul, Nat.reduceSub, ne_eq, not_false_eq_true, Int.reduceSub, Int.reduceAdd, Int.reduceLE, Int.reduceLT, Int.reduceToNat, Int.toNat_zero, implies_true])
        | (refine pickV_split (fun h => ?_) (fun h => ?_) <;> simp only [h, hw, hx, hc, hz, go_sem, Nat.reduceEqDiff, ↓reduceIte, Nat.reduceAdd, Nat.reduceLeDiff, Nat.reduceLT, reduceCtorEq, Nat.reduceBEq, Nat.reduceMul, Nat.reduceSub, ne_eq, not_false_eq_true, Int.reduceSub, Int.reduceAdd, Int.reduceLE, Int.reduceLT, Int.reduceToNat, Int.toNat_zero, implies_true]))
      all_goals simp only [not_dec, not_decf, decide_eq_true_eq, decide_eq_false_iff_not] at *
      all_goals first
        | exact k0 (by rw [feedOk, if_pos (by omega)]) _
        | exact ih (fun h => k1 (by rw [feedOk, if_neg (by omega)]; exact h)) (fun h => k0 (by rw [feedOk, if_neg (by omega)]; exact h))
    · have hz : decide ((pre.length : Int) = 0) = false := by rw [decide_eq_false_iff_not, h0]; simp; omega
      have hxr := hyr y (by rw [h0]; simp)
      have hp0 : p = some y := by rw [h1, h0]; simp
      have hg : getE L (IntKind.wrap .i64 (pre.length - 1)) = some y := by
        rw [wrap_i64 (by omega) (by omega)]
        exact getE_prev (p := q) (r := x :: rest) (by rw [hp, h0]; simp) (by rw [h0]; simp)
      subst hp0
      simp only [f_R29_IsFeed_l0_eq, f_R29_IsFeed_l0u, hw, hx, hc, hz, hg, hxr, go_sem, Nat.reduceEqDiff, ↓reduceIte, Nat.reduceAdd, Nat.reduceLeDiff, Nat.reduceLT, reduceCtorEq, Nat.reduceBEq, Nat.reduceMul, Nat.reduceSub, ne_eq, not_false_eq_true, Int.reduceSub, Int.reduceAdd, Int.reduceLE, Int.reduceLT, Int.reduceToNat, Int.toNat_zero, implies_true]
      repeat' (first
        | (refine grd_split (fun h => ?_) (fun h => ?_) <;> simp only [h, hw, hx, hc, hz, hg, hxr, go_sem, Nat.reduceEqDiff, ↓reduceIte, Nat.reduceAdd, Nat.reduceLeDiff, Nat.reduceLT, reduceCtorEq, Nat.reduceBEq, Nat.reduceMul, Nat.reduceSub, ne_eq, not_false_eq_true, Int.reduceSub, Int.reduceAdd, Int.reduceLE, Int.reduceLT, Int.reduceToNat, Int.toNat_zero, implies_true])
        | (refine condR_split (fun h => ?_) (fun h => ?_) <;> simp only [h, hw, hx, hc, hz, hg, hxr, go_sem, Nat.reduceEqDiff, ↓reduceIte, Nat.reduceAdd, Nat.reduceLeDiff, Nat.reduceLT, reduceCtorEq, Nat.reduceBEq, Nat.reduceMul, Nat.reduceSub, ne_eq, not_false_eq_true, Int.reduceSub, Int.reduceAdd, Int.reduceLE, Int.reduceLT, Int.reduceToNat, Int.toNat_zero, implies_true])
        | (refine grdD_split (fun h => ?_) (fun h => ?_) <;> simp only [h, hw, hx, hc, hz, hg, hxr, go_sem, Nat.reduceEqDiff, ↓reduceIte, Nat.reduceAdd, Nat.reduceLeDiff, Nat.reduceLT, reduceCtorEq, Nat.reduceBEq, Nat.reduceMul, Nat.reduceSub, ne_eq, not_false_eq_true, Int.reduceSub, Int.reduceAdd, Int.reduceLE, Int.reduceLT, Int.reduceToNat, Int.toNat_zero, implies_true])
        | (refine brk_split (fun h => ?_) (fun h => ?_) <;> simp only [h, hw, hx, hc, hz, hg, hxr, go_sem, Nat.reduceEqDiff, ↓reduceIte, Nat.reduceAdd, Nat.reduceLeDiff, Nat.reduceLT, reduceCtorEq, Nat.reduceBEq, Nat.reduceMul, Nat.reduceSub, ne_eq, not_false_eq_true, Int.reduceSub, Int.reduceAdd, Int.reduceLE, Int.reduceLT, Int.reduceToNat, Int.toNat_zero, implies_true])
        | (refine pickV_split (fun h => ?_) (fun h => ?_) <;> simp only [h, hw, hx, hc, hz, hg, hxr, go_sem, Nat.reduceEqDiff, ↓reduceIte, Nat.reduceAdd, Nat.reduceLeDiff, Nat.reduceLT, reduceCtorEq, Nat.reduceBEq, Nat.reduceMul, Nat.reduceSub, ne_eq, not_false_eq_true, Int.reduceSub, Int.reduceAdd, Int.reduceLE, Int.reduceLT, Int.reduceToNat, Int.toNat_zero, implies_true]))
      all_goals simp only [not_dec, not_decf, decide_eq_true_eq, decide_eq_false_iff_not] at *
      all_goals clear hw hx hg hp h1
      all_goals first
        | exact k0 (by rw [feedOk, if_pos (by omega)]) _
        | exact ih (fun h => k1 (by rw [feedOk, if_neg (by omega), if_pos (by omega)]; exact h)) (fun h => k0 (by rw [feedOk, if_neg (by omega), if_pos (by omega)]; exact h))
        | exact k0 (by rw [feedOk, if_neg (by omega), if_neg (by omega), if_pos (by grind)]) _
        | exact ih (fun h => k1 (by rw [feedOk, if_neg (by omega), if_neg (by omega), if_neg (by grind)]; exact h)) (fun h => k0 (by rw [feedOk, if_neg (by omega), if_neg (by omega), if_neg (by grind)]; exact h))
@[go_sem] theorem R29_IsFeed (L : List Event) (hL : L.length < 1000000000000000) (hR : ∀ e ∈ L, e.l.r.length < 1000000000000000) : Den prog 30 [.sl (L.map Event.cells)] [] = some (.bool (feedOk none L), []) := by
  rw [Den_ofK [] pr_R29_IsFeed rfl]
  simp only [f_R29_IsFeed, go_sem, Nat.reduceEqDiff, ↓reduceIte, Nat.reduceAdd, Nat.reduceLeDiff, Nat.reduceLT, reduceCtorEq, Nat.reduceBEq, Nat.reduceMul, Nat.reduceSub, ne_eq, not_false_eq_true, Int.reduceSub, Int.reduceAdd, Int.reduceLE, Int.reduceLT, Int.reduceToNat, Int.toNat_zero, implies_true]
  refine R29_IsFeed_l0 L hL hR L [] none rfl rfl (fun h => ?_) (fun h s => ?_)
  · simp only [h, go_sem, Nat.reduceEqDiff, ↓reduceIte, Nat.reduceAdd, Nat.reduceLeDiff, Nat.reduceLT, reduceCtorEq, Nat.reduceBEq, Nat.reduceMul, Nat.reduceSub, ne_eq, not_false_eq_true, Int.reduceSub, Int.reduceAdd, Int.reduceLE, Int.reduceLT, Int.reduceToNat, Int.toNat_zero, implies_true]
  · simp only [h, go_sem, Nat.reduceEqDiff, ↓reduceIte, Nat.reduceAdd, Nat.reduceLeDiff, Nat.reduceLT, reduceCtorEq, Nat.reduceBEq, Nat.reduceMul, Nat.reduceSub, ne_eq, not_false_eq_true, Int.reduceSub, Int.reduceAdd, Int.reduceLE, Int.reduceLT, Int.reduceToNat, Int.toNat_zero, implies_true]
end Go.Den
