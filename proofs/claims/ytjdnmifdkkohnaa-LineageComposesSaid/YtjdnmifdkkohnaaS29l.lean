/- Ch. 29: the reference's comparisons. -/
import Derived.Test.YtjdnmifdkkohnaaS29k
namespace Go.Den
open Go
set_option linter.unusedSimpArgs false
set_option linter.unusedVariables false
set_option maxRecDepth 100000
set_option maxHeartbeats 1000000
theorem zip_ind {α : Type} (A B : List α) (hl : A.length = B.length) (hL : A.length < 1000000000000000) (goal : Int → Prop) (hend : A = B → goal A.length)
    (hstep : ∀ (i : Int) (x y : α), getE A i = some x → getE B i = some y → decide (i < (A.length : Int)) = true → IntKind.wrap .i64 (i + 1) = i + 1 → x ∈ A → y ∈ B → (x = y → goal (i + 1)) → (x ≠ y → A ≠ B) → goal i) : goal 0 := by
  refine range_ind A hL (fun i (_ : Unit) => goal i) (fun i rest _ => ∃ pre s, A = pre ++ rest ∧ B = pre ++ s ∧ i = (pre.length : Int)) ?_ ?_ () ⟨[], B, rfl, rfl, rfl⟩
  · intro _ ⟨pre, s, h1, h2, h3⟩
    refine hend ?_
    have : s.length = 0 := by have q1 := congrArg List.length h1; have q2 := congrArg List.length h2; simp at q1 q2; omega
    have hs : s = [] := by simpa using this
    rw [h1, h2, hs]
  · intro i pre0 rest x _ _ _ _ _ hx hc hw ⟨pre, s, h1, h2, h3⟩ ih
    cases s with
    | nil =>
      exfalso
      have q1 := congrArg List.length h1; have q2 := congrArg List.length h2; simp at q1 q2; omega
    | cons y s =>
      have hy : getE B i = some y := by rw [h3]; exact getE_at h2
      refine hstep i x y hx hy hc hw (by rw [h1]; simp) (by rw [h2]; simp) (fun e => ?_) (fun e => ?_)
      · refine ih () ⟨pre ++ [x], s, by rw [h1]; simp, by rw [h2, e]; simp, by rw [h3]; simp⟩
      · intro hab
        rw [h1, h2] at hab
        have := List.append_cancel_left hab
        simp at this
        exact e this.1
theorem R29_Lines (A B : List Line) (hL : A.length < 1000000000000000) (hA : okL A) : Den prog 16 [.sl (A.map Line.cells), .sl (B.map Line.cells)] [] = some (.bool (decide (A = B)), []) := by
  rw [Den_ofK [] pr_R29_Lines rfl]
  by_cases hl : A.length = B.length
  · have hd : decide ((A.length : Int) = B.length) = true := by rw [decide_eq_true_eq]; omega
    simp only [f_R29_Lines, hd, go_sem, Nat.reduceEqDiff, ↓reduceIte, Nat.reduceAdd, Nat.reduceLeDiff, Nat.reduceLT, reduceCtorEq, Nat.reduceBEq, Nat.reduceMul, Nat.reduceSub, ne_eq, not_false_eq_true, Int.reduceSub, Int.reduceAdd, Int.reduceLE, Int.reduceLT, Int.reduceToNat, Int.toNat_zero, implies_true]
    refine zip_ind A B hl hL (fun i => (Run prog 0 (.loop 0 [0, 1, 5] f_R29_Lines_l0) [(0, .sl (A.map Line.cells)), (1, .sl (B.map Line.cells)), (5, .int .i64 i)] []).bind _ = _) ?_ ?_
    · intro h
      have hab : decide (A = B) = true := by simp [h]
      rw [Run_loop]
      simp only [f_R29_Lines_l0_eq, f_R29_Lines_l0u, hab, go_sem, Nat.reduceEqDiff, ↓reduceIte, Nat.reduceAdd, Nat.reduceLeDiff, Nat.reduceLT, reduceCtorEq, Nat.reduceBEq, Nat.reduceMul, Nat.reduceSub, ne_eq, not_false_eq_true, Int.reduceSub, Int.reduceAdd, Int.reduceLE, Int.reduceLT, Int.reduceToNat, Int.toNat_zero, implies_true]
    · intro i x y hx hy hc hw hxA hyB h1 h0
      have hxr := hA x hxA
      rw [Run_loop]
      by_cases c1 : x.n = y.n
      · have d1 : decide (x.n = y.n) = true := by simpa using c1
        by_cases c2 : x.r = y.r
        · have d2 : decide (x.r = y.r) = true := by simpa using c2
          have h1 := h1 (by cases x; cases y; simp_all)
          simp only [f_R29_Lines_l0_eq, f_R29_Lines_l0u, hx, hy, hc, hw, d1, d2, hxr, h1, go_sem, Nat.reduceEqDiff, ↓reduceIte, Nat.reduceAdd, Nat.reduceLeDiff, Nat.reduceLT, reduceCtorEq, Nat.reduceBEq, Nat.reduceMul, Nat.reduceSub, ne_eq, not_false_eq_true, Int.reduceSub, Int.reduceAdd, Int.reduceLE, Int.reduceLT, Int.reduceToNat, Int.toNat_zero, implies_true]
        · have d2 : decide (x.r = y.r) = false := by simpa using c2
          have hab : decide (A = B) = false := by simpa using h0 (by intro e; exact c2 (by rw [e]))
          simp only [f_R29_Lines_l0_eq, f_R29_Lines_l0u, hx, hy, hc, hw, d1, d2, hxr, hab, go_sem, Nat.reduceEqDiff, ↓reduceIte, Nat.reduceAdd, Nat.reduceLeDiff, Nat.reduceLT, reduceCtorEq, Nat.reduceBEq, Nat.reduceMul, Nat.reduceSub, ne_eq, not_false_eq_true, Int.reduceSub, Int.reduceAdd, Int.reduceLE, Int.reduceLT, Int.reduceToNat, Int.toNat_zero, implies_true]
      · have d1 : decide (x.n = y.n) = false := by simpa using c1
        have hab : decide (A = B) = false := by simpa using h0 (by intro e; exact c1 (by rw [e]))
        simp only [f_R29_Lines_l0_eq, f_R29_Lines_l0u, hx, hy, hc, hw, d1, hab, go_sem, Nat.reduceEqDiff, ↓reduceIte, Nat.reduceAdd, Nat.reduceLeDiff, Nat.reduceLT, reduceCtorEq, Nat.reduceBEq, Nat.reduceMul, Nat.reduceSub, ne_eq, not_false_eq_true, Int.reduceSub, Int.reduceAdd, Int.reduceLE, Int.reduceLT, Int.reduceToNat, Int.toNat_zero, implies_true]
  · have hd : decide ((A.length : Int) = B.length) = false := by simp; omega
    have hab : decide (A = B) = false := by simp only [decide_eq_false_iff_not]; intro h; exact hl (by rw [h])
    simp only [f_R29_Lines, hd, hab, go_sem, Nat.reduceEqDiff, ↓reduceIte, Nat.reduceAdd, Nat.reduceLeDiff, Nat.reduceLT, reduceCtorEq, Nat.reduceBEq, Nat.reduceMul, Nat.reduceSub, ne_eq, not_false_eq_true, Int.reduceSub, Int.reduceAdd, Int.reduceLE, Int.reduceLT, Int.reduceToNat, Int.toNat_zero, implies_true]
theorem R29_Events (A B : List Event) (hL : A.length < 1000000000000000) (hA : okE A) : Den prog 25 [.sl (A.map Event.cells), .sl (B.map Event.cells)] [] = some (.bool (decide (A = B)), []) := by
  rw [Den_ofK [] pr_R29_Events rfl]
  by_cases hl : A.length = B.length
  · have hd : decide ((A.length : Int) = B.length) = true := by rw [decide_eq_true_eq]; omega
    simp only [f_R29_Events, hd, go_sem, Nat.reduceEqDiff, ↓reduceIte, Nat.reduceAdd, Nat.reduceLeDiff, Nat.reduceLT, reduceCtorEq, Nat.reduceBEq, Nat.reduceMul, Nat.reduceSub, ne_eq, not_false_eq_true, Int.reduceSub, Int.reduceAdd, Int.reduceLE, Int.reduceLT, Int.reduceToNat, Int.toNat_zero, implies_true]
    refine zip_ind A B hl hL (fun i => (Run prog 0 (.loop 0 [0, 1, 5] f_R29_Events_l0) [(0, .sl (A.map Event.cells)), (1, .sl (B.map Event.cells)), (5, .int .i64 i)] []).bind _ = _) ?_ ?_
    · intro h
      have hab : decide (A = B) = true := by simp [h]
      rw [Run_loop]
      simp only [f_R29_Events_l0_eq, f_R29_Events_l0u, hab, go_sem, Nat.reduceEqDiff, ↓reduceIte, Nat.reduceAdd, Nat.reduceLeDiff, Nat.reduceLT, reduceCtorEq, Nat.reduceBEq, Nat.reduceMul, Nat.reduceSub, ne_eq, not_false_eq_true, Int.reduceSub, Int.reduceAdd, Int.reduceLE, Int.reduceLT, Int.reduceToNat, Int.toNat_zero, implies_true]
    · intro i x y hx hy hc hw hxA hyB h1 h0
      have hxr := hA x hxA
      rw [Run_loop]
      by_cases c0 : x.kind = y.kind
      · have d0 : decide (x.kind = y.kind) = true := by simpa using c0
        by_cases c1 : x.l.n = y.l.n
        · have d1 : decide (x.l.n = y.l.n) = true := by simpa using c1
          by_cases c2 : x.l.r = y.l.r
          · have d2 : decide (x.l.r = y.l.r) = true := by simpa using c2
            have h1 := h1 (by obtain ⟨k, n, r⟩ := x; obtain ⟨k', n', r'⟩ := y; simp_all)
            simp only [f_R29_Events_l0_eq, f_R29_Events_l0u, hx, hy, hc, hw, d0, d1, d2, hxr, h1, go_sem, Nat.reduceEqDiff, ↓reduceIte, Nat.reduceAdd, Nat.reduceLeDiff, Nat.reduceLT, reduceCtorEq, Nat.reduceBEq, Nat.reduceMul, Nat.reduceSub, ne_eq, not_false_eq_true, Int.reduceSub, Int.reduceAdd, Int.reduceLE, Int.reduceLT, Int.reduceToNat, Int.toNat_zero, implies_true]
          · have d2 : decide (x.l.r = y.l.r) = false := by simpa using c2
            have hab : decide (A = B) = false := by simpa using h0 (by intro e; exact c2 (by rw [e]))
            simp only [f_R29_Events_l0_eq, f_R29_Events_l0u, hx, hy, hc, hw, d0, d1, d2, hxr, hab, go_sem, Nat.reduceEqDiff, ↓reduceIte, Nat.reduceAdd, Nat.reduceLeDiff, Nat.reduceLT, reduceCtorEq, Nat.reduceBEq, Nat.reduceMul, Nat.reduceSub, ne_eq, not_false_eq_true, Int.reduceSub, Int.reduceAdd, Int.reduceLE, Int.reduceLT, Int.reduceToNat, Int.toNat_zero, implies_true]
        · have d1 : decide (x.l.n = y.l.n) = false := by simpa using c1
          have hab : decide (A = B) = false := by simpa using h0 (by intro e; exact c1 (by rw [e]))
          simp only [f_R29_Events_l0_eq, f_R29_Events_l0u, hx, hy, hc, hw, d0, d1, hab, go_sem, Nat.reduceEqDiff, ↓reduceIte, Nat.reduceAdd, Nat.reduceLeDiff, Nat.reduceLT, reduceCtorEq, Nat.reduceBEq, Nat.reduceMul, Nat.reduceSub, ne_eq, not_false_eq_true, Int.reduceSub, Int.reduceAdd, Int.reduceLE, Int.reduceLT, Int.reduceToNat, Int.toNat_zero, implies_true]
      · have d0 : decide (x.kind = y.kind) = false := by simpa using c0
        have hab : decide (A = B) = false := by simpa using h0 (by intro e; exact c0 (by rw [e]))
        simp only [f_R29_Events_l0_eq, f_R29_Events_l0u, hx, hy, hc, hw, d0, hab, go_sem, Nat.reduceEqDiff, ↓reduceIte, Nat.reduceAdd, Nat.reduceLeDiff, Nat.reduceLT, reduceCtorEq, Nat.reduceBEq, Nat.reduceMul, Nat.reduceSub, ne_eq, not_false_eq_true, Int.reduceSub, Int.reduceAdd, Int.reduceLE, Int.reduceLT, Int.reduceToNat, Int.toNat_zero, implies_true]
  · have hd : decide ((A.length : Int) = B.length) = false := by simp; omega
    have hab : decide (A = B) = false := by simp only [decide_eq_false_iff_not]; intro h; exact hl (by rw [h])
    simp only [f_R29_Events, hd, hab, go_sem, Nat.reduceEqDiff, ↓reduceIte, Nat.reduceAdd, Nat.reduceLeDiff, Nat.reduceLT, reduceCtorEq, Nat.reduceBEq, Nat.reduceMul, Nat.reduceSub, ne_eq, not_false_eq_true, Int.reduceSub, Int.reduceAdd, Int.reduceLE, Int.reduceLT, Int.reduceToNat, Int.toNat_zero, implies_true]
theorem R29_Same (a b : Table) (hL : a.l.length < 1000000000000000) (hA : okL a.l) : Den prog 26 [.agg [.int .i64 a.next, .sl (a.l.map Line.cells)], .agg [.int .i64 b.next, .sl (b.l.map Line.cells)]] [] = some (.bool (decide (a.next = b.next) && decide (a.l = b.l)), []) := by
  have h := R29_Lines a.l b.l hL hA
  rw [Den_ofK [] pr_R29_Same rfl]
  by_cases c : a.next = b.next
  · have d : decide (a.next = b.next) = true := by simpa using c
    simp only [f_R29_Same, h, d, go_sem, Nat.reduceEqDiff, ↓reduceIte, Nat.reduceAdd, Nat.reduceLeDiff, Nat.reduceLT, reduceCtorEq, Nat.reduceBEq, Nat.reduceMul, Nat.reduceSub, ne_eq, not_false_eq_true, Int.reduceSub, Int.reduceAdd, Int.reduceLE, Int.reduceLT, Int.reduceToNat, Int.toNat_zero, implies_true]
  · have d : decide (a.next = b.next) = false := by simpa using c
    simp only [f_R29_Same, h, d, go_sem, Nat.reduceEqDiff, ↓reduceIte, Nat.reduceAdd, Nat.reduceLeDiff, Nat.reduceLT, reduceCtorEq, Nat.reduceBEq, Nat.reduceMul, Nat.reduceSub, ne_eq, not_false_eq_true, Int.reduceSub, Int.reduceAdd, Int.reduceLE, Int.reduceLT, Int.reduceToNat, Int.toNat_zero, implies_true]
def lightL (L : List Line) : Bool := decide (L.length ≤ 80) && L.all fun x => decide (x.r.length ≤ 40)
theorem R29_Light (L : List Line) (hL : L.length < 1000000000000000) : Den prog 37 [.sl (L.map Line.cells)] [] = some (.bool (lightL L), []) := by
  rw [Den_ofK [] pr_R29_Light rfl]
  by_cases c : L.length ≤ 80
  · have d : decide ((80 : Int) < L.length) = false := by simp; omega
    have e : lightL L = L.all fun x => decide (x.r.length ≤ 40) := by simp [lightL, c]
    rw [e]
    simp only [f_R29_Light, d, go_sem, Nat.reduceEqDiff, ↓reduceIte, Nat.reduceAdd, Nat.reduceLeDiff, Nat.reduceLT, reduceCtorEq, Nat.reduceBEq, Nat.reduceMul, Nat.reduceSub, ne_eq, not_false_eq_true, Int.reduceSub, Int.reduceAdd, Int.reduceLE, Int.reduceLT, Int.reduceToNat, Int.toNat_zero, implies_true]
    refine range_ind L hL (fun i (_ : Unit) => (Run prog 0 (.loop 0 [0, 3] f_R29_Light_l0) [(0, .sl (L.map Line.cells)), (3, .int .i64 i)] []).bind _ = _) (fun i rest _ => (rest.all fun x => decide (x.r.length ≤ 40)) = L.all fun x => decide (x.r.length ≤ 40)) ?_ ?_ () rfl
    · intro _ h
      simp only [List.all_nil] at h
      rw [Run_loop]
      simp only [f_R29_Light_l0_eq, f_R29_Light_l0u, ← h, go_sem, Nat.reduceEqDiff, ↓reduceIte, Nat.reduceAdd, Nat.reduceLeDiff, Nat.reduceLT, reduceCtorEq, Nat.reduceBEq, Nat.reduceMul, Nat.reduceSub, ne_eq, not_false_eq_true, Int.reduceSub, Int.reduceAdd, Int.reduceLE, Int.reduceLT, Int.reduceToNat, Int.toNat_zero, implies_true]
    · intro i pre rest x _ hp _ _ _ hx hc hw h ih
      rw [Run_loop]
      rw [List.all_cons] at h
      by_cases c2 : x.r.length ≤ 40
      · have d2 : decide ((40 : Int) < x.r.length) = false := by simp; omega
        have ih := ih () (by rw [← h]; simp [c2])
        simp only [f_R29_Light_l0_eq, f_R29_Light_l0u, hx, hc, hw, d2, ih, go_sem, Nat.reduceEqDiff, ↓reduceIte, Nat.reduceAdd, Nat.reduceLeDiff, Nat.reduceLT, reduceCtorEq, Nat.reduceBEq, Nat.reduceMul, Nat.reduceSub, ne_eq, not_false_eq_true, Int.reduceSub, Int.reduceAdd, Int.reduceLE, Int.reduceLT, Int.reduceToNat, Int.toNat_zero, implies_true]
      · have d2 : decide ((40 : Int) < x.r.length) = true := by simp; omega
        have e2 : (L.all fun x => decide (x.r.length ≤ 40)) = false := by rw [← h]; simp [c2]
        simp only [f_R29_Light_l0_eq, f_R29_Light_l0u, hx, hc, hw, d2, e2, go_sem, Nat.reduceEqDiff, ↓reduceIte, Nat.reduceAdd, Nat.reduceLeDiff, Nat.reduceLT, reduceCtorEq, Nat.reduceBEq, Nat.reduceMul, Nat.reduceSub, ne_eq, not_false_eq_true, Int.reduceSub, Int.reduceAdd, Int.reduceLE, Int.reduceLT, Int.reduceToNat, Int.toNat_zero, implies_true]
  · have d : decide ((80 : Int) < L.length) = true := by simp; omega
    have e : lightL L = false := by simp [lightL, c]
    rw [e]
    simp only [f_R29_Light, d, go_sem, Nat.reduceEqDiff, ↓reduceIte, Nat.reduceAdd, Nat.reduceLeDiff, Nat.reduceLT, reduceCtorEq, Nat.reduceBEq, Nat.reduceMul, Nat.reduceSub, ne_eq, not_false_eq_true, Int.reduceSub, Int.reduceAdd, Int.reduceLE, Int.reduceLT, Int.reduceToNat, Int.toNat_zero, implies_true]
theorem R29_Of (L : List Event) (hL : L.length * 40 ≤ 140737488351232) : Den prog 38 [.sl (L.map Event.cells)] [] = some (.sl ((L.map Event.l).map Line.cells), []) := by
  rw [Den_ofK [] pr_R29_Of rfl]
  simp only [f_R29_Of, go_sem, Nat.reduceEqDiff, ↓reduceIte, Nat.reduceAdd, Nat.reduceLeDiff, Nat.reduceLT, reduceCtorEq, Nat.reduceBEq, Nat.reduceMul, Nat.reduceSub, ne_eq, not_false_eq_true, Int.reduceSub, Int.reduceAdd, Int.reduceLE, Int.reduceLT, Int.reduceToNat, Int.toNat_zero, implies_true]
  refine range_ind L (by omega) (fun i (out : List Line) => (Run prog 0 (.loop 1 [0, 3, 4] f_R29_Of_l0) [(0, .sl (L.map Event.cells)), (3, .osl 0 0 out.length 0 out.length), (4, .int .i64 i)] [.arr 0 2 (out.map Line.cells)]).bind _ = _) (fun i rest out => (out.length : Int) = i ∧ out ++ rest.map Event.l = L.map Event.l) ?_ ?_ [] ⟨rfl, rfl⟩
  · intro out ⟨_, h⟩
    simp only [List.map_nil, List.append_nil] at h
    rw [Run_loop]
    simp only [f_R29_Of_l0_eq, f_R29_Of_l0u, ← h, go_sem, Nat.reduceEqDiff, ↓reduceIte, Nat.reduceAdd, Nat.reduceLeDiff, Nat.reduceLT, reduceCtorEq, Nat.reduceBEq, Nat.reduceMul, Nat.reduceSub, ne_eq, not_false_eq_true, Int.reduceSub, Int.reduceAdd, Int.reduceLE, Int.reduceLT, Int.reduceToNat, Int.toNat_zero, implies_true]
  · intro i pre rest x out hp _ _ hi hx hc hw ⟨hn, h⟩ ih
    have ih := ih (out ++ [x.l]) ⟨by clear ih hx hc hw h hp; simp; omega, by rw [← h]; simp⟩
    have hb : (out.length + 1) * 32 ≤ 140737488355328 := by clear ih hx hc hw h hp; omega
    simp only [go_sem, Nat.reduceEqDiff, ↓reduceIte, Nat.reduceAdd, Nat.reduceLeDiff, Nat.reduceLT, reduceCtorEq, Nat.reduceBEq, Nat.reduceMul, Nat.reduceSub, ne_eq, not_false_eq_true, Int.reduceSub, Int.reduceAdd, Int.reduceLE, Int.reduceLT, Int.reduceToNat, Int.toNat_zero, implies_true] at ih
    rw [Run_loop]
    simp only [f_R29_Of_l0_eq, f_R29_Of_l0u, hx, hc, hw, hb, ih, go_sem, Nat.reduceEqDiff, ↓reduceIte, Nat.reduceAdd, Nat.reduceLeDiff, Nat.reduceLT, reduceCtorEq, Nat.reduceBEq, Nat.reduceMul, Nat.reduceSub, ne_eq, not_false_eq_true, Int.reduceSub, Int.reduceAdd, Int.reduceLE, Int.reduceLT, Int.reduceToNat, Int.toNat_zero, implies_true]
end Go.Den
