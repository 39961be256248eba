/- Ch. 29: Apply, Fits. -/
import Derived.Test.YtjdnmifdkkohnaaS29g
namespace Go.Den
open Go
set_option linter.unusedSimpArgs false
set_option linter.unusedVariables false
set_option maxRecDepth 100000
set_option maxHeartbeats 1000000
structure Ap where
  gap : Bool
  out : List Line
  next : Int
def σA (s : Ap) : St := [.cells [.int .i64 0, .nils], .arr 0 2 (s.out.map Line.cells), .cells [.int .i64 s.next, .osl 1 0 s.out.length 0 s.out.length], .cells [.bool s.gap], .dead]
def stepA (s : Ap) (n : Int) (x : Option Line) (y : Option Item) : Ap :=
  let now := x.map Line.r
  let gap := match y with | some y => s.gap || !decide (now = y.b) | none => s.gap
  match (match y with | some y => y.a | none => now) with
  | some r => ⟨gap, s.out ++ [⟨n, r⟩], if s.next < n + 1 then n + 1 else s.next⟩
  | none => ⟨gap, s.out, s.next⟩
theorem Apply_1 (s : Ap) (n : Int) (x : Option Line) (y : Option Item) (h : s.out.length < 1000000000000) (hn : 0 ≤ n) (hn2 : n < 4611686018427387904) (hx : lenB (x.map Line.r)) :
    Den prog 8 (.int .i64 n :: lineP x :: itemP y :: [.ref 3 0, .ref 2 0]) (σA s) = some (.tup [], σA (stepA s n x y)) := by
  have hb : (s.out.length + 1) * 32 ≤ 140737488355328 := mul32 (by clear hx; omega)
  have hw : IntKind.wrap .i64 (n + 1) = n + 1 := wrap_i64 (by omega) (by omega)
  rw [Den_ofK (σA s) pr_lineage_Apply_1 rfl]
  obtain ⟨gap, out, next⟩ := s
  simp only [] at hb
  cases y with
  | none =>
    cases x with
    | none => simp only [f_lineage_Apply_1, σA, stepA, hb, hw, finV, oneOf, Option.isNone_none, Option.isNone_some, go_sem, Nat.reduceEqDiff, ↓reduceIte, Nat.reduceAdd, Nat.reduceLeDiff, Nat.reduceLT, reduceCtorEq, Nat.reduceBEq, Nat.reduceMul, Nat.reduceSub, ne_eq, not_false_eq_true, Int.reduceSub, Int.reduceAdd, Int.reduceLE, Int.reduceLT, Int.reduceToNat, Int.toNat_zero, implies_true]
    | some x => simp only [f_lineage_Apply_1, σA, stepA, hb, hw, finV, oneOf, Option.isNone_none, Option.isNone_some, go_sem, Nat.reduceEqDiff, ↓reduceIte, Nat.reduceAdd, Nat.reduceLeDiff, Nat.reduceLT, reduceCtorEq, Nat.reduceBEq, Nat.reduceMul, Nat.reduceSub, ne_eq, not_false_eq_true, Int.reduceSub, Int.reduceAdd, Int.reduceLE, Int.reduceLT, Int.reduceToNat, Int.toNat_zero, implies_true]
  | some y =>
    obtain ⟨m, b, a⟩ := y
    have hsame := lineage_same (x.map Line.r) b hx
    cases x with
    | none =>
      simp only [go_sem, Nat.reduceEqDiff, ↓reduceIte, Nat.reduceAdd, Nat.reduceLeDiff, Nat.reduceLT, reduceCtorEq, Nat.reduceBEq, Nat.reduceMul, Nat.reduceSub, ne_eq, not_false_eq_true, Int.reduceSub, Int.reduceAdd, Int.reduceLE, Int.reduceLT, Int.reduceToNat, Int.toNat_zero, implies_true] at hsame
      cases gap <;> cases a <;> simp only [f_lineage_Apply_1, σA, stepA, hb, hw, hsame, finV, oneOf, Option.isNone_none, Option.isNone_some, go_sem, Nat.reduceEqDiff, ↓reduceIte, Nat.reduceAdd, Nat.reduceLeDiff, Nat.reduceLT, reduceCtorEq, Nat.reduceBEq, Nat.reduceMul, Nat.reduceSub, ne_eq, not_false_eq_true, Int.reduceSub, Int.reduceAdd, Int.reduceLE, Int.reduceLT, Int.reduceToNat, Int.toNat_zero, implies_true]
    | some x =>
      simp only [go_sem, Nat.reduceEqDiff, ↓reduceIte, Nat.reduceAdd, Nat.reduceLeDiff, Nat.reduceLT, reduceCtorEq, Nat.reduceBEq, Nat.reduceMul, Nat.reduceSub, ne_eq, not_false_eq_true, Int.reduceSub, Int.reduceAdd, Int.reduceLE, Int.reduceLT, Int.reduceToNat, Int.toNat_zero, implies_true] at hsame
      cases gap <;> cases a <;> simp only [f_lineage_Apply_1, σA, stepA, hb, hw, hsame, finV, oneOf, Option.isNone_none, Option.isNone_some, go_sem, Nat.reduceEqDiff, ↓reduceIte, Nat.reduceAdd, Nat.reduceLeDiff, Nat.reduceLT, reduceCtorEq, Nat.reduceBEq, Nat.reduceMul, Nat.reduceSub, ne_eq, not_false_eq_true, Int.reduceSub, Int.reduceAdd, Int.reduceLE, Int.reduceLT, Int.reduceToNat, Int.toNat_zero, implies_true]
def applyS (t : Table) (l : List Item) : Ap := mergeS Line.n Item.n stepA ⟨false, [], t.next⟩ t.l l
def apply (t : Table) (l : List Event) : Table × Int :=
  if valid t = false then (⟨0, []⟩, 1) else if feedOk none l = false then (⟨0, []⟩, 5) else
  let s := applyS t (itemsOf [] l)
  if s.gap = true then (⟨0, []⟩, 300) else if 4096 < s.out.length then (⟨0, []⟩, 2) else (⟨s.next, s.out⟩, 0)
theorem stepA_len (s : Ap) (n : Int) (x : Option Line) (y : Option Item) : (stepA s n x y).out.length ≤ s.out.length + 1 := by
  unfold stepA
  simp only []
  split <;> simp
theorem lineage_Apply (t : Table) (l : List Event) (hLt : t.l.length < 1000000000000000) (hLl : l.length < 100000000000) (ht : okL t.l) (hl : okE l) :
    Den prog 17 [.agg [.int .i64 t.next, .sl (t.l.map Line.cells)], .sl (l.map Event.cells)] [] = some (.tup [.agg [.int .i64 (apply t l).1.next, .sl ((apply t l).1.l.map Line.cells)], .int .i64 (apply t l).2], []) := by
  have hfa := lineage_isFeed l (by clear ht hl; omega) hl
  have hia := lineage_items l (by clear ht hl; omega)
  rw [Den_ofK [] pr_lineage_Apply rfl]
  cases va : valid t with
  | false =>
    have hf : apply t l = (⟨0, []⟩, 1) := by rw [apply, if_pos va]
    rw [hf]
    simp only [f_lineage_Apply, hLt, va, go_sem, Nat.reduceEqDiff, ↓reduceIte, Nat.reduceAdd, Nat.reduceLeDiff, Nat.reduceLT, reduceCtorEq, Nat.reduceBEq, Nat.reduceMul, Nat.reduceSub, ne_eq, not_false_eq_true, Int.reduceSub, Int.reduceAdd, Int.reduceLE, Int.reduceLT, Int.reduceToNat, Int.toNat_zero, implies_true]
  | true =>
    cases vb : feedOk none l with
    | false =>
      have hf : apply t l = (⟨0, []⟩, 5) := by rw [apply, if_neg (by simp [va]), if_pos vb]
      rw [hf]
      simp only [f_lineage_Apply, hLt, hfa, va, vb, go_sem, Nat.reduceEqDiff, ↓reduceIte, Nat.reduceAdd, Nat.reduceLeDiff, Nat.reduceLT, reduceCtorEq, Nat.reduceBEq, Nat.reduceMul, Nat.reduceSub, ne_eq, not_false_eq_true, Int.reduceSub, Int.reduceAdd, Int.reduceLE, Int.reduceLT, Int.reduceToNat, Int.toNat_zero, implies_true]
    | true =>
      have l1 := itemsOf_len l []
      simp only [List.length_nil, Nat.zero_add] at l1
      obtain ⟨_, v2, v3⟩ := valid_all va
      have hm := merge_LI 8 [.ref 3 0, .ref 2 0] rfl rfl σA 5 (fun _ => rfl) (fun s => s.out.length) stepA (fun _ => True) (fun l => l.r.length < 1000000000000000 ∧ 0 ≤ l.n ∧ l.n < 4611686018427387904) (fun i => 0 ≤ i.n ∧ i.n < 4611686018427387904)
        (fun s n x y _ hc hx hy hxy => ⟨Apply_1 s n x y hc (by
            cases x with
            | none => cases y with
              | none => exact (hxy rfl rfl).elim
              | some y => obtain ⟨h1, h2⟩ := hy y rfl; omega
            | some x => obtain ⟨h1, h2⟩ := hx x rfl; omega) (by
            cases x with
            | none => cases y with
              | none => exact (hxy rfl rfl).elim
              | some y => obtain ⟨h1, h2⟩ := hy y rfl; omega
            | some x => obtain ⟨h1, h2⟩ := hx x rfl; omega) (by
            intro r hr
            cases x with
            | none => simp at hr
            | some x => simp at hr; subst hr; exact (hx x rfl).1.1), trivial, stepA_len s n x y⟩) t.l (itemsOf [] l) ⟨false, [], t.next⟩
        trivial (by clear ht hl hfa hia; simp only [List.length_nil]; omega)
        (fun x hx => ⟨⟨ht x hx, v3 x hx⟩, (v3 x hx).2⟩) (fun x hx => ⟨itemsOf_lt vb x hx, (itemsOf_lt vb x hx).2⟩)
      change Den prog 9 _ _ = some (_, σA (applyS t (itemsOf [] l))) at hm
      have hf : apply t l = (let s := applyS t (itemsOf [] l)
          if s.gap = true then (⟨0, []⟩, 300) else if 4096 < s.out.length then (⟨0, []⟩, 2) else (⟨s.next, s.out⟩, 0)) := by rw [apply, if_neg (by simp [va]), if_neg (by simp [vb])]
      rw [hf]
      generalize applyS t (itemsOf [] l) = s at *
      obtain ⟨gap, out, next⟩ := s
      simp only [σA, go_sem, Nat.reduceEqDiff, ↓reduceIte, Nat.reduceAdd, Nat.reduceLeDiff, Nat.reduceLT, reduceCtorEq, Nat.reduceBEq, Nat.reduceMul, Nat.reduceSub, ne_eq, not_false_eq_true, Int.reduceSub, Int.reduceAdd, Int.reduceLE, Int.reduceLT, Int.reduceToNat, Int.toNat_zero, implies_true] at hm
      simp only []
      cases gap with
      | true => simp only [f_lineage_Apply, hLt, hfa, hia, va, vb, hm, go_sem, Nat.reduceEqDiff, ↓reduceIte, Nat.reduceAdd, Nat.reduceLeDiff, Nat.reduceLT, reduceCtorEq, Nat.reduceBEq, Nat.reduceMul, Nat.reduceSub, ne_eq, not_false_eq_true, Int.reduceSub, Int.reduceAdd, Int.reduceLE, Int.reduceLT, Int.reduceToNat, Int.toNat_zero, implies_true]
      | false =>
        by_cases hbig : 4096 < out.length
        · have hd : decide ((4096 : Int) < out.length) = true := by rw [decide_eq_true_eq]; clear hm; omega
          simp only [f_lineage_Apply, hLt, hfa, hia, va, vb, hm, hd, hbig, Bool.false_eq_true, go_sem, Nat.reduceEqDiff, ↓reduceIte, Nat.reduceAdd, Nat.reduceLeDiff, Nat.reduceLT, reduceCtorEq, Nat.reduceBEq, Nat.reduceMul, Nat.reduceSub, ne_eq, not_false_eq_true, Int.reduceSub, Int.reduceAdd, Int.reduceLE, Int.reduceLT, Int.reduceToNat, Int.toNat_zero, implies_true]
        · have hd : decide ((4096 : Int) < out.length) = false := by rw [decide_eq_false_iff_not]; clear hm; omega
          simp only [f_lineage_Apply, hLt, hfa, hia, va, vb, hm, hd, hbig, Bool.false_eq_true, go_sem, Nat.reduceEqDiff, ↓reduceIte, Nat.reduceAdd, Nat.reduceLeDiff, Nat.reduceLT, reduceCtorEq, Nat.reduceBEq, Nat.reduceMul, Nat.reduceSub, ne_eq, not_false_eq_true, Int.reduceSub, Int.reduceAdd, Int.reduceLE, Int.reduceLT, Int.reduceToNat, Int.toNat_zero, implies_true]
theorem lineage_Fits (t : Table) (l : List Event) (hLt : t.l.length < 1000000000000000) (hLl : l.length < 100000000000) (ht : okL t.l) (hl : okE l) :
    Den prog 28 [.agg [.int .i64 t.next, .sl (t.l.map Line.cells)], .sl (l.map Event.cells)] [] = some (.bool (decide ((apply t l).2 = 0)), []) := by
  have h := lineage_Apply t l hLt hLl ht hl
  rw [Den_ofK [] pr_lineage_Fits rfl]
  simp only [f_lineage_Fits, h, go_sem, Nat.reduceEqDiff, ↓reduceIte, Nat.reduceAdd, Nat.reduceLeDiff, Nat.reduceLT, reduceCtorEq, Nat.reduceBEq, Nat.reduceMul, Nat.reduceSub, ne_eq, not_false_eq_true, Int.reduceSub, Int.reduceAdd, Int.reduceLE, Int.reduceLT, Int.reduceToNat, Int.toNat_zero, implies_true]
end Go.Den
