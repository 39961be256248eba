/- Ch. 29: items. -/
import Derived.Test.YtjdnmifdkkohnaaS29c
import Derived.Test.YtjdnmifdkkohnaaDenLp
namespace Go.Den
open Go
set_option linter.unusedSimpArgs false
set_option linter.unusedVariables false
set_option maxRecDepth 100000
set_option maxHeartbeats 1000000
/-- What a feed does to a number: the rows before and after; none: absent. -/
structure Item where
  n : Int
  b : Option (List Cell)
  a : Option (List Cell)
deriving DecidableEq
def ptrc : Option (List Cell) → AV
  | none => .nilp
  | some r => .rptr [.sl (r.map Cell.cells)]
def Item.cells (i : Item) : List AV := [.int .i64 i.n, ptrc i.b, ptrc i.a]
attribute [go_sem] Item.cells
@[go_sem] theorem ptrc_none : ptrc none = .nilp := (rfl)
@[go_sem] theorem ptrc_some (r : List Cell) : ptrc (some r) = .rptr [.sl (r.map Cell.cells)] := (rfl)
@[go_sem] theorem ptrc_noref (o : Option (List Cell)) : (ptrc o).noref = true := by cases o <;> rfl
@[go_sem] theorem ptrc_norm (o : Option (List Cell)) : (ptrc o).norm = ptrc o := by cases o <;> rfl
@[go_sem] theorem ptrc_scalar (o : Option (List Cell)) : (ptrc o).scalar = true := by cases o <;> rfl
@[go_sem] theorem ptrc_cellsOf (o : Option (List Cell)) : (ptrc o).cellsOf = [ptrc o] := by cases o <;> rfl
@[go_sem] theorem ptrc_under (m : Nat) (o : Option (List Cell)) : (ptrc o).under m = true := by cases o <;> rfl
def Item.upd (y : Item) (x : Event) : Item := if x.kind = 2 then { y with b := some x.l.r } else { y with a := some x.l.r }
def addEv (out : List Item) (x : Event) : List Item := match out.getLast? with
  | some y => if y.n = x.l.n then out.dropLast ++ [y.upd x] else out ++ [Item.upd ⟨x.l.n, none, none⟩ x]
  | none => out ++ [Item.upd ⟨x.l.n, none, none⟩ x]
def itemsOf (out : List Item) : List Event → List Item
  | [] => out
  | x :: r => itemsOf (addEv out x) r
theorem addEv_len (out : List Item) (x : Event) : (addEv out x).length ≤ out.length + 1 := by
  unfold addEv
  split
  · split
    · simp
    · simp
  · simp
theorem lineage_items_l0 {β : Type} {K : Ex × Env × St → Option β} {Z : Option β} (L : List Event) (hL : L.length < 1000000000000) : ∀ (rest pre : List Event) (out : List Item), L = pre ++ rest → out.length ≤ pre.length →
    K (.exit 0, [(0, .sl (L.map Event.cells)), (3, .osl 0 0 (itemsOf out rest).length 0 (itemsOf out rest).length), (9, .int .i64 L.length), (10, .int .i64 L.length), (11, .bool false)], [.arr 0 3 ((itemsOf out rest).map Item.cells)]) = Z →
    (Run prog 0 (.loop 1 [0, 3, 9, 10] f_lineage_items_l0) [(0, .sl (L.map Event.cells)), (3, .osl 0 0 out.length 0 out.length), (9, .int .i64 L.length), (10, .int .i64 pre.length)] [.arr 0 3 (out.map Item.cells)]).bind K = Z
  | [], pre, out, hp, ho, k1 => by
    have hlen : pre.length = L.length := by simp [hp]
    rw [itemsOf] at k1
    rw [Run_loop]
    simp only [f_lineage_items_l0_eq, f_lineage_items_l0u, hlen, k1, go_sem, Nat.reduceEqDiff, ↓reduceIte, Nat.reduceAdd, Nat.reduceLeDiff, Nat.reduceLT, reduceCtorEq, Nat.reduceBEq, Nat.reduceMul, Nat.reduceSub, ne_eq, not_false_eq_true, Int.reduceSub, Int.reduceAdd, Int.reduceLE, Int.reduceLT, Int.reduceToNat, Int.toNat_zero, implies_true]
  | x :: rest, pre, out, hp, ho, k1 => by
    have hlen := congrArg List.length hp
    simp only [List.length_append, List.length_cons] at hlen
    have hw : IntKind.wrap .i64 ((pre.length : Int) + 1) = pre.length + 1 := wrap_i64 (by omega) (by omega)
    have hx := getE_at hp
    have hc : decide ((pre.length : Int) < L.length) = true := by simp; omega
    have ih := lineage_items_l0 (K := K) (Z := Z) L hL rest (pre ++ [x]) (addEv out x) (by simpa using hp) (by have := addEv_len out x; simp; omega) (by rw [itemsOf] at k1; exact k1)
    simp only [List.length_append, List.length_cons, List.length_nil, Nat.zero_add, Int.natCast_add, Int.cast_ofNat_Int] at ih
    rw [Run_loop]
    rcases List.eq_nil_or_concat out with h0 | ⟨o, y, h0⟩
    · subst h0
      have hw2 : IntKind.wrap .i64 0 = 0 := rfl
      by_cases hk : x.kind = 2
      · have hkd : decide (x.kind = 2) = true := by simpa using hk
        simp only [addEv, List.getLast?_nil, Item.upd, hk, go_sem, Nat.reduceEqDiff, ↓reduceIte, Nat.reduceAdd, Nat.reduceLeDiff, Nat.reduceLT, reduceCtorEq, Nat.reduceBEq, Nat.reduceMul, Nat.reduceSub, ne_eq, not_false_eq_true, Int.reduceSub, Int.reduceAdd, Int.reduceLE, Int.reduceLT, Int.reduceToNat, Int.toNat_zero, implies_true] at ih
        simp only [f_lineage_items_l0_eq, f_lineage_items_l0u, hw, hx, hc, hw2, hkd, go_sem, Nat.reduceEqDiff, ↓reduceIte, Nat.reduceAdd, Nat.reduceLeDiff, Nat.reduceLT, reduceCtorEq, Nat.reduceBEq, Nat.reduceMul, Nat.reduceSub, ne_eq, not_false_eq_true, Int.reduceSub, Int.reduceAdd, Int.reduceLE, Int.reduceLT, Int.reduceToNat, Int.toNat_zero, implies_true]
        all_goals exact ih
      · have hkd : decide (x.kind = 2) = false := by simpa using hk
        simp only [addEv, List.getLast?_nil, Item.upd, hk, go_sem, Nat.reduceEqDiff, ↓reduceIte, Nat.reduceAdd, Nat.reduceLeDiff, Nat.reduceLT, reduceCtorEq, Nat.reduceBEq, Nat.reduceMul, Nat.reduceSub, ne_eq, not_false_eq_true, Int.reduceSub, Int.reduceAdd, Int.reduceLE, Int.reduceLT, Int.reduceToNat, Int.toNat_zero, implies_true] at ih
        simp only [f_lineage_items_l0_eq, f_lineage_items_l0u, hw, hx, hc, hw2, hkd, go_sem, Nat.reduceEqDiff, ↓reduceIte, Nat.reduceAdd, Nat.reduceLeDiff, Nat.reduceLT, reduceCtorEq, Nat.reduceBEq, Nat.reduceMul, Nat.reduceSub, ne_eq, not_false_eq_true, Int.reduceSub, Int.reduceAdd, Int.reduceLE, Int.reduceLT, Int.reduceToNat, Int.toNat_zero, implies_true]
        all_goals exact ih
    · rw [List.concat_eq_append] at h0
      by_cases hn : y.n = x.l.n
      · subst h0
        simp only [List.length_append, List.length_cons, List.length_nil, Nat.zero_add] at ho
        have hz : decide ((o.length : Int) + 1 = 0) = false := by simp; omega
        have hw1 : IntKind.wrap .i64 ((o.length : Int) + 1 - 1) = o.length := by rw [wrap_i64 (by omega) (by omega)]; omega
        have hi1 : (o.length : Int) < o.length + 1 := by omega
        have hnd : decide (y.n = x.l.n) = true := by simpa using hn
        by_cases hk : x.kind = 2
        · have hkd : decide (x.kind = 2) = true := by simpa using hk
          simp only [addEv, List.getLast?_append, List.getLast?_singleton, Option.or_some, Option.some_or, hn, List.dropLast_concat, Item.upd, hk, go_sem, Nat.reduceEqDiff, ↓reduceIte, Nat.reduceAdd, Nat.reduceLeDiff, Nat.reduceLT, reduceCtorEq, Nat.reduceBEq, Nat.reduceMul, Nat.reduceSub, ne_eq, not_false_eq_true, Int.reduceSub, Int.reduceAdd, Int.reduceLE, Int.reduceLT, Int.reduceToNat, Int.toNat_zero, implies_true] at ih
          simp only [f_lineage_items_l0_eq, f_lineage_items_l0u, hw, hx, hc, hz, hw1, hi1, hnd, hkd, go_sem, Nat.reduceEqDiff, ↓reduceIte, Nat.reduceAdd, Nat.reduceLeDiff, Nat.reduceLT, reduceCtorEq, Nat.reduceBEq, Nat.reduceMul, Nat.reduceSub, ne_eq, not_false_eq_true, Int.reduceSub, Int.reduceAdd, Int.reduceLE, Int.reduceLT, Int.reduceToNat, Int.toNat_zero, implies_true]
          all_goals first | exact ih | (rw [hn]; exact ih)
        · have hkd : decide (x.kind = 2) = false := by simpa using hk
          simp only [addEv, List.getLast?_append, List.getLast?_singleton, Option.or_some, Option.some_or, hn, List.dropLast_concat, Item.upd, hk, go_sem, Nat.reduceEqDiff, ↓reduceIte, Nat.reduceAdd, Nat.reduceLeDiff, Nat.reduceLT, reduceCtorEq, Nat.reduceBEq, Nat.reduceMul, Nat.reduceSub, ne_eq, not_false_eq_true, Int.reduceSub, Int.reduceAdd, Int.reduceLE, Int.reduceLT, Int.reduceToNat, Int.toNat_zero, implies_true] at ih
          simp only [f_lineage_items_l0_eq, f_lineage_items_l0u, hw, hx, hc, hz, hw1, hi1, hnd, hkd, go_sem, Nat.reduceEqDiff, ↓reduceIte, Nat.reduceAdd, Nat.reduceLeDiff, Nat.reduceLT, reduceCtorEq, Nat.reduceBEq, Nat.reduceMul, Nat.reduceSub, ne_eq, not_false_eq_true, Int.reduceSub, Int.reduceAdd, Int.reduceLE, Int.reduceLT, Int.reduceToNat, Int.toNat_zero, implies_true]
          all_goals first | exact ih | (rw [hn]; exact ih)
      · have hnd : decide (y.n = x.l.n) = false := by simpa using hn
        have hol : out.length = o.length + 1 := by simp [h0]
        have hlast : out.getLast? = some y := by simp [h0]
        have hz : decide ((out.length : Int) = 0) = false := by rw [decide_eq_false_iff_not]; omega
        have hw1 : IntKind.wrap .i64 ((out.length : Int) - 1) = o.length := by rw [wrap_i64 (by omega) (by omega)]; omega
        have hi1 : (o.length : Int) < out.length := by omega
        have hget : (out.map Item.cells)[o.length]? = some [.int .i64 y.n, ptrc y.b, ptrc y.a] := by simp [h0, Item.cells]
        have hw2 : IntKind.wrap .i64 ((out.length : Int) + 1 - 1) = out.length := by rw [wrap_i64 (by omega) (by omega)]; omega
        have hi2 : (out.length : Int) < out.length + 1 := by omega
        have hb : (out.length + 1) * 24 ≤ 140737488355328 := by omega
        clear h0
        by_cases hk : x.kind = 2
        · have hkd : decide (x.kind = 2) = true := by simpa using hk
          simp only [addEv, hlast, hn, Item.upd, hk, go_sem, Nat.reduceEqDiff, ↓reduceIte, Nat.reduceAdd, Nat.reduceLeDiff, Nat.reduceLT, reduceCtorEq, Nat.reduceBEq, Nat.reduceMul, Nat.reduceSub, ne_eq, not_false_eq_true, Int.reduceSub, Int.reduceAdd, Int.reduceLE, Int.reduceLT, Int.reduceToNat, Int.toNat_zero, implies_true] at ih
          simp only [f_lineage_items_l0_eq, f_lineage_items_l0u, hw, hx, hc, hz, hw1, hi1, hget, hnd, hw2, hi2, hb, hkd, go_sem, Nat.reduceEqDiff, ↓reduceIte, Nat.reduceAdd, Nat.reduceLeDiff, Nat.reduceLT, reduceCtorEq, Nat.reduceBEq, Nat.reduceMul, Nat.reduceSub, ne_eq, not_false_eq_true, Int.reduceSub, Int.reduceAdd, Int.reduceLE, Int.reduceLT, Int.reduceToNat, Int.toNat_zero, implies_true]
          all_goals first | exact ih | (rw [hn]; exact ih)
        · have hkd : decide (x.kind = 2) = false := by simpa using hk
          simp only [addEv, hlast, hn, Item.upd, hk, go_sem, Nat.reduceEqDiff, ↓reduceIte, Nat.reduceAdd, Nat.reduceLeDiff, Nat.reduceLT, reduceCtorEq, Nat.reduceBEq, Nat.reduceMul, Nat.reduceSub, ne_eq, not_false_eq_true, Int.reduceSub, Int.reduceAdd, Int.reduceLE, Int.reduceLT, Int.reduceToNat, Int.toNat_zero, implies_true] at ih
          simp only [f_lineage_items_l0_eq, f_lineage_items_l0u, hw, hx, hc, hz, hw1, hi1, hget, hnd, hw2, hi2, hb, hkd, go_sem, Nat.reduceEqDiff, ↓reduceIte, Nat.reduceAdd, Nat.reduceLeDiff, Nat.reduceLT, reduceCtorEq, Nat.reduceBEq, Nat.reduceMul, Nat.reduceSub, ne_eq, not_false_eq_true, Int.reduceSub, Int.reduceAdd, Int.reduceLE, Int.reduceLT, Int.reduceToNat, Int.toNat_zero, implies_true]
          all_goals first | exact ih | (rw [hn]; exact ih)
@[go_sem] theorem lineage_items (L : List Event) (hL : L.length < 1000000000000) : Den prog 7 [.sl (L.map Event.cells)] [] = some (.osl 0 0 (itemsOf [] L).length 0 (itemsOf [] L).length, [.arr 0 3 ((itemsOf [] L).map Item.cells)]) := by
  rw [Den_ofK [] pr_lineage_items rfl]
  simp only [f_lineage_items, go_sem, Nat.reduceEqDiff, ↓reduceIte, Nat.reduceAdd, Nat.reduceLeDiff, Nat.reduceLT, reduceCtorEq, Nat.reduceBEq, Nat.reduceMul, Nat.reduceSub, ne_eq, not_false_eq_true, Int.reduceSub, Int.reduceAdd, Int.reduceLE, Int.reduceLT, Int.reduceToNat, Int.toNat_zero, implies_true]
  have h := fun K Z => lineage_items_l0 (β := AV × St) (K := K) (Z := Z) L hL L [] [] rfl (by simp)
  simp only [go_sem, Nat.reduceEqDiff, ↓reduceIte, Nat.reduceAdd, Nat.reduceLeDiff, Nat.reduceLT, reduceCtorEq, Nat.reduceBEq, Nat.reduceMul, Nat.reduceSub, ne_eq, not_false_eq_true, Int.reduceSub, Int.reduceAdd, Int.reduceLE, Int.reduceLT, Int.reduceToNat, Int.toNat_zero, implies_true] at h
  refine h _ _ ?_
  simp only [go_sem, Nat.reduceEqDiff, ↓reduceIte, Nat.reduceAdd, Nat.reduceLeDiff, Nat.reduceLT, reduceCtorEq, Nat.reduceBEq, Nat.reduceMul, Nat.reduceSub, ne_eq, not_false_eq_true, Int.reduceSub, Int.reduceAdd, Int.reduceLE, Int.reduceLT, Int.reduceToNat, Int.toNat_zero, implies_true]
end Go.Den
