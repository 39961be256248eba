/- Ch. 29: the reference's states, items, feeds. -/
import Derived.Test.YtjdnmifdkkohnaaS29h
namespace Go.Den
open Go
set_option linter.unusedSimpArgs false
set_option linter.unusedVariables false
set_option maxRecDepth 100000
set_option maxHeartbeats 1000000
theorem szOKb_map {α : Type} (sz : Nat) (f : α → List AV) (L : List α) (h : ∀ x, (f x).length = sz) : szOKb sz (L.map f) = true := by
  rw [szOKb_iff]
  intro e he
  rw [List.mem_map] at he
  obtain ⟨x, _, rfl⟩ := he
  exact h x
def rowOf : Option (List Cell) → List Cell
  | none => []
  | some r => r
theorem rowOf_none : rowOf none = [] := (rfl)
theorem rowOf_some (r : List Cell) : rowOf (some r) = r := (rfl)
attribute [go_sem] szOKb_map rowOf_none rowOf_some Option.isSome_some Option.isSome_none Option.isNone_some Option.isNone_none
def Item.cellsR (i : Item) : List AV := [.int .i64 i.n, .bool i.b.isSome, .sl ((rowOf i.b).map Cell.cells), .bool i.a.isSome, .sl ((rowOf i.a).map Cell.cells)]
attribute [go_sem] Item.cellsR
theorem R29_Items_l0 {β : Type} {K : Ex × Env × St → Option β} {Z : Option β} (L : List Event) (hL : L.length < 100000000000)
    (h : K (.exit 0, [(0, .sl (L.map Event.cells)), (3, .osl 0 0 (itemsOf [] L).length 0 (itemsOf [] L).length), (4, .int .i64 L.length), (10, .bool false)], [.arr 0 5 ((itemsOf [] L).map Item.cellsR)]) = Z) :
    (Run prog 0 (.loop 1 [0, 3, 4] f_R29_Items_l0) [(0, .sl (L.map Event.cells)), (3, .osl 0 0 0 0 0), (4, .int .i64 0)] [.arr 0 5 []]).bind K = Z := by
  have h0 := range_ind L (by omega) (fun i (out : List Item) => (Run prog 0 (.loop 1 [0, 3, 4] f_R29_Items_l0) [(0, .sl (L.map Event.cells)), (3, .osl 0 0 out.length 0 out.length), (4, .int .i64 i)] [.arr 0 5 (out.map Item.cellsR)]).bind K = Z)
    (fun i rest out => (out.length : Int) ≤ i ∧ itemsOf out rest = itemsOf [] L) ?_ ?_ [] ⟨by simp, rfl⟩
  · exact h0
  · intro out ⟨_, hg⟩
    rw [itemsOf] at hg
    rw [Run_loop]
    simp only [f_R29_Items_l0_eq, f_R29_Items_l0u, hg, h, go_sem, Nat.reduceEqDiff, ↓reduceIte, Nat.reduceAdd, Nat.reduceLeDiff, Nat.reduceLT, reduceCtorEq, Nat.reduceBEq, Nat.reduceMul, Nat.reduceSub, ne_eq, not_false_eq_true, Int.reduceSub, Int.reduceAdd, Int.reduceLE, Int.reduceLT, Int.reduceToNat, Int.toNat_zero, implies_true]
  · intro i pre rest x out hp hi0 hi1 hi2 hx hc hw ⟨hn, hg⟩ ih
    have ih := ih (addEv out x) ⟨by have := addEv_len out x; clear hw hc hx hg hp h; omega, by rw [← hg, itemsOf]⟩
    have hq : out.length < 100000000000 := by clear hw hc hx hg hp h ih; omega
    clear hg hp h hi0 hi1 hi2 hn
    have hwm : IntKind.wrap .i64 (-1) = -1 := rfl
    have hwz : IntKind.wrap .i64 0 = 0 := rfl
    rw [Run_loop]
    rcases List.eq_nil_or_concat out with h0 | ⟨o, y, h0⟩
    · subst h0
      by_cases hk : x.kind = 2
      · have hkd : decide (x.kind = 2) = true := by simpa using hk
        simp only [addEv, List.getLast?_nil, Item.upd, hk, go_sem, Nat.reduceEqDiff, ↓reduceIte, Nat.reduceAdd, Nat.reduceLeDiff, Nat.reduceLT, reduceCtorEq, Nat.reduceBEq, Nat.reduceMul, Nat.reduceSub, ne_eq, not_false_eq_true, Int.reduceSub, Int.reduceAdd, Int.reduceLE, Int.reduceLT, Int.reduceToNat, Int.toNat_zero, implies_true] at ih
        simp only [f_R29_Items_l0_eq, f_R29_Items_l0u, hw, hx, hc, hwm, hwz, hkd, ih, Int.reduceSub, go_sem, Nat.reduceEqDiff, ↓reduceIte, Nat.reduceAdd, Nat.reduceLeDiff, Nat.reduceLT, reduceCtorEq, Nat.reduceBEq, Nat.reduceMul, Nat.reduceSub, ne_eq, not_false_eq_true, Int.reduceSub, Int.reduceAdd, Int.reduceLE, Int.reduceLT, Int.reduceToNat, Int.toNat_zero, implies_true]
      · have hkd : decide (x.kind = 2) = false := by simpa using hk
        simp only [addEv, List.getLast?_nil, Item.upd, hk, go_sem, Nat.reduceEqDiff, ↓reduceIte, Nat.reduceAdd, Nat.reduceLeDiff, Nat.reduceLT, reduceCtorEq, Nat.reduceBEq, Nat.reduceMul, Nat.reduceSub, ne_eq, not_false_eq_true, Int.reduceSub, Int.reduceAdd, Int.reduceLE, Int.reduceLT, Int.reduceToNat, Int.toNat_zero, implies_true] at ih
        simp only [f_R29_Items_l0_eq, f_R29_Items_l0u, hw, hx, hc, hwm, hwz, hkd, ih, Int.reduceSub, go_sem, Nat.reduceEqDiff, ↓reduceIte, Nat.reduceAdd, Nat.reduceLeDiff, Nat.reduceLT, reduceCtorEq, Nat.reduceBEq, Nat.reduceMul, Nat.reduceSub, ne_eq, not_false_eq_true, Int.reduceSub, Int.reduceAdd, Int.reduceLE, Int.reduceLT, Int.reduceToNat, Int.toNat_zero, implies_true]
    · rw [List.concat_eq_append] at h0
      have hol : out.length = o.length + 1 := by simp [h0]
      have hi1 : (o.length : Int) < out.length := by omega
      have hlast : out.getLast? = some y := by simp [h0]
      have hw1 : IntKind.wrap .i64 ((out.length : Int) - 1) = o.length := by rw [wrap_i64 (by omega) (by omega)]; omega
      have hw2 : IntKind.wrap .i64 ((o.length : Int) + 1) = out.length := by rw [wrap_i64 (by omega) (by omega)]; omega
      have hz : decide ((o.length : Int) < 0) = false := by rw [decide_eq_false_iff_not]; omega
      have hget : (out.map Item.cellsR)[o.length]? = some [.int .i64 y.n, .bool y.b.isSome, .sl ((rowOf y.b).map Cell.cells), .bool y.a.isSome, .sl ((rowOf y.a).map Cell.cells)] := by simp [h0, Item.cellsR]
      by_cases hn : y.n = x.l.n
      · have hnd : decide (y.n = x.l.n) = true := by simpa using hn
        have hset : ∀ v : List AV, (out.map Item.cellsR).set o.length v = o.map Item.cellsR ++ [v] := by intro v; simp [h0]
        have hdl : out.dropLast = o := by simp [h0]
        clear h0
        by_cases hk : x.kind = 2
        · have hkd : decide (x.kind = 2) = true := by simpa using hk
          simp only [addEv, hlast, hn, hdl, Item.upd, hk, ← hol, go_sem, Nat.reduceEqDiff, ↓reduceIte, Nat.reduceAdd, Nat.reduceLeDiff, Nat.reduceLT, reduceCtorEq, Nat.reduceBEq, Nat.reduceMul, Nat.reduceSub, ne_eq, not_false_eq_true, Int.reduceSub, Int.reduceAdd, Int.reduceLE, Int.reduceLT, Int.reduceToNat, Int.toNat_zero, implies_true] at ih
          simp only [f_R29_Items_l0_eq, f_R29_Items_l0u, hw, hx, hc, hw1, hz, hi1, hget, hset, hnd, hkd, hn, ih, go_sem, Nat.reduceEqDiff, ↓reduceIte, Nat.reduceAdd, Nat.reduceLeDiff, Nat.reduceLT, reduceCtorEq, Nat.reduceBEq, Nat.reduceMul, Nat.reduceSub, ne_eq, not_false_eq_true, Int.reduceSub, Int.reduceAdd, Int.reduceLE, Int.reduceLT, Int.reduceToNat, Int.toNat_zero, implies_true]
        · have hkd : decide (x.kind = 2) = false := by simpa using hk
          simp only [addEv, hlast, hn, hdl, Item.upd, hk, ← hol, go_sem, Nat.reduceEqDiff, ↓reduceIte, Nat.reduceAdd, Nat.reduceLeDiff, Nat.reduceLT, reduceCtorEq, Nat.reduceBEq, Nat.reduceMul, Nat.reduceSub, ne_eq, not_false_eq_true, Int.reduceSub, Int.reduceAdd, Int.reduceLE, Int.reduceLT, Int.reduceToNat, Int.toNat_zero, implies_true] at ih
          simp only [f_R29_Items_l0_eq, f_R29_Items_l0u, hw, hx, hc, hw1, hz, hi1, hget, hset, hnd, hkd, hn, ih, go_sem, Nat.reduceEqDiff, ↓reduceIte, Nat.reduceAdd, Nat.reduceLeDiff, Nat.reduceLT, reduceCtorEq, Nat.reduceBEq, Nat.reduceMul, Nat.reduceSub, ne_eq, not_false_eq_true, Int.reduceSub, Int.reduceAdd, Int.reduceLE, Int.reduceLT, Int.reduceToNat, Int.toNat_zero, implies_true]
      · have hnd : decide (y.n = x.l.n) = false := by simpa using hn
        have hi2 : (out.length : Int) < out.length + 1 := by omega
        have hb : (out.length + 1) * 72 ≤ 140737488355328 := by clear hw hx ih hget; omega
        clear h0 hol
        by_cases hk : x.kind = 2
        · have hkd : decide (x.kind = 2) = true := by simpa using hk
          simp only [addEv, hlast, hn, Item.upd, hk, go_sem, Nat.reduceEqDiff, ↓reduceIte, Nat.reduceAdd, Nat.reduceLeDiff, Nat.reduceLT, reduceCtorEq, Nat.reduceBEq, Nat.reduceMul, Nat.reduceSub, ne_eq, not_false_eq_true, Int.reduceSub, Int.reduceAdd, Int.reduceLE, Int.reduceLT, Int.reduceToNat, Int.toNat_zero, implies_true] at ih
          simp only [f_R29_Items_l0_eq, f_R29_Items_l0u, hw, hx, hc, hw1, hw2, hz, hi1, hi2, hget, hnd, hb, hkd, ih, go_sem, Nat.reduceEqDiff, ↓reduceIte, Nat.reduceAdd, Nat.reduceLeDiff, Nat.reduceLT, reduceCtorEq, Nat.reduceBEq, Nat.reduceMul, Nat.reduceSub, ne_eq, not_false_eq_true, Int.reduceSub, Int.reduceAdd, Int.reduceLE, Int.reduceLT, Int.reduceToNat, Int.toNat_zero, implies_true]
        · have hkd : decide (x.kind = 2) = false := by simpa using hk
          simp only [addEv, hlast, hn, Item.upd, hk, go_sem, Nat.reduceEqDiff, ↓reduceIte, Nat.reduceAdd, Nat.reduceLeDiff, Nat.reduceLT, reduceCtorEq, Nat.reduceBEq, Nat.reduceMul, Nat.reduceSub, ne_eq, not_false_eq_true, Int.reduceSub, Int.reduceAdd, Int.reduceLE, Int.reduceLT, Int.reduceToNat, Int.toNat_zero, implies_true] at ih
          simp only [f_R29_Items_l0_eq, f_R29_Items_l0u, hw, hx, hc, hw1, hw2, hz, hi1, hi2, hget, hnd, hb, hkd, ih, go_sem, Nat.reduceEqDiff, ↓reduceIte, Nat.reduceAdd, Nat.reduceLeDiff, Nat.reduceLT, reduceCtorEq, Nat.reduceBEq, Nat.reduceMul, Nat.reduceSub, ne_eq, not_false_eq_true, Int.reduceSub, Int.reduceAdd, Int.reduceLE, Int.reduceLT, Int.reduceToNat, Int.toNat_zero, implies_true]
theorem R29_Items (L : List Event) (hL : L.length < 100000000000) : Den prog 31 [.sl (L.map Event.cells)] [] = some (.sl ((itemsOf [] L).map Item.cellsR), []) := by
  rw [Den_ofK [] pr_R29_Items rfl]
  simp only [f_R29_Items, go_sem, Nat.reduceEqDiff, ↓reduceIte, Nat.reduceAdd, Nat.reduceLeDiff, Nat.reduceLT, reduceCtorEq, Nat.reduceBEq, Nat.reduceMul, Nat.reduceSub, ne_eq, not_false_eq_true, Int.reduceSub, Int.reduceAdd, Int.reduceLE, Int.reduceLT, Int.reduceToNat, Int.toNat_zero, implies_true]
  refine R29_Items_l0 L hL ?_
  simp only [go_sem, Nat.reduceEqDiff, ↓reduceIte, Nat.reduceAdd, Nat.reduceLeDiff, Nat.reduceLT, reduceCtorEq, Nat.reduceBEq, Nat.reduceMul, Nat.reduceSub, ne_eq, not_false_eq_true, Int.reduceSub, Int.reduceAdd, Int.reduceLE, Int.reduceLT, Int.reduceToNat, Int.toNat_zero, implies_true]
def atS (n : Int) : List Line → Option (List Cell)
  | [] => none
  | x :: _ => if x.n = n then some x.r else none
def atR (n : Int) : List Line → List Line
  | [] => []
  | x :: r => if x.n = n then r else x :: r
theorem R29_at (n : Int) (L : List Line) : Den prog 32 [.sl (L.map Line.cells), .int .i64 n] [] = some (.tup [.agg [.bool (atS n L).isSome, .sl ((rowOf (atS n L)).map Cell.cells)], .sl ((atR n L).map Line.cells)], []) := by
  rw [Den_ofK [] pr_R29_at rfl]
  have hz : decide ((0 : Int) < 0) = false := rfl
  cases L with
  | nil => simp only [f_R29_at, hz, atS, atR, Int.natCast_zero, go_sem, Nat.reduceEqDiff, ↓reduceIte, Nat.reduceAdd, Nat.reduceLeDiff, Nat.reduceLT, reduceCtorEq, Nat.reduceBEq, Nat.reduceMul, Nat.reduceSub, ne_eq, not_false_eq_true, Int.reduceSub, Int.reduceAdd, Int.reduceLE, Int.reduceLT, Int.reduceToNat, Int.toNat_zero, implies_true]
  | cons x r =>
    have hp : decide ((0 : Int) < (r.length : Int) + 1) = true := by rw [decide_eq_true_eq]; omega
    by_cases h : x.n = n
    · have hd : decide (x.n = n) = true := by simpa using h
      simp only [f_R29_at, hp, hd, h, atS, atR, go_sem, Nat.reduceEqDiff, ↓reduceIte, Nat.reduceAdd, Nat.reduceLeDiff, Nat.reduceLT, reduceCtorEq, Nat.reduceBEq, Nat.reduceMul, Nat.reduceSub, ne_eq, not_false_eq_true, Int.reduceSub, Int.reduceAdd, Int.reduceLE, Int.reduceLT, Int.reduceToNat, Int.toNat_zero, implies_true]
    · have hd : decide (x.n = n) = false := by simpa using h
      simp only [f_R29_at, hp, hd, h, atS, atR, go_sem, Nat.reduceEqDiff, ↓reduceIte, Nat.reduceAdd, Nat.reduceLeDiff, Nat.reduceLT, reduceCtorEq, Nat.reduceBEq, Nat.reduceMul, Nat.reduceSub, ne_eq, not_false_eq_true, Int.reduceSub, Int.reduceAdd, Int.reduceLE, Int.reduceLT, Int.reduceToNat, Int.toNat_zero, implies_true]
theorem R29_same (x y : Option (List Cell)) (hx : lenB x) : Den prog 33 [.agg [.bool x.isSome, .sl ((rowOf x).map Cell.cells)], .agg [.bool y.isSome, .sl ((rowOf y).map Cell.cells)]] [] = some (.bool (decide (x = y)), []) := by
  rw [Den_ofK [] pr_R29_same rfl]
  cases x with
  | none => cases y <;> simp only [f_R29_same, reduceCtorEq, BEq.rfl, (by decide : (false == true) = false), go_sem, Nat.reduceEqDiff, ↓reduceIte, Nat.reduceAdd, Nat.reduceLeDiff, Nat.reduceLT, reduceCtorEq, Nat.reduceBEq, Nat.reduceMul, Nat.reduceSub, ne_eq, not_false_eq_true, Int.reduceSub, Int.reduceAdd, Int.reduceLE, Int.reduceLT, Int.reduceToNat, Int.toNat_zero, implies_true]
  | some r =>
    have := hx r rfl
    cases y with
    | none => simp only [f_R29_same, reduceCtorEq, (by decide : (true == false) = false), go_sem, Nat.reduceEqDiff, ↓reduceIte, Nat.reduceAdd, Nat.reduceLeDiff, Nat.reduceLT, reduceCtorEq, Nat.reduceBEq, Nat.reduceMul, Nat.reduceSub, ne_eq, not_false_eq_true, Int.reduceSub, Int.reduceAdd, Int.reduceLE, Int.reduceLT, Int.reduceToNat, Int.toNat_zero, implies_true]
    | some s => simp only [f_R29_same, this, Option.some.injEq, BEq.rfl, go_sem, Nat.reduceEqDiff, ↓reduceIte, Nat.reduceAdd, Nat.reduceLeDiff, Nat.reduceLT, reduceCtorEq, Nat.reduceBEq, Nat.reduceMul, Nat.reduceSub, ne_eq, not_false_eq_true, Int.reduceSub, Int.reduceAdd, Int.reduceLE, Int.reduceLT, Int.reduceToNat, Int.toNat_zero, implies_true]
theorem R29_change (n : Int) (x y : Option (List Cell)) (hx : lenB x) : Den prog 34 [.int .i64 n, .agg [.bool x.isSome, .sl ((rowOf x).map Cell.cells)], .agg [.bool y.isSome, .sl ((rowOf y).map Cell.cells)]] [] = some (.sl ((chg n x y).map Event.cells), []) := by
  have hs := R29_same x y hx
  rw [Den_ofK [] pr_R29_change rfl]
  cases x with
  | none => cases y <;> (simp only [reduceCtorEq, go_sem, Nat.reduceEqDiff, ↓reduceIte, Nat.reduceAdd, Nat.reduceLeDiff, Nat.reduceLT, reduceCtorEq, Nat.reduceBEq, Nat.reduceMul, Nat.reduceSub, ne_eq, not_false_eq_true, Int.reduceSub, Int.reduceAdd, Int.reduceLE, Int.reduceLT, Int.reduceToNat, Int.toNat_zero, implies_true] at hs; simp only [f_R29_change, hs, chg, reduceCtorEq, Nat.reduceLeDiff, go_sem, Nat.reduceEqDiff, ↓reduceIte, Nat.reduceAdd, Nat.reduceLeDiff, Nat.reduceLT, reduceCtorEq, Nat.reduceBEq, Nat.reduceMul, Nat.reduceSub, ne_eq, not_false_eq_true, Int.reduceSub, Int.reduceAdd, Int.reduceLE, Int.reduceLT, Int.reduceToNat, Int.toNat_zero, implies_true])
  | some r => cases y with
    | none => simp only [reduceCtorEq, go_sem, Nat.reduceEqDiff, ↓reduceIte, Nat.reduceAdd, Nat.reduceLeDiff, Nat.reduceLT, reduceCtorEq, Nat.reduceBEq, Nat.reduceMul, Nat.reduceSub, ne_eq, not_false_eq_true, Int.reduceSub, Int.reduceAdd, Int.reduceLE, Int.reduceLT, Int.reduceToNat, Int.toNat_zero, implies_true] at hs; simp only [f_R29_change, hs, chg, reduceCtorEq, Nat.reduceLeDiff, go_sem, Nat.reduceEqDiff, ↓reduceIte, Nat.reduceAdd, Nat.reduceLeDiff, Nat.reduceLT, reduceCtorEq, Nat.reduceBEq, Nat.reduceMul, Nat.reduceSub, ne_eq, not_false_eq_true, Int.reduceSub, Int.reduceAdd, Int.reduceLE, Int.reduceLT, Int.reduceToNat, Int.toNat_zero, implies_true]
    | some s =>
      by_cases h : r = s
      · simp only [h, go_sem, Nat.reduceEqDiff, ↓reduceIte, Nat.reduceAdd, Nat.reduceLeDiff, Nat.reduceLT, reduceCtorEq, Nat.reduceBEq, Nat.reduceMul, Nat.reduceSub, ne_eq, not_false_eq_true, Int.reduceSub, Int.reduceAdd, Int.reduceLE, Int.reduceLT, Int.reduceToNat, Int.toNat_zero, implies_true] at hs
        simp only [f_R29_change, hs, chg, h, go_sem, Nat.reduceEqDiff, ↓reduceIte, Nat.reduceAdd, Nat.reduceLeDiff, Nat.reduceLT, reduceCtorEq, Nat.reduceBEq, Nat.reduceMul, Nat.reduceSub, ne_eq, not_false_eq_true, Int.reduceSub, Int.reduceAdd, Int.reduceLE, Int.reduceLT, Int.reduceToNat, Int.toNat_zero, implies_true]
      · have hd : decide (some r = some s) = false := by simp [h]
        simp only [hd, go_sem, Nat.reduceEqDiff, ↓reduceIte, Nat.reduceAdd, Nat.reduceLeDiff, Nat.reduceLT, reduceCtorEq, Nat.reduceBEq, Nat.reduceMul, Nat.reduceSub, ne_eq, not_false_eq_true, Int.reduceSub, Int.reduceAdd, Int.reduceLE, Int.reduceLT, Int.reduceToNat, Int.toNat_zero, implies_true] at hs
        simp only [f_R29_change, hs, chg, h, Option.some.injEq, Nat.reduceLeDiff, go_sem, Nat.reduceEqDiff, ↓reduceIte, Nat.reduceAdd, Nat.reduceLeDiff, Nat.reduceLT, reduceCtorEq, Nat.reduceBEq, Nat.reduceMul, Nat.reduceSub, ne_eq, not_false_eq_true, Int.reduceSub, Int.reduceAdd, Int.reduceLE, Int.reduceLT, Int.reduceToNat, Int.toNat_zero, implies_true]
end Go.Den
