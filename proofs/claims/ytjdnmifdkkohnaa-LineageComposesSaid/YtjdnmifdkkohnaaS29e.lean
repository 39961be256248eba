/- Ch. 29: states, and the closures of Feed, Apply, Compose. -/
import Derived.Test.YtjdnmifdkkohnaaS29d
namespace Go.Den
open Go
set_option linter.unusedSimpArgs false
set_option linter.unusedVariables false
set_option maxRecDepth 100000
set_option maxHeartbeats 1000000
def lineP : Option Line → AV
  | none => .nilp
  | some l => .rptr [.int .i64 l.n, .sl (l.r.map Cell.cells)]
def itemP : Option Item → AV
  | none => .nilp
  | some i => .rptr [.int .i64 i.n, ptrc i.b, ptrc i.a]
@[go_sem] theorem lineP_none : lineP none = .nilp := (rfl)
@[go_sem] theorem lineP_some (l : Line) : lineP (some l) = .rptr [.int .i64 l.n, .sl (l.r.map Cell.cells)] := (rfl)
@[go_sem] theorem itemP_none : itemP none = .nilp := (rfl)
@[go_sem] theorem itemP_some (i : Item) : itemP (some i) = .rptr [.int .i64 i.n, ptrc i.b, ptrc i.a] := (rfl)
@[go_sem] theorem lineP_noref (o : Option Line) : (lineP o).noref = true := by cases o <;> rfl
@[go_sem] theorem lineP_norm (o : Option Line) : (lineP o).norm = lineP o := by cases o <;> rfl
@[go_sem] theorem itemP_noref (o : Option Item) : (itemP o).noref = true := by cases o <;> rfl
@[go_sem] theorem itemP_norm (o : Option Item) : (itemP o).norm = itemP o := by cases o <;> rfl
@[go_sem] theorem eqp_none (v : AV) (h : (match v with | .rptr _ => true | _ => false) = true) : eq2 .ptr v .nilp = some false := by
  cases v <;> first | rfl | (exact absurd h (by simp))
@[go_sem] theorem eqp_rptr (cs : List AV) : eq2 .ptr (.rptr cs) .nilp = some false := (rfl)
@[go_sem] theorem eqp_nil : eq2 .ptr .nilp .nilp = some true := (rfl)
@[go_sem] theorem eqp_ptrc (o : Option (List Cell)) : eq2 .ptr (ptrc o) .nilp = some o.isNone := by cases o <;> rfl
@[go_sem] theorem eqp_lineP (o : Option Line) : eq2 .ptr (lineP o) .nilp = some o.isNone := by cases o <;> rfl
@[go_sem] theorem eqp_itemP (o : Option Item) : eq2 .ptr (itemP o) .nilp = some o.isNone := by cases o <;> rfl
@[go_sem] theorem lineage_ofLine (n : Int) (r : AV) : Den prog 10 [.rptr [.int .i64 n, r]] [] = some (.int .i64 n, []) := by
  rw [Den_ofK [] pr_lineage_ofLine rfl]
  simp only [f_lineage_ofLine, go_sem, Nat.reduceEqDiff, ↓reduceIte, Nat.reduceAdd, Nat.reduceLeDiff, Nat.reduceLT, reduceCtorEq, Nat.reduceBEq, Nat.reduceMul, Nat.reduceSub, ne_eq, not_false_eq_true, Int.reduceSub, Int.reduceAdd, Int.reduceLE, Int.reduceLT, Int.reduceToNat, Int.toNat_zero, implies_true]
@[go_sem] theorem lineage_ofItem (n : Int) (a b : AV) : Den prog 11 [.rptr [.int .i64 n, a, b]] [] = some (.int .i64 n, []) := by
  rw [Den_ofK [] pr_lineage_ofItem rfl]
  simp only [f_lineage_ofItem, go_sem, Nat.reduceEqDiff, ↓reduceIte, Nat.reduceAdd, Nat.reduceLeDiff, Nat.reduceLT, reduceCtorEq, Nat.reduceBEq, Nat.reduceMul, Nat.reduceSub, ne_eq, not_false_eq_true, Int.reduceSub, Int.reduceAdd, Int.reduceLE, Int.reduceLT, Int.reduceToNat, Int.toNat_zero, implies_true]
theorem lineage_row (x : Option Line) : Den prog 3 [lineP x] [] = some (ptrc (x.map Line.r), []) := by
  rw [Den_ofK [] pr_lineage_row rfl]
  cases x <;> simp only [f_lineage_row, go_sem, Nat.reduceEqDiff, ↓reduceIte, Nat.reduceAdd, Nat.reduceLeDiff, Nat.reduceLT, reduceCtorEq, Nat.reduceBEq, Nat.reduceMul, Nat.reduceSub, ne_eq, not_false_eq_true, Int.reduceSub, Int.reduceAdd, Int.reduceLE, Int.reduceLT, Int.reduceToNat, Int.toNat_zero, implies_true]
@[go_sem] theorem lineage_row_none : Den prog 3 [.nilp] [] = some (.nilp, []) := lineage_row none
@[go_sem] theorem lineage_row_some (n : Int) (r : List Cell) : Den prog 3 [.rptr [.int .i64 n, .sl (r.map Cell.cells)]] [] = some (.rptr [.sl (r.map Cell.cells)], []) := lineage_row (some ⟨n, r⟩)
def lenB (o : Option (List Cell)) : Prop := ∀ r, o = some r → r.length < 1000000000000000
theorem lineage_same (x y : Option (List Cell)) (hx : lenB x) : Den prog 4 [ptrc x, ptrc y] [] = some (.bool (decide (x = y)), []) := by
  rw [Den_ofK [] pr_lineage_same rfl]
  cases x with
  | none => cases y <;> simp only [f_lineage_same, reduceCtorEq, go_sem, Nat.reduceEqDiff, ↓reduceIte, Nat.reduceAdd, Nat.reduceLeDiff, Nat.reduceLT, reduceCtorEq, Nat.reduceBEq, Nat.reduceMul, Nat.reduceSub, ne_eq, not_false_eq_true, Int.reduceSub, Int.reduceAdd, Int.reduceLE, Int.reduceLT, Int.reduceToNat, Int.toNat_zero, implies_true]
  | some r =>
    have := hx r rfl
    cases y with
    | none => simp only [f_lineage_same, reduceCtorEq, go_sem, Nat.reduceEqDiff, ↓reduceIte, Nat.reduceAdd, Nat.reduceLeDiff, Nat.reduceLT, reduceCtorEq, Nat.reduceBEq, Nat.reduceMul, Nat.reduceSub, ne_eq, not_false_eq_true, Int.reduceSub, Int.reduceAdd, Int.reduceLE, Int.reduceLT, Int.reduceToNat, Int.toNat_zero, implies_true]
    | some s => simp only [f_lineage_same, this, Option.some.injEq, go_sem, Nat.reduceEqDiff, ↓reduceIte, Nat.reduceAdd, Nat.reduceLeDiff, Nat.reduceLT, reduceCtorEq, Nat.reduceBEq, Nat.reduceMul, Nat.reduceSub, ne_eq, not_false_eq_true, Int.reduceSub, Int.reduceAdd, Int.reduceLE, Int.reduceLT, Int.reduceToNat, Int.toNat_zero, implies_true]
/-- The events that bring a number from one state to another. -/
def chg (n : Int) (b a : Option (List Cell)) : List Event := if b = a then [] else (match b with | some r => [⟨2, ⟨n, r⟩⟩] | none => []) ++ (match a with | some r => [⟨1, ⟨n, r⟩⟩] | none => [])
def eventsOf : List Item → List Event
  | [] => []
  | x :: r => chg x.n x.b x.a ++ eventsOf r
theorem mul40 {q : Nat} (h : q < 3000000000000) : q * 40 ≤ 140737488355328 := by omega
theorem mul24 {q : Nat} (h : q < 5000000000000) : q * 24 ≤ 140737488355328 := by omega
theorem mul32 {q : Nat} (h : q < 4000000000000) : q * 32 ≤ 140737488355328 := by omega
theorem chg_len (n : Int) (b a : Option (List Cell)) : (chg n b a).length ≤ 2 := by
  unfold chg; split
  · simp
  · cases b <;> cases a <;> simp
theorem lineage_events_l0 {β : Type} {K : Ex × Env × St → Option β} {Z : Option β} (L : List Item) (hL : L.length < 1000000000000) (hB : ∀ x ∈ L, lenB x.b)
    (h : K (.exit 0, [(3, .osl 0 0 (eventsOf L).length 0 (eventsOf L).length), (6, .sl (L.map Item.cells)), (7, .int .i64 L.length), (8, .int .i64 L.length), (9, .bool false)], [.arr 0 3 ((eventsOf L).map Event.cells)]) = Z) :
    (Run prog 0 (.loop 1 [3, 6, 7, 8] f_lineage_events_l0) [(3, .osl 0 0 0 0 0), (6, .sl (L.map Item.cells)), (7, .int .i64 L.length), (8, .int .i64 0)] [.arr 0 3 []]).bind K = Z := by
  have h0 := range_ind L (by omega) (fun i (out : List Event) => (Run prog 0 (.loop 1 [3, 6, 7, 8] f_lineage_events_l0) [(3, .osl 0 0 out.length 0 out.length), (6, .sl (L.map Item.cells)), (7, .int .i64 L.length), (8, .int .i64 i)] [.arr 0 3 (out.map Event.cells)]).bind K = Z)
    (fun i rest out => (out.length : Int) ≤ 2 * i ∧ K (.exit 0, [(3, .osl 0 0 (out ++ eventsOf rest).length 0 (out ++ eventsOf rest).length), (6, .sl (L.map Item.cells)), (7, .int .i64 L.length), (8, .int .i64 L.length), (9, .bool false)], [.arr 0 3 ((out ++ eventsOf rest).map Event.cells)]) = Z) ?_ ?_ [] ⟨by simp, h⟩
  · exact h0
  · intro out hg
    obtain ⟨_, hg⟩ := hg
    rw [eventsOf, List.append_nil] at hg
    rw [Run_loop]
    simp only [f_lineage_events_l0_eq, f_lineage_events_l0u, hg, go_sem, Nat.reduceEqDiff, ↓reduceIte, Nat.reduceAdd, Nat.reduceLeDiff, Nat.reduceLT, reduceCtorEq, Nat.reduceBEq, Nat.reduceMul, Nat.reduceSub, ne_eq, not_false_eq_true, Int.reduceSub, Int.reduceAdd, Int.reduceLE, Int.reduceLT, Int.reduceToNat, Int.toNat_zero, implies_true]
  · intro i pre rest x out hp hi0 hi1 hi2 hx hc hw hg ih
    obtain ⟨hn, hg⟩ := hg
    have hxb := hB x (by rw [hp]; simp)
    have hsame := lineage_same x.b x.a hxb
    have ih := fun h1 => ih (out ++ chg x.n x.b x.a) ⟨h1, by rw [List.append_assoc]; exact hg⟩
    have ih := ih (by have h9 := chg_len x.n x.b x.a; clear hw hc hx hg ih hsame h hxb hB hp; rw [List.length_append]; generalize (chg x.n x.b x.a).length = q at *; omega)
    have hq : out.length < 2000000000000 := by clear hw hc hx hg ih hsame h hxb hB hp; omega
    have hb1 : (out.length + 1) * 40 ≤ 140737488355328 := mul40 (by clear hw hc hx hg ih hsame h hxb hB hp hi0 hi1 hi2 hn hL; omega)
    have hb2 : (out.length + 1 + 1) * 40 ≤ 140737488355328 := mul40 (by clear hw hc hx hg ih hsame h hxb hB hp hi0 hi1 hi2 hn hL; omega)
    have hne : decide (x.b = x.a) = decide (x.b = x.a) := rfl
    rw [Run_loop]
    obtain ⟨n, b, a⟩ := x
    simp only [] at hsame ih hxb
    cases b with
    | none => cases a with
      | none =>
        simp only [chg, reduceCtorEq, go_sem, Nat.reduceEqDiff, ↓reduceIte, Nat.reduceAdd, Nat.reduceLeDiff, Nat.reduceLT, reduceCtorEq, Nat.reduceBEq, Nat.reduceMul, Nat.reduceSub, ne_eq, not_false_eq_true, Int.reduceSub, Int.reduceAdd, Int.reduceLE, Int.reduceLT, Int.reduceToNat, Int.toNat_zero, implies_true] at ih hsame
        simp only [f_lineage_events_l0_eq, f_lineage_events_l0u, hx, hc, hw, hsame, ih, go_sem, Nat.reduceEqDiff, ↓reduceIte, Nat.reduceAdd, Nat.reduceLeDiff, Nat.reduceLT, reduceCtorEq, Nat.reduceBEq, Nat.reduceMul, Nat.reduceSub, ne_eq, not_false_eq_true, Int.reduceSub, Int.reduceAdd, Int.reduceLE, Int.reduceLT, Int.reduceToNat, Int.toNat_zero, implies_true]
      | some s =>
        simp only [chg, reduceCtorEq, go_sem, Nat.reduceEqDiff, ↓reduceIte, Nat.reduceAdd, Nat.reduceLeDiff, Nat.reduceLT, reduceCtorEq, Nat.reduceBEq, Nat.reduceMul, Nat.reduceSub, ne_eq, not_false_eq_true, Int.reduceSub, Int.reduceAdd, Int.reduceLE, Int.reduceLT, Int.reduceToNat, Int.toNat_zero, implies_true] at ih hsame
        simp only [f_lineage_events_l0_eq, f_lineage_events_l0u, hx, hc, hw, hsame, hb1, ih, Option.isNone_some, Option.isNone_none, go_sem, Nat.reduceEqDiff, ↓reduceIte, Nat.reduceAdd, Nat.reduceLeDiff, Nat.reduceLT, reduceCtorEq, Nat.reduceBEq, Nat.reduceMul, Nat.reduceSub, ne_eq, not_false_eq_true, Int.reduceSub, Int.reduceAdd, Int.reduceLE, Int.reduceLT, Int.reduceToNat, Int.toNat_zero, implies_true]
    | some r => cases a with
      | none =>
        simp only [chg, reduceCtorEq, go_sem, Nat.reduceEqDiff, ↓reduceIte, Nat.reduceAdd, Nat.reduceLeDiff, Nat.reduceLT, reduceCtorEq, Nat.reduceBEq, Nat.reduceMul, Nat.reduceSub, ne_eq, not_false_eq_true, Int.reduceSub, Int.reduceAdd, Int.reduceLE, Int.reduceLT, Int.reduceToNat, Int.toNat_zero, implies_true] at ih hsame
        simp only [f_lineage_events_l0_eq, f_lineage_events_l0u, hx, hc, hw, hsame, hb1, ih, Option.isNone_some, Option.isNone_none, go_sem, Nat.reduceEqDiff, ↓reduceIte, Nat.reduceAdd, Nat.reduceLeDiff, Nat.reduceLT, reduceCtorEq, Nat.reduceBEq, Nat.reduceMul, Nat.reduceSub, ne_eq, not_false_eq_true, Int.reduceSub, Int.reduceAdd, Int.reduceLE, Int.reduceLT, Int.reduceToNat, Int.toNat_zero, implies_true]
      | some s =>
        by_cases hrs : r = s
        · have hd : decide (some r = some s) = true := by simp [hrs]
          rw [hd] at hsame
          simp only [chg, hrs, go_sem, Nat.reduceEqDiff, ↓reduceIte, Nat.reduceAdd, Nat.reduceLeDiff, Nat.reduceLT, reduceCtorEq, Nat.reduceBEq, Nat.reduceMul, Nat.reduceSub, ne_eq, not_false_eq_true, Int.reduceSub, Int.reduceAdd, Int.reduceLE, Int.reduceLT, Int.reduceToNat, Int.toNat_zero, implies_true] at ih hsame
          simp only [f_lineage_events_l0_eq, f_lineage_events_l0u, hx, hc, hw, hsame, hrs, ih, go_sem, Nat.reduceEqDiff, ↓reduceIte, Nat.reduceAdd, Nat.reduceLeDiff, Nat.reduceLT, reduceCtorEq, Nat.reduceBEq, Nat.reduceMul, Nat.reduceSub, ne_eq, not_false_eq_true, Int.reduceSub, Int.reduceAdd, Int.reduceLE, Int.reduceLT, Int.reduceToNat, Int.toNat_zero, implies_true]
        · have hd : decide (some r = some s) = false := by simp [hrs]
          rw [hd] at hsame
          simp only [chg, hrs, Option.some.injEq, go_sem, Nat.reduceEqDiff, ↓reduceIte, Nat.reduceAdd, Nat.reduceLeDiff, Nat.reduceLT, reduceCtorEq, Nat.reduceBEq, Nat.reduceMul, Nat.reduceSub, ne_eq, not_false_eq_true, Int.reduceSub, Int.reduceAdd, Int.reduceLE, Int.reduceLT, Int.reduceToNat, Int.toNat_zero, implies_true] at ih hsame
          simp only [f_lineage_events_l0_eq, f_lineage_events_l0u, hx, hc, hw, hsame, hb1, hb2, ih, Option.isNone_some, Option.isNone_none, go_sem, Nat.reduceEqDiff, ↓reduceIte, Nat.reduceAdd, Nat.reduceLeDiff, Nat.reduceLT, reduceCtorEq, Nat.reduceBEq, Nat.reduceMul, Nat.reduceSub, ne_eq, not_false_eq_true, Int.reduceSub, Int.reduceAdd, Int.reduceLE, Int.reduceLT, Int.reduceToNat, Int.toNat_zero, implies_true]
@[go_sem] theorem lineage_events (L : List Item) (hL : L.length < 1000000000000) (hB : ∀ x ∈ L, lenB x.b) : Den prog 15 [.sl (L.map Item.cells)] [] = some (.sl ((eventsOf L).map Event.cells), []) := by
  rw [Den_ofK [] pr_lineage_events rfl]
  simp only [f_lineage_events, go_sem, Nat.reduceEqDiff, ↓reduceIte, Nat.reduceAdd, Nat.reduceLeDiff, Nat.reduceLT, reduceCtorEq, Nat.reduceBEq, Nat.reduceMul, Nat.reduceSub, ne_eq, not_false_eq_true, Int.reduceSub, Int.reduceAdd, Int.reduceLE, Int.reduceLT, Int.reduceToNat, Int.toNat_zero, implies_true]
  refine lineage_events_l0 L hL hB ?_
  simp only [go_sem, Nat.reduceEqDiff, ↓reduceIte, Nat.reduceAdd, Nat.reduceLeDiff, Nat.reduceLT, reduceCtorEq, Nat.reduceBEq, Nat.reduceMul, Nat.reduceSub, ne_eq, not_false_eq_true, Int.reduceSub, Int.reduceAdd, Int.reduceLE, Int.reduceLT, Int.reduceToNat, Int.toNat_zero, implies_true]
end Go.Den
