/- Ch. 29: the reference's Feed, Compose, Invert. -/
import Derived.Test.YtjdnmifdkkohnaaS29i
namespace Go.Den
open Go
set_option linter.unusedSimpArgs false
set_option linter.unusedVariables false
set_option maxRecDepth 100000
set_option maxHeartbeats 1000000
def stepF (out : List Event) (n : Int) (x y : Option Line) : List Event := out ++ chg n (x.map Line.r) (y.map Line.r)
def feedR (a b : List Line) : List Event := mergeS Line.n Line.n stepF [] a b
theorem R29_Feed_l0 {β : Type} {K : Ex × Env × St → Option β} {Z : Option β} : ∀ (k : Nat) (a b : List Line) (out : List Event), a.length + b.length ≤ k → out.length + 2 * k < 100000000000 → okL a → (∀ x ∈ b, x.n < 4611686018427387904) →
      K (.exit 0, [(5, .osl 0 0 (mergeS Line.n Line.n stepF out a b).length 0 (mergeS Line.n Line.n stepF out a b).length), (6, .sl []), (7, .sl []), (32, .bool false)], [.arr 0 3 ((mergeS Line.n Line.n stepF out a b).map Event.cells)]) = Z →
      (Run prog 0 (.loop 1 [5, 6, 7] f_R29_Feed_l0) [(5, .osl 0 0 out.length 0 out.length), (6, .sl (a.map Line.cells)), (7, .sl (b.map Line.cells))] [.arr 0 3 (out.map Event.cells)]).bind K = Z
  | 0, a, b, out, hk, hc, ha, hb, h => by
    have ha0 : a = [] := by cases a with
      | nil => rfl
      | cons => simp at hk
    have hb0 : b = [] := by cases b with
      | nil => rfl
      | cons => simp at hk
    subst ha0; subst hb0
    rw [mergeS] at h
    have hz : decide ((0 : Int) < 0) = false := rfl
    rw [Run_loop]
    simp only [f_R29_Feed_l0_eq, f_R29_Feed_l0u, hz, Int.natCast_zero, h, go_sem, Nat.reduceEqDiff, ↓reduceIte, Nat.reduceAdd, Nat.reduceLeDiff, Nat.reduceLT, reduceCtorEq, Nat.reduceBEq, Nat.reduceMul, Nat.reduceSub, ne_eq, not_false_eq_true, Int.reduceSub, Int.reduceAdd, Int.reduceLE, Int.reduceLT, Int.reduceToNat, Int.toNat_zero, implies_true]
  | k + 1, a, b, out, hk, hc, ha, hb, h => by
    have IH := R29_Feed_l0 (K := K) (Z := Z) k
    have hz : decide ((0 : Int) < 0) = false := rfl
    have hp : ∀ q : Nat, decide ((0 : Int) < (q : Int) + 1) = true := by intro q; rw [decide_eq_true_eq]; omega
    have hbb : ∀ n x y, (out.length + (chg n x y).length) * 40 ≤ 140737488355328 := by
      intro n x y
      have := chg_len n x y
      exact mul40 (by clear IH h; omega)
    have hlen : ∀ n x y, (stepF out n x y).length ≤ out.length + 2 := by
      intro n x y
      have := chg_len n (x.map Line.r) (y.map Line.r)
      simp only [stepF, List.length_append]; omega
    cases a with
    | nil => cases b with
      | nil =>
        rw [mergeS] at h
        rw [Run_loop]
        simp only [f_R29_Feed_l0_eq, f_R29_Feed_l0u, hz, Int.natCast_zero, h, go_sem, Nat.reduceEqDiff, ↓reduceIte, Nat.reduceAdd, Nat.reduceLeDiff, Nat.reduceLT, reduceCtorEq, Nat.reduceBEq, Nat.reduceMul, Nat.reduceSub, ne_eq, not_false_eq_true, Int.reduceSub, Int.reduceAdd, Int.reduceLE, Int.reduceLT, Int.reduceToNat, Int.toNat_zero, implies_true]
      | cons y b =>
        have hy2 := hb y (by simp)
        have ih := IH [] b (stepF out y.n none (some y)) (by simp at hk ⊢; omega) (by have := hlen y.n none (some y); omega) (by simp [okL]) (fun z hz => hb z (by simp [hz])) (by rw [mergeS] at h; exact h)
        have h1 := R29_at y.n []
        have h2 := R29_at y.n (y :: b)
        have h3 := R29_change y.n none (some y.r) (by intro r hr; simp at hr)
        simp only [atS, atR, stepF, Option.map_none, Option.map_some, go_sem, Nat.reduceEqDiff, ↓reduceIte, Nat.reduceAdd, Nat.reduceLeDiff, Nat.reduceLT, reduceCtorEq, Nat.reduceBEq, Nat.reduceMul, Nat.reduceSub, ne_eq, not_false_eq_true, Int.reduceSub, Int.reduceAdd, Int.reduceLE, Int.reduceLT, Int.reduceToNat, Int.toNat_zero, implies_true] at h1 h2 h3 ih
        clear IH h hlen
        rw [Run_loop]
        simp only [f_R29_Feed_l0_eq, f_R29_Feed_l0u, hz, hp, hy2, h1, h2, h3, hbb, ih, Int.natCast_zero, go_sem, Nat.reduceEqDiff, ↓reduceIte, Nat.reduceAdd, Nat.reduceLeDiff, Nat.reduceLT, reduceCtorEq, Nat.reduceBEq, Nat.reduceMul, Nat.reduceSub, ne_eq, not_false_eq_true, Int.reduceSub, Int.reduceAdd, Int.reduceLE, Int.reduceLT, Int.reduceToNat, Int.toNat_zero, implies_true]
    | cons x a =>
      have hx : lenB (some x.r) := by intro r hr; simp at hr; subst hr; exact ha x (by simp)
      have ha' : okL a := fun z hz => ha z (by simp [hz])
      cases b with
      | nil =>
        have ih := IH a [] (stepF out x.n (some x) none) (by simp at hk ⊢; omega) (by have := hlen x.n (some x) none; omega) ha' (by simp) (by rw [mergeS] at h; exact h)
        have h1 := R29_at x.n (x :: a)
        have h2 := R29_at x.n []
        have h3 := R29_change x.n (some x.r) none hx
        simp only [atS, atR, stepF, Option.map_none, Option.map_some, go_sem, Nat.reduceEqDiff, ↓reduceIte, Nat.reduceAdd, Nat.reduceLeDiff, Nat.reduceLT, reduceCtorEq, Nat.reduceBEq, Nat.reduceMul, Nat.reduceSub, ne_eq, not_false_eq_true, Int.reduceSub, Int.reduceAdd, Int.reduceLE, Int.reduceLT, Int.reduceToNat, Int.toNat_zero, implies_true] at h1 h2 h3 ih
        clear IH h hlen
        rw [Run_loop]
        simp only [f_R29_Feed_l0_eq, f_R29_Feed_l0u, hz, hp, h1, h2, h3, hbb, ih, Int.natCast_zero, go_sem, Nat.reduceEqDiff, ↓reduceIte, Nat.reduceAdd, Nat.reduceLeDiff, Nat.reduceLT, reduceCtorEq, Nat.reduceBEq, Nat.reduceMul, Nat.reduceSub, ne_eq, not_false_eq_true, Int.reduceSub, Int.reduceAdd, Int.reduceLE, Int.reduceLT, Int.reduceToNat, Int.toNat_zero, implies_true]
      | cons y b =>
        by_cases c1 : x.n < y.n
        · have ih := IH a (y :: b) (stepF out x.n (some x) none) (by simp at hk ⊢; omega) (by have := hlen x.n (some x) none; omega) ha' hb (by rw [mergeS, if_pos c1] at h; exact h)
          have h1 := R29_at x.n (x :: a)
          have h2 := R29_at x.n (y :: b)
          have h3 := R29_change x.n (some x.r) none hx
          have c2 : (y.n < x.n) = False := by simp; omega
          have c3 : (y.n = x.n) = False := by simp; omega
          simp only [atS, atR, stepF, c3, Option.map_none, Option.map_some, go_sem, Nat.reduceEqDiff, ↓reduceIte, Nat.reduceAdd, Nat.reduceLeDiff, Nat.reduceLT, reduceCtorEq, Nat.reduceBEq, Nat.reduceMul, Nat.reduceSub, ne_eq, not_false_eq_true, Int.reduceSub, Int.reduceAdd, Int.reduceLE, Int.reduceLT, Int.reduceToNat, Int.toNat_zero, implies_true] at h1 h2 h3 ih
          clear IH h hlen
          rw [Run_loop]
          simp only [f_R29_Feed_l0_eq, f_R29_Feed_l0u, hz, hp, c2, h1, h2, h3, hbb, ih, Int.natCast_zero, go_sem, Nat.reduceEqDiff, ↓reduceIte, Nat.reduceAdd, Nat.reduceLeDiff, Nat.reduceLT, reduceCtorEq, Nat.reduceBEq, Nat.reduceMul, Nat.reduceSub, ne_eq, not_false_eq_true, Int.reduceSub, Int.reduceAdd, Int.reduceLE, Int.reduceLT, Int.reduceToNat, Int.toNat_zero, implies_true]
        · by_cases c2 : y.n < x.n
          · have ih := IH (x :: a) b (stepF out y.n none (some y)) (by simp at hk ⊢; omega) (by have := hlen y.n none (some y); omega) ha (fun z hz => hb z (by simp [hz])) (by rw [mergeS, if_neg c1, if_pos c2] at h; exact h)
            have h1 := R29_at y.n (x :: a)
            have h2 := R29_at y.n (y :: b)
            have h3 := R29_change y.n none (some y.r) (by intro r hr; simp at hr)
            have c3 : (x.n = y.n) = False := by simp; omega
            simp only [atS, atR, stepF, c3, Option.map_none, Option.map_some, go_sem, Nat.reduceEqDiff, ↓reduceIte, Nat.reduceAdd, Nat.reduceLeDiff, Nat.reduceLT, reduceCtorEq, Nat.reduceBEq, Nat.reduceMul, Nat.reduceSub, ne_eq, not_false_eq_true, Int.reduceSub, Int.reduceAdd, Int.reduceLE, Int.reduceLT, Int.reduceToNat, Int.toNat_zero, implies_true] at h1 h2 h3 ih
            clear IH h hlen
            rw [Run_loop]
            simp only [f_R29_Feed_l0_eq, f_R29_Feed_l0u, hz, hp, c2, h1, h2, h3, hbb, ih, Int.natCast_zero, go_sem, Nat.reduceEqDiff, ↓reduceIte, Nat.reduceAdd, Nat.reduceLeDiff, Nat.reduceLT, reduceCtorEq, Nat.reduceBEq, Nat.reduceMul, Nat.reduceSub, ne_eq, not_false_eq_true, Int.reduceSub, Int.reduceAdd, Int.reduceLE, Int.reduceLT, Int.reduceToNat, Int.toNat_zero, implies_true]
          · have c3 : x.n = y.n := by omega
            have ih := IH a b (stepF out x.n (some x) (some y)) (by simp at hk ⊢; omega) (by have := hlen x.n (some x) (some y); omega) ha' (fun z hz => hb z (by simp [hz])) (by rw [mergeS, if_neg c1, if_neg c2] at h; exact h)
            have h1 := R29_at y.n (x :: a)
            have h2 := R29_at y.n (y :: b)
            have h3 := R29_change y.n (some x.r) (some y.r) hx
            have c4 : (y.n < y.n) = False := by simp
            simp only [atS, atR, stepF, c3, Option.map_none, Option.map_some, go_sem, Nat.reduceEqDiff, ↓reduceIte, Nat.reduceAdd, Nat.reduceLeDiff, Nat.reduceLT, reduceCtorEq, Nat.reduceBEq, Nat.reduceMul, Nat.reduceSub, ne_eq, not_false_eq_true, Int.reduceSub, Int.reduceAdd, Int.reduceLE, Int.reduceLT, Int.reduceToNat, Int.toNat_zero, implies_true] at h1 h2 h3 ih
            clear IH h hlen
            rw [Run_loop]
            simp only [f_R29_Feed_l0_eq, f_R29_Feed_l0u, hz, hp, c3, c4, h1, h2, h3, hbb, ih, Int.natCast_zero, go_sem, Nat.reduceEqDiff, ↓reduceIte, Nat.reduceAdd, Nat.reduceLeDiff, Nat.reduceLT, reduceCtorEq, Nat.reduceBEq, Nat.reduceMul, Nat.reduceSub, ne_eq, not_false_eq_true, Int.reduceSub, Int.reduceAdd, Int.reduceLE, Int.reduceLT, Int.reduceToNat, Int.toNat_zero, implies_true]
theorem R29_Feed (a b : Table) (hLa : a.l.length < 1000000000000000) (hLb : b.l.length < 1000000000000000) (ha : okL a.l) (hb : okL b.l) : Den prog 39 [.agg [.int .i64 a.next, .sl (a.l.map Line.cells)], .agg [.int .i64 b.next, .sl (b.l.map Line.cells)]] [] = some (.sl ((if valid a = true ∧ valid b = true then feedR a.l b.l else []).map Event.cells), []) := by
  have hva := R29_Valid a hLa
  have hvb := R29_Valid b hLb
  simp only [go_sem, Nat.reduceEqDiff, ↓reduceIte, Nat.reduceAdd, Nat.reduceLeDiff, Nat.reduceLT, reduceCtorEq, Nat.reduceBEq, Nat.reduceMul, Nat.reduceSub, ne_eq, not_false_eq_true, Int.reduceSub, Int.reduceAdd, Int.reduceLE, Int.reduceLT, Int.reduceToNat, Int.toNat_zero, implies_true] at hva hvb
  rw [Den_ofK [] pr_R29_Feed rfl]
  cases va : valid a with
  | true => cases vb : valid b with
    | true =>
      have hf : (if true = true ∧ true = true then feedR a.l b.l else []) = feedR a.l b.l := rfl
      rw [hf]
      simp only [f_R29_Feed, hva, hvb, va, vb, go_sem, Nat.reduceEqDiff, ↓reduceIte, Nat.reduceAdd, Nat.reduceLeDiff, Nat.reduceLT, reduceCtorEq, Nat.reduceBEq, Nat.reduceMul, Nat.reduceSub, ne_eq, not_false_eq_true, Int.reduceSub, Int.reduceAdd, Int.reduceLE, Int.reduceLT, Int.reduceToNat, Int.toNat_zero, implies_true]
      refine R29_Feed_l0 _ a.l b.l [] (Nat.le_refl _) (by obtain ⟨_, h1, _⟩ := valid_all va; obtain ⟨_, h2, _⟩ := valid_all vb; clear ha hb hva hvb; simp only [List.length_nil]; omega) ha (fun x hx => ((valid_all vb).2.2 x hx).2) ?_
      simp only [feedR, go_sem, Nat.reduceEqDiff, ↓reduceIte, Nat.reduceAdd, Nat.reduceLeDiff, Nat.reduceLT, reduceCtorEq, Nat.reduceBEq, Nat.reduceMul, Nat.reduceSub, ne_eq, not_false_eq_true, Int.reduceSub, Int.reduceAdd, Int.reduceLE, Int.reduceLT, Int.reduceToNat, Int.toNat_zero, implies_true]
    | false => simp only [f_R29_Feed, hva, hvb, va, vb, Bool.false_eq_true, and_false, go_sem, Nat.reduceEqDiff, ↓reduceIte, Nat.reduceAdd, Nat.reduceLeDiff, Nat.reduceLT, reduceCtorEq, Nat.reduceBEq, Nat.reduceMul, Nat.reduceSub, ne_eq, not_false_eq_true, Int.reduceSub, Int.reduceAdd, Int.reduceLE, Int.reduceLT, Int.reduceToNat, Int.toNat_zero, implies_true]
  | false => simp only [f_R29_Feed, hva, hvb, va, Bool.false_eq_true, false_and, go_sem, Nat.reduceEqDiff, ↓reduceIte, Nat.reduceAdd, Nat.reduceLeDiff, Nat.reduceLT, reduceCtorEq, Nat.reduceBEq, Nat.reduceMul, Nat.reduceSub, ne_eq, not_false_eq_true, Int.reduceSub, Int.reduceAdd, Int.reduceLE, Int.reduceLT, Int.reduceToNat, Int.toNat_zero, implies_true]

def stepFC (out : List Event) (n : Int) (x y : Option Item) : List Event := out ++ (match x, y with
  | none, none => []
  | some x, none => chg x.n x.b x.a
  | none, some y => chg y.n y.b y.a
  | some x, some y => chg x.n x.b y.a)
def composeR (a b : List Item) : List Event := mergeS Item.n Item.n stepFC [] a b
theorem R29_Compose_l0 {β : Type} {K : Ex × Env × St → Option β} {Z : Option β} : ∀ (k : Nat) (a b : List Item) (out : List Event), a.length + b.length ≤ k → out.length + 2 * k < 500000000000 → (∀ i ∈ a, okI i) → (∀ i ∈ b, okI i) →
      K (.exit 0, [(5, .osl 0 0 (mergeS Item.n Item.n stepFC out a b).length 0 (mergeS Item.n Item.n stepFC out a b).length), (6, .sl []), (7, .sl []), (29, .bool false)], [.arr 0 3 ((mergeS Item.n Item.n stepFC out a b).map Event.cells)]) = Z →
      (Run prog 0 (.loop 1 [5, 6, 7] f_R29_Compose_l0) [(5, .osl 0 0 out.length 0 out.length), (6, .sl (a.map Item.cellsR)), (7, .sl (b.map Item.cellsR))] [.arr 0 3 (out.map Event.cells)]).bind K = Z
  | 0, a, b, out, hk, hc, ha, hb, h => by
    have ha0 : a = [] := by cases a with
      | nil => rfl
      | cons => simp at hk
    have hb0 : b = [] := by cases b with
      | nil => rfl
      | cons => simp at hk
    subst ha0; subst hb0
    rw [mergeS] at h
    have hz : decide ((0 : Int) < 0) = false := rfl
    rw [Run_loop]
    simp only [f_R29_Compose_l0_eq, f_R29_Compose_l0u, hz, Int.natCast_zero, h, go_sem, Nat.reduceEqDiff, ↓reduceIte, Nat.reduceAdd, Nat.reduceLeDiff, Nat.reduceLT, reduceCtorEq, Nat.reduceBEq, Nat.reduceMul, Nat.reduceSub, ne_eq, not_false_eq_true, Int.reduceSub, Int.reduceAdd, Int.reduceLE, Int.reduceLT, Int.reduceToNat, Int.toNat_zero, implies_true]
  | k + 1, a, b, out, hk, hc, ha, hb, h => by
    have IH := R29_Compose_l0 (K := K) (Z := Z) k
    have hz : decide ((0 : Int) < 0) = false := rfl
    have hp : ∀ q : Nat, decide ((0 : Int) < (q : Int) + 1) = true := by intro q; rw [decide_eq_true_eq]; omega
    have he0 : decide ((0 : Int) = 0) = true := rfl
    have he : ∀ q : Nat, decide ((q : Int) + 1 = 0) = false := by intro q; rw [decide_eq_false_iff_not]; omega
    have hbb : ∀ n x y, (out.length + (chg n x y).length) * 40 ≤ 140737488355328 := by
      intro n x y
      have := chg_len n x y
      exact mul40 (by clear IH h; omega)
    have hlen : ∀ n x y, (stepFC out n x y).length ≤ out.length + 2 := by
      intro n x y
      simp only [stepFC, List.length_append]
      cases x <;> cases y <;> simp only [] <;> first | (have := chg_len; simp; done) | (rename_i u; have := chg_len u.n u.b u.a; omega) | (rename_i u v; have := chg_len u.n u.b v.a; omega)
    cases a with
    | nil => cases b with
      | nil =>
        rw [mergeS] at h
        rw [Run_loop]
        simp only [f_R29_Compose_l0_eq, f_R29_Compose_l0u, hz, he0, Int.natCast_zero, h, go_sem, Nat.reduceEqDiff, ↓reduceIte, Nat.reduceAdd, Nat.reduceLeDiff, Nat.reduceLT, reduceCtorEq, Nat.reduceBEq, Nat.reduceMul, Nat.reduceSub, ne_eq, not_false_eq_true, Int.reduceSub, Int.reduceAdd, Int.reduceLE, Int.reduceLT, Int.reduceToNat, Int.toNat_zero, implies_true]
      | cons y b =>
        have hy := hb y (by simp)
        have ih := IH [] b (stepFC out y.n none (some y)) (by simp at hk ⊢; omega) (by have := hlen y.n none (some y); omega) (by simp) (fun z hz => hb z (by simp [hz])) (by rw [mergeS] at h; exact h)
        have h3 := R29_change y.n y.b y.a hy.1
        simp only [stepFC, go_sem, Nat.reduceEqDiff, ↓reduceIte, Nat.reduceAdd, Nat.reduceLeDiff, Nat.reduceLT, reduceCtorEq, Nat.reduceBEq, Nat.reduceMul, Nat.reduceSub, ne_eq, not_false_eq_true, Int.reduceSub, Int.reduceAdd, Int.reduceLE, Int.reduceLT, Int.reduceToNat, Int.toNat_zero, implies_true] at ih
        clear IH h hlen
        rw [Run_loop]
        simp only [f_R29_Compose_l0_eq, f_R29_Compose_l0u, hz, hp, he0, he, h3, hbb, ih, Int.natCast_zero, go_sem, Nat.reduceEqDiff, ↓reduceIte, Nat.reduceAdd, Nat.reduceLeDiff, Nat.reduceLT, reduceCtorEq, Nat.reduceBEq, Nat.reduceMul, Nat.reduceSub, ne_eq, not_false_eq_true, Int.reduceSub, Int.reduceAdd, Int.reduceLE, Int.reduceLT, Int.reduceToNat, Int.toNat_zero, implies_true]
    | cons x a =>
      have hx := ha x (by simp)
      have ha' : ∀ i ∈ a, okI i := fun z hz => ha z (by simp [hz])
      cases b with
      | nil =>
        have ih := IH a [] (stepFC out x.n (some x) none) (by simp at hk ⊢; omega) (by have := hlen x.n (some x) none; omega) ha' (by simp) (by rw [mergeS] at h; exact h)
        have h3 := R29_change x.n x.b x.a hx.1
        simp only [stepFC, go_sem, Nat.reduceEqDiff, ↓reduceIte, Nat.reduceAdd, Nat.reduceLeDiff, Nat.reduceLT, reduceCtorEq, Nat.reduceBEq, Nat.reduceMul, Nat.reduceSub, ne_eq, not_false_eq_true, Int.reduceSub, Int.reduceAdd, Int.reduceLE, Int.reduceLT, Int.reduceToNat, Int.toNat_zero, implies_true] at ih
        clear IH h hlen
        rw [Run_loop]
        simp only [f_R29_Compose_l0_eq, f_R29_Compose_l0u, hz, hp, he0, he, h3, hbb, ih, Int.natCast_zero, go_sem, Nat.reduceEqDiff, ↓reduceIte, Nat.reduceAdd, Nat.reduceLeDiff, Nat.reduceLT, reduceCtorEq, Nat.reduceBEq, Nat.reduceMul, Nat.reduceSub, ne_eq, not_false_eq_true, Int.reduceSub, Int.reduceAdd, Int.reduceLE, Int.reduceLT, Int.reduceToNat, Int.toNat_zero, implies_true]
      | cons y b =>
        have hy := hb y (by simp)
        by_cases c1 : x.n < y.n
        · have ih := IH a (y :: b) (stepFC out x.n (some x) none) (by simp at hk ⊢; omega) (by have := hlen x.n (some x) none; omega) ha' hb (by rw [mergeS, if_pos c1] at h; exact h)
          have h3 := R29_change x.n x.b x.a hx.1
          have d1 : decide (x.n < y.n) = true := by simpa using c1
          simp only [stepFC, go_sem, Nat.reduceEqDiff, ↓reduceIte, Nat.reduceAdd, Nat.reduceLeDiff, Nat.reduceLT, reduceCtorEq, Nat.reduceBEq, Nat.reduceMul, Nat.reduceSub, ne_eq, not_false_eq_true, Int.reduceSub, Int.reduceAdd, Int.reduceLE, Int.reduceLT, Int.reduceToNat, Int.toNat_zero, implies_true] at ih
          clear IH h hlen
          rw [Run_loop]
          simp only [f_R29_Compose_l0_eq, f_R29_Compose_l0u, hz, hp, he0, he, d1, h3, hbb, ih, Int.natCast_zero, go_sem, Nat.reduceEqDiff, ↓reduceIte, Nat.reduceAdd, Nat.reduceLeDiff, Nat.reduceLT, reduceCtorEq, Nat.reduceBEq, Nat.reduceMul, Nat.reduceSub, ne_eq, not_false_eq_true, Int.reduceSub, Int.reduceAdd, Int.reduceLE, Int.reduceLT, Int.reduceToNat, Int.toNat_zero, implies_true]
        · have d1 : decide (x.n < y.n) = false := by simpa using c1
          by_cases c2 : y.n < x.n
          · have ih := IH (x :: a) b (stepFC out y.n none (some y)) (by simp at hk ⊢; omega) (by have := hlen y.n none (some y); omega) ha (fun z hz => hb z (by simp [hz])) (by rw [mergeS, if_neg c1, if_pos c2] at h; exact h)
            have h3 := R29_change y.n y.b y.a hy.1
            have d2 : decide (y.n < x.n) = true := by simpa using c2
            simp only [stepFC, go_sem, Nat.reduceEqDiff, ↓reduceIte, Nat.reduceAdd, Nat.reduceLeDiff, Nat.reduceLT, reduceCtorEq, Nat.reduceBEq, Nat.reduceMul, Nat.reduceSub, ne_eq, not_false_eq_true, Int.reduceSub, Int.reduceAdd, Int.reduceLE, Int.reduceLT, Int.reduceToNat, Int.toNat_zero, implies_true] at ih
            clear IH h hlen
            rw [Run_loop]
            simp only [f_R29_Compose_l0_eq, f_R29_Compose_l0u, hz, hp, he0, he, d1, d2, h3, hbb, ih, Int.natCast_zero, go_sem, Nat.reduceEqDiff, ↓reduceIte, Nat.reduceAdd, Nat.reduceLeDiff, Nat.reduceLT, reduceCtorEq, Nat.reduceBEq, Nat.reduceMul, Nat.reduceSub, ne_eq, not_false_eq_true, Int.reduceSub, Int.reduceAdd, Int.reduceLE, Int.reduceLT, Int.reduceToNat, Int.toNat_zero, implies_true]
          · have d2 : decide (y.n < x.n) = false := by simpa using c2
            have ih := IH a b (stepFC out x.n (some x) (some y)) (by simp at hk ⊢; omega) (by have := hlen x.n (some x) (some y); omega) ha' (fun z hz => hb z (by simp [hz])) (by rw [mergeS, if_neg c1, if_neg c2] at h; exact h)
            have h3 := R29_change x.n x.b y.a hx.1
            simp only [stepFC, go_sem, Nat.reduceEqDiff, ↓reduceIte, Nat.reduceAdd, Nat.reduceLeDiff, Nat.reduceLT, reduceCtorEq, Nat.reduceBEq, Nat.reduceMul, Nat.reduceSub, ne_eq, not_false_eq_true, Int.reduceSub, Int.reduceAdd, Int.reduceLE, Int.reduceLT, Int.reduceToNat, Int.toNat_zero, implies_true] at ih
            clear IH h hlen
            rw [Run_loop]
            simp only [f_R29_Compose_l0_eq, f_R29_Compose_l0u, hz, hp, he0, he, d1, d2, h3, hbb, ih, Int.natCast_zero, go_sem, Nat.reduceEqDiff, ↓reduceIte, Nat.reduceAdd, Nat.reduceLeDiff, Nat.reduceLT, reduceCtorEq, Nat.reduceBEq, Nat.reduceMul, Nat.reduceSub, ne_eq, not_false_eq_true, Int.reduceSub, Int.reduceAdd, Int.reduceLE, Int.reduceLT, Int.reduceToNat, Int.toNat_zero, implies_true]
theorem R29_Compose (a b : List Event) (hLa : a.length < 100000000000) (hLb : b.length < 100000000000) (ha : okE a) (hb : okE b) : Den prog 41 [.sl (a.map Event.cells), .sl (b.map Event.cells)] [] = some (.sl ((if feedOk none a = true ∧ feedOk none b = true then composeR (itemsOf [] a) (itemsOf [] b) else []).map Event.cells), []) := by
  have hva := R29_IsFeed a (by clear ha hb; omega) ha
  have hvb := R29_IsFeed b (by clear ha hb; omega) hb
  have hia := R29_Items a hLa
  have hib := R29_Items b hLb
  rw [Den_ofK [] pr_R29_Compose rfl]
  cases va : feedOk none a with
  | true => cases vb : feedOk none b with
    | true =>
      have hf : (if true = true ∧ true = true then composeR (itemsOf [] a) (itemsOf [] b) else []) = composeR (itemsOf [] a) (itemsOf [] b) := rfl
      rw [hf]
      have l1 := itemsOf_len a []
      have l2 := itemsOf_len b []
      simp only [List.length_nil, Nat.zero_add] at l1 l2
      simp only [f_R29_Compose, hva, hvb, hia, hib, va, vb, go_sem, Nat.reduceEqDiff, ↓reduceIte, Nat.reduceAdd, Nat.reduceLeDiff, Nat.reduceLT, reduceCtorEq, Nat.reduceBEq, Nat.reduceMul, Nat.reduceSub, ne_eq, not_false_eq_true, Int.reduceSub, Int.reduceAdd, Int.reduceLE, Int.reduceLT, Int.reduceToNat, Int.toNat_zero, implies_true]
      refine R29_Compose_l0 _ _ _ [] (Nat.le_refl _) (by clear ha hb hva hvb hia hib; simp only [List.length_nil]; omega) (itemsOf_ok ha) (itemsOf_ok hb) ?_
      simp only [composeR, go_sem, Nat.reduceEqDiff, ↓reduceIte, Nat.reduceAdd, Nat.reduceLeDiff, Nat.reduceLT, reduceCtorEq, Nat.reduceBEq, Nat.reduceMul, Nat.reduceSub, ne_eq, not_false_eq_true, Int.reduceSub, Int.reduceAdd, Int.reduceLE, Int.reduceLT, Int.reduceToNat, Int.toNat_zero, implies_true]
    | false => simp only [f_R29_Compose, hva, hvb, va, vb, Bool.false_eq_true, and_false, go_sem, Nat.reduceEqDiff, ↓reduceIte, Nat.reduceAdd, Nat.reduceLeDiff, Nat.reduceLT, reduceCtorEq, Nat.reduceBEq, Nat.reduceMul, Nat.reduceSub, ne_eq, not_false_eq_true, Int.reduceSub, Int.reduceAdd, Int.reduceLE, Int.reduceLT, Int.reduceToNat, Int.toNat_zero, implies_true]
  | false => simp only [f_R29_Compose, hva, hvb, va, Bool.false_eq_true, false_and, go_sem, Nat.reduceEqDiff, ↓reduceIte, Nat.reduceAdd, Nat.reduceLeDiff, Nat.reduceLT, reduceCtorEq, Nat.reduceBEq, Nat.reduceMul, Nat.reduceSub, ne_eq, not_false_eq_true, Int.reduceSub, Int.reduceAdd, Int.reduceLE, Int.reduceLT, Int.reduceToNat, Int.toNat_zero, implies_true]
def invR : List Item → List Event
  | [] => []
  | i :: r => chg i.n i.a i.b ++ invR r
theorem R29_Invert_l0 {β : Type} {K : Ex × Env × St → Option β} {Z : Option β} (L : List Item) (hL : L.length < 100000000000) (hB : ∀ i ∈ L, okI i)
    (h : K (.exit 0, [(3, .osl 0 0 (invR L).length 0 (invR L).length), (4, .sl (L.map Item.cellsR)), (5, .int .i64 L.length), (16, .bool false)], [.arr 0 3 ((invR L).map Event.cells)]) = Z) :
    (Run prog 0 (.loop 1 [3, 4, 5] f_R29_Invert_l0) [(3, .osl 0 0 0 0 0), (4, .sl (L.map Item.cellsR)), (5, .int .i64 0)] [.arr 0 3 []]).bind K = Z := by
  have h0 := range_ind L (by omega) (fun i (out : List Event) => (Run prog 0 (.loop 1 [3, 4, 5] f_R29_Invert_l0) [(3, .osl 0 0 out.length 0 out.length), (4, .sl (L.map Item.cellsR)), (5, .int .i64 i)] [.arr 0 3 (out.map Event.cells)]).bind K = Z)
    (fun i rest out => (out.length : Int) ≤ 2 * i ∧ out ++ invR rest = invR L) ?_ ?_ [] ⟨by simp, rfl⟩
  · exact h0
  · intro out ⟨_, hg⟩
    rw [invR, List.append_nil] at hg
    rw [Run_loop]
    simp only [f_R29_Invert_l0_eq, f_R29_Invert_l0u, hg, h, go_sem, Nat.reduceEqDiff, ↓reduceIte, Nat.reduceAdd, Nat.reduceLeDiff, Nat.reduceLT, reduceCtorEq, Nat.reduceBEq, Nat.reduceMul, Nat.reduceSub, ne_eq, not_false_eq_true, Int.reduceSub, Int.reduceAdd, Int.reduceLE, Int.reduceLT, Int.reduceToNat, Int.toNat_zero, implies_true]
  · intro i pre rest x out hp hi0 hi1 hi2 hx hc hw ⟨hn, hg⟩ ih
    have hxb := hB x (by rw [hp]; simp)
    have hl := chg_len x.n x.a x.b
    have ih := ih (out ++ chg x.n x.a x.b) ⟨by clear hw hc hx hg hp h; rw [List.length_append]; omega, by rw [← hg, invR, List.append_assoc]⟩
    have h3 := R29_change x.n x.a x.b hxb.2
    have hb : (out.length + (chg x.n x.a x.b).length) * 40 ≤ 140737488355328 := mul40 (by clear hw hc hx hg hp h ih h3 hB; omega)
    simp only [go_sem, Nat.reduceEqDiff, ↓reduceIte, Nat.reduceAdd, Nat.reduceLeDiff, Nat.reduceLT, reduceCtorEq, Nat.reduceBEq, Nat.reduceMul, Nat.reduceSub, ne_eq, not_false_eq_true, Int.reduceSub, Int.reduceAdd, Int.reduceLE, Int.reduceLT, Int.reduceToNat, Int.toNat_zero, implies_true] at ih
    rw [Run_loop]
    simp only [f_R29_Invert_l0_eq, f_R29_Invert_l0u, hx, hc, hw, h3, hb, ih, go_sem, Nat.reduceEqDiff, ↓reduceIte, Nat.reduceAdd, Nat.reduceLeDiff, Nat.reduceLT, reduceCtorEq, Nat.reduceBEq, Nat.reduceMul, Nat.reduceSub, ne_eq, not_false_eq_true, Int.reduceSub, Int.reduceAdd, Int.reduceLE, Int.reduceLT, Int.reduceToNat, Int.toNat_zero, implies_true]
theorem R29_Invert (a : List Event) (hLa : a.length < 100000000000) (ha : okE a) : Den prog 42 [.sl (a.map Event.cells)] [] = some (.sl ((if feedOk none a = true then invR (itemsOf [] a) else []).map Event.cells), []) := by
  have hva := R29_IsFeed a (by clear ha; omega) ha
  have hia := R29_Items a hLa
  rw [Den_ofK [] pr_R29_Invert rfl]
  cases va : feedOk none a with
  | true =>
    have hf : (if true = true then invR (itemsOf [] a) else []) = invR (itemsOf [] a) := rfl
    rw [hf]
    have l1 := itemsOf_len a []
    simp only [List.length_nil, Nat.zero_add] at l1
    simp only [f_R29_Invert, hva, hia, va, go_sem, Nat.reduceEqDiff, ↓reduceIte, Nat.reduceAdd, Nat.reduceLeDiff, Nat.reduceLT, reduceCtorEq, Nat.reduceBEq, Nat.reduceMul, Nat.reduceSub, ne_eq, not_false_eq_true, Int.reduceSub, Int.reduceAdd, Int.reduceLE, Int.reduceLT, Int.reduceToNat, Int.toNat_zero, implies_true]
    refine R29_Invert_l0 (itemsOf [] a) (by clear ha hva hia; omega) (itemsOf_ok ha) ?_
    simp only [go_sem, Nat.reduceEqDiff, ↓reduceIte, Nat.reduceAdd, Nat.reduceLeDiff, Nat.reduceLT, reduceCtorEq, Nat.reduceBEq, Nat.reduceMul, Nat.reduceSub, ne_eq, not_false_eq_true, Int.reduceSub, Int.reduceAdd, Int.reduceLE, Int.reduceLT, Int.reduceToNat, Int.toNat_zero, implies_true]
  | false => simp only [f_R29_Invert, hva, va, Bool.false_eq_true, go_sem, Nat.reduceEqDiff, ↓reduceIte, Nat.reduceAdd, Nat.reduceLeDiff, Nat.reduceLT, reduceCtorEq, Nat.reduceBEq, Nat.reduceMul, Nat.reduceSub, ne_eq, not_false_eq_true, Int.reduceSub, Int.reduceAdd, Int.reduceLE, Int.reduceLT, Int.reduceToNat, Int.toNat_zero, implies_true]
end Go.Den
