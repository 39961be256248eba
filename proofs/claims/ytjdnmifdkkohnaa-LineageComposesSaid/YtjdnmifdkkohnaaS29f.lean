/- Ch. 29: merge. -/
import Derived.Test.YtjdnmifdkkohnaaS29e
namespace Go.Den
open Go
set_option linter.unusedSimpArgs false
set_option linter.unusedVariables false
set_option maxRecDepth 100000
set_option maxHeartbeats 1000000
/-- What merge passes to each, one after the other. -/
def mergeS {A B S : Type} (na : A → Int) (nb : B → Int) (step : S → Int → Option A → Option B → S) : S → List A → List B → S
  | s, [], [] => s
  | s, x :: a, [] => mergeS na nb step (step s (na x) (some x) none) a []
  | s, [], y :: b => mergeS na nb step (step s (nb y) none (some y)) [] b
  | s, x :: a, y :: b => if na x < nb y then mergeS na nb step (step s (na x) (some x) none) a (y :: b)
      else if nb y < na x then mergeS na nb step (step s (nb y) none (some y)) (x :: a) b
      else mergeS na nb step (step s (na x) (some x) (some y)) a b
termination_by _ a b => a.length + b.length

theorem merge_LL_l0 {S β : Type} {K : Ex × Env × St → Option β} {Z : Option β} (fid : Nat) (caps : List AV) (hcn : norms caps = caps) (hcr : norefs caps = false) (σ : S → St) (bs : Nat) (hbs : ∀ s, (σ s).length = bs) (cnt : S → Nat)
    (step : S → Int → Option Line → Option Line → S) (good : S → Prop) (okA : Line → Prop) (okB : Line → Prop)
    (hstep : ∀ s n x y, good s → cnt s < 1000000000000 → (∀ x', x = some x' → okA x' ∧ n = x'.n) → (∀ y', y = some y' → okB y' ∧ n = y'.n) → (x = none → y = none → False) →
      Den prog fid (.int .i64 n :: lineP x :: lineP y :: caps) (σ s) = some (.tup [], σ (step s n x y)) ∧ good (step s n x y) ∧ cnt (step s n x y) ≤ cnt s + 1) :
    ∀ (k : Nat) (a : List Line) (b : List Line) (s : S), a.length + b.length ≤ k → good s → cnt s + k < 1000000000000 → (∀ x ∈ a, okA x ∧ x.n < 4611686018427387904) → (∀ y ∈ b, okB y ∧ y.n < 4611686018427387904) →
      K (.exit 0, [(0, .sl []), (1, .sl []), (2, .fn 10 []), (3, .fn 10 []), (4, .fn fid caps), (20, .bool false)], σ (mergeS Line.n Line.n step s a b)) = Z →
      (Run prog bs (.loop 0 [0, 1, 2, 3, 4] f_lineage_merge_api_Line_api_Line_l0) [(0, .sl (a.map Line.cells)), (1, .sl (b.map Line.cells)), (2, .fn 10 []), (3, .fn 10 []), (4, .fn fid caps)] (σ s)).bind K = Z
  | 0, a, b, s, hk, hg, hc, ha, hb, h => by
    have ha0 : a = [] := by cases a with
      | nil => rfl
      | cons => simp at hk
    have hb0 : b = [] := by cases b with
      | nil => rfl
      | cons => simp at hk
    subst ha0; subst hb0
    rw [mergeS] at h
    have hz : decide ((0 : Int) < 0) = false := rfl
    rw [Run_loop]
    simp only [f_lineage_merge_api_Line_api_Line_l0_eq, f_lineage_merge_api_Line_api_Line_l0u, hz, hbs, hcn, hcr, Int.natCast_zero, h, go_sem, Nat.reduceEqDiff, ↓reduceIte, Nat.reduceAdd, Nat.reduceLeDiff, Nat.reduceLT, reduceCtorEq, Nat.reduceBEq, Nat.reduceMul, Nat.reduceSub, ne_eq, not_false_eq_true, Int.reduceSub, Int.reduceAdd, Int.reduceLE, Int.reduceLT, Int.reduceToNat, Int.toNat_zero, implies_true]
  | k + 1, a, b, s, hk, hg, hc, ha, hb, h => by
    have IH := merge_LL_l0 (K := K) (Z := Z) fid caps hcn hcr σ bs hbs cnt step good okA okB hstep k
    have hz : decide ((0 : Int) < 0) = false := rfl
    have hp : ∀ q : Nat, decide ((0 : Int) < (q : Int) + 1) = true := by intro q; rw [decide_eq_true_eq]; omega
    cases a with
    | nil => cases b with
      | nil =>
        rw [mergeS] at h
        clear IH hstep
        rw [Run_loop]
        simp only [f_lineage_merge_api_Line_api_Line_l0_eq, f_lineage_merge_api_Line_api_Line_l0u, hz, hbs, hcn, hcr, Int.natCast_zero, h, go_sem, Nat.reduceEqDiff, ↓reduceIte, Nat.reduceAdd, Nat.reduceLeDiff, Nat.reduceLT, reduceCtorEq, Nat.reduceBEq, Nat.reduceMul, Nat.reduceSub, ne_eq, not_false_eq_true, Int.reduceSub, Int.reduceAdd, Int.reduceLE, Int.reduceLT, Int.reduceToNat, Int.toNat_zero, implies_true]
      | cons y b =>
        obtain ⟨hy1, hy2⟩ := hb y (by simp)
        obtain ⟨e, g, c⟩ := hstep s y.n none (some y) hg (by omega) (by simp) (by simp; exact hy1) (by simp)
        have ih := IH [] b (step s y.n none (some y)) (by simp at hk ⊢; omega) g (by omega) (by simp) (fun z hz => hb z (by simp [hz])) (by rw [mergeS] at h; exact h)
        have hd : decide (y.n = y.n) = true := by simp
        clear IH hstep h
        rw [Run_loop]
        simp only [go_sem, Nat.reduceEqDiff, ↓reduceIte, Nat.reduceAdd, Nat.reduceLeDiff, Nat.reduceLT, reduceCtorEq, Nat.reduceBEq, Nat.reduceMul, Nat.reduceSub, ne_eq, not_false_eq_true, Int.reduceSub, Int.reduceAdd, Int.reduceLE, Int.reduceLT, Int.reduceToNat, Int.toNat_zero, implies_true] at e ih
        simp only [f_lineage_merge_api_Line_api_Line_l0_eq, f_lineage_merge_api_Line_api_Line_l0u, hz, hp, hd, hy2, hbs, hcn, hcr, e, ih, Int.natCast_zero, go_sem, Nat.reduceEqDiff, ↓reduceIte, Nat.reduceAdd, Nat.reduceLeDiff, Nat.reduceLT, reduceCtorEq, Nat.reduceBEq, Nat.reduceMul, Nat.reduceSub, ne_eq, not_false_eq_true, Int.reduceSub, Int.reduceAdd, Int.reduceLE, Int.reduceLT, Int.reduceToNat, Int.toNat_zero, implies_true]
    | cons x a =>
      obtain ⟨hx1, hx2⟩ := ha x (by simp)
      have hdx : decide (x.n = x.n) = true := by simp
      cases b with
      | nil =>
        obtain ⟨e, g, c⟩ := hstep s x.n (some x) none hg (by omega) (by simp; exact hx1) (by simp) (by simp)
        have ih := IH a [] (step s x.n (some x) none) (by simp at hk ⊢; omega) g (by omega) (fun z hz => ha z (by simp [hz])) (by simp) (by rw [mergeS] at h; exact h)
        clear IH hstep h
        rw [Run_loop]
        simp only [go_sem, Nat.reduceEqDiff, ↓reduceIte, Nat.reduceAdd, Nat.reduceLeDiff, Nat.reduceLT, reduceCtorEq, Nat.reduceBEq, Nat.reduceMul, Nat.reduceSub, ne_eq, not_false_eq_true, Int.reduceSub, Int.reduceAdd, Int.reduceLE, Int.reduceLT, Int.reduceToNat, Int.toNat_zero, implies_true] at e ih
        simp only [f_lineage_merge_api_Line_api_Line_l0_eq, f_lineage_merge_api_Line_api_Line_l0u, hz, hp, hdx, hbs, hcn, hcr, e, ih, Int.natCast_zero, go_sem, Nat.reduceEqDiff, ↓reduceIte, Nat.reduceAdd, Nat.reduceLeDiff, Nat.reduceLT, reduceCtorEq, Nat.reduceBEq, Nat.reduceMul, Nat.reduceSub, ne_eq, not_false_eq_true, Int.reduceSub, Int.reduceAdd, Int.reduceLE, Int.reduceLT, Int.reduceToNat, Int.toNat_zero, implies_true]
      | cons y b =>
        obtain ⟨hy1, hy2⟩ := hb y (by simp)
        have hdy : decide (y.n = y.n) = true := by simp
        by_cases h1 : x.n < y.n
        · obtain ⟨e, g, c⟩ := hstep s x.n (some x) none hg (by omega) (by simp; exact hx1) (by simp) (by simp)
          have ih := IH a (y :: b) (step s x.n (some x) none) (by simp at hk ⊢; omega) g (by omega) (fun z hz => ha z (by simp [hz])) hb (by rw [mergeS, if_pos h1] at h; exact h)
          have h2 : (y.n < x.n) = False := by simp; omega
          have h3 : decide (y.n = x.n) = false := by simp; omega
          clear IH hstep h
          rw [Run_loop]
          simp only [go_sem, Nat.reduceEqDiff, ↓reduceIte, Nat.reduceAdd, Nat.reduceLeDiff, Nat.reduceLT, reduceCtorEq, Nat.reduceBEq, Nat.reduceMul, Nat.reduceSub, ne_eq, not_false_eq_true, Int.reduceSub, Int.reduceAdd, Int.reduceLE, Int.reduceLT, Int.reduceToNat, Int.toNat_zero, implies_true] at e ih
          simp only [f_lineage_merge_api_Line_api_Line_l0_eq, f_lineage_merge_api_Line_api_Line_l0u, hz, hp, hdx, hdy, h2, h3, hbs, hcn, hcr, e, ih, Int.natCast_zero, go_sem, Nat.reduceEqDiff, ↓reduceIte, Nat.reduceAdd, Nat.reduceLeDiff, Nat.reduceLT, reduceCtorEq, Nat.reduceBEq, Nat.reduceMul, Nat.reduceSub, ne_eq, not_false_eq_true, Int.reduceSub, Int.reduceAdd, Int.reduceLE, Int.reduceLT, Int.reduceToNat, Int.toNat_zero, implies_true]
        · by_cases h2 : y.n < x.n
          · obtain ⟨e, g, c⟩ := hstep s y.n none (some y) hg (by omega) (by simp) (by simp; exact hy1) (by simp)
            have ih := IH (x :: a) b (step s y.n none (some y)) (by simp at hk ⊢; omega) g (by omega) ha (fun z hz => hb z (by simp [hz])) (by rw [mergeS, if_neg h1, if_pos h2] at h; exact h)
            have h3 : decide (x.n = y.n) = false := by simp; omega
            clear IH hstep h
            rw [Run_loop]
            simp only [go_sem, Nat.reduceEqDiff, ↓reduceIte, Nat.reduceAdd, Nat.reduceLeDiff, Nat.reduceLT, reduceCtorEq, Nat.reduceBEq, Nat.reduceMul, Nat.reduceSub, ne_eq, not_false_eq_true, Int.reduceSub, Int.reduceAdd, Int.reduceLE, Int.reduceLT, Int.reduceToNat, Int.toNat_zero, implies_true] at e ih
            simp only [f_lineage_merge_api_Line_api_Line_l0_eq, f_lineage_merge_api_Line_api_Line_l0u, hz, hp, hdx, hdy, h2, h3, hbs, hcn, hcr, e, ih, Int.natCast_zero, go_sem, Nat.reduceEqDiff, ↓reduceIte, Nat.reduceAdd, Nat.reduceLeDiff, Nat.reduceLT, reduceCtorEq, Nat.reduceBEq, Nat.reduceMul, Nat.reduceSub, ne_eq, not_false_eq_true, Int.reduceSub, Int.reduceAdd, Int.reduceLE, Int.reduceLT, Int.reduceToNat, Int.toNat_zero, implies_true]
          · have h3 : x.n = y.n := by omega
            obtain ⟨e, g, c⟩ := hstep s x.n (some x) (some y) hg (by omega) (by simp; exact hx1) (by simp; exact ⟨hy1, h3⟩) (by simp)
            have ih := IH a b (step s x.n (some x) (some y)) (by simp at hk ⊢; omega) g (by omega) (fun z hz => ha z (by simp [hz])) (fun z hz => hb z (by simp [hz])) (by rw [mergeS, if_neg h1, if_neg h2] at h; exact h)
            have h4 : (y.n < y.n) = False := by simp
            clear IH hstep h
            rw [Run_loop]
            simp only [h3, go_sem, Nat.reduceEqDiff, ↓reduceIte, Nat.reduceAdd, Nat.reduceLeDiff, Nat.reduceLT, reduceCtorEq, Nat.reduceBEq, Nat.reduceMul, Nat.reduceSub, ne_eq, not_false_eq_true, Int.reduceSub, Int.reduceAdd, Int.reduceLE, Int.reduceLT, Int.reduceToNat, Int.toNat_zero, implies_true] at e ih
            simp only [f_lineage_merge_api_Line_api_Line_l0_eq, f_lineage_merge_api_Line_api_Line_l0u, hz, hp, hdx, hdy, h3, h4, hbs, hcn, hcr, e, ih, Int.natCast_zero, go_sem, Nat.reduceEqDiff, ↓reduceIte, Nat.reduceAdd, Nat.reduceLeDiff, Nat.reduceLT, reduceCtorEq, Nat.reduceBEq, Nat.reduceMul, Nat.reduceSub, ne_eq, not_false_eq_true, Int.reduceSub, Int.reduceAdd, Int.reduceLE, Int.reduceLT, Int.reduceToNat, Int.toNat_zero, implies_true]
theorem merge_LL {S : Type} (fid : Nat) (caps : List AV) (hcn : norms caps = caps) (hcr : norefs caps = false) (σ : S → St) (bs : Nat) (hbs : ∀ s, (σ s).length = bs) (cnt : S → Nat)
    (step : S → Int → Option Line → Option Line → S) (good : S → Prop) (okA : Line → Prop) (okB : Line → Prop)
    (hstep : ∀ s n x y, good s → cnt s < 1000000000000 → (∀ x', x = some x' → okA x' ∧ n = x'.n) → (∀ y', y = some y' → okB y' ∧ n = y'.n) → (x = none → y = none → False) →
      Den prog fid (.int .i64 n :: lineP x :: lineP y :: caps) (σ s) = some (.tup [], σ (step s n x y)) ∧ good (step s n x y) ∧ cnt (step s n x y) ≤ cnt s + 1)
    (a : List Line) (b : List Line) (s : S) (hg : good s) (hc : cnt s + (a.length + b.length) < 1000000000000) (ha : ∀ x ∈ a, okA x ∧ x.n < 4611686018427387904) (hb : ∀ y ∈ b, okB y ∧ y.n < 4611686018427387904) :
    Den prog 14 [.sl (a.map Line.cells), .sl (b.map Line.cells), .fn 10 [], .fn 10 [], .fn fid caps] (σ s) = some (.tup [], σ (mergeS Line.n Line.n step s a b)) := by
  rw [Den_ofK (σ s) pr_lineage_merge_api_Line_api_Line rfl]
  simp only [f_lineage_merge_api_Line_api_Line, hbs, go_sem, Nat.reduceEqDiff, ↓reduceIte, Nat.reduceAdd, Nat.reduceLeDiff, Nat.reduceLT, reduceCtorEq, Nat.reduceBEq, Nat.reduceMul, Nat.reduceSub, ne_eq, not_false_eq_true, Int.reduceSub, Int.reduceAdd, Int.reduceLE, Int.reduceLT, Int.reduceToNat, Int.toNat_zero, implies_true]
  refine merge_LL_l0 fid caps hcn hcr σ bs hbs cnt step good okA okB hstep _ a b s (Nat.le_refl _) hg hc ha hb ?_
  have hlen := hbs (mergeS Line.n Line.n step s a b)
  simp only [go_sem, Nat.reduceEqDiff, ↓reduceIte, Nat.reduceAdd, Nat.reduceLeDiff, Nat.reduceLT, reduceCtorEq, Nat.reduceBEq, Nat.reduceMul, Nat.reduceSub, ne_eq, not_false_eq_true, Int.reduceSub, Int.reduceAdd, Int.reduceLE, Int.reduceLT, Int.reduceToNat, Int.toNat_zero, implies_true, frz_tup, finV, oneOf, fin]
  rw [← hlen, List.take_length]

theorem merge_LI_l0 {S β : Type} {K : Ex × Env × St → Option β} {Z : Option β} (fid : Nat) (caps : List AV) (hcn : norms caps = caps) (hcr : norefs caps = false) (σ : S → St) (bs : Nat) (hbs : ∀ s, (σ s).length = bs) (cnt : S → Nat)
    (step : S → Int → Option Line → Option Item → S) (good : S → Prop) (okA : Line → Prop) (okB : Item → Prop)
    (hstep : ∀ s n x y, good s → cnt s < 1000000000000 → (∀ x', x = some x' → okA x' ∧ n = x'.n) → (∀ y', y = some y' → okB y' ∧ n = y'.n) → (x = none → y = none → False) →
      Den prog fid (.int .i64 n :: lineP x :: itemP y :: caps) (σ s) = some (.tup [], σ (step s n x y)) ∧ good (step s n x y) ∧ cnt (step s n x y) ≤ cnt s + 1) :
    ∀ (k : Nat) (a : List Line) (b : List Item) (s : S), a.length + b.length ≤ k → good s → cnt s + k < 1000000000000 → (∀ x ∈ a, okA x ∧ x.n < 4611686018427387904) → (∀ y ∈ b, okB y ∧ y.n < 4611686018427387904) →
      K (.exit 0, [(0, .sl []), (1, .sl []), (2, .fn 10 []), (3, .fn 11 []), (4, .fn fid caps), (20, .bool false)], σ (mergeS Line.n Item.n step s a b)) = Z →
      (Run prog bs (.loop 0 [0, 1, 2, 3, 4] f_lineage_merge_api_Line_lineage_item_l0) [(0, .sl (a.map Line.cells)), (1, .sl (b.map Item.cells)), (2, .fn 10 []), (3, .fn 11 []), (4, .fn fid caps)] (σ s)).bind K = Z
  | 0, a, b, s, hk, hg, hc, ha, hb, h => by
    have ha0 : a = [] := by cases a with
      | nil => rfl
      | cons => simp at hk
    have hb0 : b = [] := by cases b with
      | nil => rfl
      | cons => simp at hk
    subst ha0; subst hb0
    rw [mergeS] at h
    have hz : decide ((0 : Int) < 0) = false := rfl
    rw [Run_loop]
    simp only [f_lineage_merge_api_Line_lineage_item_l0_eq, f_lineage_merge_api_Line_lineage_item_l0u, hz, hbs, hcn, hcr, Int.natCast_zero, h, go_sem, Nat.reduceEqDiff, ↓reduceIte, Nat.reduceAdd, Nat.reduceLeDiff, Nat.reduceLT, reduceCtorEq, Nat.reduceBEq, Nat.reduceMul, Nat.reduceSub, ne_eq, not_false_eq_true, Int.reduceSub, Int.reduceAdd, Int.reduceLE, Int.reduceLT, Int.reduceToNat, Int.toNat_zero, implies_true]
  | k + 1, a, b, s, hk, hg, hc, ha, hb, h => by
    have IH := merge_LI_l0 (K := K) (Z := Z) fid caps hcn hcr σ bs hbs cnt step good okA okB hstep k
    have hz : decide ((0 : Int) < 0) = false := rfl
    have hp : ∀ q : Nat, decide ((0 : Int) < (q : Int) + 1) = true := by intro q; rw [decide_eq_true_eq]; omega
    cases a with
    | nil => cases b with
      | nil =>
        rw [mergeS] at h
        clear IH hstep
        rw [Run_loop]
        simp only [f_lineage_merge_api_Line_lineage_item_l0_eq, f_lineage_merge_api_Line_lineage_item_l0u, hz, hbs, hcn, hcr, Int.natCast_zero, h, go_sem, Nat.reduceEqDiff, ↓reduceIte, Nat.reduceAdd, Nat.reduceLeDiff, Nat.reduceLT, reduceCtorEq, Nat.reduceBEq, Nat.reduceMul, Nat.reduceSub, ne_eq, not_false_eq_true, Int.reduceSub, Int.reduceAdd, Int.reduceLE, Int.reduceLT, Int.reduceToNat, Int.toNat_zero, implies_true]
      | cons y b =>
        obtain ⟨hy1, hy2⟩ := hb y (by simp)
        obtain ⟨e, g, c⟩ := hstep s y.n none (some y) hg (by omega) (by simp) (by simp; exact hy1) (by simp)
        have ih := IH [] b (step s y.n none (some y)) (by simp at hk ⊢; omega) g (by omega) (by simp) (fun z hz => hb z (by simp [hz])) (by rw [mergeS] at h; exact h)
        have hd : decide (y.n = y.n) = true := by simp
        clear IH hstep h
        rw [Run_loop]
        simp only [go_sem, Nat.reduceEqDiff, ↓reduceIte, Nat.reduceAdd, Nat.reduceLeDiff, Nat.reduceLT, reduceCtorEq, Nat.reduceBEq, Nat.reduceMul, Nat.reduceSub, ne_eq, not_false_eq_true, Int.reduceSub, Int.reduceAdd, Int.reduceLE, Int.reduceLT, Int.reduceToNat, Int.toNat_zero, implies_true] at e ih
        simp only [f_lineage_merge_api_Line_lineage_item_l0_eq, f_lineage_merge_api_Line_lineage_item_l0u, hz, hp, hd, hy2, hbs, hcn, hcr, e, ih, Int.natCast_zero, go_sem, Nat.reduceEqDiff, ↓reduceIte, Nat.reduceAdd, Nat.reduceLeDiff, Nat.reduceLT, reduceCtorEq, Nat.reduceBEq, Nat.reduceMul, Nat.reduceSub, ne_eq, not_false_eq_true, Int.reduceSub, Int.reduceAdd, Int.reduceLE, Int.reduceLT, Int.reduceToNat, Int.toNat_zero, implies_true]
    | cons x a =>
      obtain ⟨hx1, hx2⟩ := ha x (by simp)
      have hdx : decide (x.n = x.n) = true := by simp
      cases b with
      | nil =>
        obtain ⟨e, g, c⟩ := hstep s x.n (some x) none hg (by omega) (by simp; exact hx1) (by simp) (by simp)
        have ih := IH a [] (step s x.n (some x) none) (by simp at hk ⊢; omega) g (by omega) (fun z hz => ha z (by simp [hz])) (by simp) (by rw [mergeS] at h; exact h)
        clear IH hstep h
        rw [Run_loop]
        simp only [go_sem, Nat.reduceEqDiff, ↓reduceIte, Nat.reduceAdd, Nat.reduceLeDiff, Nat.reduceLT, reduceCtorEq, Nat.reduceBEq, Nat.reduceMul, Nat.reduceSub, ne_eq, not_false_eq_true, Int.reduceSub, Int.reduceAdd, Int.reduceLE, Int.reduceLT, Int.reduceToNat, Int.toNat_zero, implies_true] at e ih
        simp only [f_lineage_merge_api_Line_lineage_item_l0_eq, f_lineage_merge_api_Line_lineage_item_l0u, hz, hp, hdx, hbs, hcn, hcr, e, ih, Int.natCast_zero, go_sem, Nat.reduceEqDiff, ↓reduceIte, Nat.reduceAdd, Nat.reduceLeDiff, Nat.reduceLT, reduceCtorEq, Nat.reduceBEq, Nat.reduceMul, Nat.reduceSub, ne_eq, not_false_eq_true, Int.reduceSub, Int.reduceAdd, Int.reduceLE, Int.reduceLT, Int.reduceToNat, Int.toNat_zero, implies_true]
      | cons y b =>
        obtain ⟨hy1, hy2⟩ := hb y (by simp)
        have hdy : decide (y.n = y.n) = true := by simp
        by_cases h1 : x.n < y.n
        · obtain ⟨e, g, c⟩ := hstep s x.n (some x) none hg (by omega) (by simp; exact hx1) (by simp) (by simp)
          have ih := IH a (y :: b) (step s x.n (some x) none) (by simp at hk ⊢; omega) g (by omega) (fun z hz => ha z (by simp [hz])) hb (by rw [mergeS, if_pos h1] at h; exact h)
          have h2 : (y.n < x.n) = False := by simp; omega
          have h3 : decide (y.n = x.n) = false := by simp; omega
          clear IH hstep h
          rw [Run_loop]
          simp only [go_sem, Nat.reduceEqDiff, ↓reduceIte, Nat.reduceAdd, Nat.reduceLeDiff, Nat.reduceLT, reduceCtorEq, Nat.reduceBEq, Nat.reduceMul, Nat.reduceSub, ne_eq, not_false_eq_true, Int.reduceSub, Int.reduceAdd, Int.reduceLE, Int.reduceLT, Int.reduceToNat, Int.toNat_zero, implies_true] at e ih
          simp only [f_lineage_merge_api_Line_lineage_item_l0_eq, f_lineage_merge_api_Line_lineage_item_l0u, hz, hp, hdx, hdy, h2, h3, hbs, hcn, hcr, e, ih, Int.natCast_zero, go_sem, Nat.reduceEqDiff, ↓reduceIte, Nat.reduceAdd, Nat.reduceLeDiff, Nat.reduceLT, reduceCtorEq, Nat.reduceBEq, Nat.reduceMul, Nat.reduceSub, ne_eq, not_false_eq_true, Int.reduceSub, Int.reduceAdd, Int.reduceLE, Int.reduceLT, Int.reduceToNat, Int.toNat_zero, implies_true]
        · by_cases h2 : y.n < x.n
          · obtain ⟨e, g, c⟩ := hstep s y.n none (some y) hg (by omega) (by simp) (by simp; exact hy1) (by simp)
            have ih := IH (x :: a) b (step s y.n none (some y)) (by simp at hk ⊢; omega) g (by omega) ha (fun z hz => hb z (by simp [hz])) (by rw [mergeS, if_neg h1, if_pos h2] at h; exact h)
            have h3 : decide (x.n = y.n) = false := by simp; omega
            clear IH hstep h
            rw [Run_loop]
            simp only [go_sem, Nat.reduceEqDiff, ↓reduceIte, Nat.reduceAdd, Nat.reduceLeDiff, Nat.reduceLT, reduceCtorEq, Nat.reduceBEq, Nat.reduceMul, Nat.reduceSub, ne_eq, not_false_eq_true, Int.reduceSub, Int.reduceAdd, Int.reduceLE, Int.reduceLT, Int.reduceToNat, Int.toNat_zero, implies_true] at e ih
            simp only [f_lineage_merge_api_Line_lineage_item_l0_eq, f_lineage_merge_api_Line_lineage_item_l0u, hz, hp, hdx, hdy, h2, h3, hbs, hcn, hcr, e, ih, Int.natCast_zero, go_sem, Nat.reduceEqDiff, ↓reduceIte, Nat.reduceAdd, Nat.reduceLeDiff, Nat.reduceLT, reduceCtorEq, Nat.reduceBEq, Nat.reduceMul, Nat.reduceSub, ne_eq, not_false_eq_true, Int.reduceSub, Int.reduceAdd, Int.reduceLE, Int.reduceLT, Int.reduceToNat, Int.toNat_zero, implies_true]
          · have h3 : x.n = y.n := by omega
            obtain ⟨e, g, c⟩ := hstep s x.n (some x) (some y) hg (by omega) (by simp; exact hx1) (by simp; exact ⟨hy1, h3⟩) (by simp)
            have ih := IH a b (step s x.n (some x) (some y)) (by simp at hk ⊢; omega) g (by omega) (fun z hz => ha z (by simp [hz])) (fun z hz => hb z (by simp [hz])) (by rw [mergeS, if_neg h1, if_neg h2] at h; exact h)
            have h4 : (y.n < y.n) = False := by simp
            clear IH hstep h
            rw [Run_loop]
            simp only [h3, go_sem, Nat.reduceEqDiff, ↓reduceIte, Nat.reduceAdd, Nat.reduceLeDiff, Nat.reduceLT, reduceCtorEq, Nat.reduceBEq, Nat.reduceMul, Nat.reduceSub, ne_eq, not_false_eq_true, Int.reduceSub, Int.reduceAdd, Int.reduceLE, Int.reduceLT, Int.reduceToNat, Int.toNat_zero, implies_true] at e ih
            simp only [f_lineage_merge_api_Line_lineage_item_l0_eq, f_lineage_merge_api_Line_lineage_item_l0u, hz, hp, hdx, hdy, h3, h4, hbs, hcn, hcr, e, ih, Int.natCast_zero, go_sem, Nat.reduceEqDiff, ↓reduceIte, Nat.reduceAdd, Nat.reduceLeDiff, Nat.reduceLT, reduceCtorEq, Nat.reduceBEq, Nat.reduceMul, Nat.reduceSub, ne_eq, not_false_eq_true, Int.reduceSub, Int.reduceAdd, Int.reduceLE, Int.reduceLT, Int.reduceToNat, Int.toNat_zero, implies_true]
theorem merge_LI {S : Type} (fid : Nat) (caps : List AV) (hcn : norms caps = caps) (hcr : norefs caps = false) (σ : S → St) (bs : Nat) (hbs : ∀ s, (σ s).length = bs) (cnt : S → Nat)
    (step : S → Int → Option Line → Option Item → S) (good : S → Prop) (okA : Line → Prop) (okB : Item → Prop)
    (hstep : ∀ s n x y, good s → cnt s < 1000000000000 → (∀ x', x = some x' → okA x' ∧ n = x'.n) → (∀ y', y = some y' → okB y' ∧ n = y'.n) → (x = none → y = none → False) →
      Den prog fid (.int .i64 n :: lineP x :: itemP y :: caps) (σ s) = some (.tup [], σ (step s n x y)) ∧ good (step s n x y) ∧ cnt (step s n x y) ≤ cnt s + 1)
    (a : List Line) (b : List Item) (s : S) (hg : good s) (hc : cnt s + (a.length + b.length) < 1000000000000) (ha : ∀ x ∈ a, okA x ∧ x.n < 4611686018427387904) (hb : ∀ y ∈ b, okB y ∧ y.n < 4611686018427387904) :
    Den prog 9 [.sl (a.map Line.cells), .sl (b.map Item.cells), .fn 10 [], .fn 11 [], .fn fid caps] (σ s) = some (.tup [], σ (mergeS Line.n Item.n step s a b)) := by
  rw [Den_ofK (σ s) pr_lineage_merge_api_Line_lineage_item rfl]
  simp only [f_lineage_merge_api_Line_lineage_item, hbs, go_sem, Nat.reduceEqDiff, ↓reduceIte, Nat.reduceAdd, Nat.reduceLeDiff, Nat.reduceLT, reduceCtorEq, Nat.reduceBEq, Nat.reduceMul, Nat.reduceSub, ne_eq, not_false_eq_true, Int.reduceSub, Int.reduceAdd, Int.reduceLE, Int.reduceLT, Int.reduceToNat, Int.toNat_zero, implies_true]
  refine merge_LI_l0 fid caps hcn hcr σ bs hbs cnt step good okA okB hstep _ a b s (Nat.le_refl _) hg hc ha hb ?_
  have hlen := hbs (mergeS Line.n Item.n step s a b)
  simp only [go_sem, Nat.reduceEqDiff, ↓reduceIte, Nat.reduceAdd, Nat.reduceLeDiff, Nat.reduceLT, reduceCtorEq, Nat.reduceBEq, Nat.reduceMul, Nat.reduceSub, ne_eq, not_false_eq_true, Int.reduceSub, Int.reduceAdd, Int.reduceLE, Int.reduceLT, Int.reduceToNat, Int.toNat_zero, implies_true, frz_tup, finV, oneOf, fin]
  rw [← hlen, List.take_length]

theorem merge_II_l0 {S β : Type} {K : Ex × Env × St → Option β} {Z : Option β} (fid : Nat) (caps : List AV) (hcn : norms caps = caps) (hcr : norefs caps = false) (σ : S → St) (bs : Nat) (hbs : ∀ s, (σ s).length = bs) (cnt : S → Nat)
    (step : S → Int → Option Item → Option Item → S) (good : S → Prop) (okA : Item → Prop) (okB : Item → Prop)
    (hstep : ∀ s n x y, good s → cnt s < 1000000000000 → (∀ x', x = some x' → okA x' ∧ n = x'.n) → (∀ y', y = some y' → okB y' ∧ n = y'.n) → (x = none → y = none → False) →
      Den prog fid (.int .i64 n :: itemP x :: itemP y :: caps) (σ s) = some (.tup [], σ (step s n x y)) ∧ good (step s n x y) ∧ cnt (step s n x y) ≤ cnt s + 1) :
    ∀ (k : Nat) (a : List Item) (b : List Item) (s : S), a.length + b.length ≤ k → good s → cnt s + k < 1000000000000 → (∀ x ∈ a, okA x ∧ x.n < 4611686018427387904) → (∀ y ∈ b, okB y ∧ y.n < 4611686018427387904) →
      K (.exit 0, [(0, .sl []), (1, .sl []), (2, .fn 11 []), (3, .fn 11 []), (4, .fn fid caps), (20, .bool false)], σ (mergeS Item.n Item.n step s a b)) = Z →
      (Run prog bs (.loop 0 [0, 1, 2, 3, 4] f_lineage_merge_lineage_item_lineage_item_l0) [(0, .sl (a.map Item.cells)), (1, .sl (b.map Item.cells)), (2, .fn 11 []), (3, .fn 11 []), (4, .fn fid caps)] (σ s)).bind K = Z
  | 0, a, b, s, hk, hg, hc, ha, hb, h => by
    have ha0 : a = [] := by cases a with
      | nil => rfl
      | cons => simp at hk
    have hb0 : b = [] := by cases b with
      | nil => rfl
      | cons => simp at hk
    subst ha0; subst hb0
    rw [mergeS] at h
    have hz : decide ((0 : Int) < 0) = false := rfl
    rw [Run_loop]
    simp only [f_lineage_merge_lineage_item_lineage_item_l0_eq, f_lineage_merge_lineage_item_lineage_item_l0u, hz, hbs, hcn, hcr, Int.natCast_zero, h, go_sem, Nat.reduceEqDiff, ↓reduceIte, Nat.reduceAdd, Nat.reduceLeDiff, Nat.reduceLT, reduceCtorEq, Nat.reduceBEq, Nat.reduceMul, Nat.reduceSub, ne_eq, not_false_eq_true, Int.reduceSub, Int.reduceAdd, Int.reduceLE, Int.reduceLT, Int.reduceToNat, Int.toNat_zero, implies_true]
  | k + 1, a, b, s, hk, hg, hc, ha, hb, h => by
    have IH := merge_II_l0 (K := K) (Z := Z) fid caps hcn hcr σ bs hbs cnt step good okA okB hstep k
    have hz : decide ((0 : Int) < 0) = false := rfl
    have hp : ∀ q : Nat, decide ((0 : Int) < (q : Int) + 1) = true := by intro q; rw [decide_eq_true_eq]; omega
    cases a with
    | nil => cases b with
      | nil =>
        rw [mergeS] at h
        clear IH hstep
        rw [Run_loop]
        simp only [f_lineage_merge_lineage_item_lineage_item_l0_eq, f_lineage_merge_lineage_item_lineage_item_l0u, hz, hbs, hcn, hcr, Int.natCast_zero, h, go_sem, Nat.reduceEqDiff, ↓reduceIte, Nat.reduceAdd, Nat.reduceLeDiff, Nat.reduceLT, reduceCtorEq, Nat.reduceBEq, Nat.reduceMul, Nat.reduceSub, ne_eq, not_false_eq_true, Int.reduceSub, Int.reduceAdd, Int.reduceLE, Int.reduceLT, Int.reduceToNat, Int.toNat_zero, implies_true]
      | cons y b =>
        obtain ⟨hy1, hy2⟩ := hb y (by simp)
        obtain ⟨e, g, c⟩ := hstep s y.n none (some y) hg (by omega) (by simp) (by simp; exact hy1) (by simp)
        have ih := IH [] b (step s y.n none (some y)) (by simp at hk ⊢; omega) g (by omega) (by simp) (fun z hz => hb z (by simp [hz])) (by rw [mergeS] at h; exact h)
        have hd : decide (y.n = y.n) = true := by simp
        clear IH hstep h
        rw [Run_loop]
        simp only [go_sem, Nat.reduceEqDiff, ↓reduceIte, Nat.reduceAdd, Nat.reduceLeDiff, Nat.reduceLT, reduceCtorEq, Nat.reduceBEq, Nat.reduceMul, Nat.reduceSub, ne_eq, not_false_eq_true, Int.reduceSub, Int.reduceAdd, Int.reduceLE, Int.reduceLT, Int.reduceToNat, Int.toNat_zero, implies_true] at e ih
        simp only [f_lineage_merge_lineage_item_lineage_item_l0_eq, f_lineage_merge_lineage_item_lineage_item_l0u, hz, hp, hd, hy2, hbs, hcn, hcr, e, ih, Int.natCast_zero, go_sem, Nat.reduceEqDiff, ↓reduceIte, Nat.reduceAdd, Nat.reduceLeDiff, Nat.reduceLT, reduceCtorEq, Nat.reduceBEq, Nat.reduceMul, Nat.reduceSub, ne_eq, not_false_eq_true, Int.reduceSub, Int.reduceAdd, Int.reduceLE, Int.reduceLT, Int.reduceToNat, Int.toNat_zero, implies_true]
    | cons x a =>
      obtain ⟨hx1, hx2⟩ := ha x (by simp)
      have hdx : decide (x.n = x.n) = true := by simp
      cases b with
      | nil =>
        obtain ⟨e, g, c⟩ := hstep s x.n (some x) none hg (by omega) (by simp; exact hx1) (by simp) (by simp)
        have ih := IH a [] (step s x.n (some x) none) (by simp at hk ⊢; omega) g (by omega) (fun z hz => ha z (by simp [hz])) (by simp) (by rw [mergeS] at h; exact h)
        clear IH hstep h
        rw [Run_loop]
        simp only [go_sem, Nat.reduceEqDiff, ↓reduceIte, Nat.reduceAdd, Nat.reduceLeDiff, Nat.reduceLT, reduceCtorEq, Nat.reduceBEq, Nat.reduceMul, Nat.reduceSub, ne_eq, not_false_eq_true, Int.reduceSub, Int.reduceAdd, Int.reduceLE, Int.reduceLT, Int.reduceToNat, Int.toNat_zero, implies_true] at e ih
        simp only [f_lineage_merge_lineage_item_lineage_item_l0_eq, f_lineage_merge_lineage_item_lineage_item_l0u, hz, hp, hdx, hbs, hcn, hcr, e, ih, Int.natCast_zero, go_sem, Nat.reduceEqDiff, ↓reduceIte, Nat.reduceAdd, Nat.reduceLeDiff, Nat.reduceLT, reduceCtorEq, Nat.reduceBEq, Nat.reduceMul, Nat.reduceSub, ne_eq, not_false_eq_true, Int.reduceSub, Int.reduceAdd, Int.reduceLE, Int.reduceLT, Int.reduceToNat, Int.toNat_zero, implies_true]
      | cons y b =>
        obtain ⟨hy1, hy2⟩ := hb y (by simp)
        have hdy : decide (y.n = y.n) = true := by simp
        by_cases h1 : x.n < y.n
        · obtain ⟨e, g, c⟩ := hstep s x.n (some x) none hg (by omega) (by simp; exact hx1) (by simp) (by simp)
          have ih := IH a (y :: b) (step s x.n (some x) none) (by simp at hk ⊢; omega) g (by omega) (fun z hz => ha z (by simp [hz])) hb (by rw [mergeS, if_pos h1] at h; exact h)
          have h2 : (y.n < x.n) = False := by simp; omega
          have h3 : decide (y.n = x.n) = false := by simp; omega
          clear IH hstep h
          rw [Run_loop]
          simp only [go_sem, Nat.reduceEqDiff, ↓reduceIte, Nat.reduceAdd, Nat.reduceLeDiff, Nat.reduceLT, reduceCtorEq, Nat.reduceBEq, Nat.reduceMul, Nat.reduceSub, ne_eq, not_false_eq_true, Int.reduceSub, Int.reduceAdd, Int.reduceLE, Int.reduceLT, Int.reduceToNat, Int.toNat_zero, implies_true] at e ih
          simp only [f_lineage_merge_lineage_item_lineage_item_l0_eq, f_lineage_merge_lineage_item_lineage_item_l0u, hz, hp, hdx, hdy, h2, h3, hbs, hcn, hcr, e, ih, Int.natCast_zero, go_sem, Nat.reduceEqDiff, ↓reduceIte, Nat.reduceAdd, Nat.reduceLeDiff, Nat.reduceLT, reduceCtorEq, Nat.reduceBEq, Nat.reduceMul, Nat.reduceSub, ne_eq, not_false_eq_true, Int.reduceSub, Int.reduceAdd, Int.reduceLE, Int.reduceLT, Int.reduceToNat, Int.toNat_zero, implies_true]
        · by_cases h2 : y.n < x.n
          · obtain ⟨e, g, c⟩ := hstep s y.n none (some y) hg (by omega) (by simp) (by simp; exact hy1) (by simp)
            have ih := IH (x :: a) b (step s y.n none (some y)) (by simp at hk ⊢; omega) g (by omega) ha (fun z hz => hb z (by simp [hz])) (by rw [mergeS, if_neg h1, if_pos h2] at h; exact h)
            have h3 : decide (x.n = y.n) = false := by simp; omega
            clear IH hstep h
            rw [Run_loop]
            simp only [go_sem, Nat.reduceEqDiff, ↓reduceIte, Nat.reduceAdd, Nat.reduceLeDiff, Nat.reduceLT, reduceCtorEq, Nat.reduceBEq, Nat.reduceMul, Nat.reduceSub, ne_eq, not_false_eq_true, Int.reduceSub, Int.reduceAdd, Int.reduceLE, Int.reduceLT, Int.reduceToNat, Int.toNat_zero, implies_true] at e ih
            simp only [f_lineage_merge_lineage_item_lineage_item_l0_eq, f_lineage_merge_lineage_item_lineage_item_l0u, hz, hp, hdx, hdy, h2, h3, hbs, hcn, hcr, e, ih, Int.natCast_zero, go_sem, Nat.reduceEqDiff, ↓reduceIte, Nat.reduceAdd, Nat.reduceLeDiff, Nat.reduceLT, reduceCtorEq, Nat.reduceBEq, Nat.reduceMul, Nat.reduceSub, ne_eq, not_false_eq_true, Int.reduceSub, Int.reduceAdd, Int.reduceLE, Int.reduceLT, Int.reduceToNat, Int.toNat_zero, implies_true]
          · have h3 : x.n = y.n := by omega
            obtain ⟨e, g, c⟩ := hstep s x.n (some x) (some y) hg (by omega) (by simp; exact hx1) (by simp; exact ⟨hy1, h3⟩) (by simp)
            have ih := IH a b (step s x.n (some x) (some y)) (by simp at hk ⊢; omega) g (by omega) (fun z hz => ha z (by simp [hz])) (fun z hz => hb z (by simp [hz])) (by rw [mergeS, if_neg h1, if_neg h2] at h; exact h)
            have h4 : (y.n < y.n) = False := by simp
            clear IH hstep h
            rw [Run_loop]
            simp only [h3, go_sem, Nat.reduceEqDiff, ↓reduceIte, Nat.reduceAdd, Nat.reduceLeDiff, Nat.reduceLT, reduceCtorEq, Nat.reduceBEq, Nat.reduceMul, Nat.reduceSub, ne_eq, not_false_eq_true, Int.reduceSub, Int.reduceAdd, Int.reduceLE, Int.reduceLT, Int.reduceToNat, Int.toNat_zero, implies_true] at e ih
            simp only [f_lineage_merge_lineage_item_lineage_item_l0_eq, f_lineage_merge_lineage_item_lineage_item_l0u, hz, hp, hdx, hdy, h3, h4, hbs, hcn, hcr, e, ih, Int.natCast_zero, go_sem, Nat.reduceEqDiff, ↓reduceIte, Nat.reduceAdd, Nat.reduceLeDiff, Nat.reduceLT, reduceCtorEq, Nat.reduceBEq, Nat.reduceMul, Nat.reduceSub, ne_eq, not_false_eq_true, Int.reduceSub, Int.reduceAdd, Int.reduceLE, Int.reduceLT, Int.reduceToNat, Int.toNat_zero, implies_true]
theorem merge_II {S : Type} (fid : Nat) (caps : List AV) (hcn : norms caps = caps) (hcr : norefs caps = false) (σ : S → St) (bs : Nat) (hbs : ∀ s, (σ s).length = bs) (cnt : S → Nat)
    (step : S → Int → Option Item → Option Item → S) (good : S → Prop) (okA : Item → Prop) (okB : Item → Prop)
    (hstep : ∀ s n x y, good s → cnt s < 1000000000000 → (∀ x', x = some x' → okA x' ∧ n = x'.n) → (∀ y', y = some y' → okB y' ∧ n = y'.n) → (x = none → y = none → False) →
      Den prog fid (.int .i64 n :: itemP x :: itemP y :: caps) (σ s) = some (.tup [], σ (step s n x y)) ∧ good (step s n x y) ∧ cnt (step s n x y) ≤ cnt s + 1)
    (a : List Item) (b : List Item) (s : S) (hg : good s) (hc : cnt s + (a.length + b.length) < 1000000000000) (ha : ∀ x ∈ a, okA x ∧ x.n < 4611686018427387904) (hb : ∀ y ∈ b, okB y ∧ y.n < 4611686018427387904) :
    Den prog 19 [.sl (a.map Item.cells), .sl (b.map Item.cells), .fn 11 [], .fn 11 [], .fn fid caps] (σ s) = some (.tup [], σ (mergeS Item.n Item.n step s a b)) := by
  rw [Den_ofK (σ s) pr_lineage_merge_lineage_item_lineage_item rfl]
  simp only [f_lineage_merge_lineage_item_lineage_item, hbs, go_sem, Nat.reduceEqDiff, ↓reduceIte, Nat.reduceAdd, Nat.reduceLeDiff, Nat.reduceLT, reduceCtorEq, Nat.reduceBEq, Nat.reduceMul, Nat.reduceSub, ne_eq, not_false_eq_true, Int.reduceSub, Int.reduceAdd, Int.reduceLE, Int.reduceLT, Int.reduceToNat, Int.toNat_zero, implies_true]
  refine merge_II_l0 fid caps hcn hcr σ bs hbs cnt step good okA okB hstep _ a b s (Nat.le_refl _) hg hc ha hb ?_
  have hlen := hbs (mergeS Item.n Item.n step s a b)
  simp only [go_sem, Nat.reduceEqDiff, ↓reduceIte, Nat.reduceAdd, Nat.reduceLeDiff, Nat.reduceLT, reduceCtorEq, Nat.reduceBEq, Nat.reduceMul, Nat.reduceSub, ne_eq, not_false_eq_true, Int.reduceSub, Int.reduceAdd, Int.reduceLE, Int.reduceLT, Int.reduceToNat, Int.toNat_zero, implies_true, frz_tup, finV, oneOf, fin]
  rw [← hlen, List.take_length]
end Go.Den
