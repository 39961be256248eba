/- The order of values, in plain terms; sorting. -/
import Derived.Test.YtfjaimkpmehojaaGreatDenA
namespace Go.Den
open Go
set_option linter.unusedSimpArgs false
set_option linter.unusedVariables false
set_option maxRecDepth 100000
set_option maxHeartbeats 1000000
section
theorem cmp_bytes : ∀ a b : List UInt8, Lib.compareBytes a b = cmpB a b
  | [], [] => rfl
  | [], _ :: _ => rfl
  | _ :: _, [] => rfl
  | a :: r, b :: q => by
    unfold Lib.compareBytes cmpB
    rw [cmp_bytes r q]
    simp only [UInt8.lt_iff_toNat_lt]
theorem cmpB_rng : ∀ a b : List UInt8, -1 ≤ cmpB a b ∧ cmpB a b ≤ 1
  | [], [] => by simp [cmpB]
  | [], _ :: _ => by simp [cmpB]
  | _ :: _, [] => by simp [cmpB]
  | a :: r, b :: q => by
    have := cmpB_rng r q
    unfold cmpB
    split
    · omega
    · split <;> omega
theorem cmpB_neg : ∀ a b : List UInt8, cmpB b a = - cmpB a b
  | [], [] => by simp [cmpB]
  | [], _ :: _ => by simp [cmpB]
  | _ :: _, [] => by simp [cmpB]
  | a :: r, b :: q => by
    have := cmpB_neg r q
    unfold cmpB
    split
    · rw [if_neg (by omega)]; try rfl
    · split <;> omega
theorem cmpB_eq : ∀ a b : List UInt8, cmpB a b = 0 ↔ a = b
  | [], [] => by simp [cmpB]
  | [], _ :: _ => by simp [cmpB]
  | _ :: _, [] => by simp [cmpB]
  | a :: r, b :: q => by
    have := cmpB_eq r q
    unfold cmpB
    simp only [List.cons.injEq]
    split
    · rename_i h
      constructor
      · intro h2; exact absurd h2 (by decide)
      · intro h2; rw [h2.1] at h; omega
    · split
      · rename_i h
        constructor
        · intro h2; exact absurd h2 (by decide)
        · intro h2; rw [h2.1] at h; omega
      · have e : a = b := UInt8.toNat_inj.1 (by omega)
        rw [this]; simp [e]
theorem cmpB_trans : ∀ a b c : List UInt8, cmpB a b ≤ 0 → cmpB b c ≤ 0 → cmpB a c ≤ 0
  | [], _, [] => by intros; simp [cmpB]
  | [], _, _ :: _ => by intros; simp [cmpB]
  | _ :: _, [], _ => by intro h; simp [cmpB] at h
  | _ :: _, _ :: _, [] => by intro _ h; simp [cmpB] at h
  | a :: r, b :: q, c :: p => by
    intro h1 h2
    have := cmpB_trans r q p
    unfold cmpB at h1 h2 ⊢
    split at h1
    · split at h2
      · rw [if_pos (by omega)]; decide
      · split at h2
        · exact absurd h2 (by decide)
        · rw [if_pos (by omega)]; decide
    · split at h1
      · exact absurd h1 (by decide)
      · split at h2
        · rw [if_pos (by omega)]; decide
        · split at h2
          · exact absurd h2 (by decide)
          · rw [if_neg (by omega), if_neg (by omega)]; exact this h1 h2
theorem cmpV_rng (a b : Val) : -1 ≤ cmpV a b ∧ cmpV a b ≤ 1 := by
  have := cmpB_rng a.s.data.toList b.s.data.toList
  unfold cmpV
  cases a.null <;> cases b.null <;> cases decide (a.n < b.n) <;> cases decide (b.n < a.n) <;> simp <;> omega
theorem cmpV_neg (a b : Val) : cmpV b a = - cmpV a b := by
  have := cmpB_neg a.s.data.toList b.s.data.toList
  unfold cmpV
  cases a.null <;> cases b.null <;> cases h1 : decide (a.n < b.n) <;> cases h2 : decide (b.n < a.n) <;> simp at h1 h2 ⊢ <;> omega
theorem cmpV_eq (a b : Val) : (a.null == b.null && (decide (a.n = b.n) && decide (a.s = b.s))) = decide (cmpV a b = 0) := by
  have h3 := cmpB_eq a.s.data.toList b.s.data.toList
  have h4 : a.s.data.toList = b.s.data.toList ↔ a.s = b.s := by
    constructor
    · intro h; apply ByteArray.ext; exact Array.toList_inj.1 h
    · intro h; rw [h]
  rw [h4] at h3
  unfold cmpV
  cases a.null <;> cases b.null <;> cases h1 : decide (a.n < b.n) <;> cases h2 : decide (b.n < a.n) <;> simp at h1 h2 ⊢
  all_goals first
    | (have e : a.n = b.n := by omega
       rw [decide_eq_true e, Bool.true_and, Bool.eq_iff_iff, decide_eq_true_eq, decide_eq_true_eq]; exact h3.symm)
    | (intro e; omega)
    | skip
theorem cmpV_trans (a b c : Val) (h1 : cmpV a b ≤ 0) (h2 : cmpV b c ≤ 0) : cmpV a c ≤ 0 := by
  have h3 := cmpB_trans a.s.data.toList b.s.data.toList c.s.data.toList
  unfold cmpV at *
  revert h1 h2
  cases a.null <;> cases b.null <;> cases c.null <;> simp
  all_goals
    by_cases p1 : a.n < b.n <;> by_cases p2 : b.n < c.n <;> by_cases p3 : b.n < a.n <;> by_cases p4 : c.n < b.n <;> by_cases p5 : a.n < c.n <;> by_cases p6 : c.n < a.n <;> simp [p1, p2, p3, p4, p5, p6] <;> first | omega | (intro h1 h2; exact h3 h1 h2) | skip
theorem cmpV_null (a b : Val) (h1 : a.null = true) (h2 : b.null = false) : cmpV a b = -1 := by
  unfold cmpV; rw [h1, h2]; rfl
end

theorem cmpV_zero {a b : Val} (h : cmpV a b = 0) : a = b := by
  have h1 := cmpV_eq a b
  rw [decide_eq_true h] at h1
  simp only [Bool.and_eq_true, beq_iff_eq, decide_eq_true_eq] at h1
  obtain ⟨a1, a2, a3⟩ := a
  obtain ⟨b1, b2, b3⟩ := b
  simp only [] at h1
  obtain ⟨rfl, rfl, rfl⟩ := h1
  rfl
theorem cmpV_self (a : Val) : cmpV a a = 0 := by
  have := cmpV_neg a a
  omega
theorem cmpV_lt_trans {a b c : Val} (h1 : cmpV a b < 0) (h2 : cmpV b c < 0) : cmpV a c < 0 := by
  have h3 := cmpV_trans a b c (by omega) (by omega)
  rcases Int.lt_or_eq_of_le h3 with h | h
  · exact h
  · have := cmpV_zero h
    subst this
    have := cmpV_neg a b
    omega
theorem cmpV_le_lt {a b c : Val} (h1 : cmpV a b ≤ 0) (h2 : cmpV b c < 0) : cmpV a c < 0 := by
  rcases Int.lt_or_eq_of_le h1 with h | h
  · exact cmpV_lt_trans h h2
  · have := cmpV_zero h
    subst this; exact h2
theorem cmpV_lt_le {a b c : Val} (h1 : cmpV a b < 0) (h2 : cmpV b c ≤ 0) : cmpV a c < 0 := by
  rcases Int.lt_or_eq_of_le h2 with h | h
  · exact cmpV_lt_trans h1 h
  · have := cmpV_zero h
    subst this; exact h1
theorem insV_perm (x : Val) : ∀ l : List Val, (insV x l).Perm (x :: l)
  | [] => by simp [insV]
  | y :: r => by
    unfold insV
    split
    · exact List.Perm.refl _
    · exact ((insV_perm x r).cons y).trans (List.Perm.swap x y r)
theorem sortV_perm : ∀ l : List Val, (sortV l).Perm l
  | [] => by simp [sortV]
  | x :: r => (insV_perm x _).trans ((sortV_perm r).cons x)
theorem insV_sorted (x : Val) : ∀ l : List Val, l.Pairwise (fun a b => cmpV a b ≤ 0) → (insV x l).Pairwise (fun a b => cmpV a b ≤ 0)
  | [], _ => by simp [insV]
  | y :: r, h => by
    unfold insV
    split
    · rename_i hc
      refine List.Pairwise.cons (fun z hz => ?_) h
      rcases List.mem_cons.1 hz with rfl | hz
      · exact hc
      · exact cmpV_trans _ _ _ hc (List.rel_of_pairwise_cons h hz)
    · rename_i hc
      refine List.Pairwise.cons (fun z hz => ?_) (insV_sorted x r (List.Pairwise.of_cons h))
      rcases List.mem_cons.1 ((insV_perm x r).mem_iff.1 hz) with rfl | hz
      · have := cmpV_neg z y
        omega
      · exact List.rel_of_pairwise_cons h hz
theorem sortV_sorted : ∀ l : List Val, (sortV l).Pairwise (fun a b => cmpV a b ≤ 0)
  | [] => by simp [sortV]
  | x :: r => insV_sorted x _ (sortV_sorted r)
theorem sortV_len (l : List Val) : (sortV l).length = l.length := (sortV_perm l).length_eq
theorem sorted_one {l m : List Val} (h1 : l.Pairwise (fun a b => cmpV a b ≤ 0)) (h2 : m.Pairwise (fun a b => cmpV a b ≤ 0)) (hp : l.Perm m) : l = m := by
  refine List.Perm.eq_of_pairwise (le := fun a b => cmpV a b ≤ 0) ?_ h1 h2 hp
  intro a b _ _ h3 h4
  have := cmpV_neg a b
  exact cmpV_zero (by omega)
theorem merge_sortV (l : List Val) : l.mergeSort (fun x y => !decide (cmpV y x < 0)) = sortV l := by
  refine sorted_one ?_ (sortV_sorted l) ((List.mergeSort_perm _ _).trans (sortV_perm l).symm)
  have h := List.pairwise_mergeSort (le := fun x y => !decide (cmpV y x < 0)) (fun a b c h1 h2 => by
    simp only [Bool.not_eq_true', decide_eq_false_iff_not] at h1 h2 ⊢
    have n1 := cmpV_neg a b
    have n2 := cmpV_neg b c
    have n3 := cmpV_neg a c
    have := cmpV_trans a b c (by omega) (by omega)
    omega) (fun a b => by
    have n1 := cmpV_neg a b
    simp only [Bool.or_eq_true, Bool.not_eq_true', decide_eq_false_iff_not]
    omega) l
  refine h.imp fun {a b} hab => ?_
  simp only [Bool.not_eq_true', decide_eq_false_iff_not] at hab
  have := cmpV_neg a b
  omega
end Go.Den
