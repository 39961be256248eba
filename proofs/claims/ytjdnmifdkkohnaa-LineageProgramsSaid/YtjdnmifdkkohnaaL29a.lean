/- Ch. 29, in plain Lean: the program's functions and the reference's come to the same. -/
import Derived.Test.YtjdnmifdkkohnaaS29B
namespace Go.Den
open Go
set_option linter.unusedSimpArgs false
set_option linter.unusedVariables false
set_option maxRecDepth 100000
set_option maxHeartbeats 1000000
theorem mergeS_hom {A B S S' : Type} {na : A → Int} {nb : B → Int} {step : S → Int → Option A → Option B → S} {step' : S' → Int → Option A → Option B → S'} (h : S → S')
    (hs : ∀ s n x y, (∀ x', x = some x' → n = na x') → (x = none → ∀ y', y = some y' → n = nb y') → (x = none → y = none → False) → h (step s n x y) = step' (h s) n x y) :
    ∀ (a : List A) (b : List B) (s : S), h (mergeS na nb step s a b) = mergeS na nb step' (h s) a b
  | [], [], s => by rw [mergeS, mergeS]
  | x :: a, [], s => by
    rw [mergeS, mergeS, mergeS_hom h hs a [], hs _ _ _ _ (by simp) (by simp) (by simp)]
  | [], y :: b, s => by
    rw [mergeS, mergeS, mergeS_hom h hs [] b, hs _ _ _ _ (by simp) (by simp) (by simp)]
  | x :: a, y :: b, s => by
    rw [mergeS, mergeS]
    split
    · rw [mergeS_hom h hs a (y :: b), hs _ _ _ _ (by simp) (by simp) (by simp)]
    · split
      · rw [mergeS_hom h hs (x :: a) b, hs _ _ _ _ (by simp) (by simp) (by simp)]
      · rw [mergeS_hom h hs a b, hs _ _ _ _ (by simp) (by simp) (by simp)]
termination_by a b => a.length + b.length
theorem eventsOf_append : ∀ (a b : List Item), eventsOf (a ++ b) = eventsOf a ++ eventsOf b
  | [], b => rfl
  | x :: a, b => by rw [List.cons_append, eventsOf, eventsOf, eventsOf_append a b, List.append_assoc]
theorem feed_eq (a b : List Line) : eventsOf (feedItems a b) = feedR a b := by
  unfold feedItems feedR
  rw [mergeS_hom eventsOf (step' := stepF)]
  · rfl
  · intro s n x y _ _ _
    rw [eventsOf_append]
    simp [eventsOf, stepF]
theorem compose_eq (a b : List Item) : eventsOf (composeItems a b) = composeR a b := by
  unfold composeItems composeR
  rw [mergeS_hom eventsOf (step' := stepFC)]
  · rfl
  · intro s n x y hx hy hxy
    simp only [stepC2, stepFC]
    rw [eventsOf_append]
    cases x with
    | none => cases y with
      | none => exact (hxy rfl rfl).elim
      | some y => simp [eventsOf]
    | some x => cases y with
      | none => simp [eventsOf]
      | some y => simp [eventsOf, hx x rfl]
theorem invert_eq : ∀ (l : List Item), eventsOf (l.map Item.swap) = invR l
  | [] => rfl
  | i :: r => by rw [List.map_cons, eventsOf, invR, invert_eq r]; rfl
theorem ap_eq : ∀ (x : List Line) (items : List Item) (out : List Line) (next : Int) (gap : Bool), (∀ l ∈ x, l.n < next) →
    (gap = true → (mergeS Line.n Item.n stepA ⟨gap, out, next⟩ x items).gap = true) ∧
    (match apR items x out next with
      | none => (mergeS Line.n Item.n stepA ⟨gap, out, next⟩ x items).gap = true
      | some (x', out', next') => mergeS Line.n Item.n stepA ⟨gap, out, next⟩ x items = ⟨gap, out' ++ x', next'⟩)
  | [], [], out, next, gap, _ => by
    rw [mergeS, apR]
    exact ⟨fun h => h, by simp⟩
  | l :: x, [], out, next, gap, h => by
    have hl := h l (by simp)
    have e : stepA ⟨gap, out, next⟩ l.n (some l) none = ⟨gap, out ++ [l], next⟩ := by
      simp [stepA]; omega
    have ih := ap_eq x [] (out ++ [l]) next gap fun z hz => h z (by simp [hz])
    rw [mergeS, e]
    rw [apR] at ih ⊢
    refine ⟨ih.1, ?_⟩
    have := ih.2
    simp only [List.append_assoc, List.cons_append, List.nil_append] at this
    simpa using this
  | [], i :: items, out, next, gap, h => by
    rw [mergeS, apR]
    simp only [takeLt, dropLt, atS, atR, List.append_nil]
    have hn : ∀ z ∈ ([] : List Line), z.n < next := by simp
    by_cases hb : none = i.b
    · rw [if_pos hb]
      cases ha : i.a with
      | none =>
        have e : stepA ⟨gap, out, next⟩ i.n none (some i) = ⟨gap, out, next⟩ := by simp [stepA, ha, ← hb]
        rw [e]
        exact ap_eq [] items out next gap hn
      | some row =>
        have e : stepA ⟨gap, out, next⟩ i.n none (some i) = ⟨gap, out ++ [⟨i.n, row⟩], if next < i.n + 1 then i.n + 1 else next⟩ := by simp [stepA, ha, ← hb]
        rw [e]
        exact ap_eq [] items _ _ gap (by simp)
    · rw [if_neg hb]
      have hd : decide (none = i.b) = false := by simpa using hb
      have hg : ∃ out' next', stepA ⟨gap, out, next⟩ i.n none (some i) = ⟨true, out', next'⟩ := by
        cases ha : i.a <;> simp [stepA, ha, hb]
      obtain ⟨out', next', e⟩ := hg
      rw [e]
      have := (ap_eq [] items out' next' true (by simp)).1 rfl
      exact ⟨fun _ => this, this⟩
  | l :: x, i :: items, out, next, gap, h => by
    have hl := h l (by simp)
    rw [mergeS]
    by_cases c1 : l.n < i.n
    · rw [if_pos c1]
      have e : stepA ⟨gap, out, next⟩ l.n (some l) none = ⟨gap, out ++ [l], next⟩ := by
        simp [stepA]; omega
      rw [e]
      have ih := ap_eq x (i :: items) (out ++ [l]) next gap fun z hz => h z (by simp [hz])
      have e2 : apR (i :: items) (l :: x) out next = apR (i :: items) x (out ++ [l]) next := by
        simp only [apR, takeLt, dropLt, if_pos c1]
        simp
      rw [e2]
      exact ih
    · rw [if_neg c1]
      by_cases c2 : i.n < l.n
      · rw [if_pos c2]
        have c3 : ¬ l.n = i.n := by omega
        rw [apR]
        simp only [takeLt, dropLt, atS, atR, if_neg c1, if_neg c3, List.append_nil]
        by_cases hb : none = i.b
        · rw [if_pos hb]
          cases ha : i.a with
          | none =>
            have e : stepA ⟨gap, out, next⟩ i.n none (some i) = ⟨gap, out, next⟩ := by simp [stepA, ha, ← hb]
            rw [e]
            exact ap_eq (l :: x) items out next gap h
          | some row =>
            have e : stepA ⟨gap, out, next⟩ i.n none (some i) = ⟨gap, out ++ [⟨i.n, row⟩], if next < i.n + 1 then i.n + 1 else next⟩ := by simp [stepA, ha, ← hb]
            rw [e]
            exact ap_eq (l :: x) items _ _ gap (fun z hz => by have := h z hz; split <;> omega)
        · rw [if_neg hb]
          have hg : ∃ out' next', stepA ⟨gap, out, next⟩ i.n none (some i) = ⟨true, out', next'⟩ ∧ next ≤ next' := by
            cases ha : i.a with
            | none => exact ⟨out, next, by simp [stepA, ha, hb], Int.le_refl _⟩
            | some row => exact ⟨out ++ [⟨i.n, row⟩], if next < i.n + 1 then i.n + 1 else next, by simp [stepA, ha, hb], by split <;> omega⟩
          obtain ⟨out', next', e, hle⟩ := hg
          rw [e]
          have := (ap_eq (l :: x) items out' next' true (fun z hz => by have := h z hz; omega)).1 rfl
          exact ⟨fun _ => this, this⟩
      · rw [if_neg c2]
        have c3 : l.n = i.n := by omega
        rw [apR]
        simp only [takeLt, dropLt, atS, atR, if_neg c1, if_pos c3, List.append_nil]
        by_cases hb : some l.r = i.b
        · rw [if_pos hb]
          cases ha : i.a with
          | none =>
            have e : stepA ⟨gap, out, next⟩ l.n (some l) (some i) = ⟨gap, out, next⟩ := by simp [stepA, ha, ← hb]
            rw [e]
            exact ap_eq x items out next gap (fun z hz => h z (by simp [hz]))
          | some row =>
            have e : stepA ⟨gap, out, next⟩ l.n (some l) (some i) = ⟨gap, out ++ [⟨i.n, row⟩], if next < i.n + 1 then i.n + 1 else next⟩ := by simp [stepA, ha, ← hb, c3]
            rw [e]
            exact ap_eq x items _ _ gap (fun z hz => by have := h z (by simp [hz]); split <;> omega)
        · rw [if_neg hb]
          have hg : ∃ out' next', stepA ⟨gap, out, next⟩ l.n (some l) (some i) = ⟨true, out', next'⟩ ∧ next ≤ next' := by
            cases ha : i.a with
            | none => exact ⟨out, next, by simp [stepA, ha, hb], Int.le_refl _⟩
            | some row => exact ⟨out ++ [⟨l.n, row⟩], if next < l.n + 1 then l.n + 1 else next, by simp [stepA, ha, hb], by split <;> omega⟩
          obtain ⟨out', next', e, hle⟩ := hg
          rw [e]
          have := (ap_eq x items out' next' true (fun z hz => by have := h z (by simp [hz]); omega)).1 rfl
          exact ⟨fun _ => this, this⟩
termination_by x items => x.length + items.length
theorem valid_next {t : Table} (h : valid t = true) : ∀ x ∈ t.l, x.n < t.next := by
  unfold valid at h
  split at h
  · exact absurd h (by simp)
  · exact fun x hx => (rise_all h x hx).2
theorem applyS_eq (t : Table) (l : List Item) (h : ∀ x ∈ t.l, x.n < t.next) : (match apR l t.l [] t.next with
      | none => (applyS t l).gap = true
      | some (x', out', next') => applyS t l = ⟨false, out' ++ x', next'⟩) := (ap_eq t.l l [] t.next false h).2
theorem apply_eq (t : Table) (l : List Event) : apply t l = applyR t l := by
  unfold apply applyR
  split
  · rfl
  · rename_i hv
    split
    · rfl
    · have h := applyS_eq t (itemsOf [] l) (valid_next (by simpa using hv))
      generalize applyS t (itemsOf [] l) = s at h ⊢
      split at h
      · rename_i e; rw [e]; simp only [h, if_true]
      · rename_i x out next e
        rw [e]; subst h
        simp only [Bool.false_eq_true, if_false]
end Go.Den
