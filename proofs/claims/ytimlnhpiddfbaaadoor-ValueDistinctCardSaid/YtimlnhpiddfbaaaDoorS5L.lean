/- value.Parse. -/
import Derived.Test.YtimlnhpiddfbaaaDoorS5K
import Derived.Test.YtimlnhpiddfbaaaDoorS5E
import Derived.Test.YtimlnhpiddfbaaaDoorS5S
namespace Go.Den
open Go
set_option linter.unusedSimpArgs false
set_option linter.unusedVariables false
set_option maxRecDepth 100000
set_option maxHeartbeats 1000000
def InB (v : Val) : Prop := -9223372036854775808 ≤ v.n ∧ v.n ≤ 9223372036854775807
/-- What parsing a text at a type comes to. -/
def ParR (l : List UInt8) (t : Int) (v : Val) (e : Int) : Prop :=
  (typeOk t = false ∧ v = noV ∧ e = 7) ∨ (typeOk t = true ∧ okV v t = true ∧ InB v ∧ showV v t = l ∧ e = 0) ∨
  (typeOk t = true ∧ (∀ w, okV w t = true → InB w → showV w t ≠ l) ∧ v = noV ∧ e = 5)
theorem okV5_text {v : Val} (h : okV v 4 = true) (hn : v.null = false) : v.n = 0 ∧ v.s.size ≤ 200 := by
  unfold okV at h
  rw [hn] at h
  simp at h
  exact ⟨h.1, by omega⟩
theorem okV5_num {v : Val} {t : Int} (h : okV v t = true) (hn : v.null = false) (ht : t ≠ 4) : v.s = ⟨#[]⟩ := by
  unfold okV at h
  rw [hn] at h
  rw [decide_eq_false ht] at h
  by_cases h3 : t = 3
  · simp [h3] at h; exact h
  · rw [decide_eq_false h3] at h; simp at h; exact h.1.1
theorem okV5_lim {v : Val} {t : Int} (h : okV v t = true) (hn : v.null = false) (ht : t ≠ 4) (ht3 : t ≠ 3) : loT t ≤ v.n ∧ v.n ≤ hiT t := by
  unfold okV at h
  rw [hn, decide_eq_false ht, decide_eq_false ht3] at h
  simp at h
  exact ⟨h.1.2, h.2⟩
theorem showV_ok {v : Val} {t : Int} (ht : typeOk t = true) (h : okV v t = true) : showV v t = bif v.null then nullB else
  bif decide (t = 1) then boolB v.n else bif decide (t = 4) then quoteL v.s.data.toList else bif decide (t = 5) then dayB v.n else sgnL v.n 1 := by
  unfold showV; rw [ht, h]; rfl
theorem showV_bad {v : Val} {t : Int} (h : (typeOk t && okV v t) = false) : showV v t = [] := by
  unfold showV; rw [h]; rfl
theorem sgnL_ne (n : Int) (k : Nat) (hk : 1 ≤ k) (hk2 : k ≤ 25) : ∃ c r, sgnL n k = c :: r ∧ (c = 45 ∨ 48 ≤ c.toNat ∧ c.toNat ≤ 57) := by
  unfold sgnL
  cases decide (n < 0) with
  | true => exact ⟨_, _, rfl, .inl rfl⟩
  | false =>
    have h := padF_len 25 n.natAbs k (by omega)
    have hd := padF_dig2 25 n.natAbs k
    rw [cond_false]
    cases hp : padF 25 n.natAbs k with
    | nil => rw [hp] at h; simp at h; omega
    | cons c r => exact ⟨c, r, rfl, .inr (hd c (by rw [hp]; simp))⟩
/-- The first byte of what a value that is not null shows. -/
theorem showV_head {v : Val} {t : Int} (ht : typeOk t = true) (h : okV v t = true) : ∃ c r, showV v t = c :: r ∧ (v.null = false → c ≠ 110) := by
  rw [showV_ok ht h]
  cases hn : v.null with
  | true => exact ⟨_, _, rfl, fun h => by cases h⟩
  | false =>
    simp only [cond_false]
    rcases typeOk_cases ht with rfl | rfl | rfl | rfl | rfl
    · simp only [decide_true, cond_true, boolB]
      cases decide (v.n = 1) <;> exact ⟨_, _, rfl, fun _ => by decide⟩
    · obtain ⟨c, r, e, h⟩ := sgnL_ne v.n 1 (by omega) (by omega)
      exact ⟨c, r, e, fun _ hc => by subst hc; revert h; decide⟩
    · obtain ⟨c, r, e, h⟩ := sgnL_ne v.n 1 (by omega) (by omega)
      exact ⟨c, r, e, fun _ hc => by subst hc; revert h; decide⟩
    · exact ⟨_, _, rfl, fun _ => by decide⟩
    · obtain ⟨c, r, e, h⟩ := sgnL_ne (yearZ (v.n + 719468)) 4 (by omega) (by omega)
      refine ⟨c, r ++ [45] ++ sgnL (monZ (v.n + 719468)) 2 ++ [45] ++ sgnL (domZ (v.n + 719468) + 1) 2, ?_, fun _ hc => by subst hc; revert h; decide⟩
      show dayB v.n = _
      unfold dayB
      rw [e]; simp
theorem showV_null {v : Val} {t : Int} (ht : typeOk t = true) (h : okV v t = true) : showV v t = nullB ↔ v.null = true := by
  obtain ⟨c, r, e, hc⟩ := showV_head ht h
  constructor
  · intro hh
    cases hn : v.null with
    | true => rfl
    | false =>
      rw [e] at hh
      have := hc hn
      unfold nullB at hh
      simp only [List.cons.injEq] at hh
      exact absurd hh.1 this
  · intro hn
    rw [showV_ok ht h, hn]; rfl
theorem okV5_null {v : Val} {t : Int} (h : okV v t = true) (hn : v.null = true) : v = ⟨true, 0, ⟨#[]⟩⟩ := by
  obtain ⟨b, n, s⟩ := v
  simp only [] at hn
  subst hn
  unfold okV at h
  simp at h
  rw [h.1, h.2]
theorem parR_null (t : Int) (ht : typeOk t = true) : ParR nullB t ⟨true, 0, ⟨#[]⟩⟩ 0 := by
  have h : okV ⟨true, 0, ⟨#[]⟩⟩ t = true := rfl
  exact .inr (.inl ⟨ht, h, by unfold InB; simp, (showV_null ht h).2 rfl, rfl⟩)
theorem parR_of (l : List UInt8) (t : Int) (v : Val) (ok : Bool) (ht : typeOk t = true) (hb : InB v) (hl : l ≠ nullB) (hp : ∀ w, w.null = false → okV w t = true → InB w → showV w t = l → w = v ∧ ok = true) :
    (ok = true → l ≠ [] → showV v t = l → ParR l t v 0) ∧ ((ok = false ∨ l = [] ∨ showV v t ≠ l) → ParR l t noV 5) := by
  constructor
  · intro _ h2 h3
    have h : okV v t = true := by
      cases h : okV v t with
      | true => rfl
      | false => rw [showV_bad (by rw [h, Bool.and_false])] at h3; exact absurd h3.symm h2
    exact .inr (.inl ⟨ht, h, hb, h3, rfl⟩)
  · intro h
    refine .inr (.inr ⟨ht, fun w hw hi hs => ?_, rfl, rfl⟩)
    have hn : w.null = false := by
      cases hn : w.null with
      | false => rfl
      | true => exact absurd (hs.symm.trans ((showV_null ht hw).2 hn)) hl
    obtain ⟨rfl, hk⟩ := hp w hn hw hi hs
    obtain ⟨c, r, e, _⟩ := showV_head ht hw
    rcases h with h | h | h
    · rw [h] at hk; simp at hk
    · rw [h, e] at hs; simp at hs
    · exact h hs
/-- The candidates. -/
theorem cand_bool (l : List UInt8) (w : Val) (hn : w.null = false) (ho : okV w 1 = true) (hs : showV w 1 = l) : w = ⟨false, bif decide (l = [116, 114, 117, 101]) then 1 else 0, ⟨#[]⟩⟩ := by
  have h1 := okV5_num ho hn (by decide)
  have h2 := okV5_lim ho hn (by decide) (by decide)
  rw [showV_ok rfl ho, hn] at hs
  simp only [cond_false, decide_true, cond_true] at hs
  obtain ⟨b, n, s⟩ := w
  simp only [] at hn h1 h2 hs
  subst hn h1
  have e1 : loT 1 = 0 := rfl
  have e2 : hiT 1 = 1 := rfl
  rw [e1, e2] at h2
  rcases (show n = 0 ∨ n = 1 by omega) with rfl | rfl
  · subst hs; rfl
  · subst hs; rfl
theorem cand_int (l : List UInt8) (t : Int) (ht : t = 2 ∨ t = 3) (w : Val) (hn : w.null = false) (ho : okV w t = true) (hi : InB w) (hs : showV w t = l) : w = ⟨false, w.n, ⟨#[]⟩⟩ ∧ l = sgnL w.n 1 := by
  have h1 := okV5_num ho hn (by rcases ht with rfl | rfl <;> decide)
  rw [showV_ok (by rcases ht with rfl | rfl <;> rfl) ho, hn] at hs
  obtain ⟨b, n, s⟩ := w
  simp only [] at hn h1 hs ⊢
  subst hn h1
  refine ⟨rfl, ?_⟩
  rcases ht with rfl | rfl <;> exact hs.symm
theorem cand_day (l : List UInt8) (w : Val) (hn : w.null = false) (ho : okV w 5 = true) (hs : showV w 5 = l) : w = ⟨false, w.n, ⟨#[]⟩⟩ ∧ l = dayB w.n ∧ -1000000 ≤ w.n ∧ w.n ≤ 1000000 := by
  have h1 := okV5_num ho hn (by decide)
  have h2 := okV5_lim ho hn (by decide) (by decide)
  rw [showV_ok rfl ho, hn] at hs
  obtain ⟨b, n, s⟩ := w
  simp only [] at hn h1 h2 hs ⊢
  subst hn h1
  exact ⟨rfl, hs.symm, h2.1, h2.2⟩
theorem cand_text (l : List UInt8) (w : Val) (hn : w.null = false) (ho : okV w 4 = true) (hs : showV w 4 = l) : w = ⟨false, 0, ba w.s.data.toList⟩ ∧ l = quoteL w.s.data.toList := by
  have h1 := okV5_text ho hn
  rw [showV_ok rfl ho, hn] at hs
  obtain ⟨b, n, s⟩ := w
  simp only [] at hn h1 hs ⊢
  rw [← ba_of]
  subst hn
  rw [h1.1]
  exact ⟨rfl, hs.symm⟩
end Go.Den
