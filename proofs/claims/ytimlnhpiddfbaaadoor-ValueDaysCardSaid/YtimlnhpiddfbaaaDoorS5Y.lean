/- value.unquote and the reference's guess of a text. -/
import Derived.Test.YtimlnhpiddfbaaaDoorS5X
namespace Go.Den
open Go
set_option linter.unusedSimpArgs false
set_option linter.unusedVariables false
set_option maxRecDepth 100000
set_option maxHeartbeats 1000000
theorem u8_q (c : UInt8) (k : UInt8) : decide ((c.toNat : Int) = (k.toNat : Int)) = decide (c = k) := by
  rw [Bool.eq_iff_iff, decide_eq_true_eq, decide_eq_true_eq]
  constructor
  · intro h; apply UInt8.toNat_inj.1; omega
  · intro h; subst h; rfl
theorem quoteL_ends {c d : UInt8} {m q : List UInt8} (h : c :: (m ++ [d]) = quoteL q) : c = 34 ∧ d = 34 ∧ m = quoteC q := by
  unfold quoteL at h
  simp only [List.cons.injEq] at h
  obtain ⟨h1, h2⟩ := h
  have := List.append_inj' h2 rfl
  exact ⟨h1, by simpa using this.2, this.1⟩
theorem ex_conv {A Q Q' : List UInt8 → Bool → Prop} (h : ∃ r b, A r b ∧ Q r b) (hq : ∀ r b, Q r b → Q' r b) : ∃ r b, A r b ∧ Q' r b := by
  obtain ⟨r, b, h1, h2⟩ := h
  exact ⟨r, b, h1, hq r b h2⟩
theorem value_unquote (l : List UInt8) (hl : l.length < 100000000) : ∃ r ok, Den prog 433 [.str (ba l)] [] = some (.tup [.str (ba r), .bool ok], []) ∧ ∀ q, l = quoteL q → r = q ∧ ok = true := by
  have ce : (⟨#[]⟩ : ByteArray) = ba [] := rfl
  by_cases h2 : l.length < 2
  · have d2 : decide ((l.length : Int) < 2) = true := by rw [decide_eq_true_eq]; omega
    refine ⟨[], false, ?_, fun q hq => ?_⟩
    · rw [Den_ofK [] pr_value_unquote rfl]
      simp only [f_value_unquote, ba_size, d2, ce, go_sem]
    · rw [hq] at h2; simp [quoteL] at h2; omega
  · obtain ⟨c, m, d, rfl⟩ : ∃ c m d, l = c :: (m ++ [d]) := by
      cases l with
      | nil => simp at h2
      | cons c t =>
        have ht : t ≠ [] := by intro e; subst e; simp at h2
        exact ⟨c, t.dropLast, t.getLast ht, by rw [List.dropLast_concat_getLast]⟩
    simp only [List.length_cons, List.length_append, List.length_nil] at hl h2
    have d2 : decide (((m.length : Int) + 1 + 1) < 2) = false := by rw [decide_eq_false_iff_not]; omega
    have x0 : getE (c :: (m ++ [d])) 0 = some c := rfl
    have w1 : IntKind.wrap .i64 ((m.length : Int) + 1 + 1 - 1) = (m.length : Int) + 1 := by rw [wrap_i64 (by omega) (by omega)]; omega
    have x1 : getE (c :: (m ++ [d])) ((m.length : Int) + 1) = some d := by
      rw [show (m.length : Int) + 1 = ((m.length + 1 : Nat) : Int) by omega, getE_nat]; simp
    have q34 : ∀ z : UInt8, decide ((z.toNat : Int) = 34) = decide (z = 34) := fun z => u8_q z 34
    have hs1 : (1 : Int) ≤ (m.length : Int) + 1 := by omega
    have hs2 : (m.length : Int) + 1 ≤ (m.length : Int) + 1 + 1 := by omega
    have hx : (ba (c :: (m ++ [d]))).extract 1 (m.length + 1) = ba m := by rw [ba_extract]; simp
    have nl : (c :: (m ++ [d])).length = m.length + 1 + 1 := by simp
    have tn : ((m.length : Int) + 1).toNat = m.length + 1 := by omega
    cases g1 : decide (c = 34) with
    | false =>
      refine ⟨[], false, ?_, fun q hq => ?_⟩
      · rw [Den_ofK [] pr_value_unquote rfl]
        simp only [f_value_unquote, ba_size, ba_data, nl, d2, x0, q34, g1, ce, go_sem]
      · obtain ⟨e, _⟩ := quoteL_ends hq
        simp [e] at g1
    | true =>
    cases g2 : decide (d = 34) with
    | false =>
      refine ⟨[], false, ?_, fun q hq => ?_⟩
      · rw [Den_ofK [] pr_value_unquote rfl]
        simp only [f_value_unquote, ba_size, ba_data, nl, d2, x0, x1, w1, q34, g1, g2, ce, go_sem]
      · obtain ⟨_, e, _⟩ := quoteL_ends hq
        simp [e] at g2
    | true =>
      have key := fun K hK => unq_l0 K (fun out b => some (.tup [.str (ba out), .bool b], [])) hK m.length m [] (Nat.le_refl _) (by simp; omega)
      rw [Den_ofK [] pr_value_unquote rfl]
      simp only [f_value_unquote, ba_size, ba_data, nl, d2, x0, x1, w1, q34, g1, g2, hs1, hs2, hx, tn, ce, go_sem]
      refine ex_conv (key _ ?_) ?_
      · intro rest out ho x n env h0 h4
        have cd : decide (ba rest = ba []) = decide (rest = []) := by
          rw [Bool.eq_iff_iff, decide_eq_true_eq, decide_eq_true_eq]; exact ba_inj
        simp only [h0, h4, cd, go_sem]
        rfl
      · intro r b e2 q hq
        simpa using e2 q (quoteL_ends hq).2.2
end Go.Den
