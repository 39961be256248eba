/- What is shown is shown by one value alone. -/
import Derived.Test.YtimlnhpiddfbaaaDoorS5V
namespace Go.Den
open Go
set_option linter.unusedSimpArgs false
set_option linter.unusedVariables false
set_option maxRecDepth 100000
set_option maxHeartbeats 1000000
theorem showV_inj {v w : Val} {t : Int} (ht : typeOk t = true) (hv : okV v t = true) (hw : okV w t = true) (iv : InB v) (iw : InB w) (h : showV v t = showV w t) : v = w := by
  cases hn : v.null with
  | true =>
    have h2 : w.null = true := (showV_null ht hw).1 (h.symm.trans ((showV_null ht hv).2 hn))
    rw [okV5_null hv hn, okV5_null hw h2]
  | false =>
    have hm : w.null = false := by
      cases hm : w.null with
      | false => rfl
      | true =>
        have := (showV_null ht hv).1 (h.trans ((showV_null ht hw).2 hm))
        rw [hn] at this; simp at this
    rcases typeOk_cases ht with rfl | rfl | rfl | rfl | rfl
    · rw [cand_bool _ v hn hv rfl, cand_bool _ w hm hw h.symm]
    · obtain ⟨e1, e2⟩ := cand_int _ 2 (.inl rfl) v hn hv iv rfl
      obtain ⟨e3, e4⟩ := cand_int _ 2 (.inl rfl) w hm hw iw h.symm
      have := pInt64 v.n 1 (by omega) (by omega) iv.1 iv.2
      rw [← e2, e4, pInt64 w.n 1 (by omega) (by omega) iw.1 iw.2] at this
      rw [e1, e3, (Prod.mk.inj this).1]
    · obtain ⟨e1, e2⟩ := cand_int _ 3 (.inr rfl) v hn hv iv rfl
      obtain ⟨e3, e4⟩ := cand_int _ 3 (.inr rfl) w hm hw iw h.symm
      have := pInt64 v.n 1 (by omega) (by omega) iv.1 iv.2
      rw [← e2, e4, pInt64 w.n 1 (by omega) (by omega) iw.1 iw.2] at this
      rw [e1, e3, (Prod.mk.inj this).1]
    · obtain ⟨e1, e2⟩ := cand_text _ v hn hv rfl
      obtain ⟨e3, e4⟩ := cand_text _ w hm hw h.symm
      have hq := quoteC_len v.s.data.toList
      have hs := (okV5_text hv hn).2
      have hs2 : v.s.data.toList.length = v.s.size := rfl
      have := quoteL_inj (e2.symm.trans e4) (by unfold quoteL; simp at hs2 ⊢; simp at hq; omega)
      rw [e1, e3, this]
    · obtain ⟨e1, e2, b1, b2⟩ := cand_day _ v hn hv rfl
      obtain ⟨e3, e4, b3, b4⟩ := cand_day _ w hm hw h.symm
      have := pDay_dayB v.n b1 b2
      rw [← e2, e4, pDay_dayB w.n b3 b4] at this
      rw [e1, e3, (Prod.mk.inj this).1]
theorem parR_fun {l : List UInt8} {t : Int} {v w : Val} {e f : Int} (h : ParR l t v e) (h' : ParR l t w f) : v = w ∧ e = f := by
  rcases h with ⟨a1, a2, a3⟩ | ⟨a1, a2, a3, a4, a5⟩ | ⟨a1, a2, a3, a4⟩ <;> rcases h' with ⟨b1, b2, b3⟩ | ⟨b1, b2, b3, b4, b5⟩ | ⟨b1, b2, b3, b4⟩
  · exact ⟨a2.trans b2.symm, a3.trans b3.symm⟩
  · rw [a1] at b1; simp at b1
  · rw [a1] at b1; simp at b1
  · rw [a1] at b1; simp at b1
  · exact ⟨showV_inj a1 a2 b2 a3 b3 (a4.trans b4.symm), a5.trans b5.symm⟩
  · exact absurd a4 (b2 v a2 a3)
  · rw [a1] at b1; simp at b1
  · exact absurd b4 (a2 w b2 b3)
  · exact ⟨a3.trans b3.symm, a4.trans b4.symm⟩
theorem parR_bnd {l : List UInt8} {t : Int} {v : Val} {e : Int} (h : ParR l t v e) : InB v := by
  rcases h with ⟨a1, rfl, a3⟩ | ⟨a1, a2, a3, a4, a5⟩ | ⟨a1, a2, rfl, a4⟩
  · unfold InB noV; simp
  · exact a3
  · unfold InB noV; simp
end Go.Den
