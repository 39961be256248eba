/- PRINTED BY mkparse.py: value.Parse. -/
import Derived.Test.YtimlnhpiddfbaaaDoorS5L
namespace Go.Den
open Go
set_option linter.unusedSimpArgs false
set_option linter.unusedVariables false
set_option maxRecDepth 100000
set_option maxHeartbeats 1000000
theorem d41 : decide ((4 : Int) = 1) = false := rfl
theorem d44 : decide ((4 : Int) = 4) = true := rfl
theorem d14 : decide ((1 : Int) = 4) = false := rfl
theorem d51 : decide ((5 : Int) = 1) = false := rfl
theorem d54 : decide ((5 : Int) = 4) = false := rfl
theorem d55 : decide ((5 : Int) = 5) = true := rfl
theorem pInt_bnd64 (l : List UInt8) : -9223372036854775808 ≤ (pInt 64 l).1 ∧ (pInt 64 l).1 ≤ 9223372036854775807 := by
  refine ⟨(pInt_bnd 64 (.inr rfl) l).1, ?_⟩
  have hB2 : (2 : Nat) ^ (64 - 1) = 9223372036854775808 := by decide
  unfold pInt
  cases h : Lib.parseIntB 64 l with
  | range =>
    simp only []
    unfold Lib.intSat
    rw [hB2]
    split <;> omega
  | ok v =>
    simp only []
    unfold Lib.parseIntB at h
    rw [hB2] at h
    split at h
    · exact absurd h (by simp)
    · simp only [] at h
      split at h
      · exact absurd h (by simp)
      · exact absurd h (by simp)
      · split at h
        · exact absurd h (by simp)
        · split at h
          · exact absurd h (by simp)
          · rename_i u _ h1 h2
            simp only [Lib.NumEnd.ok.injEq] at h
            by_cases hn : (‹UInt8›).toNat = 45
            · rw [if_pos hn] at h
              have : ¬ 9223372036854775808 < u := fun hh => h2 ⟨hn, hh⟩
              omega
            · rw [if_neg hn] at h
              have : ¬ 9223372036854775808 ≤ u := fun hh => h1 ⟨hn, hh⟩
              omega
  | _ => simp only []; omega
theorem tdiv_bnd (x : Int) (k : Int) (hk : 0 < k) (b : Int) (h0 : -b ≤ x) (h1 : x ≤ b) : -b ≤ x.tdiv k ∧ x.tdiv k ≤ b := by
  have : ∀ y : Int, 0 ≤ y → y ≤ b → 0 ≤ y.tdiv k ∧ y.tdiv k ≤ b := by
    intro y y0 y1
    rw [Int.tdiv_eq_ediv_of_nonneg y0]
    exact ⟨Int.ediv_nonneg y0 (Int.le_of_lt hk), Int.le_trans (Int.ediv_le_self _ y0) y1⟩
  by_cases hx : 0 ≤ x
  · have := this x hx h1; omega
  · obtain ⟨z, rfl⟩ : ∃ z, x = -z := ⟨-x, by omega⟩
    rw [Int.neg_tdiv]
    have := this z (by omega) (by omega); omega
theorem dayF_bnd (y m d : Int) (y0 : -2147483648 ≤ y) (y1 : y ≤ 2147483648) (m0 : -2147483648 ≤ m) (m1 : m ≤ 2147483648) (d0 : -2147483648 ≤ d) (d1 : d ≤ 2147483648) : -9223372036854775808 ≤ dayF y m d ∧ dayF y m d ≤ 9223372036854775807 := by
  have main : ∀ (Y M : Int), -2147483649 ≤ Y → Y ≤ 2147483648 → -2147483648 ≤ M → M ≤ 2147483660 → -9223372036854775808 ≤ Y / 400 * 146097 + (Y - Y / 400 * 400) * 365 + (Y - Y / 400 * 400).tdiv 4 - (Y - Y / 400 * 400).tdiv 100 + (153 * (M - 3) + 2).tdiv 5 + d - 1 - 719468 ∧ Y / 400 * 146097 + (Y - Y / 400 * 400) * 365 + (Y - Y / 400 * 400).tdiv 4 - (Y - Y / 400 * 400).tdiv 100 + (153 * (M - 3) + 2).tdiv 5 + d - 1 - 719468 ≤ 9223372036854775807 := by
    intro Y M Y0 Y1 M0 M1
    obtain ⟨k, hk⟩ : ∃ k, Y / 400 = k := ⟨_, rfl⟩
    obtain ⟨r, hr⟩ : ∃ r, Y - k * 400 = r := ⟨_, rfl⟩
    have k0 : -6000000 ≤ k := by omega
    have k1 : k ≤ 6000000 := by omega
    have r0 : 0 ≤ r := by omega
    have r1 : r < 400 := by omega
    rw [hk, hr]
    have t1 := tdiv_bnd r 4 (by omega) 400 (by omega) (by omega)
    have t2 := tdiv_bnd r 100 (by omega) 400 (by omega) (by omega)
    have t3 := tdiv_bnd (153 * (M - 3) + 2) 5 (by omega) 400000000000 (by omega) (by omega)
    generalize r.tdiv 4 = a at *
    generalize r.tdiv 100 = b at *
    generalize (153 * (M - 3) + 2).tdiv 5 = c at *
    clear hk hr
    omega
  unfold dayF
  cases hm : decide (m ≤ 2) with
  | true =>
    have hm2 : m ≤ 2 := by simpa using hm
    exact main (y - 1) (m + 12) (by omega) (by omega) (by omega) (by omega)
  | false => exact main y m (by omega) (by omega) (by omega) (by omega)
theorem pDay_bnd (l : List UInt8) : InB ⟨false, (pDay l).1, ⟨#[]⟩⟩ := by
  unfold InB pDay
  cases decide (l.length < 10) || decide (12 < l.length) with
  | true => simp
  | false =>
    have b1 := pInt_bnd 32 (.inl rfl) (l.take (l.length - 6))
    have b2 := pInt_bnd 32 (.inl rfl) ((l.drop (l.length - 5)).take 2)
    have b3 := pInt_bnd 32 (.inl rfl) (l.drop (l.length - 2))
    exact dayF_bnd _ _ _ b1.1 b1.2 b2.1 b2.2 b3.1 b3.2
theorem value_Parse (l : List UInt8) (hl : l.length < 100000000) (t : Int) : ∃ v e, Den prog 437 [.str (ba l), .int .i64 t] [] = some (.tup [.agg [.bool v.null, .int .i64 v.n, .str v.s], .int .i64 e], []) ∧ ParR l t v e := by
  have ce : (⟨#[]⟩ : ByteArray) = ba [] := rfl
  have cn : (⟨#[110, 117, 108, 108]⟩ : ByteArray) = ba nullB := rfl
  have ct : (⟨#[116, 114, 117, 101]⟩ : ByteArray) = ba [116, 114, 117, 101] := rfl
  have bq : ∀ X Y : List UInt8, decide (ba X = ba Y) = decide (X = Y) := fun X Y => by rw [Bool.eq_iff_iff, decide_eq_true_eq, decide_eq_true_eq]; exact ba_inj
  have hty := value_isType t
  cases h0 : typeOk t with
  | false =>
    refine ⟨noV, 7, ?_, .inl ⟨h0, rfl, rfl⟩⟩
    rw [h0] at hty
    rw [Den_ofK [] pr_value_Parse rfl]
    simp only [f_value_Parse, hty, noV, ce, cn, ct, go_sem]
  | true =>
  rw [h0] at hty
  cases hnl : decide (l = nullB) with
  | true =>
    have e : l = nullB := by simpa using hnl
    refine ⟨⟨true, 0, ⟨#[]⟩⟩, 0, ?_, by rw [e]; exact parR_null t h0⟩
    rw [Den_ofK [] pr_value_Parse rfl]
    simp only [f_value_Parse, hty, noV, ce, cn, ct, bq, hnl, go_sem]
  | false =>
  have hl0 : l ≠ nullB := by simpa using hnl
  by_cases t1 : t = 1
  · subst t1
    have hp := parR_of l 1 ⟨false, bif decide (l = [116, 114, 117, 101]) then 1 else 0, ⟨#[]⟩⟩ true rfl (by unfold InB; cases decide (l = [116, 114, 117, 101]) <;> simp) hl0 (fun w h1 h2 _ h3 => ⟨cand_bool l w h1 h2 h3, rfl⟩)
    cases gt : decide (l = [116, 114, 117, 101]) with
    | true =>
      rw [gt, cond_true] at hp
      have hv := value_Show false 1 ⟨#[]⟩ 1 (by decide)
      rw [ce] at hv hp
      cases ge : decide (l = []) with
      | true =>
        refine ⟨noV, 5, ?_, hp.2 (.inr (.inl (by simpa using ge)))⟩
        rw [Den_ofK [] pr_value_Parse rfl]
        simp only [f_value_Parse, hty, noV, ce, cn, ct, bq, hnl, dt11, gt, ge, go_sem]
      | false =>
      cases gs : decide (showV ⟨false, 1, ba []⟩ 1 = l) with
      | false =>
        refine ⟨noV, 5, ?_, hp.2 (.inr (.inr (by simpa using gs)))⟩
        rw [Den_ofK [] pr_value_Parse rfl]
        simp only [f_value_Parse, hty, noV, ce, cn, ct, bq, hnl, dt11, gt, ge, hv, gs, go_sem]
      | true =>
        refine ⟨⟨false, 1, ba []⟩, 0, ?_, hp.1 rfl (by simpa using ge) (by simpa using gs)⟩
        rw [Den_ofK [] pr_value_Parse rfl]
        simp only [f_value_Parse, hty, noV, ce, cn, ct, bq, hnl, dt11, gt, ge, hv, gs, go_sem]
    | false =>
      rw [gt, cond_false] at hp
      have hv := value_Show false 0 ⟨#[]⟩ 1 (by decide)
      rw [ce] at hv hp
      cases ge : decide (l = []) with
      | true =>
        refine ⟨noV, 5, ?_, hp.2 (.inr (.inl (by simpa using ge)))⟩
        rw [Den_ofK [] pr_value_Parse rfl]
        simp only [f_value_Parse, hty, noV, ce, cn, ct, bq, hnl, dt11, gt, ge, go_sem]
      | false =>
      cases gs : decide (showV ⟨false, 0, ba []⟩ 1 = l) with
      | false =>
        refine ⟨noV, 5, ?_, hp.2 (.inr (.inr (by simpa using gs)))⟩
        rw [Den_ofK [] pr_value_Parse rfl]
        simp only [f_value_Parse, hty, noV, ce, cn, ct, bq, hnl, dt11, gt, ge, hv, gs, go_sem]
      | true =>
        refine ⟨⟨false, 0, ba []⟩, 0, ?_, hp.1 rfl (by simpa using ge) (by simpa using gs)⟩
        rw [Den_ofK [] pr_value_Parse rfl]
        simp only [f_value_Parse, hty, noV, ce, cn, ct, bq, hnl, dt11, gt, ge, hv, gs, go_sem]
  by_cases t4 : t = 4
  · subst t4
    obtain ⟨r, ok, hu, hr⟩ := value_unquote l hl
    have hp := parR_of l 4 ⟨false, 0, ba r⟩ ok rfl (by unfold InB; simp) hl0 (fun w h1 h2 _ h3 => by
      obtain ⟨e1, e2⟩ := cand_text l w h1 h2 h3
      obtain ⟨e3, e4⟩ := hr _ e2
      exact ⟨by rw [e3]; exact e1, e4⟩)
    have hv := value_Show false 0 (ba r) 4 (by decide)
    cases ok with
    | false =>
      refine ⟨noV, 5, ?_, hp.2 (.inl rfl)⟩
      rw [Den_ofK [] pr_value_Parse rfl]
      simp only [f_value_Parse, hty, noV, ce, cn, ct, bq, hnl, d41, d44, hu, go_sem]
    | true =>
    cases ge : decide (l = []) with
    | true =>
      refine ⟨noV, 5, ?_, hp.2 (.inr (.inl (by simpa using ge)))⟩
      rw [Den_ofK [] pr_value_Parse rfl]
      simp only [f_value_Parse, hty, noV, ce, cn, ct, bq, hnl, d41, d44, hu, ge, go_sem]
    | false =>
    cases gs : decide (showV ⟨false, 0, ba r⟩ 4 = l) with
    | false =>
      refine ⟨noV, 5, ?_, hp.2 (.inr (.inr (by simpa using gs)))⟩
      rw [Den_ofK [] pr_value_Parse rfl]
      simp only [f_value_Parse, hty, noV, ce, cn, ct, bq, hnl, d41, d44, hu, ge, hv, gs, go_sem]
    | true =>
      refine ⟨⟨false, 0, ba r⟩, 0, ?_, hp.1 rfl (by simpa using ge) (by simpa using gs)⟩
      rw [Den_ofK [] pr_value_Parse rfl]
      simp only [f_value_Parse, hty, noV, ce, cn, ct, bq, hnl, d41, d44, hu, ge, hv, gs, go_sem]
  by_cases t5 : t = 5
  · subst t5
    have hu := value_parseDay l (by omega)
    have hb := pDay_bnd l
    have hp := parR_of l 5 ⟨false, (pDay l).1, ⟨#[]⟩⟩ (pDay l).2 rfl hb hl0 (fun w h1 h2 _ h3 => by
      obtain ⟨e1, e2, e3, e4⟩ := cand_day l w h1 h2 h3
      rw [e2, pDay_dayB _ e3 e4]
      exact ⟨e1, rfl⟩)
    have hv := value_Show false (pDay l).1 ⟨#[]⟩ 5 hb
    rw [ce] at hv hp
    generalize (pDay l).1 = n at *
    generalize (pDay l).2 = ok at *
    cases ok with
    | false =>
      refine ⟨noV, 5, ?_, hp.2 (.inl rfl)⟩
      rw [Den_ofK [] pr_value_Parse rfl]
      simp only [f_value_Parse, hty, noV, ce, cn, ct, bq, hnl, d51, d54, d55, hu, go_sem]
    | true =>
    cases ge : decide (l = []) with
    | true =>
      refine ⟨noV, 5, ?_, hp.2 (.inr (.inl (by simpa using ge)))⟩
      rw [Den_ofK [] pr_value_Parse rfl]
      simp only [f_value_Parse, hty, noV, ce, cn, ct, bq, hnl, d51, d54, d55, hu, ge, go_sem]
    | false =>
    cases gs : decide (showV ⟨false, n, ba []⟩ 5 = l) with
    | false =>
      refine ⟨noV, 5, ?_, hp.2 (.inr (.inr (by simpa using gs)))⟩
      rw [Den_ofK [] pr_value_Parse rfl]
      simp only [f_value_Parse, hty, noV, ce, cn, ct, bq, hnl, d51, d54, d55, hu, ge, hv, gs, go_sem]
    | true =>
      refine ⟨⟨false, n, ba []⟩, 0, ?_, hp.1 rfl (by simpa using ge) (by simpa using gs)⟩
      rw [Den_ofK [] pr_value_Parse rfl]
      simp only [f_value_Parse, hty, noV, ce, cn, ct, bq, hnl, d51, d54, d55, hu, ge, hv, gs, go_sem]
  have ht23 : t = 2 ∨ t = 3 := by rcases typeOk_cases h0 with h | h | h | h | h <;> omega
  have q1 : decide (t = 1) = false := decide_eq_false t1
  have q4 : decide (t = 4) = false := decide_eq_false t4
  have q5 : decide (t = 5) = false := decide_eq_false t5
  have hu := x_parse l 64 (.inr rfl) (by omega)
  rw [show ((64 : Nat) : Int) = 64 from rfl] at hu
  have hb : InB ⟨false, (pInt 64 l).1, ⟨#[]⟩⟩ := pInt_bnd64 l
  have hp := parR_of l t ⟨false, (pInt 64 l).1, ⟨#[]⟩⟩ (pInt 64 l).2 h0 hb hl0 (fun w h1 h2 h3 h4 => by
    obtain ⟨e1, e2⟩ := cand_int l t ht23 w h1 h2 h3 h4
    rw [e2, pInt64 _ 1 (by omega) (by omega) h3.1 h3.2]
    exact ⟨e1, rfl⟩)
  have hv := value_Show false (pInt 64 l).1 ⟨#[]⟩ t hb
  rw [ce] at hv hp
  generalize (pInt 64 l).1 = n at *
  generalize (pInt 64 l).2 = ok at *
  cases ok with
  | false =>
    refine ⟨noV, 5, ?_, hp.2 (.inl rfl)⟩
    rw [Den_ofK [] pr_value_Parse rfl]
    simp only [f_value_Parse, hty, noV, ce, cn, ct, bq, hnl, q1, q4, q5, hu, errA, cond_true, cond_false, go_sem]
  | true =>
  cases ge : decide (l = []) with
  | true =>
    refine ⟨noV, 5, ?_, hp.2 (.inr (.inl (by simpa using ge)))⟩
    rw [Den_ofK [] pr_value_Parse rfl]
    simp only [f_value_Parse, hty, noV, ce, cn, ct, bq, hnl, q1, q4, q5, hu, errA, cond_true, cond_false, ge, go_sem]
  | false =>
  cases gs : decide (showV ⟨false, n, ba []⟩ t = l) with
  | false =>
    refine ⟨noV, 5, ?_, hp.2 (.inr (.inr (by simpa using gs)))⟩
    rw [Den_ofK [] pr_value_Parse rfl]
    simp only [f_value_Parse, hty, noV, ce, cn, ct, bq, hnl, q1, q4, q5, hu, errA, cond_true, cond_false, ge, hv, gs, go_sem]
  | true =>
    refine ⟨⟨false, n, ba []⟩, 0, ?_, hp.1 rfl (by simpa using ge) (by simpa using gs)⟩
    rw [Den_ofK [] pr_value_Parse rfl]
    simp only [f_value_Parse, hty, noV, ce, cn, ct, bq, hnl, q1, q4, q5, hu, errA, cond_true, cond_false, ge, hv, gs, go_sem]
end Go.Den
