/- PRINTED BY mkparse.py: the reference's Parse. -/
import Derived.Test.YtimlnhpiddfbaaaGreatDoorS5V
import Derived.Test.YtimlnhpiddfbaaaGreatDoorS5G
import Derived.Test.YtimlnhpiddfbaaaGreatDoorS5T
namespace Go.Den
open Go
set_option linter.unusedSimpArgs false
set_option linter.unusedVariables false
set_option maxRecDepth 100000
set_option maxHeartbeats 1000000
theorem gDay_dayB (n : Int) (h0 : -1000000 ≤ n) (h1 : n ≤ 1000000) : gDay (dayB n) = n := by
  obtain ⟨Y, M, D, e, eY, eM, eD, y4, y5, m2, d2⟩ := dayB_parts n h0 h1
  obtain ⟨c0, c1, c2, c3⟩ := day_cut Y M D m2 d2
  have hy := year_bnd h0 h1
  have hm := mon_bnd (n + 719468)
  have hd := dom_bnd (n + 719468)
  have hp : (10 : Nat) ^ 25 = 10000000000000000000000000 := by decide
  have hyl : -1000 ≤ yearZ (n + 719468) ∧ yearZ (n + 719468) ≤ 5000 := by
    obtain ⟨_, _, q3, _⟩ := dateZ (n + 719468)
    unfold yearZ eraK
    split <;> omega
  obtain ⟨_, _, _, _, _, _, _, q8, q9, q10, _, _, _⟩ := dateZ (n + 719468)
  rw [← e] at c0 c1 c2 c3
  unfold gDay
  have n1 := numI_pad 25 (monZ (n + 719468)) 2 (by omega) (by omega)
  have n2 := numI_pad 25 (domZ (n + 719468) + 1) 2 (by omega) (by omega)
  have w1 : IntKind.wrap .i64 ((monZ (n + 719468) : Nat) : Int) = (monZ (n + 719468) : Nat) := wrap_i64 (by omega) (by omega)
  have w2 : IntKind.wrap .i64 ((domZ (n + 719468) + 1 : Nat) : Int) = (domZ (n + 719468) + 1 : Nat) := wrap_i64 (by omega) (by omega)
  rw [c1, c2, c3, decide_eq_false (by omega), decide_eq_false (by omega), Bool.or_self, cond_false, eM, eD, eY, n1, n2, gInt_sgn _ 4 (by omega) (by omega) (by omega) (by omega)]
  simp only []
  rw [w1, w2, decide_eq_false (by omega), decide_eq_false (by omega), decide_eq_false (by omega), decide_eq_false (by omega), decide_eq_false (by omega), decide_eq_false (by omega)]
  simp only [Bool.or_self, cond_false, Int.toNat_natCast]
  omega
theorem gDay_bnd (l : List UInt8) : InB ⟨false, gDay l, ⟨#[]⟩⟩ := by
  unfold InB gDay
  cases decide (l.length < 10) || decide (12 < l.length) with
  | true => simp
  | false =>
    simp only [cond_false]
    generalize gInt (l.take (l.length - 6)) = Y
    generalize IntKind.wrap .i64 (numI 0 ((l.drop (l.length - 5)).take 2)) = M
    generalize IntKind.wrap .i64 (numI 0 (l.drop (l.length - 2))) = D
    cases hc : (decide (Y < -1000) || decide (5000 < Y) || decide (M < 1) || decide (12 < M) || decide (D < 1) || decide (31 < D)) with
    | true => simp
    | false =>
      simp only [Bool.or_eq_false_iff, decide_eq_false_iff_not] at hc
      obtain ⟨⟨⟨⟨⟨b1, b2⟩, b3⟩, b4⟩, b5⟩, b6⟩ := hc
      have hbj : -10000000 ≤ janD Y ∧ janD Y ≤ 5000000 := by
        unfold janD eD; omega
      have hcl : cumL (leapB Y) M.toNat ≤ 366 := by
        have := cum_mono (leapB Y) (k := 13 - M.toNat) (show 1 ≤ M.toNat by omega)
        rw [show M.toNat + (13 - M.toNat) = 13 by omega] at this
        have : cumL (leapB Y) 13 ≤ 366 := by cases leapB Y <;> decide
        omega
      simp only [cond_false]
      omega
theorem R05_Parse (l : List UInt8) (hl : l.length < 100000000) (t : Int) : ∃ v e, Den prog 473 [.str (ba l), .int .i64 t] [] = some (.tup [.agg [.bool v.null, .int .i64 v.n, .str v.s], .int .i64 e], []) ∧ ParR l t v e := by
  have ce : (⟨#[]⟩ : ByteArray) = ba [] := rfl
  have cn : (⟨#[110, 117, 108, 108]⟩ : ByteArray) = ba nullB := rfl
  have ct : (⟨#[116, 114, 117, 101]⟩ : ByteArray) = ba [116, 114, 117, 101] := rfl
  have bq : ∀ X Y : List UInt8, decide (ba X = ba Y) = decide (X = Y) := fun X Y => by rw [Bool.eq_iff_iff, decide_eq_true_eq, decide_eq_true_eq]; exact ba_inj
  have hty := R05_Type t
  cases h0 : typeOk t with
  | false =>
    refine ⟨noV, 7, ?_, .inl ⟨h0, rfl, rfl⟩⟩
    rw [h0] at hty
    rw [Den_ofK [] pr_R05_Parse rfl]
    simp only [f_R05_Parse, hty, noV, ce, cn, ct, go_sem]
  | true =>
  rw [h0] at hty
  cases hnl : decide (l = nullB) with
  | true =>
    have e : l = nullB := by simpa using hnl
    refine ⟨⟨true, 0, ⟨#[]⟩⟩, 0, ?_, by rw [e]; exact parR_null t h0⟩
    rw [Den_ofK [] pr_R05_Parse rfl]
    simp only [f_R05_Parse, hty, noV, ce, cn, ct, bq, hnl, go_sem]
  | false =>
  have hl0 : l ≠ nullB := by simpa using hnl
  by_cases t1 : t = 1
  · subst t1
    have hp := parR_of l 1 ⟨false, bif decide (l = [116, 114, 117, 101]) then 1 else 0, ⟨#[]⟩⟩ true rfl (by unfold InB; cases decide (l = [116, 114, 117, 101]) <;> simp) hl0 (fun w h1 h2 _ h3 => ⟨cand_bool l w h1 h2 h3, rfl⟩)
    cases gt : decide (l = [116, 114, 117, 101]) with
    | true =>
      rw [gt, cond_true] at hp
      have hv := R05_Show false 1 ⟨#[]⟩ 1 (by decide)
      rw [ce] at hv hp
      cases ge : decide (l = []) with
      | true =>
        refine ⟨noV, 5, ?_, hp.2 (.inr (.inl (by simpa using ge)))⟩
        rw [Den_ofK [] pr_R05_Parse rfl]
        simp only [f_R05_Parse, hty, noV, ce, cn, ct, bq, hnl, dt11, gt, ge, go_sem]
      | false =>
      cases gs : decide (showV ⟨false, 1, ba []⟩ 1 = l) with
      | false =>
        refine ⟨noV, 5, ?_, hp.2 (.inr (.inr (by simpa using gs)))⟩
        rw [Den_ofK [] pr_R05_Parse rfl]
        simp only [f_R05_Parse, hty, noV, ce, cn, ct, bq, hnl, dt11, gt, ge, hv, gs, go_sem]
      | true =>
        refine ⟨⟨false, 1, ba []⟩, 0, ?_, hp.1 rfl (by simpa using ge) (by simpa using gs)⟩
        rw [Den_ofK [] pr_R05_Parse rfl]
        simp only [f_R05_Parse, hty, noV, ce, cn, ct, bq, hnl, dt11, gt, ge, hv, gs, go_sem]
    | false =>
      rw [gt, cond_false] at hp
      have hv := R05_Show false 0 ⟨#[]⟩ 1 (by decide)
      rw [ce] at hv hp
      cases ge : decide (l = []) with
      | true =>
        refine ⟨noV, 5, ?_, hp.2 (.inr (.inl (by simpa using ge)))⟩
        rw [Den_ofK [] pr_R05_Parse rfl]
        simp only [f_R05_Parse, hty, noV, ce, cn, ct, bq, hnl, dt11, gt, ge, go_sem]
      | false =>
      cases gs : decide (showV ⟨false, 0, ba []⟩ 1 = l) with
      | false =>
        refine ⟨noV, 5, ?_, hp.2 (.inr (.inr (by simpa using gs)))⟩
        rw [Den_ofK [] pr_R05_Parse rfl]
        simp only [f_R05_Parse, hty, noV, ce, cn, ct, bq, hnl, dt11, gt, ge, hv, gs, go_sem]
      | true =>
        refine ⟨⟨false, 0, ba []⟩, 0, ?_, hp.1 rfl (by simpa using ge) (by simpa using gs)⟩
        rw [Den_ofK [] pr_R05_Parse rfl]
        simp only [f_R05_Parse, hty, noV, ce, cn, ct, bq, hnl, dt11, gt, ge, hv, gs, go_sem]
  by_cases t4 : t = 4
  · subst t4
    obtain ⟨r, hu, hr⟩ := R05_guessText l hl
    have hp := parR_of l 4 ⟨false, 0, ba r⟩ true rfl (by unfold InB; simp) hl0 (fun w h1 h2 _ h3 => by
      obtain ⟨e1, e2⟩ := cand_text l w h1 h2 h3
      exact ⟨by rw [hr _ e2]; exact e1, rfl⟩)
    have hv := R05_Show false 0 (ba r) 4 (by decide)
    cases ge : decide (l = []) with
    | true =>
      refine ⟨noV, 5, ?_, hp.2 (.inr (.inl (by simpa using ge)))⟩
      rw [Den_ofK [] pr_R05_Parse rfl]
      simp only [f_R05_Parse, hty, noV, ce, cn, ct, bq, hnl, d41, d44, hu, ge, go_sem]
    | false =>
    cases gs : decide (showV ⟨false, 0, ba r⟩ 4 = l) with
    | false =>
      refine ⟨noV, 5, ?_, hp.2 (.inr (.inr (by simpa using gs)))⟩
      rw [Den_ofK [] pr_R05_Parse rfl]
      simp only [f_R05_Parse, hty, noV, ce, cn, ct, bq, hnl, d41, d44, hu, ge, hv, gs, go_sem]
    | true =>
      refine ⟨⟨false, 0, ba r⟩, 0, ?_, hp.1 rfl (by simpa using ge) (by simpa using gs)⟩
      rw [Den_ofK [] pr_R05_Parse rfl]
      simp only [f_R05_Parse, hty, noV, ce, cn, ct, bq, hnl, d41, d44, hu, ge, hv, gs, go_sem]
  by_cases t5 : t = 5
  · subst t5
    have hu := R05_guessDay l (by omega)
    have hb := gDay_bnd l
    have hp := parR_of l 5 ⟨false, gDay l, ⟨#[]⟩⟩ true rfl hb hl0 (fun w h1 h2 _ h3 => by
      obtain ⟨e1, e2, e3, e4⟩ := cand_day l w h1 h2 h3
      exact ⟨by rw [e2, gDay_dayB _ e3 e4]; exact e1, rfl⟩)
    have hv := R05_Show false (gDay l) ⟨#[]⟩ 5 hb
    rw [ce] at hv hp
    generalize gDay l = n at *
    cases ge : decide (l = []) with
    | true =>
      refine ⟨noV, 5, ?_, hp.2 (.inr (.inl (by simpa using ge)))⟩
      rw [Den_ofK [] pr_R05_Parse rfl]
      simp only [f_R05_Parse, hty, noV, ce, cn, ct, bq, hnl, d51, d54, d55, hu, ge, go_sem]
    | false =>
    cases gs : decide (showV ⟨false, n, ba []⟩ 5 = l) with
    | false =>
      refine ⟨noV, 5, ?_, hp.2 (.inr (.inr (by simpa using gs)))⟩
      rw [Den_ofK [] pr_R05_Parse rfl]
      simp only [f_R05_Parse, hty, noV, ce, cn, ct, bq, hnl, d51, d54, d55, hu, ge, hv, gs, go_sem]
    | true =>
      refine ⟨⟨false, n, ba []⟩, 0, ?_, hp.1 rfl (by simpa using ge) (by simpa using gs)⟩
      rw [Den_ofK [] pr_R05_Parse rfl]
      simp only [f_R05_Parse, hty, noV, ce, cn, ct, bq, hnl, d51, d54, d55, hu, ge, hv, gs, go_sem]
  have ht23 : t = 2 ∨ t = 3 := by rcases typeOk_cases h0 with h | h | h | h | h <;> omega
  have q1 : decide (t = 1) = false := decide_eq_false t1
  have q4 : decide (t = 4) = false := decide_eq_false t4
  have q5 : decide (t = 5) = false := decide_eq_false t5
  have hu := R05_guessInt l (by omega)
  have hb := gInt_bnd l
  have hp := parR_of l t ⟨false, gInt l, ⟨#[]⟩⟩ true h0 hb hl0 (fun w h1 h2 h3 h4 => by
    obtain ⟨e1, e2⟩ := cand_int l t ht23 w h1 h2 h3 h4
    exact ⟨by rw [e2, gInt_sgn _ 1 (by omega) (by omega) h3.1 h3.2]; exact e1, rfl⟩)
  have hv := R05_Show false (gInt l) ⟨#[]⟩ t hb
  rw [ce] at hv hp
  generalize gInt l = n at *
  cases ge : decide (l = []) with
  | true =>
    refine ⟨noV, 5, ?_, hp.2 (.inr (.inl (by simpa using ge)))⟩
    rw [Den_ofK [] pr_R05_Parse rfl]
    simp only [f_R05_Parse, hty, noV, ce, cn, ct, bq, hnl, q1, q4, q5, hu, ge, go_sem]
  | false =>
  cases gs : decide (showV ⟨false, n, ba []⟩ t = l) with
  | false =>
    refine ⟨noV, 5, ?_, hp.2 (.inr (.inr (by simpa using gs)))⟩
    rw [Den_ofK [] pr_R05_Parse rfl]
    simp only [f_R05_Parse, hty, noV, ce, cn, ct, bq, hnl, q1, q4, q5, hu, ge, hv, gs, go_sem]
  | true =>
    refine ⟨⟨false, n, ba []⟩, 0, ?_, hp.1 rfl (by simpa using ge) (by simpa using gs)⟩
    rw [Den_ofK [] pr_R05_Parse rfl]
    simp only [f_R05_Parse, hty, noV, ce, cn, ct, bq, hnl, q1, q4, q5, hu, ge, hv, gs, go_sem]
end Go.Den
