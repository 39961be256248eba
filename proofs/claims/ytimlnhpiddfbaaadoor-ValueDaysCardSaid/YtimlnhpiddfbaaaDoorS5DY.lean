/- Ch. 05: ValueDays. -/
import Derived.Test.YtimlnhpiddfbaaaDoorS5DP
import Derived.Test.YtimlnhpiddfbaaaDoorS5RT
namespace Go.Den
open Go Go.Proofs
set_option linter.unusedSimpArgs false
set_option linter.unusedVariables false
set_option maxRecDepth 100000
set_option maxHeartbeats 1000000
theorem u8_48 (v : Nat) (h : v < 10) : (UInt8.ofNat (48 + v)).toNat = 48 + v := by rw [UInt8.toNat_ofNat']; omega
theorem L05_two (x : Nat) (hx : x < 100) : Den prog 444 [.str (ba (padF 25 x 2))] [] = some (.int .i64 (x : Int), []) := by
  rw [Den_ofK [] pr_L05_two rfl, padF_two hx]
  obtain ⟨u, hu⟩ : ∃ u, x / 10 = u := ⟨_, rfl⟩
  obtain ⟨v, hv⟩ : ∃ v, x % 10 = v := ⟨_, rfl⟩
  rw [hu, hv]
  have eu := u8_48 u (by omega)
  have ev := u8_48 v (by omega)
  generalize UInt8.ofNat (48 + u) = c at *
  generalize UInt8.ofNat (48 + v) = d at *
  have x0 : getE [c, d] 0 = some c := rfl
  have x1 : getE [c, d] 1 = some d := rfl
  have a1 : decide ((c.toNat : Int) < 48) = false := by rw [decide_eq_false_iff_not]; omega
  have a2 : decide (57 < (c.toNat : Int)) = false := by rw [decide_eq_false_iff_not]; omega
  have a3 : decide ((d.toNat : Int) < 48) = false := by rw [decide_eq_false_iff_not]; omega
  have a4 : decide (57 < (d.toNat : Int)) = false := by rw [decide_eq_false_iff_not]; omega
  have w1 : IntKind.wrap .u8 ((c.toNat : Int) - 48) = (u : Int) := by rw [wrap_u8 (by omega) (by omega)]; omega
  have w2 : IntKind.wrap .u8 ((d.toNat : Int) - 48) = (v : Int) := by rw [wrap_u8 (by omega) (by omega)]; omega
  have w3 : IntKind.wrap .i64 (u : Int) = (u : Int) := wrap_i64 (by omega) (by omega)
  have w4 : IntKind.wrap .i64 (v : Int) = (v : Int) := wrap_i64 (by omega) (by omega)
  have w5 : IntKind.wrap .i64 (10 * (u : Int)) = 10 * (u : Int) := wrap_i64 (by omega) (by omega)
  have w6 : IntKind.wrap .i64 (10 * (u : Int) + (v : Int)) = (x : Int) := by rw [wrap_i64 (by omega) (by omega)]; omega
  have l2 : decide ((2 : Int) = 2) = true := rfl
  simp only [f_L05_two, ba_size, ba_data, List.length_cons, List.length_nil, x0, x1, a1, a2, a3, a4, w1, w2, w3, w4, w5, w6, l2, go_sem]
theorem day_ex (Y M D : List UInt8) (hM : M.length = 2) (hD : D.length = 2) : (ba (Y ++ 45 :: (M ++ 45 :: D))).extract (Y.length + 1) (Y.length + 3) = ba M ∧ (ba (Y ++ 45 :: (M ++ 45 :: D))).extract (Y.length + 4) (Y.length + 6) = ba D ∧ (ba (Y ++ 45 :: (M ++ 45 :: D))).extract 0 Y.length = ba Y := by
  obtain ⟨c0, c1, c2, c3⟩ := day_cut Y M D hM hD
  rw [c0] at c1 c2 c3
  refine ⟨?_, ?_, ?_⟩
  · rw [ba_extract, show Y.length + 3 - (Y.length + 1) = 2 by omega]
    rw [show Y.length + 6 - 5 = Y.length + 1 by omega] at c2
    rw [c2]
  · rw [ba_extract, show Y.length + 6 - (Y.length + 4) = 2 by omega]
    rw [show Y.length + 6 - 2 = Y.length + 4 by omega] at c3
    rw [c3, List.take_of_length_le (by omega)]
  · rw [ba_extract]
    simp
theorem law_VDA (n : Int) (hn : -9223372036854775808 ≤ n ∧ n ≤ 9223372036854775807) : Den prog 449 [.int .i64 n] [] = some (.bool true, []) := by
  rw [Den_ofK [] pr_L05_ValueDays rfl]
  have hsan := sanity05
  have nz : (1000000 : Int) ≠ 0 := by decide
  obtain ⟨d, hd⟩ : ∃ d, n.tmod 1000000 = d := ⟨_, rfl⟩
  have d0 : -999999 ≤ d ∧ d ≤ 999999 := by
    have h1 := Int.tmod_lt_of_pos n (show (0 : Int) < 1000000 by decide)
    have h2 : -1000000 < n.tmod 1000000 := by
      rcases Int.le_total 0 n with h | h
      · have := Int.tmod_nonneg 1000000 h; omega
      · have := Int.tmod_lt_of_pos (-n) (show (0 : Int) < 1000000 by decide)
        rw [Int.neg_tmod] at this; omega
    omega
  have wd : IntKind.wrap .i64 (d + 1) = d + 1 := wrap_i64 (by omega) (by omega)
  have hva : ∀ e : Int, -1000000 ≤ e → e ≤ 1000000 → okV ⟨false, e, ⟨#[]⟩⟩ 5 = true ∧ showV ⟨false, e, ⟨#[]⟩⟩ 5 = dayB e := by
    intro e e0 e1
    have h : okV ⟨false, e, ⟨#[]⟩⟩ 5 = true := by
      unfold okV loT hiT
      simp; omega
    exact ⟨h, by rw [showV_ok rfl h]; rfl⟩
  obtain ⟨o1, s1⟩ := hva d (by omega) (by omega)
  obtain ⟨o2, s2⟩ := hva (d + 1) (by omega) (by omega)
  have i2 : InB ⟨false, d + 1, ⟨#[]⟩⟩ := by unfold InB; simp only []; omega
  have hS1 := value_Show false d ⟨#[]⟩ 5 (by omega)
  have hS2 := value_Show false (d + 1) ⟨#[]⟩ 5 (by omega)
  have sl := showV_len ⟨false, d + 1, ⟨#[]⟩⟩ 5
  obtain ⟨w, e, hP, pR⟩ := value_Parse (showV ⟨false, d + 1, ⟨#[]⟩⟩ 5) (by omega) 5
  obtain ⟨rfl, rfl⟩ := parR_fun pR (.inr (.inl ⟨rfl, o2, i2, rfl, rfl⟩))
  simp only [] at hP
  have n1 := L05_num d
  have n2 := L05_num (d + 1)
  rw [s1] at hS1
  rw [s2] at hS2 hP
  obtain ⟨Y, M, D, e1, eY, eM, eD, y4, y5, m2, d2⟩ := dayB_parts d (by omega) (by omega)
  obtain ⟨Y', M', D', e1', eY', eM', eD', y4', y5', m2', d2'⟩ := dayB_parts (d + 1) (by omega) (by omega)
  rw [e1] at hS1
  rw [e1'] at hS2 hP
  have lA := (day_cut Y M D m2 d2).1
  have lB := (day_cut Y' M' D' m2' d2').1
  obtain ⟨xa1, xa2, xa3⟩ := day_ex Y M D m2 d2
  obtain ⟨xb1, xb2, xb3⟩ := day_ex Y' M' D' m2' d2'
  have bM := mon_bnd (d + 719468)
  have bD := dom_bnd (d + 719468)
  have bM' := mon_bnd (d + 1 + 719468)
  have bD' := dom_bnd (d + 1 + 719468)
  have t1 := L05_two (monZ (d + 719468)) (by omega)
  have t2 := L05_two (domZ (d + 719468) + 1) (by omega)
  have t3 := L05_two (monZ (d + 1 + 719468)) (by omega)
  have t4 := L05_two (domZ (d + 1 + 719468) + 1) (by omega)
  rw [← eM] at t1
  rw [← eD] at t2
  rw [← eM'] at t3
  rw [← eD'] at t4
  have hnx := day_next (d + 719468)
  rw [show d + 719468 + 1 = d + 1 + 719468 by omega] at hnx
  have yb := year_bnd (n := d) (by omega) (by omega)
  have yb' := year_bnd (n := d + 1) (by omega) (by omega)
  have hYe : yearZ (d + 1 + 719468) = yearZ (d + 719468) → Y' = Y := by intro h; rw [eY, eY', h]
  have hYn : yearZ (d + 1 + 719468) = yearZ (d + 719468) + 1 → Y ≠ Y' := by
    intro h hh
    have hyl : -9999 < yearZ (d + 719468) ∧ yearZ (d + 719468) < 9999 := by
      obtain ⟨_, _, q3, _⟩ := dateZ (d + 719468)
      unfold yearZ eraK
      split <;> omega
    rw [eY, eY'] at hh
    have := sgn4_inj (by omega) (by omega) (by omega) (by omega) hh
    omega
  clear eY eY' eM eM' eD eD' e1 e1' s1 s2 o1 o2 i2 sl pR hva
  generalize monZ (d + 719468) = m at *
  generalize monZ (d + 1 + 719468) = k at *
  generalize yearZ (d + 719468) = yy at *
  generalize yearZ (d + 1 + 719468) = yy' at *
  obtain ⟨p, hp⟩ : ∃ p, domZ (d + 719468) + 1 = p := ⟨_, rfl⟩
  obtain ⟨q, hq⟩ : ∃ q, domZ (d + 1 + 719468) + 1 = q := ⟨_, rfl⟩
  rw [hp] at t2
  rw [hq] at t4
  generalize Y ++ 45 :: (M ++ 45 :: D) = A at *
  generalize Y' ++ 45 :: (M' ++ 45 :: D') = B at *
  obtain ⟨la, hla⟩ : ∃ la, Y.length = la := ⟨_, rfl⟩
  obtain ⟨lb, hlb⟩ : ∃ lb, Y'.length = lb := ⟨_, rfl⟩
  rw [hla] at lA xa1 xa2 xa3
  rw [hlb] at lB xb1 xb2 xb3
  obtain ⟨A', hA'⟩ : ∃ x, A.length = x := ⟨_, rfl⟩
  obtain ⟨B', hB'⟩ : ∃ x, B.length = x := ⟨_, rfl⟩
  have hAe : la + 6 = A' := by omega
  have hBe : lb + 6 = B' := by omega
  rw [hAe] at xa2
  rw [hBe] at xb2
  obtain ⟨a1, ha1⟩ : ∃ x, la + 1 = x := ⟨_, rfl⟩
  obtain ⟨a3, ha3⟩ : ∃ x, la + 3 = x := ⟨_, rfl⟩
  obtain ⟨a4, ha4⟩ : ∃ x, la + 4 = x := ⟨_, rfl⟩
  obtain ⟨b1, hb1⟩ : ∃ x, lb + 1 = x := ⟨_, rfl⟩
  obtain ⟨b3, hb3⟩ : ∃ x, lb + 3 = x := ⟨_, rfl⟩
  obtain ⟨b4, hb4⟩ : ∃ x, lb + 4 = x := ⟨_, rfl⟩
  rw [ha1, ha3] at xa1
  rw [ha4] at xa2
  rw [hb1, hb3] at xb1
  rw [hb4] at xb2
  have qa : decide ((A' : Int) < 10) = false := by rw [decide_eq_false_iff_not]; omega
  have qb : decide ((B' : Int) < 10) = false := by rw [decide_eq_false_iff_not]; omega
  have wa : IntKind.wrap .i64 ((A' : Int) - 6) = (la : Int) := by rw [wrap_i64 (by omega) (by omega)]; omega
  have wb : IntKind.wrap .i64 ((B' : Int) - 6) = (lb : Int) := by rw [wrap_i64 (by omega) (by omega)]; omega
  have wa1 : IntKind.wrap .i64 ((la : Int) + 1) = (a1 : Int) := by rw [wrap_i64 (by omega) (by omega)]; omega
  have wa3 : IntKind.wrap .i64 ((la : Int) + 3) = (a3 : Int) := by rw [wrap_i64 (by omega) (by omega)]; omega
  have wa4 : IntKind.wrap .i64 ((la : Int) + 4) = (a4 : Int) := by rw [wrap_i64 (by omega) (by omega)]; omega
  have wb1 : IntKind.wrap .i64 ((lb : Int) + 1) = (b1 : Int) := by rw [wrap_i64 (by omega) (by omega)]; omega
  have wb3 : IntKind.wrap .i64 ((lb : Int) + 3) = (b3 : Int) := by rw [wrap_i64 (by omega) (by omega)]; omega
  have wb4 : IntKind.wrap .i64 ((lb : Int) + 4) = (b4 : Int) := by rw [wrap_i64 (by omega) (by omega)]; omega
  have r1 : (a1 : Int) ≤ (a3 : Int) := by omega
  have r2 : (a3 : Int) ≤ (A' : Int) := by omega
  have r3 : (a4 : Int) ≤ (A' : Int) := by omega
  have r4 : (la : Int) ≤ (A' : Int) := by omega
  have r5 : (b1 : Int) ≤ (b3 : Int) := by omega
  have r6 : (b3 : Int) ≤ (B' : Int) := by omega
  have r7 : (b4 : Int) ≤ (B' : Int) := by omega
  have r8 : (lb : Int) ≤ (B' : Int) := by omega
  have c1 : decide ((m : Int) < 1) = false := by rw [decide_eq_false_iff_not]; omega
  have c2 : decide (12 < (m : Int)) = false := by rw [decide_eq_false_iff_not]; omega
  have c3 : decide ((p : Int) < 1) = false := by rw [decide_eq_false_iff_not]; omega
  have c4 : decide (31 < (p : Int)) = false := by rw [decide_eq_false_iff_not]; omega
  have c5 : decide ((q : Int) < 1) = false := by rw [decide_eq_false_iff_not]; omega
  have c6 : decide (31 < (q : Int)) = false := by rw [decide_eq_false_iff_not]; omega
  have wp : IntKind.wrap .i64 ((p : Int) + 1) = (p : Int) + 1 := wrap_i64 (by omega) (by omega)
  have wm : IntKind.wrap .i64 ((m : Int) + 1) = (m : Int) + 1 := wrap_i64 (by omega) (by omega)
  have vv : (⟨false, d + 1, ⟨#[]⟩⟩ : Val) = ⟨false, d + 1, ⟨#[]⟩⟩ := rfl
  rcases hnx with ⟨h1, h2, h3⟩ | ⟨h1, h2, h3, h4, h5⟩ | ⟨h1, h2, h3, h4, h5, h6⟩
  · have k1 : decide ((q : Int) = (p : Int) + 1) = true := by rw [decide_eq_true_eq]; omega
    have k2 : decide ((k : Int) = (m : Int)) = true := by rw [decide_eq_true_eq]; omega
    have k3 : decide (ba Y = ba Y') = true := by rw [decide_eq_true_eq, hYe h1]
    clear hYe hYn
    simp only [f_L05_ValueDays, hsan, nz, hd, wd, n1, n2, hS1, hS2, hP, ba_size, hA', hB', qa, qb, wa, wb, wa1, wa3, wa4, wb1, wb3, wb4, r1, r2, r3, r4, r5, r6, r7, r8, xa1, xa2, xa3, xb1, xb2, xb3, t1, t2, t3, t4, c1, c2, c3, c4, c5, c6, wp, wm, k1, k2, k3, beq_self_eq_true, go_sem]
  · have k1 : decide ((q : Int) = (p : Int) + 1) = false := by rw [decide_eq_false_iff_not]; omega
    have k2 : decide ((q : Int) = 1) = true := by rw [decide_eq_true_eq]; omega
    have k3 : decide ((p : Int) < 28) = false := by rw [decide_eq_false_iff_not]; omega
    have k4 : decide ((m : Int) = 12) = true := by rw [decide_eq_true_eq]; omega
    have k5 : decide ((k : Int) = 1) = true := by rw [decide_eq_true_eq]; omega
    have k6 : decide ((p : Int) = 31) = true := by rw [decide_eq_true_eq]; omega
    have k7 : decide (ba Y = ba Y') = false := by rw [decide_eq_false_iff_not, ba_inj]; exact hYn h2
    clear hYe hYn
    simp only [f_L05_ValueDays, hsan, nz, hd, wd, n1, n2, hS1, hS2, hP, ba_size, hA', hB', qa, qb, wa, wb, wa1, wa3, wa4, wb1, wb3, wb4, r1, r2, r3, r4, r5, r6, r7, r8, xa1, xa2, xa3, xb1, xb2, xb3, t1, t2, t3, t4, c1, c2, c3, c4, c5, c6, wp, wm, k1, k2, k3, k4, k5, k6, k7, beq_self_eq_true, go_sem]
  · have k1 : decide ((q : Int) = (p : Int) + 1) = false := by rw [decide_eq_false_iff_not]; omega
    have k2 : decide ((q : Int) = 1) = true := by rw [decide_eq_true_eq]; omega
    have k3 : decide ((p : Int) < 28) = false := by rw [decide_eq_false_iff_not]; omega
    have k4 : decide ((m : Int) = 12) = false := by rw [decide_eq_false_iff_not]; omega
    have k5 : decide ((k : Int) = (m : Int) + 1) = true := by rw [decide_eq_true_eq]; omega
    have k7 : decide (ba Y = ba Y') = true := by rw [decide_eq_true_eq, hYe h2]
    clear hYe hYn
    cases k8 : decide ((m : Int) = 2) with
    | true =>
      simp only [f_L05_ValueDays, hsan, nz, hd, wd, n1, n2, hS1, hS2, hP, ba_size, hA', hB', qa, qb, wa, wb, wa1, wa3, wa4, wb1, wb3, wb4, r1, r2, r3, r4, r5, r6, r7, r8, xa1, xa2, xa3, xb1, xb2, xb3, t1, t2, t3, t4, c1, c2, c3, c4, c5, c6, wp, wm, k1, k2, k3, k4, k5, k7, k8, beq_self_eq_true, go_sem]
    | false =>
      have k9 : decide ((30 : Int) ≤ (p : Int)) = true := by
        rw [decide_eq_false_iff_not] at k8
        have := h6 (by omega)
        rw [decide_eq_true_eq]; omega
      simp only [f_L05_ValueDays, hsan, nz, hd, wd, n1, n2, hS1, hS2, hP, ba_size, hA', hB', qa, qb, wa, wb, wa1, wa3, wa4, wb1, wb3, wb4, r1, r2, r3, r4, r5, r6, r7, r8, xa1, xa2, xa3, xb1, xb2, xb3, t1, t2, t3, t4, c1, c2, c3, c4, c5, c6, wp, wm, k1, k2, k3, k4, k5, k7, k8, k9, beq_self_eq_true, go_sem]
theorem row_VDA (xs : List AV) (h : Args Tryd.prog [3] xs) : Den prog 449 xs [] = some (.bool true, []) := by
  obtain ⟨n, x, ys, rfl, h1, h⟩ := h.one
  cases h.none
  obtain ⟨a, rfl, ha⟩ := sh_int h1
  simp only [avOf, Tryd.underlying3]
  exact law_VDA a ha
end Go.Den
