/- What the program parses: days. -/
import Derived.Test.YtimlnhpiddfbaaaDoorS5R
namespace Go.Den
open Go
set_option linter.unusedSimpArgs false
set_option linter.unusedVariables false
set_option maxRecDepth 100000
set_option maxHeartbeats 1000000
theorem value_day (y m d : Int) (y0 : -2147483648 ≤ y) (y1 : y ≤ 2147483648) (m0 : -2147483648 ≤ m) (m1 : m ≤ 2147483648) (d0 : -2147483648 ≤ d) (d1 : d ≤ 2147483648) : Den prog 432 [.int .i64 y, .int .i64 m, .int .i64 d] [] = some (.int .i64 (dayF y m d), []) := by
  rw [Den_ofK [] pr_value_day rfl]
  have nz4 : (4 : Int) ≠ 0 := by decide
  have nz100 : (100 : Int) ≠ 0 := by decide
  have nz5 : (5 : Int) ≠ 0 := by decide
  have main : ∀ (Y M : Int), -2147483649 ≤ Y → Y ≤ 2147483648 → -2147483648 ≤ M → M ≤ 2147483660 →
      ∃ k r q4 q100 t : Int, Den prog 422 [.int .i64 Y, .int .i64 400] [] = some (.int .i64 k, []) ∧ k = Y / 400 ∧ IntKind.wrap .i64 (k * 400) = k * 400 ∧ IntKind.wrap .i64 (Y - k * 400) = r ∧ r = Y - Y / 400 * 400 ∧ IntKind.wrap .i64 (k * 146097) = k * 146097 ∧ IntKind.wrap .i64 (r * 365) = r * 365 ∧ IntKind.wrap .i64 (k * 146097 + r * 365) = k * 146097 + r * 365 ∧
        IntKind.wrap .i64 (r.tdiv 4) = q4 ∧ q4 = r.tdiv 4 ∧ IntKind.wrap .i64 (k * 146097 + r * 365 + q4) = k * 146097 + r * 365 + q4 ∧ IntKind.wrap .i64 (r.tdiv 100) = q100 ∧ q100 = r.tdiv 100 ∧ IntKind.wrap .i64 (k * 146097 + r * 365 + q4 - q100) = k * 146097 + r * 365 + q4 - q100 ∧
        IntKind.wrap .i64 (M - 3) = M - 3 ∧ IntKind.wrap .i64 (153 * (M - 3)) = 153 * (M - 3) ∧ IntKind.wrap .i64 (153 * (M - 3) + 2) = 153 * (M - 3) + 2 ∧ IntKind.wrap .i64 ((153 * (M - 3) + 2).tdiv 5) = t ∧ t = (153 * (M - 3) + 2).tdiv 5 ∧
        IntKind.wrap .i64 (k * 146097 + r * 365 + q4 - q100 + t) = k * 146097 + r * 365 + q4 - q100 + t ∧ IntKind.wrap .i64 (k * 146097 + r * 365 + q4 - q100 + t + d) = k * 146097 + r * 365 + q4 - q100 + t + d ∧ IntKind.wrap .i64 (k * 146097 + r * 365 + q4 - q100 + t + d - 1) = k * 146097 + r * 365 + q4 - q100 + t + d - 1 ∧
        IntKind.wrap .i64 (k * 146097 + r * 365 + q4 - q100 + t + d - 1 - 719468) = k * 146097 + r * 365 + q4 - q100 + t + d - 1 - 719468 := by
    intro Y M Y0 Y1 M0 M1
    have hf := value_floor Y 400 (by omega) (by omega) (by omega) (by omega)
    obtain ⟨k, hk⟩ : ∃ k, Y / 400 = k := ⟨_, rfl⟩
    obtain ⟨r, hr⟩ : ∃ r, Y - k * 400 = r := ⟨_, rfl⟩
    have k0 : -6000000 ≤ k := by omega
    have k1 : k ≤ 6000000 := by omega
    have r0 : 0 ≤ r := by omega
    have r1 : r < 400 := by omega
    have q4a : 0 ≤ r.tdiv 4 ∧ r.tdiv 4 ≤ 100 := by rw [Int.tdiv_eq_ediv_of_nonneg r0]; omega
    have q1a : 0 ≤ r.tdiv 100 ∧ r.tdiv 100 ≤ 4 := by rw [Int.tdiv_eq_ediv_of_nonneg r0]; omega
    have ta : ∀ x : Int, -400000000000 ≤ x → x ≤ 400000000000 → -400000000000 ≤ x.tdiv 5 ∧ x.tdiv 5 ≤ 400000000000 := by
      intro x x0 x1
      by_cases hx : 0 ≤ x
      · rw [Int.tdiv_eq_ediv_of_nonneg hx]; omega
      · obtain ⟨z, rfl⟩ : ∃ z, x = -z := ⟨-x, by omega⟩
        rw [Int.neg_tdiv, Int.tdiv_eq_ediv_of_nonneg (by omega)]; omega
    have t0 := ta (153 * (M - 3) + 2) (by omega) (by omega)
    refine ⟨k, r, r.tdiv 4, r.tdiv 100, (153 * (M - 3) + 2).tdiv 5, by rw [← hk]; exact hf, hk.symm, ?_⟩
    generalize r.tdiv 4 = q4 at *
    generalize r.tdiv 100 = q100 at *
    generalize (153 * (M - 3) + 2).tdiv 5 = t at *
    clear ta hf
    refine ⟨wrap_i64 (by omega) (by omega), by rw [hr]; exact wrap_i64 (by omega) (by omega), by rw [hk]; exact hr.symm, wrap_i64 (by omega) (by omega), wrap_i64 (by omega) (by omega), wrap_i64 (by omega) (by omega), wrap_i64 (by omega) (by omega), rfl, wrap_i64 (by omega) (by omega), wrap_i64 (by omega) (by omega), rfl, wrap_i64 (by omega) (by omega), wrap_i64 (by omega) (by omega), wrap_i64 (by omega) (by omega), wrap_i64 (by omega) (by omega), wrap_i64 (by omega) (by omega), rfl, wrap_i64 (by omega) (by omega), wrap_i64 (by omega) (by omega), wrap_i64 (by omega) (by omega), wrap_i64 (by omega) (by omega)⟩
  unfold dayF
  cases dm : decide (m ≤ 2) with
  | true =>
    have hm : m ≤ 2 := by simpa using dm
    have wa : IntKind.wrap .i64 (y - 1) = y - 1 := wrap_i64 (by omega) (by omega)
    have wb : IntKind.wrap .i64 (m + 12) = m + 12 := wrap_i64 (by omega) (by omega)
    obtain ⟨k, r, q4, q100, t, hf, hk, w1, w2, hr, w3, w4, w5, w6, h6, w7, w8, h8, w9, w10, w11, w12, w13, h13, w14, w15, w16, w17⟩ := main (y - 1) (m + 12) (by omega) (by omega) (by omega) (by omega)
    simp only [cond_true]
    rw [← hk] at hr ⊢
    rw [← hr, ← h6, ← h8, ← h13]
    clear hk hr h6 h8 h13 main
    simp only [f_value_day, dm, wa, wb, hf, w1, w2, w3, w4, w5, w6, w7, w8, w9, w10, w11, w12, w13, w14, w15, w16, w17, nz4, nz100, nz5, go_sem]
  | false =>
    obtain ⟨k, r, q4, q100, t, hf, hk, w1, w2, hr, w3, w4, w5, w6, h6, w7, w8, h8, w9, w10, w11, w12, w13, h13, w14, w15, w16, w17⟩ := main y m (by omega) (by omega) (by omega) (by omega)
    simp only [cond_false]
    rw [← hk] at hr ⊢
    rw [← hr, ← h6, ← h8, ← h13]
    clear hk hr h6 h8 h13 main
    simp only [f_value_day, dm, hf, w1, w2, w3, w4, w5, w6, w7, w8, w9, w10, w11, w12, w13, w14, w15, w16, w17, nz4, nz100, nz5, go_sem]
/-- strconv.ParseInt at base 10: the number, and whether there is no error. -/
def pInt (B : Nat) (l : List UInt8) : Int × Bool := match Lib.parseIntB B l with
  | .ok v => (v, true)
  | .range => (Lib.intSat B l, false)
  | _ => (0, false)
def errA (ok : Bool) : AV := bif ok then .nilif else .iface 101 (.rptr [])
theorem x_parse (l : List UInt8) (B : Nat) (hB : B = 32 ∨ B = 64) (hl : l.length < 1000000000) : Den prog 431 [.str (ba l), .int .i64 10, .int .i64 B] [] = some (.tup [.int .i64 (pInt B l).1, errA (pInt B l).2], []) := by
  rw [Den_x [] pr_strconv_ParseInt rfl]
  have e : xParseint 101 [.str (ba l), .int .i64 10, .int .i64 B] = some (parseR 101 (B : Int).toNat (ba l).data.toList) := if_pos ⟨by omega, by rw [ba_size]; omega⟩
  show (xParseint 101 [.str (ba l), .int .i64 10, .int .i64 B]).map (fun r => (r, ([] : St))) = _
  rw [e, ba_data, Int.toNat_natCast]
  unfold parseR pInt
  cases Lib.parseIntB B l <;> rfl
theorem pInt_bnd (B : Nat) (hB : B = 32 ∨ B = 64) (l : List UInt8) : -((2 ^ (B - 1) : Nat) : Int) ≤ (pInt B l).1 ∧ (pInt B l).1 ≤ ((2 ^ (B - 1) : Nat) : Int) := by
  have hB2 : 0 < 2 ^ (B - 1) := Nat.pow_pos (by decide)
  unfold pInt
  cases h : Lib.parseIntB B l with
  | range =>
    simp only []
    unfold Lib.intSat
    split <;> omega
  | ok v =>
    simp only []
    unfold Lib.parseIntB at h
    split at h
    · exact absurd h (by simp)
    · simp only [] at h
      split at h
      · exact absurd h (by simp)
      · exact absurd h (by simp)
      · split at h
        · exact absurd h (by simp)
        · split at h
          · exact absurd h (by simp)
          · rename_i u _ h1 h2
            simp only [Lib.NumEnd.ok.injEq] at h
            by_cases hn : (‹UInt8›).toNat = 45
            · rw [if_pos hn] at h
              have : ¬ 2 ^ (B - 1) < u := fun hh => h2 ⟨hn, hh⟩
              omega
            · rw [if_neg hn] at h
              have : ¬ 2 ^ (B - 1) ≤ u := fun hh => h1 ⟨hn, hh⟩
              omega
  | _ => simp only []; omega
def pDay (l : List UInt8) : Int × Bool :=
  bif decide (l.length < 10) || decide (12 < l.length) then (0, false) else
  let y := pInt 32 (l.take (l.length - 6))
  let m := pInt 32 ((l.drop (l.length - 5)).take 2)
  let d := pInt 32 (l.drop (l.length - 2))
  (dayF y.1 m.1 d.1, y.2 && (m.2 && (d.2 && (decide (1 ≤ m.1) && decide (m.1 ≤ 12)))))
theorem value_parseDay (l : List UInt8) (hs : l.length < 1000000000) : Den prog 434 [.str (ba l)] [] = some (.tup [.int .i64 (pDay l).1, .bool (pDay l).2], []) := by
  rw [Den_ofK [] pr_value_parseDay rfl]
  have q1 : decide ((l.length : Int) < 10) = decide (l.length < 10) := by rw [Bool.eq_iff_iff]; simp; omega
  have q2 : decide ((12 : Int) < (l.length : Int)) = decide (12 < l.length) := by rw [Bool.eq_iff_iff]; simp; omega
  unfold pDay
  cases g1 : decide (l.length < 10) with
  | true => simp only [f_value_parseDay, ba_size, q1, g1, Bool.true_or, cond_true, go_sem]
  | false =>
  cases g2 : decide (12 < l.length) with
  | true => simp only [f_value_parseDay, ba_size, q1, q2, g1, g2, Bool.or_true, cond_true, go_sem]
  | false =>
  have hl0 : 10 ≤ l.length := by simp at g1; omega
  have hl1 : l.length ≤ 12 := by simp at g2; omega
  have w6 : IntKind.wrap .i64 ((l.length : Int) - 6) = ((l.length - 6 : Nat) : Int) := by rw [wrap_i64 (by omega) (by omega)]; omega
  have w1 : IntKind.wrap .i64 (((l.length - 6 : Nat) : Int) + 1) = ((l.length - 5 : Nat) : Int) := by rw [wrap_i64 (by omega) (by omega)]; omega
  have w3 : IntKind.wrap .i64 (((l.length - 6 : Nat) : Int) + 3) = ((l.length - 3 : Nat) : Int) := by rw [wrap_i64 (by omega) (by omega)]; omega
  have w4 : IntKind.wrap .i64 (((l.length - 6 : Nat) : Int) + 4) = ((l.length - 2 : Nat) : Int) := by rw [wrap_i64 (by omega) (by omega)]; omega
  have s1 : (ba l).extract 0 (l.length - 6) = ba (l.take (l.length - 6)) := by rw [ba_extract]; simp
  have s2 : (ba l).extract (l.length - 5) (l.length - 3) = ba ((l.drop (l.length - 5)).take 2) := by rw [ba_extract, show l.length - 3 - (l.length - 5) = 2 by omega]
  have s3 : (ba l).extract (l.length - 2) l.length = ba (l.drop (l.length - 2)) := by rw [ba_extract, List.take_of_length_le (by simp)]
  have c1 : ((l.length - 6 : Nat) : Int) ≤ (l.length : Int) := by omega
  have c2 : ((l.length - 5 : Nat) : Int) ≤ ((l.length - 3 : Nat) : Int) := by omega
  have c3 : ((l.length - 3 : Nat) : Int) ≤ (l.length : Int) := by omega
  have c4 : ((l.length - 2 : Nat) : Int) ≤ (l.length : Int) := by omega
  have n1 := x_parse (l.take (l.length - 6)) 32 (.inl rfl) (by simp; omega)
  have n2 := x_parse ((l.drop (l.length - 5)).take 2) 32 (.inl rfl) (by simp; omega)
  have n3 := x_parse (l.drop (l.length - 2)) 32 (.inl rfl) (by simp; omega)
  have b1 := pInt_bnd 32 (.inl rfl) (l.take (l.length - 6))
  have b2 := pInt_bnd 32 (.inl rfl) ((l.drop (l.length - 5)).take 2)
  have b3 := pInt_bnd 32 (.inl rfl) (l.drop (l.length - 2))
  rw [show ((32 : Nat) : Int) = 32 from rfl] at n1 n2 n3
  simp only [Bool.or_self, cond_false]
  generalize pInt 32 (l.take (l.length - 6)) = y at *
  generalize pInt 32 ((l.drop (l.length - 5)).take 2) = m at *
  generalize pInt 32 (l.drop (l.length - 2)) = d at *
  obtain ⟨y, ey⟩ := y
  obtain ⟨m, em⟩ := m
  obtain ⟨d, ed⟩ := d
  simp only [] at n1 n2 n3 b1 b2 b3 ⊢
  have hp : ((2 ^ (32 - 1) : Nat) : Int) = 2147483648 := by decide
  rw [hp] at b1 b2 b3
  have hd := value_day y m d b1.1 b1.2 b2.1 b2.2 b3.1 b3.2
  clear b1 b2 b3
  unfold errA at n1 n2 n3
  cases ey with
  | false => simp only [cond_false] at n1; cases em <;> cases ed <;> simp only [cond_false, cond_true] at n2 n3 <;> simp only [f_value_parseDay, ba_size, q1, q2, g1, g2, w6, w1, w3, w4, s1, s2, s3, c1, c2, c3, c4, n1, n2, n3, hd, go_sem]
  | true =>
  cases em with
  | false => simp only [cond_false, cond_true] at n1 n2; cases ed <;> simp only [cond_false, cond_true] at n3 <;> simp only [f_value_parseDay, ba_size, q1, q2, g1, g2, w6, w1, w3, w4, s1, s2, s3, c1, c2, c3, c4, n1, n2, n3, hd, go_sem]
  | true =>
  cases ed with
  | false => simp only [cond_false, cond_true] at n1 n2 n3; simp only [f_value_parseDay, ba_size, q1, q2, g1, g2, w6, w1, w3, w4, s1, s2, s3, c1, c2, c3, c4, n1, n2, n3, hd, go_sem]
  | true =>
    simp only [cond_true] at n1 n2 n3
    cases dm : decide (1 ≤ m) <;> cases dm2 : decide (m ≤ 12) <;>
    simp only [f_value_parseDay, ba_size, q1, q2, g1, g2, w6, w1, w3, w4, s1, s2, s3, c1, c2, c3, c4, n1, n2, n3, hd, dm, dm2, go_sem]
end Go.Den
