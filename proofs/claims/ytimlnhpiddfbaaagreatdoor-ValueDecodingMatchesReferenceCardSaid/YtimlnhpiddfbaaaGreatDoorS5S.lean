/- The notation of values: what the program and the reference show. -/
import Derived.Test.YtimlnhpiddfbaaaGreatDoorS5P
import Derived.Test.YtimlnhpiddfbaaaGreatDoorS5E
namespace Go.Den
open Go
set_option linter.unusedSimpArgs false
set_option linter.unusedVariables false
set_option maxRecDepth 100000
set_option maxHeartbeats 1000000
theorem x_fmtint (n : Int) (h0 : -9223372036854775808 ≤ n) (h1 : n ≤ 9223372036854775807) : Den prog 423 [.int .i64 n, .int .i64 10] [] = some (.str (ba (sgnL n 1)), []) := by
  rw [Den_x [] pr_strconv_FormatInt rfl]
  have e : xFmtint [.int .i64 n, .int .i64 10] = some (.str (ba (itoaF n))) := if_pos ⟨h0, h1⟩
  show (xFmtint [.int .i64 n, .int .i64 10]).map (fun r => (r, ([] : St))) = _
  rw [e, itoa_sgn n h0 h1]
  rfl
theorem x_rep (k : Nat) (h : k ≤ 1000000000) : Den prog 424 [.str ⟨#[48]⟩, .int .i64 k] [] = some (.str (ba (List.replicate k 48)), []) := by
  rw [Den_x [] pr_strings_Repeat rfl]
  have e1 : (⟨#[48]⟩ : ByteArray).size = 1 := rfl
  have e2 : (⟨#[48]⟩ : ByteArray).data.toList = [48] := rfl
  have e : xRep [.str ⟨#[48]⟩, .int .i64 k] = some (.str (ba (Lib.repeatL (⟨#[48]⟩ : ByteArray).data.toList (k : Int).toNat))) := if_pos ⟨by omega, by omega, by rw [e1]; omega⟩
  show (xRep [.str ⟨#[48]⟩, .int .i64 k]).map (fun r => (r, ([] : St))) = _
  rw [e, Int.toNat_natCast, e2, repeat_rep]
  rfl
theorem x_quote (s : ByteArray) (h : s.size ≤ 1000000000) : Den prog 426 [.str s] [] = some (.str (ba (quoteL s.data.toList)), []) := by
  rw [Den_x [] pr_value_quote rfl]
  have e : xQuote [.str s] = some (.str (ba (quoteL s.data.toList))) := if_pos h
  show (xQuote [.str s]).map (fun r => (r, ([] : St))) = _
  rw [e]
  rfl
theorem FormatBool (b : Bool) : Den prog 425 [.bool b] [] = some (.str (bif b then ⟨#[116, 114, 117, 101]⟩ else ⟨#[102, 97, 108, 115, 101]⟩), []) := by
  have h : Den prog 421 [.bool b] [] = some (.str (bif b then ⟨#[116, 114, 117, 101]⟩ else ⟨#[102, 97, 108, 115, 101]⟩), []) := by
    rw [Den_ofK [] pr_internal_strconv_FormatBool rfl]
    cases b <;> simp only [f_internal_strconv_FormatBool, cond_true, cond_false, go_sem]
  rw [Den_ofK [] pr_strconv_FormatBool rfl]
  simp only [f_strconv_FormatBool, h, go_sem]
theorem value_floor (a b : Int) (ha : -1000000000000 ≤ a) (ha2 : a ≤ 1000000000000) (hb : 0 < b) (hb2 : b < 1000000000) : Den prog 422 [.int .i64 a, .int .i64 b] [] = some (.int .i64 (a / b), []) := by
  rw [Den_ofK [] pr_value_floor rfl]
  have z : b ≠ 0 := by omega
  by_cases h : 0 ≤ a
  · have e1 : a.tdiv b = a / b := Int.tdiv_eq_ediv_of_nonneg h
    have e2 : decide (a.tmod b < 0) = false := by
      have := Int.tmod_nonneg b h
      simp; omega
    have h3 : 0 ≤ a / b := Int.ediv_nonneg h (by omega)
    have h4 : a / b ≤ a := Int.ediv_le_self _ h
    have w : IntKind.wrap .i64 (a / b) = a / b := wrap_i64 (by omega) (by omega)
    simp only [f_value_floor, z, e1, e2, w, go_sem]
  · obtain ⟨c, rfl⟩ : ∃ c, a = -c := ⟨-a, by omega⟩
    have hc : 0 < c := by omega
    have e1 : (-c).tdiv b = -(c / b) := by rw [Int.neg_tdiv, Int.tdiv_eq_ediv_of_nonneg (by omega)]
    have e2 : (-c).tmod b = -(c % b) := by rw [Int.neg_tmod, Int.tmod_eq_emod_of_nonneg (by omega)]
    have h1 : 0 ≤ c / b := Int.ediv_nonneg (by omega) (by omega)
    have h2 : c / b ≤ c := Int.ediv_le_self _ (by omega)
    have h3 : 0 ≤ c % b := Int.emod_nonneg _ z
    have h4 : c % b < b := Int.emod_lt_of_pos _ hb
    have hd := Int.mul_ediv_add_emod c b
    have w : IntKind.wrap .i64 (-(c / b)) = -(c / b) := wrap_i64 (by omega) (by omega)
    have w2 : IntKind.wrap .i64 (-(c / b) - 1) = -(c / b) - 1 := wrap_i64 (by omega) (by omega)
    by_cases h0 : c % b = 0
    · have d : decide (-(c % b) < 0) = false := by simp; omega
      have e3 : -c / b = -(c / b) := by
        apply Int.ediv_eq_of_eq_mul_right z
        rw [Int.mul_neg]; omega
      rw [e3]
      simp only [f_value_floor, z, e1, e2, d, w, go_sem]
    · have d : decide (-(c % b) < 0) = true := by simp; omega
      have e3 : -c / b = -(c / b) - 1 := by
        have : -c = b * (-(c / b) - 1) + (b - c % b) := by rw [Int.mul_sub, Int.mul_neg]; omega
        rw [this, Int.add_comm, Int.add_mul_ediv_left _ _ z, Int.ediv_eq_zero_of_lt (by omega) (by omega)]
        omega
      rw [e3]
      simp only [f_value_floor, z, e1, e2, d, w, w2, go_sem]
theorem wrp {a b : Int} (h : a = b) (h1 : -1000000000000 ≤ b) (h2 : b ≤ 1000000000000) : IntKind.wrap .i64 a = b := by
  subst h; exact wrap_i64 (by omega) (by omega)
theorem vd1 (d : Nat) (h : d < 146097) : IntKind.wrap .i64 ((d : Int).tdiv 1460) = ((d / 1460 : Nat) : Int) := wrp rfl (by omega) (by omega)
theorem vd2 (d : Nat) (h : d < 146097) : IntKind.wrap .i64 ((d : Int) - ((d / 1460 : Nat) : Int)) = ((d - d / 1460 : Nat) : Int) := wrp (by omega) (by omega) (by omega)
theorem vd3 (d : Nat) (h : d < 146097) : IntKind.wrap .i64 ((d : Int).tdiv 36524) = ((d / 36524 : Nat) : Int) := wrp rfl (by omega) (by omega)
theorem vd4 (d : Nat) (h : d < 146097) : IntKind.wrap .i64 (((d - d / 1460 : Nat) : Int) + ((d / 36524 : Nat) : Int)) = ((d - d / 1460 + d / 36524 : Nat) : Int) := wrp (by omega) (by omega) (by omega)
theorem vd5 (d : Nat) (h : d < 146097) : IntKind.wrap .i64 ((d : Int).tdiv 146096) = ((d / 146096 : Nat) : Int) := wrp rfl (by omega) (by omega)
theorem vd6 (d : Nat) (h : d < 146097) : IntKind.wrap .i64 (((d - d / 1460 + d / 36524 : Nat) : Int) - ((d / 146096 : Nat) : Int)) = ((gD d : Nat) : Int) := by
  have h1 : d / 146096 ≤ d - d / 1460 + d / 36524 := by omega
  have h3 : d - d / 1460 + d / 36524 ≤ 200000 := by omega
  unfold gD
  generalize d - d / 1460 + d / 36524 = a at *
  generalize d / 146096 = b at *
  exact wrp (by omega) (by omega) (by omega)
theorem gD_lt (d : Nat) (h : d < 146097) : gD d ≤ 200000 := by unfold gD; omega
theorem vd7 (g : Nat) (h : g ≤ 200000) : IntKind.wrap .i64 ((g : Int).tdiv 365) = ((g / 365 : Nat) : Int) := wrp rfl (by omega) (by omega)
theorem vy1 (y : Nat) (h : y ≤ 399) : IntKind.wrap .i64 (365 * (y : Int)) = ((365 * y : Nat) : Int) := wrp (by omega) (by omega) (by omega)
theorem vy2 (y : Nat) (h : y ≤ 399) : IntKind.wrap .i64 ((y : Int).tdiv 4) = ((y / 4 : Nat) : Int) := wrp rfl (by omega) (by omega)
theorem vy3 (y : Nat) (h : y ≤ 399) : IntKind.wrap .i64 (((365 * y : Nat) : Int) + ((y / 4 : Nat) : Int)) = ((365 * y + y / 4 : Nat) : Int) := wrp (by omega) (by omega) (by omega)
theorem vy4 (y : Nat) (h : y ≤ 399) : IntKind.wrap .i64 ((y : Int).tdiv 100) = ((y / 100 : Nat) : Int) := wrp rfl (by omega) (by omega)
theorem vy5 (y : Nat) (h : y ≤ 399) : IntKind.wrap .i64 (((365 * y + y / 4 : Nat) : Int) - ((y / 100 : Nat) : Int)) = ((stD y : Nat) : Int) := by
  have e : stD y = 365 * y + y / 4 - y / 100 := by unfold stD; omega
  rw [e]
  exact wrp (by omega) (by omega) (by omega)
theorem vsub (a b : Nat) (h : a ≤ 1000000) (h2 : b ≤ a) : IntKind.wrap .i64 ((a : Int) - (b : Int)) = ((a - b : Nat) : Int) := wrp (by omega) (by omega) (by omega)
theorem vt1 (t : Nat) (h : t < 366) : IntKind.wrap .i64 (5 * (t : Int)) = ((5 * t : Nat) : Int) := wrp (by omega) (by omega) (by omega)
theorem vt2 (t : Nat) (h : t < 366) : IntKind.wrap .i64 (((5 * t : Nat) : Int) + 2) = ((5 * t + 2 : Nat) : Int) := wrp (by omega) (by omega) (by omega)
theorem vt3 (t : Nat) (h : t < 366) : IntKind.wrap .i64 (((5 * t + 2 : Nat) : Int).tdiv 153) = ((mD t : Nat) : Int) := by
  have e : mD t = (5 * t + 2) / 153 := rfl
  rw [e]
  exact wrp rfl (by omega) (by omega)
theorem vm1 (m : Nat) (h : m ≤ 11) : IntKind.wrap .i64 (153 * (m : Int)) = ((153 * m : Nat) : Int) := wrp (by omega) (by omega) (by omega)
theorem vm2 (m : Nat) (h : m ≤ 11) : IntKind.wrap .i64 (((153 * m : Nat) : Int) + 2) = ((153 * m + 2 : Nat) : Int) := wrp (by omega) (by omega) (by omega)
theorem vm3 (m : Nat) (h : m ≤ 11) : IntKind.wrap .i64 (((153 * m + 2 : Nat) : Int).tdiv 5) = (((153 * m + 2) / 5 : Nat) : Int) := wrp rfl (by omega) (by omega)
theorem vm5 (m : Nat) (h : m ≤ 11) : IntKind.wrap .i64 ((m : Int) + 3) = ((m + 3 : Nat) : Int) := wrp (by omega) (by omega) (by omega)
theorem vadd (a : Nat) (h : a ≤ 1000) : IntKind.wrap .i64 ((a : Int) + 1) = (a : Int) + 1 := wrp rfl (by omega) (by omega)
theorem vk1 (k : Int) (h : -100 ≤ k) (h2 : k ≤ 100) : IntKind.wrap .i64 (k * 400) = k * 400 := wrp rfl (by omega) (by omega)
theorem vk2 (k : Int) (y : Nat) (h : -100 ≤ k) (h2 : k ≤ 100) (hy : y ≤ 399) : IntKind.wrap .i64 ((y : Int) + k * 400) = (y : Int) + k * 400 := wrp rfl (by omega) (by omega)
theorem vk3 (k : Int) (y : Nat) (h : -100 ≤ k) (h2 : k ≤ 100) (hy : y ≤ 399) : IntKind.wrap .i64 ((y : Int) + k * 400 + 1) = (y : Int) + k * 400 + 1 := wrp rfl (by omega) (by omega)
theorem vk4 (k : Int) (h : -100 ≤ k) (h2 : k ≤ 100) : IntKind.wrap .i64 (k * 146097) = k * 146097 := wrp rfl (by omega) (by omega)
theorem monL_le (l : Bool) (m : Nat) : monL l m ≤ 31 := by unfold monL; split <;> (try cases l) <;> simp
theorem value_date (n : Int) (h0 : -1000000 ≤ n) (h1 : n ≤ 1000000) : Den prog 427 [.int .i64 n] [] = some (.tup [.int .i64 (yearZ (n + 719468)), .int .i64 (monZ (n + 719468)), .int .i64 (domZ (n + 719468) + 1)], []) := by
  rw [Den_ofK [] pr_value_date rfl]
  obtain ⟨z, hz⟩ : ∃ z, n + 719468 = z := ⟨_, rfl⟩
  rw [hz]
  have hz0 : -300000 ≤ z := by omega
  have hz1 : z ≤ 2000000 := by omega
  have w0 : IntKind.wrap .i64 (n + 719468) = z := wrp hz (by omega) (by omega)
  clear hz h0 h1
  have hfl := value_floor z 146097 (by omega) (by omega) (by omega) (by omega)
  have hk1 : -100 ≤ eraK z := by unfold eraK; omega
  have hk2 : eraK z ≤ 100 := by unfold eraK; omega
  obtain ⟨q1, q2, q3, q4, q5, q6, q7, q8, q9, q10, q11, _, _⟩ := dateZ z
  have hdd : domZ z ≤ 31 := Nat.le_trans (Nat.le_of_lt q11) (monL_le _ _)
  clear q10 q11
  have w2 : IntKind.wrap .i64 (z - eraK z * 146097) = (doeN z : Int) := by rw [q2]; exact wrp rfl (by omega) (by omega)
  have e5 : yearZ z = (yoeN z : Int) + eraK z * 400 + (if 10 ≤ mD (doyN z) then 1 else 0) := by unfold yearZ; omega
  have e6 : monZ z = if 10 ≤ mD (doyN z) then mD (doyN z) - 9 else mD (doyN z) + 3 := rfl
  have x4 : IntKind.wrap .i64 ((doyN z : Int) - (((153 * mD (doyN z) + 2) / 5 : Nat) : Int)) = ((domZ z : Nat) : Int) := vsub _ _ (by omega) q7
  have u6 : IntKind.wrap .i64 ((doeN z : Int) - ((stD (yoeN z) : Nat) : Int)) = ((doyN z : Nat) : Int) := vsub _ _ (by omega) q4
  have t7 : IntKind.wrap .i64 ((gD (doeN z) : Int).tdiv 365) = ((yoeN z : Nat) : Int) := vd7 _ (gD_lt _ q1)
  rw [show z / 146097 = eraK z from rfl] at hfl
  have w1 := vk4 (eraK z) hk1 hk2
  have x6 := vk1 (eraK z) hk1 hk2
  have x7 := vk2 (eraK z) (yoeN z) hk1 hk2 q3
  have x9 := vk3 (eraK z) (yoeN z) hk1 hk2 q3
  have x8 := vadd (domZ z) (by omega)
  have t1 := vd1 _ q1
  have t2 := vd2 _ q1
  have t3 := vd3 _ q1
  have t4 := vd4 _ q1
  have t5 := vd5 _ q1
  have t6 := vd6 _ q1
  have u1 := vy1 _ q3
  have u2 := vy2 _ q3
  have u3 := vy3 _ q3
  have u4 := vy4 _ q3
  have u5 := vy5 _ q3
  have v1 := vt1 _ q5
  have v2 := vt2 _ q5
  have v3 := vt3 _ q5
  have x1 := vm1 _ q6
  have x2 := vm2 _ q6
  have x3 := vm3 _ q6
  have x5 := vm5 _ q6
  clear q1 q2 q4 q5 q7 q8 q9 hz0 hz1 hk1 hk2
  have nz0 : (365 : Int) ≠ 0 := by decide
  generalize hDD : domZ z = dd at *
  generalize hM : monZ z = M at *
  generalize hY : yearZ z = Y at *
  clear hDD hM hY
  generalize eraK z = k at *
  generalize hd : doeN z = d at *
  generalize hy : yoeN z = y at *
  generalize ht : doyN z = t at *
  clear hd hy ht
  generalize (153 * mD t + 2) / 5 = r1 at *
  generalize 153 * mD t + 2 = r2 at *
  generalize 153 * mD t = r3 at *
  generalize mD t = m at *
  generalize 5 * t + 2 = r4 at *
  generalize 5 * t = r5 at *
  generalize stD y = r6 at *
  generalize 365 * y + y / 4 = r7 at *
  generalize 365 * y = r8 at *
  generalize y / 4 = r9 at *
  generalize y / 100 = r10 at *
  generalize gD d = r11 at *
  generalize d - d / 1460 + d / 36524 = r12 at *
  generalize d - d / 1460 = r13 at *
  generalize d / 1460 = r14 at *
  generalize d / 36524 = r15 at *
  generalize d / 146096 = r16 at *
  generalize hm3 : m + 3 = m3 at *
  have nz1 : (1460 : Int) ≠ 0 := by decide
  have nz2 : (36524 : Int) ≠ 0 := by decide
  have nz3 : (146096 : Int) ≠ 0 := by decide
  have nz5 : (4 : Int) ≠ 0 := by decide
  have nz6 : (100 : Int) ≠ 0 := by decide
  have nz7 : (153 : Int) ≠ 0 := by decide
  have nz8 : (5 : Int) ≠ 0 := by decide
  by_cases hm : 10 ≤ m
  · have d12 : decide ((12 : Int) < (m3 : Int)) = true := by rw [decide_eq_true_eq]; omega
    have y1 : IntKind.wrap .i64 ((m3 : Int) - 12) = (M : Int) := wrp (by rw [e6, if_pos hm]; omega) (by omega) (by rw [e6, if_pos hm]; omega)
    have y2 : IntKind.wrap .i64 ((y : Int) + k * 400 + 1) = Y := by rw [x9, e5, if_pos hm]
    clear e5 e6 x9 hm q6 q3 hdd hm3
    simp only [f_value_date, w0, hfl, w1, w2, nz0, nz1, nz2, nz3, nz5, nz6, nz7, nz8, t1, t2, t3, t4, t5, t6, t7, u1, u2, u3, u4, u5, u6, v1, v2, v3, x1, x2, x3, x4, x5, x6, x7, x8, d12, y1, y2, go_sem]
  · have d12 : decide ((12 : Int) < (m3 : Int)) = false := by rw [decide_eq_false_iff_not]; omega
    have y1 : M = m3 := by rw [e6, if_neg hm]
    have y2 : Y = (y : Int) + k * 400 := by rw [e5, if_neg hm, Int.add_zero]
    rw [y1, y2]
    clear e5 e6 x9 hm q6 q3 hdd hm3
    simp only [f_value_date, w0, hfl, w1, w2, nz0, nz1, nz2, nz3, nz5, nz6, nz7, nz8, t1, t2, t3, t4, t5, t6, t7, u1, u2, u3, u4, u5, u6, v1, v2, v3, x1, x2, x3, x4, x5, x6, x7, x8, d12, go_sem]
theorem padF_dig (f n : Nat) (h : n < 10 ^ f) (hf : 1 ≤ f) (hf2 : f ≤ 25) (l : Nat) (hl : l ≤ f) : padF 25 n l = padF f n l := padF_more f 25 n l h hl hf2
/-- A number in at least so many digits, as the program writes it. -/
theorem value_padded (n : Int) (k : Nat) (h0 : -1000000000000 ≤ n) (h1 : n ≤ 1000000000000) (hk : 1 ≤ k) (hk2 : k ≤ 10) : Den prog 428 [.int .i64 n, .int .i64 k] [] = some (.str (ba (sgnL n k)), []) := by
  rw [Den_ofK [] pr_value_padded rfl]
  have w1 : IntKind.wrap .i64 (0 - n) = -n := wrp (by omega) (by omega) (by omega)
  have hmx : (if n < -n then -n else n) = (n.natAbs : Int) := by split <;> omega
  have hp : (10 : Nat) ^ 20 = 100000000000000000000 := by decide
  have hf := x_fmtint (n.natAbs : Int) (by omega) (by omega)
  have hs1 : sgnL (n.natAbs : Int) 1 = padF 25 n.natAbs 1 := by
    unfold sgnL
    rw [decide_eq_false (by omega), cond_false, Int.natAbs_natCast]
  rw [hs1] at hf
  have hp25 : n.natAbs < 10 ^ 25 := Nat.lt_trans (show n.natAbs < 10 ^ 20 by omega) (by decide)
  have hpad := padF_pad 25 n.natAbs k hk (by omega) hp25
  have hlen := padF_le 25 n.natAbs 1
  unfold sgnL
  rw [hpad]
  generalize padF 25 n.natAbs 1 = D at *
  have w2 : IntKind.wrap .i64 ((k : Int) - (D.length : Int)) = (k : Int) - D.length := wrp rfl (by omega) (by omega)
  have hmx2 : (if (0 : Int) < (k : Int) - (D.length : Int) then (k : Int) - (D.length : Int) else 0) = ((k - D.length : Nat) : Int) := by split <;> omega
  have hr := x_rep (k - D.length) (by omega)
  have hsz : (List.replicate (k - D.length) (48 : UInt8)).length + D.length ≤ 9223372036854775807 := by rw [List.length_replicate]; omega
  have hsz2 : [(45 : UInt8)].length + (List.replicate (k - D.length) (48 : UInt8) ++ D).length ≤ 9223372036854775807 := by
    rw [List.length_append, List.length_replicate, List.length_singleton]; omega
  have hb1 := bin_ba .num (List.replicate (k - D.length) (48 : UInt8)) D hsz
  have hb2 := bin_ba .num [45] (List.replicate (k - D.length) (48 : UInt8) ++ D) hsz2
  clear hpad hs1 hp25 hsz hsz2
  cases d : decide (n < 0) with
  | true =>
    simp only [cond_true]
    simp only [f_value_padded, w1, hmx, hf, ba_size, w2, hmx2, hr, hb1, hb2, c45, d, go_sem]
  | false =>
    simp only [cond_false]
    simp only [f_value_padded, w1, hmx, hf, ba_size, w2, hmx2, hr, hb1, d, go_sem]
/-! Notations. -/
def nullB : List UInt8 := [110, 117, 108, 108]
def boolB (n : Int) : List UInt8 := bif decide (n = 1) then [116, 114, 117, 101] else [102, 97, 108, 115, 101]
def dayB (n : Int) : List UInt8 := sgnL (yearZ (n + 719468)) 4 ++ [45] ++ sgnL (monZ (n + 719468)) 2 ++ [45] ++ sgnL (domZ (n + 719468) + 1) 2
def showV (v : Val) (t : Int) : List UInt8 := bif !(typeOk t && okV v t) then [] else bif v.null then nullB else
  bif decide (t = 1) then boolB v.n else bif decide (t = 4) then quoteL v.s.data.toList else bif decide (t = 5) then dayB v.n else sgnL v.n 1
theorem year_bnd {n : Int} (h0 : -1000000 ≤ n) (h1 : n ≤ 1000000) : -5000 ≤ yearZ (n + 719468) ∧ yearZ (n + 719468) ≤ 10000 := by
  obtain ⟨_, _, q3, _⟩ := dateZ (n + 719468)
  unfold yearZ eraK
  split <;> omega
theorem dom_bnd (z : Int) : domZ z ≤ 30 := by
  obtain ⟨_, _, _, _, _, _, _, _, _, _, q, _, _⟩ := dateZ z
  have := monL_le (leapB (yearZ z)) (monZ z)
  omega
theorem mon_bnd (z : Int) : 1 ≤ monZ z ∧ monZ z ≤ 12 := by
  obtain ⟨_, _, _, _, _, _, _, q1, q2, _⟩ := dateZ z
  exact ⟨q1, q2⟩
theorem sgn_len (n : Int) (k : Nat) : (sgnL n k).length ≤ 26 := by
  have := padF_le 25 n.natAbs k
  unfold sgnL
  cases decide (n < 0) <;> simp <;> omega
theorem okV_day {b : Bool} {n : Int} {s : ByteArray} (h : okV ⟨b, n, s⟩ 5 = true) (hb : b = false) : -1000000 ≤ n ∧ n ≤ 1000000 := by
  subst hb
  simp [okV, loT, hiT] at h
  omega
theorem okV_text {b : Bool} {n : Int} {s : ByteArray} (h : okV ⟨b, n, s⟩ 4 = true) (hb : b = false) : n = 0 ∧ s.size ≤ 200 := by
  subst hb
  simp [okV] at h
  omega
theorem value_Show (b : Bool) (n : Int) (s : ByteArray) (t : Int) (hn : -9223372036854775808 ≤ n ∧ n ≤ 9223372036854775807) : Den prog 435 [.agg [.bool b, .int .i64 n, .str s], .int .i64 t] [] = some (.str (ba (showV ⟨b, n, s⟩ t)), []) := by
  rw [Den_ofK [] pr_value_Show rfl]
  have hv := value_Valid b n s t hn
  have ce : (⟨#[]⟩ : ByteArray) = ba [] := rfl
  have cn : (⟨#[110, 117, 108, 108]⟩ : ByteArray) = ba nullB := rfl
  unfold showV
  simp only []
  cases d0 : (typeOk t && okV ⟨b, n, s⟩ t) with
  | false =>
    rw [d0] at hv
    simp only [f_value_Show, hv, Bool.not_false, cond_true, ce, go_sem]
  | true =>
    rw [d0] at hv
    have hok : okV ⟨b, n, s⟩ t = true := by rw [Bool.and_eq_true] at d0; exact d0.2
    cases b with
    | true => simp only [f_value_Show, hv, Bool.not_true, cond_true, cond_false, cn, go_sem]
    | false =>
      cases d1 : decide (t = 1) with
      | true =>
        have hf := FormatBool (decide (n = 1))
        have e : (bif decide (n = 1) then (⟨#[116, 114, 117, 101]⟩ : ByteArray) else ⟨#[102, 97, 108, 115, 101]⟩) = ba (boolB n) := by
          unfold boolB; cases decide (n = 1) <;> rfl
        rw [e] at hf
        simp only [f_value_Show, hv, d1, hf, Bool.not_true, cond_true, cond_false, go_sem]
      | false =>
      cases d4 : decide (t = 4) with
      | true =>
        have ht : t = 4 := by simpa using d4
        subst ht
        have hs := okV_text hok rfl
        have hq := x_quote s (by omega)
        simp only [f_value_Show, hv, d1, d4, hq, Bool.not_true, cond_true, cond_false, go_sem]
      | false =>
      cases d5 : decide (t = 5) with
      | true =>
        have ht : t = 5 := by simpa using d5
        subst ht
        obtain ⟨h0, h1⟩ := okV_day hok rfl
        have hd := value_date n h0 h1
        obtain ⟨y0, y1⟩ := year_bnd h0 h1
        have hm := mon_bnd (n + 719468)
        have hdd := dom_bnd (n + 719468)
        have p1 := value_padded (yearZ (n + 719468)) 4 (by omega) (by omega) (by decide) (by decide)
        have p2 := value_padded (monZ (n + 719468)) 2 (by omega) (by omega) (by decide) (by decide)
        have p3 := value_padded (domZ (n + 719468) + 1) 2 (by omega) (by omega) (by decide) (by decide)
        rw [show ((4 : Nat) : Int) = 4 from rfl] at p1
        rw [show ((2 : Nat) : Int) = 2 from rfl] at p2 p3
        have l1 := sgn_len (yearZ (n + 719468)) 4
        have l2 := sgn_len (monZ (n + 719468)) 2
        have l3 := sgn_len ((domZ (n + 719468) : Int) + 1) 2
        unfold dayB
        generalize sgnL (yearZ (n + 719468)) 4 = Y at *
        generalize sgnL (monZ (n + 719468)) 2 = M at *
        generalize sgnL ((domZ (n + 719468) : Int) + 1) 2 = D at *
        generalize yearZ (n + 719468) = y at *
        generalize monZ (n + 719468) = m at *
        generalize domZ (n + 719468) = dd at *
        have b1 := bin_ba .num Y [45] (by simp; omega)
        have b2 := bin_ba .num (Y ++ [45]) M (by simp; omega)
        have b3 := bin_ba .num (Y ++ [45] ++ M) [45] (by simp; omega)
        have b4 := bin_ba .num (Y ++ [45] ++ M ++ [45]) D (by simp; omega)
        simp only [List.append_assoc, List.cons_append, List.nil_append] at b1 b2 b3 b4
        simp only [f_value_Show, hv, hd, p1, p2, p3, b1, b2, b3, b4, c45, d1, d4, d5, Bool.not_true, cond_true, cond_false, go_sem]
      | false =>
        have hf := x_fmtint n hn.1 hn.2
        simp only [f_value_Show, hv, d1, d4, d5, hf, Bool.not_true, cond_true, cond_false, go_sem]
/-! The reference. -/
theorem R05_leap (y : Int) (h0 : -1000000 ≤ y) (h1 : y ≤ 1000000) : Den prog 454 [.int .i64 y] [] = some (.bool (leapB y), []) := by
  rw [Den_ofK [] pr_R05_leap rfl]
  have tm : ∀ b : Int, 0 < b → (decide (y.tmod b = 0)) = decide (y % b = 0) := by
    intro b hb
    rw [Bool.eq_iff_iff, decide_eq_true_eq, decide_eq_true_eq]
    rw [← Int.dvd_iff_tmod_eq_zero, ← Int.dvd_iff_emod_eq_zero]
  have t4 := tm 4 (by decide)
  have t100 := tm 100 (by decide)
  have t400 := tm 400 (by decide)
  have z4 : (4 : Int) ≠ 0 := by decide
  have z100 : (100 : Int) ≠ 0 := by decide
  have z400 : (400 : Int) ≠ 0 := by decide
  unfold leapB
  cases d1 : decide (y % 4 = 0) <;> cases d2 : decide (y % 100 = 0) <;> cases d3 : decide (y % 400 = 0) <;>
  simp only [f_R05_leap, z4, z100, z400, t4, t100, t400, d1, d2, d3, Bool.not_true, Bool.not_false, Bool.and_self, Bool.or_self, Bool.and_true, Bool.or_true, Bool.or_false, Bool.false_and, go_sem]
theorem R05_length (y : Int) (h0 : -1000000 ≤ y) (h1 : y ≤ 1000000) : Den prog 455 [.int .i64 y] [] = some (.int .i64 (lenD y), []) := by
  rw [Den_ofK [] pr_R05_length rfl]
  have h := R05_leap y h0 h1
  unfold lenD
  cases d : leapB y <;> (rw [d] at h; simp only [f_R05_length, h, cond_true, cond_false, go_sem])
theorem R05_month (y : Int) (m : Nat) (h0 : -1000000 ≤ y) (h1 : y ≤ 1000000) (hm : 1 ≤ m) (hm2 : m ≤ 12) : Den prog 456 [.int .i64 y, .int .i64 m] [] = some (.int .i64 (monL (leapB y) m), []) := by
  rw [Den_ofK [] pr_R05_month rfl]
  have h := R05_leap y h0 h1
  have hc : m = 1 ∨ m = 2 ∨ m = 3 ∨ m = 4 ∨ m = 5 ∨ m = 6 ∨ m = 7 ∨ m = 8 ∨ m = 9 ∨ m = 10 ∨ m = 11 ∨ m = 12 := by omega
  generalize leapB y = l at *
  rcases hc with rfl | rfl | rfl | rfl | rfl | rfl | rfl | rfl | rfl | rfl | rfl | rfl
  · have w : IntKind.wrap .i64 0 = 0 := rfl
    have g : getE [[AV.int .i64 31], [AV.int .i64 28], [AV.int .i64 31], [AV.int .i64 30], [AV.int .i64 31], [AV.int .i64 30], [AV.int .i64 31], [AV.int .i64 31], [AV.int .i64 30], [AV.int .i64 31], [AV.int .i64 30], [AV.int .i64 31]] 0 = some [AV.int .i64 31] := rfl
    have d : decide ((1 : Int) = 2) = false := rfl
    rw [show ((1 : Nat) : Int) = 1 from rfl]
    rw [show ((monL l 1 : Nat) : Int) = 31 from rfl]
    simp only [f_R05_month, w, g, d, go_sem]
  · have w : IntKind.wrap .i64 1 = 1 := rfl
    have g : getE [[AV.int .i64 31], [AV.int .i64 28], [AV.int .i64 31], [AV.int .i64 30], [AV.int .i64 31], [AV.int .i64 30], [AV.int .i64 31], [AV.int .i64 31], [AV.int .i64 30], [AV.int .i64 31], [AV.int .i64 30], [AV.int .i64 31]] 1 = some [AV.int .i64 28] := rfl
    have d : decide ((2 : Int) = 2) = true := rfl
    rw [show ((2 : Nat) : Int) = 2 from rfl]
    cases l
    · rw [show ((monL false 2 : Nat) : Int) = 28 from rfl]
      simp only [f_R05_month, h, w, g, d, go_sem]
    · rw [show ((monL true 2 : Nat) : Int) = 29 from rfl]
      simp only [f_R05_month, h, w, g, d, go_sem]
  · have w : IntKind.wrap .i64 2 = 2 := rfl
    have g : getE [[AV.int .i64 31], [AV.int .i64 28], [AV.int .i64 31], [AV.int .i64 30], [AV.int .i64 31], [AV.int .i64 30], [AV.int .i64 31], [AV.int .i64 31], [AV.int .i64 30], [AV.int .i64 31], [AV.int .i64 30], [AV.int .i64 31]] 2 = some [AV.int .i64 31] := rfl
    have d : decide ((3 : Int) = 2) = false := rfl
    rw [show ((3 : Nat) : Int) = 3 from rfl]
    rw [show ((monL l 3 : Nat) : Int) = 31 from rfl]
    simp only [f_R05_month, w, g, d, go_sem]
  · have w : IntKind.wrap .i64 3 = 3 := rfl
    have g : getE [[AV.int .i64 31], [AV.int .i64 28], [AV.int .i64 31], [AV.int .i64 30], [AV.int .i64 31], [AV.int .i64 30], [AV.int .i64 31], [AV.int .i64 31], [AV.int .i64 30], [AV.int .i64 31], [AV.int .i64 30], [AV.int .i64 31]] 3 = some [AV.int .i64 30] := rfl
    have d : decide ((4 : Int) = 2) = false := rfl
    rw [show ((4 : Nat) : Int) = 4 from rfl]
    rw [show ((monL l 4 : Nat) : Int) = 30 from rfl]
    simp only [f_R05_month, w, g, d, go_sem]
  · have w : IntKind.wrap .i64 4 = 4 := rfl
    have g : getE [[AV.int .i64 31], [AV.int .i64 28], [AV.int .i64 31], [AV.int .i64 30], [AV.int .i64 31], [AV.int .i64 30], [AV.int .i64 31], [AV.int .i64 31], [AV.int .i64 30], [AV.int .i64 31], [AV.int .i64 30], [AV.int .i64 31]] 4 = some [AV.int .i64 31] := rfl
    have d : decide ((5 : Int) = 2) = false := rfl
    rw [show ((5 : Nat) : Int) = 5 from rfl]
    rw [show ((monL l 5 : Nat) : Int) = 31 from rfl]
    simp only [f_R05_month, w, g, d, go_sem]
  · have w : IntKind.wrap .i64 5 = 5 := rfl
    have g : getE [[AV.int .i64 31], [AV.int .i64 28], [AV.int .i64 31], [AV.int .i64 30], [AV.int .i64 31], [AV.int .i64 30], [AV.int .i64 31], [AV.int .i64 31], [AV.int .i64 30], [AV.int .i64 31], [AV.int .i64 30], [AV.int .i64 31]] 5 = some [AV.int .i64 30] := rfl
    have d : decide ((6 : Int) = 2) = false := rfl
    rw [show ((6 : Nat) : Int) = 6 from rfl]
    rw [show ((monL l 6 : Nat) : Int) = 30 from rfl]
    simp only [f_R05_month, w, g, d, go_sem]
  · have w : IntKind.wrap .i64 6 = 6 := rfl
    have g : getE [[AV.int .i64 31], [AV.int .i64 28], [AV.int .i64 31], [AV.int .i64 30], [AV.int .i64 31], [AV.int .i64 30], [AV.int .i64 31], [AV.int .i64 31], [AV.int .i64 30], [AV.int .i64 31], [AV.int .i64 30], [AV.int .i64 31]] 6 = some [AV.int .i64 31] := rfl
    have d : decide ((7 : Int) = 2) = false := rfl
    rw [show ((7 : Nat) : Int) = 7 from rfl]
    rw [show ((monL l 7 : Nat) : Int) = 31 from rfl]
    simp only [f_R05_month, w, g, d, go_sem]
  · have w : IntKind.wrap .i64 7 = 7 := rfl
    have g : getE [[AV.int .i64 31], [AV.int .i64 28], [AV.int .i64 31], [AV.int .i64 30], [AV.int .i64 31], [AV.int .i64 30], [AV.int .i64 31], [AV.int .i64 31], [AV.int .i64 30], [AV.int .i64 31], [AV.int .i64 30], [AV.int .i64 31]] 7 = some [AV.int .i64 31] := rfl
    have d : decide ((8 : Int) = 2) = false := rfl
    rw [show ((8 : Nat) : Int) = 8 from rfl]
    rw [show ((monL l 8 : Nat) : Int) = 31 from rfl]
    simp only [f_R05_month, w, g, d, go_sem]
  · have w : IntKind.wrap .i64 8 = 8 := rfl
    have g : getE [[AV.int .i64 31], [AV.int .i64 28], [AV.int .i64 31], [AV.int .i64 30], [AV.int .i64 31], [AV.int .i64 30], [AV.int .i64 31], [AV.int .i64 31], [AV.int .i64 30], [AV.int .i64 31], [AV.int .i64 30], [AV.int .i64 31]] 8 = some [AV.int .i64 30] := rfl
    have d : decide ((9 : Int) = 2) = false := rfl
    rw [show ((9 : Nat) : Int) = 9 from rfl]
    rw [show ((monL l 9 : Nat) : Int) = 30 from rfl]
    simp only [f_R05_month, w, g, d, go_sem]
  · have w : IntKind.wrap .i64 9 = 9 := rfl
    have g : getE [[AV.int .i64 31], [AV.int .i64 28], [AV.int .i64 31], [AV.int .i64 30], [AV.int .i64 31], [AV.int .i64 30], [AV.int .i64 31], [AV.int .i64 31], [AV.int .i64 30], [AV.int .i64 31], [AV.int .i64 30], [AV.int .i64 31]] 9 = some [AV.int .i64 31] := rfl
    have d : decide ((10 : Int) = 2) = false := rfl
    rw [show ((10 : Nat) : Int) = 10 from rfl]
    rw [show ((monL l 10 : Nat) : Int) = 31 from rfl]
    simp only [f_R05_month, w, g, d, go_sem]
  · have w : IntKind.wrap .i64 10 = 10 := rfl
    have g : getE [[AV.int .i64 31], [AV.int .i64 28], [AV.int .i64 31], [AV.int .i64 30], [AV.int .i64 31], [AV.int .i64 30], [AV.int .i64 31], [AV.int .i64 31], [AV.int .i64 30], [AV.int .i64 31], [AV.int .i64 30], [AV.int .i64 31]] 10 = some [AV.int .i64 30] := rfl
    have d : decide ((11 : Int) = 2) = false := rfl
    rw [show ((11 : Nat) : Int) = 11 from rfl]
    rw [show ((monL l 11 : Nat) : Int) = 30 from rfl]
    simp only [f_R05_month, w, g, d, go_sem]
  · have w : IntKind.wrap .i64 11 = 11 := rfl
    have g : getE [[AV.int .i64 31], [AV.int .i64 28], [AV.int .i64 31], [AV.int .i64 30], [AV.int .i64 31], [AV.int .i64 30], [AV.int .i64 31], [AV.int .i64 31], [AV.int .i64 30], [AV.int .i64 31], [AV.int .i64 30], [AV.int .i64 31]] 11 = some [AV.int .i64 31] := rfl
    have d : decide ((12 : Int) = 2) = false := rfl
    rw [show ((12 : Nat) : Int) = 12 from rfl]
    rw [show ((monL l 12 : Nat) : Int) = 31 from rfl]
    simp only [f_R05_month, w, g, d, go_sem]
theorem date_l0 (z : Int) (K : Ex × Env × St → Option (AV × St)) (Z : Option (AV × St)) (hK : ∀ n y : Int, n + janD y = z → 0 ≤ n → n ≤ 1000000 → -5000 ≤ y → y ≤ 1970 → K (.exit 0, [(0, .int .i64 n), (5, .int .i64 y), (8, .bool false)], []) = Z) :
    ∀ (k : Nat) (n y : Int), n + janD y = z → -365 * (k : Int) ≤ n → n ≤ 1000000 → -5000 + (k : Int) ≤ y → y ≤ 1970 → (Run prog 0 (.loop 0 [0, 5] f_R05_date_l0) [(0, .int .i64 n), (5, .int .i64 y)] []).bind K = Z := by
  intro k
  induction k with
  | zero =>
    intro n y e1 e2 e3 e4 e5
    have d : decide (n < 0) = false := by simp; omega
    have hK := hK n y e1 (by omega) e3 (by omega) e5
    rw [Run_loop]
    simp only [f_R05_date_l0_eq, f_R05_date_l0u, d, hK, go_sem]
  | succ k ih =>
    intro n y e1 e2 e3 e4 e5
    rw [Run_loop]
    by_cases h : n < 0
    · have d : decide (n < 0) = true := by simpa using h
      have hl := R05_length (y - 1) (by omega) (by omega)
      have hj := jan_step (y - 1)
      rw [show y - 1 + 1 = y by omega] at hj
      have hp := lenD_pos (y - 1)
      have w1 : IntKind.wrap .i64 (y - 1) = y - 1 := wrap_i64 (by omega) (by omega)
      have w2 : IntKind.wrap .i64 (n + lenD (y - 1)) = n + lenD (y - 1) := wrap_i64 (by omega) (by omega)
      have ih := ih (n + lenD (y - 1)) (y - 1) (by omega) (by omega) (by omega) (by omega) (by omega)
      simp only [f_R05_date_l0_eq, f_R05_date_l0u, d, hl, w1, w2, ih, go_sem]
    · have d : decide (n < 0) = false := by simpa using h
      have hK := hK n y e1 (by omega) e3 (by omega) e5
      simp only [f_R05_date_l0_eq, f_R05_date_l0u, d, hK, go_sem]
theorem date_l1 (z : Int) (K : Ex × Env × St → Option (AV × St)) (Z : Option (AV × St)) (hK : ∀ n y : Int, n + janD y = z → 0 ≤ n → n < lenD y → -5000 ≤ y → y ≤ 10000 → K (.exit 2, [(0, .int .i64 n), (5, .int .i64 y), (18, .bool false)], []) = Z) :
    ∀ (k : Nat) (n y : Int), n + janD y = z → 0 ≤ n → n < 365 * (k : Int) + 365 → -5000 ≤ y → y ≤ 10000 - (k : Int) → (Run prog 0 (.loop 0 [0, 5] f_R05_date_l1) [(0, .int .i64 n), (5, .int .i64 y)] []).bind K = Z := by
  intro k
  induction k with
  | zero =>
    intro n y e1 e2 e3 e4 e5
    have hl := R05_length y (by omega) (by omega)
    have hp := lenD_pos y
    have d : decide (lenD y ≤ n) = false := by simp; omega
    have hK := hK n y e1 (by omega) (by omega) (by omega) (by omega)
    rw [Run_loop]
    simp only [f_R05_date_l1_eq, f_R05_date_l1u, d, hl, hK, go_sem]
  | succ k ih =>
    intro n y e1 e2 e3 e4 e5
    rw [Run_loop]
    have hl := R05_length y (by omega) (by omega)
    have hp := lenD_pos y
    by_cases h : lenD y ≤ n
    · have d : decide (lenD y ≤ n) = true := by simpa using h
      have hj := jan_step y
      have w1 : IntKind.wrap .i64 (y + 1) = y + 1 := wrap_i64 (by omega) (by omega)
      have w2 : IntKind.wrap .i64 (n - lenD y) = n - lenD y := wrap_i64 (by omega) (by omega)
      have ih := ih (n - lenD y) (y + 1) (by omega) (by omega) (by omega) (by omega) (by omega)
      simp only [f_R05_date_l1_eq, f_R05_date_l1u, d, hl, w1, w2, ih, go_sem]
    · have d : decide (lenD y ≤ n) = false := by simpa using h
      have hK := hK n y e1 (by omega) (by omega) (by omega) (by omega)
      simp only [f_R05_date_l1_eq, f_R05_date_l1u, d, hl, hK, go_sem]
theorem date_l2 (j : Nat) (y : Int) (hy0 : -10000 ≤ y) (hy1 : y ≤ 10000) (hj : j < cumL (leapB y) 13) (K : Ex × Env × St → Option (AV × St)) (Z : Option (AV × St)) (hK : ∀ n m : Nat, n + cumL (leapB y) m = j → n < monL (leapB y) m → 1 ≤ m → m ≤ 12 → K (.exit 4, [(0, .int .i64 n), (5, .int .i64 y), (6, .int .i64 m), (29, .bool false)], []) = Z) :
    ∀ (k : Nat) (n m : Nat), n + cumL (leapB y) m = j → 1 ≤ m → m ≤ 12 → m + k = 13 → (Run prog 0 (.loop 0 [0, 5, 6] f_R05_date_l2) [(0, .int .i64 n), (5, .int .i64 y), (6, .int .i64 m)] []).bind K = Z := by
  intro k
  have hcl : cumL (leapB y) 13 ≤ 366 := by cases leapB y <;> decide
  induction k with
  | zero => intro n m e1 e2 e3 e4; omega
  | succ k ih =>
    intro n m e1 e2 e3 e4
    rw [Run_loop]
    have hl := R05_month y m (by omega) (by omega) e2 e3
    by_cases h : monL (leapB y) m ≤ n
    · have hs := cum_step (leapB y) m e2
      have hm12 : m ≠ 12 := by intro e; subst e; simp only [Nat.reduceAdd] at hs; omega
      have d : decide (((monL (leapB y) m : Nat) : Int) ≤ (n : Int)) = true := by rw [decide_eq_true_eq]; omega
      have w1 : IntKind.wrap .i64 ((m : Int) + 1) = ((m + 1 : Nat) : Int) := by rw [wrap_i64 (by omega) (by omega)]; omega
      have w2 : IntKind.wrap .i64 ((n : Int) - ((monL (leapB y) m : Nat) : Int)) = ((n - monL (leapB y) m : Nat) : Int) := by rw [wrap_i64 (by omega) (by omega)]; omega
      have ih := ih (n - monL (leapB y) m) (m + 1) (by omega) (by omega) (by omega) (by omega)
      generalize n - monL (leapB y) m = n2 at *
      generalize m + 1 = m2 at *
      simp only [f_R05_date_l2_eq, f_R05_date_l2u, d, hl, w1, w2, ih, go_sem]
    · have d : decide (((monL (leapB y) m : Nat) : Int) ≤ (n : Int)) = false := by rw [decide_eq_false_iff_not]; omega
      have hK := hK n m e1 (by omega) e2 e3
      simp only [f_R05_date_l2_eq, f_R05_date_l2u, d, hl, hK, go_sem]
theorem loop_gc {keep : Nat} {live : List Nat} {c : ACode} {e e' : Env} {s s' : St} (h : gc 0 keep live e s = some (e', s')) : Run prog 0 (.loop keep live c) e s = Run prog 0 (.loop keep live c) e' s' := by
  rw [Run_loop_gc, h]; rfl
theorem R05_date (n : Int) (h0 : -1000000 ≤ n) (h1 : n ≤ 1000000) : Den prog 459 [.int .i64 n] [] = some (.tup [.int .i64 (yearZ (n + 719468)), .int .i64 (monZ (n + 719468)), .int .i64 (domZ (n + 719468) + 1)], []) := by
  rw [Den_ofK [] pr_R05_date rfl]
  obtain ⟨z, hz⟩ : ∃ z, n + 719468 = z := ⟨_, rfl⟩
  rw [hz]
  obtain ⟨_, _, _, _, _, _, _, qm1, qm2, q10, q11, q12, q13⟩ := dateZ z
  generalize hY : yearZ z = Y at *
  generalize hM : monZ z = M at *
  generalize hD : domZ z = D at *
  have hj := jan1970
  simp only [f_R05_date, go_sem]
  refine date_l0 z _ _ ?_ 2900 n 1970 (by omega) (by omega) h1 (by omega) (by omega)
  intro n y e1 e2 e3 e4 e5
  simp only [go_sem]
  rw [loop_gc (e' := [(0, .int .i64 n), (5, .int .i64 y)]) (s' := []) (by simp only [go_sem])]
  refine date_l1 z _ _ ?_ 2900 n y e1 e2 (by omega) e4 (by omega)
  intro n y e1 e2 e3 e4 e5
  have hyY : y = Y := jan_uniq (z := z) (by omega) (by have := jan_step y; omega) q12 q13
  subst hyY
  simp only [go_sem]
  have hcy := cum_year (leapB y)
  have hly : lenD y = (cumL (leapB y) 13 : Nat) := by rw [hcy]; unfold lenD; cases leapB y <;> rfl
  have hn : n = ((n.toNat : Nat) : Int) := by omega
  rw [hn]
  refine date_l2 n.toNat y (by omega) (by omega) (by omega) _ _ ?_ 12 n.toNat 1 (by show n.toNat + 0 = n.toNat; omega) (by decide) (by decide) rfl
  intro n2 m f1 f2 f3 f4
  have hs := cum_step (leapB y) m f3
  have hs2 := cum_step (leapB y) M qm1
  have hmM : m = M := cum_uniq (l := leapB y) (j := n.toNat) f3 qm1 (by omega) (by omega) (by omega) (by omega)
  subst hmM
  have hnD : n2 = D := by omega
  subst hnD
  have hb := monL_le (leapB y) m
  have w : IntKind.wrap .i64 ((n2 : Int) + 1) = (n2 : Int) + 1 := wrap_i64 (by omega) (by omega)
  simp only [w, go_sem]
theorem R05_decimal (n k : Nat) (hn : n < 18446744073709551616) (hk : k ≤ 20) : ∃ V, Den prog 457 [.int .u64 n, .int .i64 k] [] = some (.osl 0 V (padF 25 n k).length 0 (padF 25 n k).length, [.arr V 1 ((padF 25 n k).map bcell)]) := by
  rw [Den_ofK [] pr_R05_decimal rfl]
  have hp : (10 : Nat) ^ 25 = 10000000000000000000000000 := by decide
  simp only [f_R05_decimal, go_sem]
  have hs : ∀ out : List UInt8, out = [] → ∃ V, some (AV.osl 0 V (padF 25 n (k - out.length) ++ out).length 0 (padF 25 n (k - out.length) ++ out).length, [Ob.arr V 1 ((padF 25 n (k - out.length) ++ out).map bcell)]) = some (AV.osl 0 V (padF 25 n k).length 0 (padF 25 n k).length, [Ob.arr V 1 ((padF 25 n k).map bcell)]) := by
    intro out h; subst h; exact ⟨0, by simp⟩
  have key := fuel_ind (fun f (a : Nat × Nat × List UInt8) => a.2.1 < 10 ^ f → a.2.1 < 18446744073709551616 → k - a.2.2.length ≤ f → a.2.2.length + f ≤ 100 → ∃ V, (Run prog 0 (.loop 1 [0, 1, 5] f_R05_decimal_l0) [(0, .int .u64 (a.2.1 : Nat)), (1, .int .i64 (k : Nat)), (5, .osl 0 a.1 a.2.2.length 0 a.2.2.length)] [.arr a.1 1 (a.2.2.map bcell)]).bind
      (kc (kc (outOf 0) (next prog 0 (.seq (.region [⟨some 26, .mov (.t 5), none⟩, ⟨some 4, .mov (.t 26), none⟩] [4]) .ret))) (leaveR .yes [.t 4] 0)) = some (AV.osl 0 V (padF f a.2.1 (k - a.2.2.length) ++ a.2.2).length 0 (padF f a.2.1 (k - a.2.2.length) ++ a.2.2).length, [Ob.arr V 1 ((padF f a.2.1 (k - a.2.2.length) ++ a.2.2).map bcell)])) ?_ ?_ 25 (0, n, []) (by simp only []; omega) hn (by simp; omega) (by simp)
  · obtain ⟨V, hV⟩ := key
    simp only [List.length_nil, Nat.sub_zero, List.append_nil, List.map_nil] at hV
    exact ⟨V, hV⟩
  · intro ⟨v, n, out⟩ e1 e2 e3 e4
    simp only [] at e1 e2 e3 e4 ⊢
    have hn0 : n = 0 := by simp at e1; omega
    subst hn0
    have d1 : decide ((0 : Int) < ((0 : Nat) : Int)) = false := rfl
    have d2 : decide ((out.length : Int) < (k : Int)) = false := by simp; omega
    refine ⟨v, ?_⟩
    rw [Run_loop, padF, List.nil_append]
    simp only [f_R05_decimal_l0_eq, f_R05_decimal_l0u, d1, d2, go_sem]
  · intro f ⟨v, n, out⟩ ih e1 e2 e3 e4
    simp only [] at e1 e2 e3 e4 ih ⊢
    by_cases hc : n = 0 ∧ k - out.length = 0
    · obtain ⟨hn0, hk0⟩ := hc
      subst hn0
      have d1 : decide ((0 : Int) < ((0 : Nat) : Int)) = false := rfl
      have d2 : decide ((out.length : Int) < (k : Int)) = false := by simp; omega
      refine ⟨v, ?_⟩
      rw [Run_loop, padF, if_pos ⟨rfl, hk0⟩, List.nil_append]
      simp only [f_R05_decimal_l0_eq, f_R05_decimal_l0u, d1, d2, go_sem]
    · obtain ⟨V, ih⟩ := ih (v + 1, n / 10, UInt8.ofNat (48 + n % 10) :: out) (by simp only []; rw [Nat.pow_succ] at e1; omega) (by simp only []; omega) (by simp; omega) (by simp; omega)
      refine ⟨V, ?_⟩
      have z : (10 : Int) ≠ 0 := by decide
      have w1 : IntKind.wrap .u64 (48 + (n : Int).tmod 10) = ((48 + n % 10 : Nat) : Int) := by
        rw [show (n : Int).tmod 10 = ((n % 10 : Nat) : Int) from rfl, wrap_u64 (by omega) (by omega)]; omega
      have w2 : IntKind.wrap .u8 ((48 + n % 10 : Nat) : Int) = ((48 + n % 10 : Nat) : Int) := wrap_u8 (by omega) (by omega)
      have w3 : IntKind.wrap .u64 ((n : Int).tdiv 10) = ((n / 10 : Nat) : Int) := by
        rw [show (n : Int).tdiv 10 = ((n / 10 : Nat) : Int) from rfl]; exact wrap_u64 (by omega) (by omega)
      have hb : (out.length + 1) * 1 ≤ 140737488355328 := by omega
      have hlen : 1 + out.length = out.length + 1 := Nat.add_comm _ _
      have hne : (0 : Nat) ≠ 1 := by decide
      rw [padF, if_neg hc, List.append_assoc, List.singleton_append]
      simp only [List.length_cons, List.map_cons] at ih
      rw [show k - out.length - 1 = k - (out.length + 1) by omega]
      rw [bcell_of (show 48 + n % 10 < 256 by omega)] at ih
      rw [Run_loop]
      by_cases hn0 : n = 0
      · have d1 : decide ((0 : Int) < (n : Int)) = false := by simp; omega
        have d2 : decide ((out.length : Int) < (k : Int)) = true := by simp; omega
        generalize 48 + n % 10 = dg at *
        generalize n / 10 = n2 at *
        simp only [f_R05_decimal_l0_eq, f_R05_decimal_l0u, d1, d2, z, w1, w2, w3, hb, hlen, hne, ih, bcell_of, go_sem]
      · have d1 : decide ((0 : Int) < (n : Int)) = true := by simp; omega
        generalize 48 + n % 10 = dg at *
        generalize n / 10 = n2 at *
        simp only [f_R05_decimal_l0_eq, f_R05_decimal_l0u, d1, z, w1, w2, w3, hb, hlen, hne, ih, bcell_of, go_sem]
theorem R05_signed (n : Int) (k : Nat) (h0 : -9223372036854775808 ≤ n) (h1 : n ≤ 9223372036854775807) (hk : k ≤ 20) : ∃ V, Den prog 460 [.int .i64 n, .int .i64 k] [] = some (.osl 0 V (sgnL n k).length 0 (sgnL n k).length, [.arr V 1 ((sgnL n k).map bcell)]) := by
  unfold sgnL
  by_cases h : 0 ≤ n
  · obtain ⟨V, hV⟩ := R05_decimal n.natAbs k (by omega) hk
    refine ⟨V, ?_⟩
    rw [Den_ofK [] pr_R05_signed rfl, decide_eq_false (show ¬ n < 0 by omega), cond_false]
    have d : decide (0 ≤ n) = true := by simpa using h
    have w : IntKind.wrap .u64 n = (n.natAbs : Int) := by rw [wrap_u64 h (by omega)]; omega
    generalize n.natAbs = m at *
    simp only [f_R05_signed, d, w, hV, go_sem]
  · obtain ⟨V, hV⟩ := R05_decimal n.natAbs k (by omega) hk
    refine ⟨0, ?_⟩
    rw [Den_ofK [] pr_R05_signed rfl, decide_eq_true (show n < 0 by omega), cond_true]
    have d : decide (0 ≤ n) = false := by simpa using h
    have w1 : IntKind.wrap .i64 (n + 1) = n + 1 := wrap_i64 (by omega) (by omega)
    have w2 : IntKind.wrap .i64 (0 - (n + 1)) = 0 - (n + 1) := wrap_i64 (by omega) (by omega)
    have w3 : IntKind.wrap .u64 (0 - (n + 1)) = 0 - (n + 1) := wrap_u64 (by omega) (by omega)
    have w4 : IntKind.wrap .u64 (0 - (n + 1) + 1) = (n.natAbs : Int) := by rw [wrap_u64 (by omega) (by omega)]; omega
    have hl := padF_le 25 n.natAbs k
    generalize n.natAbs = m at *
    generalize padF 25 m k = P at *
    have hlen : 1 + P.length = P.length + 1 := Nat.add_comm _ _
    have hb : (P.length + 1) * 1 ≤ 140737488355328 := by omega
    have b45 : bcell 45 = [AV.int .u8 45] := rfl
    simp only [f_R05_signed, d, w1, w2, w3, w4, hV, hb, hlen, b45, go_sem]
def hexA : List (List AV) := [[AV.int .u8 48], [AV.int .u8 49], [AV.int .u8 50], [AV.int .u8 51], [AV.int .u8 52], [AV.int .u8 53], [AV.int .u8 54], [AV.int .u8 55], [AV.int .u8 56], [AV.int .u8 57], [AV.int .u8 97], [AV.int .u8 98], [AV.int .u8 99], [AV.int .u8 100], [AV.int .u8 101], [AV.int .u8 102]]
theorem hexA_get (k : Nat) (h : k < 16) : getE hexA (k : Int) = some [AV.int .u8 ((hexC k).toNat : Int)] := by
  have : k = 0 ∨ k = 1 ∨ k = 2 ∨ k = 3 ∨ k = 4 ∨ k = 5 ∨ k = 6 ∨ k = 7 ∨ k = 8 ∨ k = 9 ∨ k = 10 ∨ k = 11 ∨ k = 12 ∨ k = 13 ∨ k = 14 ∨ k = 15 := by omega
  rcases this with rfl | rfl | rfl | rfl | rfl | rfl | rfl | rfl | rfl | rfl | rfl | rfl | rfl | rfl | rfl | rfl <;> rfl
theorem plainC_eq (c : Nat) : plainC c = (decide (32 ≤ (c : Int)) && (decide ((c : Int) ≤ 126) && (!decide ((c : Int) = 34) && !decide ((c : Int) = 92)))) := by
  unfold plainC
  have h1 : Nat.ble 32 c = decide (32 ≤ (c : Int)) := by rw [Bool.eq_iff_iff]; simp [Nat.ble_eq]; omega
  have h2 : Nat.ble c 126 = decide ((c : Int) ≤ 126) := by rw [Bool.eq_iff_iff]; simp [Nat.ble_eq]; omega
  have h3 : Nat.beq c 34 = decide ((c : Int) = 34) := by rw [Bool.eq_iff_iff]; simp [Nat.beq_eq]; omega
  have h4 : Nat.beq c 92 = decide ((c : Int) = 92) := by rw [Bool.eq_iff_iff]; simp [Nat.beq_eq]; omega
  rw [h1, h2, h3, h4]
theorem quoteC_len : ∀ l : List UInt8, (quoteC l).length ≤ 4 * l.length
  | [] => by simp [quoteC]
  | c :: r => by
    have := quoteC_len r
    have h1 : (quote1 c).length ≤ 4 := by unfold quote1; cases plainC c.toNat <;> simp
    simp only [quoteC, List.length_append, List.length_cons]
    omega
theorem quoteC_snoc : ∀ (l : List UInt8) (c : UInt8), quoteC (l ++ [c]) = quoteC l ++ quote1 c
  | [], c => by simp [quoteC]
  | x :: r, c => by simp [quoteC, quoteC_snoc r c]
theorem R05_quoted (s : ByteArray) (hs : s.size < 1000000000) : Den prog 458 [.str s] [] = some (.osl 0 0 (quoteL s.data.toList).length 0 (quoteL s.data.toList).length, [.arr 0 1 ((quoteL s.data.toList).map bcell)]) := by
  rw [Den_ofK [] pr_R05_quoted rfl]
  simp only [f_R05_quoted, go_sem]
  rw [show [[AV.int .u8 48], [AV.int .u8 49], [AV.int .u8 50], [AV.int .u8 51], [AV.int .u8 52], [AV.int .u8 53], [AV.int .u8 54], [AV.int .u8 55], [AV.int .u8 56], [AV.int .u8 57], [AV.int .u8 97], [AV.int .u8 98], [AV.int .u8 99], [AV.int .u8 100], [AV.int .u8 101], [AV.int .u8 102]] = hexA from rfl]
  have hll : s.data.toList.length = s.size := by simp
  have hlI := str_len s
  generalize hl : s.data.toList = l at *
  refine range_ind l (by omega) (fun i (acc : List UInt8) => (Run prog 0 (.loop 2 [0, 3, 4, 5] f_R05_quoted_l0) [(0, .str s), (3, .osl 0 0 acc.length 0 acc.length), (4, .sl hexA), (5, .int .i64 i)] [.arr 0 1 (acc.map bcell), .dead]).bind _ = some (AV.osl 0 0 (quoteL l).length 0 (quoteL l).length, [Ob.arr 0 1 ((quoteL l).map bcell)]))
    (fun i rest acc => ∃ p, l = p ++ rest ∧ i = p.length ∧ acc = 34 :: quoteC p) ?_ ?_ [34] ⟨[], rfl, rfl, rfl⟩
  · intro acc ⟨p, h1, h2, h3⟩
    have hpl : p = l := by simpa using h1.symm
    subst hpl
    have d : decide ((p.length : Int) < (s.size : Int)) = false := by rw [decide_eq_false_iff_not]; omega
    have hq : quoteL p = acc ++ [34] := by rw [h3]; rfl
    have hql := quoteC_len p
    have hal : acc.length ≤ 4 * p.length + 1 := by rw [h3, List.length_cons]; omega
    have hb : (acc.length + 1) * 1 ≤ 140737488355328 := by omega
    have b34 : bcell 34 = [AV.int .u8 34] := rfl
    rw [hq, Run_loop]
    clear h1 hlI h3
    simp only [f_R05_quoted_l0_eq, f_R05_quoted_l0u, d, hb, b34, go_sem]
  · intro i pre0 rest x acc _ _ hi0 hi1 hx hc hw ⟨p, h1, h2, h3⟩ ih
    have d : decide (i < (s.size : Int)) = true := by rw [decide_eq_true_eq]; omega
    have hx' : getE s.data.toList i = some x := by rw [hl]; exact hx
    have hx2 := x.toNat_lt
    have hp := plainC_eq x.toNat
    have hpl : p.length ≤ l.length := by rw [h1, List.length_append]; omega
    have hql := quoteC_len p
    have hal : acc.length ≤ 4 * p.length + 1 := by rw [h3, List.length_cons]; omega
    have hb1 : (acc.length + 1) * 1 ≤ 140737488355328 := by omega
    have hb4 : (acc.length + 4) * 1 ≤ 140737488355328 := by omega
    have ih := ih (acc ++ quote1 x) ⟨p ++ [x], by rw [h1]; simp, by rw [List.length_append, List.length_singleton, h2]; simp, by rw [h3, quoteC_snoc]; rfl⟩
    have hbx : bcell x = [AV.int .u8 (x.toNat : Int)] := rfl
    unfold quote1 at ih
    rw [Run_loop]
    clear h1 hlI
    cases hpc : plainC x.toNat with
    | true =>
      rw [hpc] at hp ih
      simp only [cond_true, List.length_append, List.length_singleton, List.map_append, List.map_cons, List.map_nil, hbx] at ih
      have hp := hp.symm
      simp only [Bool.and_eq_true, Bool.not_eq_true'] at hp
      obtain ⟨g1, g2, g3, g4⟩ := hp
      simp only [f_R05_quoted_l0_eq, f_R05_quoted_l0u, d, hw, hx', g1, g2, g3, g4, hb1, ih, go_sem]
    | false =>
      rw [hpc] at hp ih
      have z : (16 : Int) ≠ 0 := by decide
      have w1 : IntKind.wrap .u8 ((x.toNat : Int).tdiv 16) = ((x.toNat / 16 : Nat) : Int) := by
        rw [show (x.toNat : Int).tdiv 16 = ((x.toNat / 16 : Nat) : Int) from rfl]; exact wrap_u8 (by omega) (by omega)
      have w2 : (x.toNat : Int).tmod 16 = ((x.toNat % 16 : Nat) : Int) := rfl
      have k1 := hexA_get (x.toNat / 16) (by omega)
      have k2 := hexA_get (x.toNat % 16) (by omega)
      have b92 : bcell 92 = [AV.int .u8 92] := rfl
      have b120 : bcell 120 = [AV.int .u8 120] := rfl
      have bk : ∀ c : UInt8, bcell c = [AV.int .u8 (c.toNat : Int)] := fun _ => rfl
      simp only [cond_false, List.length_append, List.length_cons, List.length_nil, List.map_append, List.map_cons, List.map_nil, b92, b120, Nat.zero_add, Nat.reduceAdd] at ih
      rw [bk (hexC (x.toNat / 16)), bk (hexC (x.toNat % 16))] at ih
      generalize x.toNat / 16 = q1 at *
      generalize x.toNat % 16 = q2 at *
      generalize (hexC q1).toNat = c1 at *
      generalize (hexC q2).toNat = c2 at *
      cases g1 : decide (32 ≤ (x.toNat : Int)) with
      | false => simp only [f_R05_quoted_l0_eq, f_R05_quoted_l0u, d, hw, hx', g1, z, w1, w2, k1, k2, hb4, ih, Nat.reduceAdd, go_sem]
      | true =>
      cases g2 : decide ((x.toNat : Int) ≤ 126) with
      | false => simp only [f_R05_quoted_l0_eq, f_R05_quoted_l0u, d, hw, hx', g1, g2, z, w1, w2, k1, k2, hb4, ih, Nat.reduceAdd, go_sem]
      | true =>
      cases g3 : decide ((x.toNat : Int) = 34) with
      | true => simp only [f_R05_quoted_l0_eq, f_R05_quoted_l0u, d, hw, hx', g1, g2, g3, z, w1, w2, k1, k2, hb4, ih, Nat.reduceAdd, go_sem]
      | false =>
      cases g4 : decide ((x.toNat : Int) = 92) with
      | true => simp only [f_R05_quoted_l0_eq, f_R05_quoted_l0u, d, hw, hx', g1, g2, g3, g4, z, w1, w2, k1, k2, hb4, ih, Nat.reduceAdd, go_sem]
      | false => rw [g1, g2, g3, g4] at hp; simp at hp
end Go.Den
