
/- The notation of values: what the program and the reference show. -/
import Derived.Test.YtimlnhpiddfbaaaDoorS5P
import Derived.Test.YtimlnhpiddfbaaaDoorS5E
namespace Go.Den
open Go
set_option linter.unusedSimpArgs false
set_option linter.unusedVariables false
set_option maxRecDepth 100000
set_option maxHeartbeats 1000000
theorem x_fmtint (n : Int) (h0 : -9223372036854775808 ≤ n) (h1 : n ≤ 9223372036854775807) : Den prog 423 [.int .i64 n, .int .i64 10] [] = some (.str (ba (sgnL n 1)), []) := by
  rw [Den_x [] pr_strconv_FormatInt rfl]
  have e : xFmtint [.int .i64 n, .int .i64 10] = some (.str (ba (itoaF n))) := if_pos ⟨h0, h1⟩
  show (xFmtint [.int .i64 n, .int .i64 10]).map (fun r => (r, ([] : St))) = _
  rw [e, itoa_sgn n h0 h1]
  rfl
theorem x_rep (k : Nat) (h : k ≤ 1000000000) : Den prog 424 [.str ⟨#[48]⟩, .int .i64 k] [] = some (.str (ba (List.replicate k 48)), []) := by
  rw [Den_x [] pr_strings_Repeat rfl]
  have e1 : (⟨#[48]⟩ : ByteArray).size = 1 := rfl
  have e2 : (⟨#[48]⟩ : ByteArray).data.toList = [48] := rfl
  have e : xRep [.str ⟨#[48]⟩, .int .i64 k] = some (.str (ba (Lib.repeatL (⟨#[48]⟩ : ByteArray).data.toList (k : Int).toNat))) := if_pos ⟨by omega, by omega, by rw [e1]; omega⟩
  show (xRep [.str ⟨#[48]⟩, .int .i64 k]).map (fun r => (r, ([] : St))) = _
  rw [e, Int.toNat_natCast, e2, repeat_rep]
  rfl
theorem x_quote (s : ByteArray) (h : s.size ≤ 1000000000) : Den prog 426 [.str s] [] = some (.str (ba (quoteL s.data.toList)), []) := by
  rw [Den_x [] pr_value_quote rfl]
  have e : xQuote [.str s] = some (.str (ba (quoteL s.data.toList))) := if_pos h
  show (xQuote [.str s]).map (fun r => (r, ([] : St))) = _
  rw [e]
  rfl
theorem FormatBool (b : Bool) : Den prog 425 [.bool b] [] = some (.str (bif b then ⟨#[116, 114, 117, 101]⟩ else ⟨#[102, 97, 108, 115, 101]⟩), []) := by
  have h : Den prog 421 [.bool b] [] = some (.str (bif b then ⟨#[116, 114, 117, 101]⟩ else ⟨#[102, 97, 108, 115, 101]⟩), []) := by
    rw [Den_ofK [] pr_internal_strconv_FormatBool rfl]
    cases b <;> simp only [f_internal_strconv_FormatBool, cond_true, cond_false, go_sem]
  rw [Den_ofK [] pr_strconv_FormatBool rfl]
  simp only [f_strconv_FormatBool, h, go_sem]
theorem value_floor (a b : Int) (ha : -1000000000000 ≤ a) (ha2 : a ≤ 1000000000000) (hb : 0 < b) (hb2 : b < 1000000000) : Den prog 422 [.int .i64 a, .int .i64 b] [] = some (.int .i64 (a / b), []) := by
  rw [Den_ofK [] pr_value_floor rfl]
  have z : b ≠ 0 := by omega
  by_cases h : 0 ≤ a
  · have e1 : a.tdiv b = a / b := Int.tdiv_eq_ediv_of_nonneg h
    have e2 : decide (a.tmod b < 0) = false := by
      have := Int.tmod_nonneg b h
      simp; omega
    have h3 : 0 ≤ a / b := Int.ediv_nonneg h (by omega)
    have h4 : a / b ≤ a := Int.ediv_le_self _ h
    have w : IntKind.wrap .i64 (a / b) = a / b := wrap_i64 (by omega) (by omega)
    simp only [f_value_floor, z, e1, e2, w, go_sem]
  · obtain ⟨c, rfl⟩ : ∃ c, a = -c := ⟨-a, by omega⟩
    have hc : 0 < c := by omega
    have e1 : (-c).tdiv b = -(c / b) := by rw [Int.neg_tdiv, Int.tdiv_eq_ediv_of_nonneg (by omega)]
    have e2 : (-c).tmod b = -(c % b) := by rw [Int.neg_tmod, Int.tmod_eq_emod_of_nonneg (by omega)]
    have h1 : 0 ≤ c / b := Int.ediv_nonneg (by omega) (by omega)
    have h2 : c / b ≤ c := Int.ediv_le_self _ (by omega)
    have h3 : 0 ≤ c % b := Int.emod_nonneg _ z
    have h4 : c % b < b := Int.emod_lt_of_pos _ hb
    have hd := Int.mul_ediv_add_emod c b
    have w : IntKind.wrap .i64 (-(c / b)) = -(c / b) := wrap_i64 (by omega) (by omega)
    have w2 : IntKind.wrap .i64 (-(c / b) - 1) = -(c / b) - 1 := wrap_i64 (by omega) (by omega)
    by_cases h0 : c % b = 0
    · have d : decide (-(c % b) < 0) = false := by simp; omega
      have e3 : -c / b = -(c / b) := by
        apply Int.ediv_eq_of_eq_mul_right z
        rw [Int.mul_neg]; omega
      rw [e3]
      simp only [f_value_floor, z, e1, e2, d, w, go_sem]
    · have d : decide (-(c % b) < 0) = true := by simp; omega
      have e3 : -c / b = -(c / b) - 1 := by
        have : -c = b * (-(c / b) - 1) + (b - c % b) := by rw [Int.mul_sub, Int.mul_neg]; omega
        rw [this, Int.add_comm, Int.add_mul_ediv_left _ _ z, Int.ediv_eq_zero_of_lt (by omega) (by omega)]
        omega
      rw [e3]
      simp only [f_value_floor, z, e1, e2, d, w, w2, go_sem]
theorem wrp {a b : Int} (h : a = b) (h1 : -1000000000000 ≤ b) (h2 : b ≤ 1000000000000) : IntKind.wrap .i64 a = b := by
  subst h; exact wrap_i64 (by omega) (by omega)
theorem vd1 (d : Nat) (h : d < 146097) : IntKind.wrap .i64 ((d : Int).tdiv 1460) = ((d / 1460 : Nat) : Int) := wrp rfl (by omega) (by omega)
theorem vd2 (d : Nat) (h : d < 146097) : IntKind.wrap .i64 ((d : Int) - ((d / 1460 : Nat) : Int)) = ((d - d / 1460 : Nat) : Int) := wrp (by omega) (by omega) (by omega)
theorem vd3 (d : Nat) (h : d < 146097) : IntKind.wrap .i64 ((d : Int).tdiv 36524) = ((d / 36524 : Nat) : Int) := wrp rfl (by omega) (by omega)
theorem vd4 (d : Nat) (h : d < 146097) : IntKind.wrap .i64 (((d - d / 1460 : Nat) : Int) + ((d / 36524 : Nat) : Int)) = ((d - d / 1460 + d / 36524 : Nat) : Int) := wrp (by omega) (by omega) (by omega)
theorem vd5 (d : Nat) (h : d < 146097) : IntKind.wrap .i64 ((d : Int).tdiv 146096) = ((d / 146096 : Nat) : Int) := wrp rfl (by omega) (by omega)
theorem vd6 (d : Nat) (h : d < 146097) : IntKind.wrap .i64 (((d - d / 1460 + d / 36524 : Nat) : Int) - ((d / 146096 : Nat) : Int)) = ((gD d : Nat) : Int) := by
  have h1 : d / 146096 ≤ d - d / 1460 + d / 36524 := by omega
  have h3 : d - d / 1460 + d / 36524 ≤ 200000 := by omega
  unfold gD
  generalize d - d / 1460 + d / 36524 = a at *
  generalize d / 146096 = b at *
  exact wrp (by omega) (by omega) (by omega)
theorem gD_lt (d : Nat) (h : d < 146097) : gD d ≤ 200000 := by unfold gD; omega
theorem vd7 (g : Nat) (h : g ≤ 200000) : IntKind.wrap .i64 ((g : Int).tdiv 365) = ((g / 365 : Nat) : Int) := wrp rfl (by omega) (by omega)
theorem vy1 (y : Nat) (h : y ≤ 399) : IntKind.wrap .i64 (365 * (y : Int)) = ((365 * y : Nat) : Int) := wrp (by omega) (by omega) (by omega)
theorem vy2 (y : Nat) (h : y ≤ 399) : IntKind.wrap .i64 ((y : Int).tdiv 4) = ((y / 4 : Nat) : Int) := wrp rfl (by omega) (by omega)
theorem vy3 (y : Nat) (h : y ≤ 399) : IntKind.wrap .i64 (((365 * y : Nat) : Int) + ((y / 4 : Nat) : Int)) = ((365 * y + y / 4 : Nat) : Int) := wrp (by omega) (by omega) (by omega)
theorem vy4 (y : Nat) (h : y ≤ 399) : IntKind.wrap .i64 ((y : Int).tdiv 100) = ((y / 100 : Nat) : Int) := wrp rfl (by omega) (by omega)
theorem vy5 (y : Nat) (h : y ≤ 399) : IntKind.wrap .i64 (((365 * y + y / 4 : Nat) : Int) - ((y / 100 : Nat) : Int)) = ((stD y : Nat) : Int) := by
  have e : stD y = 365 * y + y / 4 - y / 100 := by unfold stD; omega
  rw [e]
  exact wrp (by omega) (by omega) (by omega)
theorem vsub (a b : Nat) (h : a ≤ 1000000) (h2 : b ≤ a) : IntKind.wrap .i64 ((a : Int) - (b : Int)) = ((a - b : Nat) : Int) := wrp (by omega) (by omega) (by omega)
theorem vt1 (t : Nat) (h : t < 366) : IntKind.wrap .i64 (5 * (t : Int)) = ((5 * t : Nat) : Int) := wrp (by omega) (by omega) (by omega)
theorem vt2 (t : Nat) (h : t < 366) : IntKind.wrap .i64 (((5 * t : Nat) : Int) + 2) = ((5 * t + 2 : Nat) : Int) := wrp (by omega) (by omega) (by omega)
theorem vt3 (t : Nat) (h : t < 366) : IntKind.wrap .i64 (((5 * t + 2 : Nat) : Int).tdiv 153) = ((mD t : Nat) : Int) := by
  have e : mD t = (5 * t + 2) / 153 := rfl
  rw [e]
  exact wrp rfl (by omega) (by omega)
theorem vm1 (m : Nat) (h : m ≤ 11) : IntKind.wrap .i64 (153 * (m : Int)) = ((153 * m : Nat) : Int) := wrp (by omega) (by omega) (by omega)
theorem vm2 (m : Nat) (h : m ≤ 11) : IntKind.wrap .i64 (((153 * m : Nat) : Int) + 2) = ((153 * m + 2 : Nat) : Int) := wrp (by omega) (by omega) (by omega)
theorem vm3 (m : Nat) (h : m ≤ 11) : IntKind.wrap .i64 (((153 * m + 2 : Nat) : Int).tdiv 5) = (((153 * m + 2) / 5 : Nat) : Int) := wrp rfl (by omega) (by omega)
theorem vm5 (m : Nat) (h : m ≤ 11) : IntKind.wrap .i64 ((m : Int) + 3) = ((m + 3 : Nat) : Int) := wrp (by omega) (by omega) (by omega)
theorem vadd (a : Nat) (h : a ≤ 1000) : IntKind.wrap .i64 ((a : Int) + 1) = (a : Int) + 1 := wrp rfl (by omega) (by omega)
theorem vk1 (k : Int) (h : -100 ≤ k) (h2 : k ≤ 100) : IntKind.wrap .i64 (k * 400) = k * 400 := wrp rfl (by omega) (by omega)
theorem vk2 (k : Int) (y : Nat) (h : -100 ≤ k) (h2 : k ≤ 100) (hy : y ≤ 399) : IntKind.wrap .i64 ((y : Int) + k * 400) = (y : Int) + k * 400 := wrp rfl (by omega) (by omega)
theorem vk3 (k : Int) (y : Nat) (h : -100 ≤ k) (h2 : k ≤ 100) (hy : y ≤ 399) : IntKind.wrap .i64 ((y : Int) + k * 400 + 1) = (y : Int) + k * 400 + 1 := wrp rfl (by omega) (by omega)
theorem vk4 (k : Int) (h : -100 ≤ k) (h2 : k ≤ 100) : IntKind.wrap .i64 (k * 146097) = k * 146097 := wrp rfl (by omega) (by omega)
theorem monL_le (l : Bool) (m : Nat) : monL l m ≤ 31 := by unfold monL; split <;> (try cases l) <;> simp
theorem value_date (n : Int) (h0 : -1000000 ≤ n) (h1 : n ≤ 1000000) : Den prog 427 [.int .i64 n] [] = some (.tup [.int .i64 (yearZ (n + 719468)), .int .i64 (monZ (n + 719468)), .int .i64 (domZ (n + 719468) + 1)], []) := by
  rw [Den_ofK [] pr_value_date rfl]
  obtain ⟨z, hz⟩ : ∃ z, n + 719468 = z := ⟨_, rfl⟩
  rw [hz]
  have hz0 : -300000 ≤ z := by omega
  have hz1 : z ≤ 2000000 := by omega
  have w0 : IntKind.wrap .i64 (n + 719468) = z := wrp hz (by omega) (by omega)
  clear hz h0 h1
  have hfl := value_floor z 146097 (by omega) (by omega) (by omega) (by omega)
  have hk1 : -100 ≤ eraK z := by unfold eraK; omega
  have hk2 : eraK z ≤ 100 := by unfold eraK; omega
  obtain ⟨q1, q2, q3, q4, q5, q6, q7, q8, q9, q10, q11, _, _⟩ := dateZ z
  have hdd : domZ z ≤ 31 := Nat.le_trans (Nat.le_of_lt q11) (monL_le _ _)
  clear q10 q11
  have w2 : IntKind.wrap .i64 (z - eraK z * 146097) = (doeN z : Int) := by rw [q2]; exact wrp rfl (by omega) (by omega)
  have e5 : yearZ z = (yoeN z : Int) + eraK z * 400 + (if 10 ≤ mD (doyN z) then 1 else 0) := by unfold yearZ; omega
  have e6 : monZ z = if 10 ≤ mD (doyN z) then mD (doyN z) - 9 else mD (doyN z) + 3 := rfl
  have x4 : IntKind.wrap .i64 ((doyN z : Int) - (((153 * mD (doyN z) + 2) / 5 : Nat) : Int)) = ((domZ z : Nat) : Int) := vsub _ _ (by omega) q7
  have u6 : IntKind.wrap .i64 ((doeN z : Int) - ((stD (yoeN z) : Nat) : Int)) = ((doyN z : Nat) : Int) := vsub _ _ (by omega) q4
  have t7 : IntKind.wrap .i64 ((gD (doeN z) : Int).tdiv 365) = ((yoeN z : Nat) : Int) := vd7 _ (gD_lt _ q1)
  rw [show z / 146097 = eraK z from rfl] at hfl
  have w1 := vk4 (eraK z) hk1 hk2
  have x6 := vk1 (eraK z) hk1 hk2
  have x7 := vk2 (eraK z) (yoeN z) hk1 hk2 q3
  have x9 := vk3 (eraK z) (yoeN z) hk1 hk2 q3
  have x8 := vadd (domZ z) (by omega)
  have t1 := vd1 _ q1
  have t2 := vd2 _ q1
  have t3 := vd3 _ q1
  have t4 := vd4 _ q1
  have t5 := vd5 _ q1
  have t6 := vd6 _ q1
  have u1 := vy1 _ q3
  have u2 := vy2 _ q3
  have u3 := vy3 _ q3
  have u4 := vy4 _ q3
  have u5 := vy5 _ q3
  have v1 := vt1 _ q5
  have v2 := vt2 _ q5
  have v3 := vt3 _ q5
  have x1 := vm1 _ q6
  have x2 := vm2 _ q6
  have x3 := vm3 _ q6
  have x5 := vm5 _ q6
  clear q1 q2 q4 q5 q7 q8 q9 hz0 hz1 hk1 hk2
  have nz0 : (365 : Int) ≠ 0 := by decide
  generalize hDD : domZ z = dd at *
  generalize hM : monZ z = M at *
  generalize hY : yearZ z = Y at *
  clear hDD hM hY
  generalize eraK z = k at *
  generalize hd : doeN z = d at *
  generalize hy : yoeN z = y at *
  generalize ht : doyN z = t at *
  clear hd hy ht
  generalize (153 * mD t + 2) / 5 = r1 at *
  generalize 153 * mD t + 2 = r2 at *
  generalize 153 * mD t = r3 at *
  generalize mD t = m at *
  generalize 5 * t + 2 = r4 at *
  generalize 5 * t = r5 at *
  generalize stD y = r6 at *
  generalize 365 * y + y / 4 = r7 at *
  generalize 365 * y = r8 at *
  generalize y / 4 = r9 at *
  generalize y / 100 = r10 at *
  generalize gD d = r11 at *
  generalize d - d / 1460 + d / 36524 = r12 at *
  generalize d - d / 1460 = r13 at *
  generalize d / 1460 = r14 at *
  generalize d / 36524 = r15 at *
  generalize d / 146096 = r16 at *
  generalize hm3 : m + 3 = m3 at *
  have nz1 : (1460 : Int) ≠ 0 := by decide
  have nz2 : (36524 : Int) ≠ 0 := by decide
  have nz3 : (146096 : Int) ≠ 0 := by decide
  have nz5 : (4 : Int) ≠ 0 := by decide
  have nz6 : (100 : Int) ≠ 0 := by decide
  have nz7 : (153 : Int) ≠ 0 := by decide
  have nz8 : (5 : Int) ≠ 0 := by decide
  by_cases hm : 10 ≤ m
  · have d12 : decide ((12 : Int) < (m3 : Int)) = true := by rw [decide_eq_true_eq]; omega
    have y1 : IntKind.wrap .i64 ((m3 : Int) - 12) = (M : Int) := wrp (by rw [e6, if_pos hm]; omega) (by omega) (by rw [e6, if_pos hm]; omega)
    have y2 : IntKind.wrap .i64 ((y : Int) + k * 400 + 1) = Y := by rw [x9, e5, if_pos hm]
    clear e5 e6 x9 hm q6 q3 hdd hm3
    simp only [f_value_date, w0, hfl, w1, w2, nz0, nz1, nz2, nz3, nz5, nz6, nz7, nz8, t1, t2, t3, t4, t5, t6, t7, u1, u2, u3, u4, u5, u6, v1, v2, v3, x1, x2, x3, x4, x5, x6, x7, x8, d12, y1, y2, go_sem]
  · have d12 : decide ((12 : Int) < (m3 : Int)) = false := by rw [decide_eq_false_iff_not]; omega
    have y1 : M = m3 := by rw [e6, if_neg hm]
    have y2 : Y = (y : Int) + k * 400 := by rw [e5, if_neg hm, Int.add_zero]
    rw [y1, y2]
    clear e5 e6 x9 hm q6 q3 hdd hm3
    simp only [f_value_date, w0, hfl, w1, w2, nz0, nz1, nz2, nz3, nz5, nz6, nz7, nz8, t1, t2, t3, t4, t5, t6, t7, u1, u2, u3, u4, u5, u6, v1, v2, v3, x1, x2, x3, x4, x5, x6, x7, x8, d12, go_sem]
theorem padF_dig (f n : Nat) (h : n < 10 ^ f) (hf : 1 ≤ f) (hf2 : f ≤ 25) (l : Nat) (hl : l ≤ f) : padF 25 n l = padF f n l := padF_more f 25 n l h hl hf2
/-- A number in at least so many digits, as the program writes it. -/
theorem value_padded (n : Int) (k : Nat) (h0 : -1000000000000 ≤ n) (h1 : n ≤ 1000000000000) (hk : 1 ≤ k) (hk2 : k ≤ 10) : Den prog 428 [.int .i64 n, .int .i64 k] [] = some (.str (ba (sgnL n k)), []) := by
  rw [Den_ofK [] pr_value_padded rfl]
  have w1 : IntKind.wrap .i64 (0 - n) = -n := wrp (by omega) (by omega) (by omega)
  have hmx : (if n < -n then -n else n) = (n.natAbs : Int) := by split <;> omega
  have hp : (10 : Nat) ^ 20 = 100000000000000000000 := by decide
  have hf := x_fmtint (n.natAbs : Int) (by omega) (by omega)
  have hs1 : sgnL (n.natAbs : Int) 1 = padF 25 n.natAbs 1 := by
    unfold sgnL
    rw [decide_eq_false (by omega), cond_false, Int.natAbs_natCast]
  rw [hs1] at hf
  have hp25 : n.natAbs < 10 ^ 25 := Nat.lt_trans (show n.natAbs < 10 ^ 20 by omega) (by decide)
  have hpad := padF_pad 25 n.natAbs k hk (by omega) hp25
  have hlen := padF_le 25 n.natAbs 1
  unfold sgnL
  rw [hpad]
  generalize padF 25 n.natAbs 1 = D at *
  have w2 : IntKind.wrap .i64 ((k : Int) - (D.length : Int)) = (k : Int) - D.length := wrp rfl (by omega) (by omega)
  have hmx2 : (if (0 : Int) < (k : Int) - (D.length : Int) then (k : Int) - (D.length : Int) else 0) = ((k - D.length : Nat) : Int) := by split <;> omega
  have hr := x_rep (k - D.length) (by omega)
  have hsz : (List.replicate (k - D.length) (48 : UInt8)).length + D.length ≤ 9223372036854775807 := by rw [List.length_replicate]; omega
  have hsz2 : [(45 : UInt8)].length + (List.replicate (k - D.length) (48 : UInt8) ++ D).length ≤ 9223372036854775807 := by
    rw [List.length_append, List.length_replicate, List.length_singleton]; omega
  have hb1 := bin_ba .num (List.replicate (k - D.length) (48 : UInt8)) D hsz
  have hb2 := bin_ba .num [45] (List.replicate (k - D.length) (48 : UInt8) ++ D) hsz2
  clear hpad hs1 hp25 hsz hsz2
  cases d : decide (n < 0) with
  | true =>
    simp only [cond_true]
    simp only [f_value_padded, w1, hmx, hf, ba_size, w2, hmx2, hr, hb1, hb2, c45, d, go_sem]
  | false =>
    simp only [cond_false]
    simp only [f_value_padded, w1, hmx, hf, ba_size, w2, hmx2, hr, hb1, d, go_sem]
/-! Notations. -/
def nullB : List UInt8 := [110, 117, 108, 108]
def boolB (n : Int) : List UInt8 := bif decide (n = 1) then [116, 114, 117, 101] else [102, 97, 108, 115, 101]
def dayB (n : Int) : List UInt8 := sgnL (yearZ (n + 719468)) 4 ++ [45] ++ sgnL (monZ (n + 719468)) 2 ++ [45] ++ sgnL (domZ (n + 719468) + 1) 2
def showV (v : Val) (t : Int) : List UInt8 := bif !(typeOk t && okV v t) then [] else bif v.null then nullB else
  bif decide (t = 1) then boolB v.n else bif decide (t = 4) then quoteL v.s.data.toList else bif decide (t = 5) then dayB v.n else sgnL v.n 1
theorem year_bnd {n : Int} (h0 : -1000000 ≤ n) (h1 : n ≤ 1000000) : -5000 ≤ yearZ (n + 719468) ∧ yearZ (n + 719468) ≤ 10000 := by
  obtain ⟨_, _, q3, _⟩ := dateZ (n + 719468)
  unfold yearZ eraK
  split <;> omega
theorem dom_bnd (z : Int) : domZ z ≤ 30 := by
  obtain ⟨_, _, _, _, _, _, _, _, _, _, q, _, _⟩ := dateZ z
  have := monL_le (leapB (yearZ z)) (monZ z)
  omega
theorem mon_bnd (z : Int) : 1 ≤ monZ z ∧ monZ z ≤ 12 := by
  obtain ⟨_, _, _, _, _, _, _, q1, q2, _⟩ := dateZ z
  exact ⟨q1, q2⟩
theorem sgn_len (n : Int) (k : Nat) : (sgnL n k).length ≤ 26 := by
  have := padF_le 25 n.natAbs k
  unfold sgnL
  cases decide (n < 0) <;> simp <;> omega
theorem okV_day {b : Bool} {n : Int} {s : ByteArray} (h : okV ⟨b, n, s⟩ 5 = true) (hb : b = false) : -1000000 ≤ n ∧ n ≤ 1000000 := by
  subst hb
  simp [okV, loT, hiT] at h
  omega
theorem okV_text {b : Bool} {n : Int} {s : ByteArray} (h : okV ⟨b, n, s⟩ 4 = true) (hb : b = false) : n = 0 ∧ s.size ≤ 200 := by
  subst hb
  simp [okV] at h
  omega
theorem value_Show (b : Bool) (n : Int) (s : ByteArray) (t : Int) (hn : -9223372036854775808 ≤ n ∧ n ≤ 9223372036854775807) : Den prog 435 [.agg [.bool b, .int .i64 n, .str s], .int .i64 t] [] = some (.str (ba (showV ⟨b, n, s⟩ t)), []) := by
  rw [Den_ofK [] pr_value_Show rfl]
  have hv := value_Valid b n s t hn
  have ce : (⟨#[]⟩ : ByteArray) = ba [] := rfl
  have cn : (⟨#[110, 117, 108, 108]⟩ : ByteArray) = ba nullB := rfl
  unfold showV
  simp only []
  cases d0 : (typeOk t && okV ⟨b, n, s⟩ t) with
  | false =>
    rw [d0] at hv
    simp only [f_value_Show, hv, Bool.not_false, cond_true, ce, go_sem]
  | true =>
    rw [d0] at hv
    have hok : okV ⟨b, n, s⟩ t = true := by rw [Bool.and_eq_true] at d0; exact d0.2
    cases b with
    | true => simp only [f_value_Show, hv, Bool.not_true, cond_true, cond_false, cn, go_sem]
    | false =>
      cases d1 : decide (t = 1) with
      | true =>
        have hf := FormatBool (decide (n = 1))
        have e : (bif decide (n = 1) then (⟨#[116, 114, 117, 101]⟩ : ByteArray) else ⟨#[102, 97, 108, 115, 101]⟩) = ba (boolB n) := by
          unfold boolB; cases decide (n = 1) <;> rfl
        rw [e] at hf
        simp only [f_value_Show, hv, d1, hf, Bool.not_true, cond_true, cond_false, go_sem]
      | false =>
      cases d4 : decide (t = 4) with
      | true =>
        have ht : t = 4 := by simpa using d4
        subst ht
        have hs := okV_text hok rfl
        have hq := x_quote s (by omega)
        simp only [f_value_Show, hv, d1, d4, hq, Bool.not_true, cond_true, cond_false, go_sem]
      | false =>
      cases d5 : decide (t = 5) with
      | true =>
        have ht : t = 5 := by simpa using d5
        subst ht
        obtain ⟨h0, h1⟩ := okV_day hok rfl
        have hd := value_date n h0 h1
        obtain ⟨y0, y1⟩ := year_bnd h0 h1
        have hm := mon_bnd (n + 719468)
        have hdd := dom_bnd (n + 719468)
        have p1 := value_padded (yearZ (n + 719468)) 4 (by omega) (by omega) (by decide) (by decide)
        have p2 := value_padded (monZ (n + 719468)) 2 (by omega) (by omega) (by decide) (by decide)
        have p3 := value_padded (domZ (n + 719468) + 1) 2 (by omega) (by omega) (by decide) (by decide)
        rw [show ((4 : Nat) : Int) = 4 from rfl] at p1
        rw [show ((2 : Nat) : Int) = 2 from rfl] at p2 p3
        have l1 := sgn_len (yearZ (n + 719468)) 4
        have l2 := sgn_len (monZ (n + 719468)) 2
        have l3 := sgn_len ((domZ (n + 719468) : Int) + 1) 2
        unfold dayB
        generalize sgnL (yearZ (n + 719468)) 4 = Y at *
        generalize sgnL (monZ (n + 719468)) 2 = M at *
        generalize sgnL ((domZ (n + 719468) : Int) + 1) 2 = D at *
        generalize yearZ (n + 719468) = y at *
        generalize monZ (n + 719468) = m at *
        generalize domZ (n + 719468) = dd at *
        have b1 := bin_ba .num Y [45] (by simp; omega)
        have b2 := bin_ba .num (Y ++ [45]) M (by simp; omega)
        have b3 := bin_ba .num (Y ++ [45] ++ M) [45] (by simp; omega)
        have b4 := bin_ba .num (Y ++ [45] ++ M ++ [45]) D (by simp; omega)
        simp only [List.append_assoc, List.cons_append, List.nil_append] at b1 b2 b3 b4
        simp only [f_value_Show, hv, hd, p1, p2, p3, b1, b2, b3, b4, c45, d1, d4, d5, Bool.not_true, cond_true, cond_false, go_sem]
      | false =>
        have hf := x_fmtint n hn.1 hn.2
        simp only [f_value_Show, hv, d1, d4, d5, hf, Bool.not_true, cond_true, cond_false, go_sem]
/-! The reference. -/
theorem loop_gc {keep : Nat} {live : List Nat} {c : ACode} {e e' : Env} {s s' : St} (h : gc 0 keep live e s = some (e', s')) : Run prog 0 (.loop keep live c) e s = Run prog 0 (.loop keep live c) e' s' := by
  rw [Run_loop_gc, h]; rfl
def hexA : List (List AV) := [[AV.int .u8 48], [AV.int .u8 49], [AV.int .u8 50], [AV.int .u8 51], [AV.int .u8 52], [AV.int .u8 53], [AV.int .u8 54], [AV.int .u8 55], [AV.int .u8 56], [AV.int .u8 57], [AV.int .u8 97], [AV.int .u8 98], [AV.int .u8 99], [AV.int .u8 100], [AV.int .u8 101], [AV.int .u8 102]]
theorem hexA_get (k : Nat) (h : k < 16) : getE hexA (k : Int) = some [AV.int .u8 ((hexC k).toNat : Int)] := by
  have : k = 0 ∨ k = 1 ∨ k = 2 ∨ k = 3 ∨ k = 4 ∨ k = 5 ∨ k = 6 ∨ k = 7 ∨ k = 8 ∨ k = 9 ∨ k = 10 ∨ k = 11 ∨ k = 12 ∨ k = 13 ∨ k = 14 ∨ k = 15 := by omega
  rcases this with rfl | rfl | rfl | rfl | rfl | rfl | rfl | rfl | rfl | rfl | rfl | rfl | rfl | rfl | rfl | rfl <;> rfl
theorem plainC_eq (c : Nat) : plainC c = (decide (32 ≤ (c : Int)) && (decide ((c : Int) ≤ 126) && (!decide ((c : Int) = 34) && !decide ((c : Int) = 92)))) := by
  unfold plainC
  have h1 : Nat.ble 32 c = decide (32 ≤ (c : Int)) := by rw [Bool.eq_iff_iff]; simp [Nat.ble_eq]; omega
  have h2 : Nat.ble c 126 = decide ((c : Int) ≤ 126) := by rw [Bool.eq_iff_iff]; simp [Nat.ble_eq]; omega
  have h3 : Nat.beq c 34 = decide ((c : Int) = 34) := by rw [Bool.eq_iff_iff]; simp [Nat.beq_eq]; omega
  have h4 : Nat.beq c 92 = decide ((c : Int) = 92) := by rw [Bool.eq_iff_iff]; simp [Nat.beq_eq]; omega
  rw [h1, h2, h3, h4]
theorem quoteC_len : ∀ l : List UInt8, (quoteC l).length ≤ 4 * l.length
  | [] => by simp [quoteC]
  | c :: r => by
    have := quoteC_len r
    have h1 : (quote1 c).length ≤ 4 := by unfold quote1; cases plainC c.toNat <;> simp
    simp only [quoteC, List.length_append, List.length_cons]
    omega
theorem quoteC_snoc : ∀ (l : List UInt8) (c : UInt8), quoteC (l ++ [c]) = quoteC l ++ quote1 c
  | [], c => by simp [quoteC]
  | x :: r, c => by simp [quoteC, quoteC_snoc r c]
end Go.Den
