/- What both parse: numbers, days. -/
import Derived.Test.YtimlnhpiddfbaaaGreatDoorS5Q
import Derived.Test.YtimlnhpiddfbaaaGreatDoorS5T
namespace Go.Den
open Go
set_option linter.unusedSimpArgs false
set_option linter.unusedVariables false
set_option maxRecDepth 100000
set_option maxHeartbeats 1000000
theorem R05_number (s : ByteArray) (hs : s.size < 1000000000) : Den prog 468 [.str s] [] = some (.int .u64 (numI 0 s.data.toList), []) := by
  rw [Den_ofK [] pr_R05_number rfl]
  simp only [f_R05_number, go_sem]
  have hll : s.data.toList.length = s.size := by simp
  generalize hl : s.data.toList = l at *
  refine range_ind l (by omega) (fun i (a : Int) => (Run prog 0 (.loop 0 [0, 3, 4] f_R05_number_l0) [(0, .str s), (3, .int .u64 a), (4, .int .i64 i)] []).bind _ = some (AV.int .u64 (numI 0 l), []))
    (fun i rest a => numI a rest = numI 0 l) ?_ ?_ 0 rfl
  · intro a h
    have d : decide ((l.length : Int) < (s.size : Int)) = false := by rw [decide_eq_false_iff_not]; omega
    have h : a = numI 0 l := h
    rw [Run_loop, ← h]
    simp only [f_R05_number_l0_eq, f_R05_number_l0u, d, go_sem]
  · intro i pre0 rest x a _ _ hi0 hi1 hx hc hw h ih
    have d : decide (i < (s.size : Int)) = true := by rw [decide_eq_true_eq]; omega
    have hx' : getE s.data.toList i = some x := by rw [hl]; exact hx
    have wx : IntKind.wrap .u64 (x.toNat : Int) = x.toNat := wrap_u64 (by omega) (by have := x.toNat_lt; omega)
    have ih := ih (IntKind.wrap .u64 (IntKind.wrap .u64 (IntKind.wrap .u64 (10 * a) + x.toNat) - 48)) h
    rw [Run_loop]
    simp only [f_R05_number_l0_eq, f_R05_number_l0u, d, hw, hx', wx, ih, go_sem]
/-- A number guessed. -/
def gInt (l : List UInt8) : Int := match l with
  | [] => 0
  | c :: r => bif decide (c = 45) then IntKind.wrap .i64 (0 - IntKind.wrap .i64 (numI 0 r)) else IntKind.wrap .i64 (numI 0 (c :: r))
theorem gInt_bnd (l : List UInt8) : -9223372036854775808 ≤ gInt l ∧ gInt l ≤ 9223372036854775807 := by
  have h : ∀ a : Int, -9223372036854775808 ≤ IntKind.wrap .i64 a ∧ IntKind.wrap .i64 a ≤ 9223372036854775807 := by
    intro a; simp [IntKind.wrap, IntKind.bits, IntKind.signed]; omega
  unfold gInt
  cases l with
  | nil => decide
  | cons c r => simp only []; cases decide (c = 45) <;> exact h _
theorem gInt_sgn (n : Int) (k : Nat) (hk : 1 ≤ k) (hk2 : k ≤ 20) (h0 : -9223372036854775808 ≤ n) (h1 : n ≤ 9223372036854775807) : gInt (sgnL n k) = n := by
  have hp : (10 : Nat) ^ 20 = 100000000000000000000 := by decide
  have hn : n.natAbs < 10 ^ 25 := by
    have : (10 : Nat) ^ 20 < 10 ^ 25 := by decide
    omega
  have hnum := numI_pad 25 n.natAbs k hn (by omega)
  have hlen := padF_len 25 n.natAbs k (by omega)
  have hdig := padF_dig2 25 n.natAbs k
  unfold sgnL
  generalize hP : padF 25 n.natAbs k = P at *
  by_cases hs : n < 0
  · rw [decide_eq_true hs, cond_true]
    show IntKind.wrap .i64 (0 - IntKind.wrap .i64 (numI 0 P)) = n
    rw [hnum]
    by_cases h63 : n.natAbs = 9223372036854775808
    · have : n = -9223372036854775808 := by omega
      subst this; rfl
    · rw [wrap_i64 (a := (n.natAbs : Int)) (by omega) (by omega), wrap_i64 (by omega) (by omega)]; omega
  · rw [decide_eq_false hs, cond_false]
    obtain ⟨c, r, hc⟩ : ∃ c r, P = c :: r := by
      cases P with
      | nil => simp at hlen; omega
      | cons c r => exact ⟨c, r, rfl⟩
    have hd := hdig c (by rw [hc]; simp)
    subst hc
    have hc45 : decide (c = 45) = false := by
      rw [decide_eq_false_iff_not]
      intro e; subst e; exact absurd hd.1 (by decide)
    show (bif decide (c = 45) then IntKind.wrap .i64 (0 - IntKind.wrap .i64 (numI 0 r)) else IntKind.wrap .i64 (numI 0 (c :: r))) = n
    rw [hc45, cond_false, hnum, wrap_i64 (by omega) (by omega)]
    omega
theorem R05_guessInt (l : List UInt8) (hs : l.length < 1000000000) : Den prog 469 [.str (ba l)] [] = some (.int .i64 (gInt l), []) := by
  rw [Den_ofK [] pr_R05_guessInt rfl]
  have hn := R05_number (ba l) (by rw [ba_size]; exact hs)
  rw [ba_data] at hn
  cases l with
  | nil =>
    have d : decide ((0 : Int) < ((0 : Nat) : Int)) = false := rfl
    have e : numI 0 [] = 0 := rfl
    have w : IntKind.wrap .i64 0 = 0 := rfl
    rw [e] at hn
    simp only [f_R05_guessInt, ba_size, List.length_nil, d, hn, w, gInt, go_sem]
  | cons c r =>
    have d : decide ((0 : Int) < ((r.length : Int) + 1)) = true := by rw [decide_eq_true_eq]; omega
    have hx : getE (c :: r) 0 = some c := rfl
    have q : decide ((c.toNat : Int) = 45) = decide (c = 45) := by
      rw [Bool.eq_iff_iff, decide_eq_true_eq, decide_eq_true_eq]
      constructor
      · intro h; apply UInt8.toNat_inj.1; show c.toNat = 45; omega
      · intro h; subst h; rfl
    have hx1 : (ba (c :: r)).extract 1 (r.length + 1) = ba r := by
      rw [ba_extract]; simp
    have hn2 := R05_number (ba r) (by rw [ba_size]; simp at hs; omega)
    rw [ba_data] at hn2
    have hs1 : (1 : Int) ≤ ((r.length : Int) + 1) := by omega
    have h01 : (0 : Int) ≤ 1 := by decide
    cases dc : decide (c = 45) with
    | true => simp only [f_R05_guessInt, ba_size, ba_data, d, hx, q, dc, hx1, hn2, hs1, h01, gInt, cond_true, go_sem]
    | false => simp only [f_R05_guessInt, ba_size, ba_data, d, hx, q, dc, hn, gInt, cond_false, go_sem]
/-- A day guessed. -/
def gDay (l : List UInt8) : Int :=
  bif decide (l.length < 10) || decide (12 < l.length) then 0 else
  let y := gInt (l.take (l.length - 6))
  let m := IntKind.wrap .i64 (numI 0 ((l.drop (l.length - 5)).take 2))
  let d := IntKind.wrap .i64 (numI 0 (l.drop (l.length - 2)))
  bif decide (y < -1000) || decide (5000 < y) || decide (m < 1) || decide (12 < m) || decide (d < 1) || decide (31 < d) then 0 else
  janD y - 719468 + (cumL (leapB y) m.toNat : Nat) + d - 1
theorem jan_bnd {a b : Int} (h : a ≤ b) : janD b - janD a ≤ 366 * (b - a) ∧ 0 ≤ janD b - janD a := by
  obtain ⟨k, rfl⟩ : ∃ k : Nat, b = a + k := ⟨(b - a).toNat, by omega⟩
  clear h
  induction k with
  | zero => simp
  | succ k ih =>
    have e := jan_step (a + k)
    have := lenD_pos (a + k)
    rw [show a + ((k + 1 : Nat) : Int) = a + k + 1 by omega, e]
    omega
theorem gd_l0 (Y m d : Int) (hY0 : -5000 ≤ Y) (hY1 : Y ≤ 10000) (K : Ex × Env × St → Option (AV × St)) (Z : Option (AV × St)) (hK : ∀ y : Int, y = (if Y ≤ 1970 then 1970 else Y) → K (.exit 0, [(4, .int .i64 Y), (5, .int .i64 m), (6, .int .i64 d), (7, .int .i64 (janD y - 719468)), (8, .int .i64 y), (64, .bool false)], []) = Z) :
    ∀ (k : Nat) (y : Int), 1970 ≤ y → (y ≤ Y ∨ y = 1970) → Y - y ≤ k → (Run prog 0 (.loop 0 [4, 5, 6, 7, 8] f_R05_guessDay_l0) [(4, .int .i64 Y), (5, .int .i64 m), (6, .int .i64 d), (7, .int .i64 (janD y - 719468)), (8, .int .i64 y)] []).bind K = Z := by
  intro k
  induction k with
  | zero =>
    intro y h0 h1 h2
    have dd : decide (y < Y) = false := by rw [decide_eq_false_iff_not]; omega
    have hK := hK y (by split <;> omega)
    rw [Run_loop]
    simp only [f_R05_guessDay_l0_eq, f_R05_guessDay_l0u, dd, hK, go_sem]
  | succ k ih =>
    intro y h0 h1 h2
    rw [Run_loop]
    by_cases h : y < Y
    · have dd : decide (y < Y) = true := decide_eq_true h
      have hl := R05_length y (by omega) (by omega)
      have hj := jan_step y
      have hb := jan_bnd h0
      rw [jan1970] at hb
      have hp := lenD_pos y
      have w1 : IntKind.wrap .i64 (janD y - 719468 + lenD y) = janD (y + 1) - 719468 := by rw [wrap_i64 (by omega) (by omega)]; omega
      have w2 : IntKind.wrap .i64 (y + 1) = y + 1 := wrap_i64 (by omega) (by omega)
      have ih := ih (y + 1) (by omega) (by omega) (by omega)
      simp only [f_R05_guessDay_l0_eq, f_R05_guessDay_l0u, dd, hl, w1, w2, ih, go_sem]
    · have dd : decide (y < Y) = false := decide_eq_false h
      have hK := hK y (by split <;> omega)
      simp only [f_R05_guessDay_l0_eq, f_R05_guessDay_l0u, dd, hK, go_sem]
theorem gd_l1 (Y m d : Int) (hY0 : -5000 ≤ Y) (hY1 : Y ≤ 10000) (K : Ex × Env × St → Option (AV × St)) (Z : Option (AV × St)) (hK : ∀ y : Int, K (.exit 2, [(4, .int .i64 Y), (5, .int .i64 m), (6, .int .i64 d), (7, .int .i64 (janD Y - 719468)), (9, .int .i64 y), (73, .bool false)], []) = Z) :
    ∀ (k : Nat) (y : Int), Y ≤ y → (y ≤ 1970 ∨ y = Y) → 1970 - y ≤ k → (Run prog 0 (.loop 0 [4, 5, 6, 7, 9] f_R05_guessDay_l1) [(4, .int .i64 Y), (5, .int .i64 m), (6, .int .i64 d), (7, .int .i64 (janD (if Y ≤ 1970 then 1970 else Y) - 719468 - (janD y - janD Y))), (9, .int .i64 y)] []).bind K = Z := by
  intro k
  induction k with
  | zero =>
    intro y h0 h1 h2
    have dd : decide (y < 1970) = false := by rw [decide_eq_false_iff_not]; omega
    have hK := hK y
    have e : janD (if Y ≤ 1970 then 1970 else Y) - 719468 - (janD y - janD Y) = janD Y - 719468 := by
      have hj := jan1970
      split
      · have : y = 1970 := by omega
        subst this; omega
      · have : y = Y := by omega
        subst this; omega
    rw [Run_loop, e]
    simp only [f_R05_guessDay_l1_eq, f_R05_guessDay_l1u, dd, hK, go_sem]
  | succ k ih =>
    intro y h0 h1 h2
    rw [Run_loop]
    by_cases h : y < 1970
    · have dd : decide (y < 1970) = true := decide_eq_true h
      have hl := R05_length y (by omega) (by omega)
      have hj := jan_step y
      have hb := jan_bnd h0
      have hp := lenD_pos y
      have ih := ih (y + 1) (by omega) (by omega) (by omega)
      rw [if_pos (show Y ≤ 1970 by omega), jan1970] at ih ⊢
      have w1 : IntKind.wrap .i64 (719468 - 719468 - (janD y - janD Y) - lenD y) = 719468 - 719468 - (janD (y + 1) - janD Y) := by rw [wrap_i64 (by omega) (by omega)]; omega
      have w2 : IntKind.wrap .i64 (y + 1) = y + 1 := wrap_i64 (by omega) (by omega)
      generalize 719468 - 719468 - (janD y - janD Y) = a at *
      generalize 719468 - 719468 - (janD (y + 1) - janD Y) = b at *
      simp only [f_R05_guessDay_l1_eq, f_R05_guessDay_l1u, dd, hl, w1, w2, ih, go_sem]
    · have dd : decide (y < 1970) = false := decide_eq_false h
      have hK := hK y
      have e : janD (if Y ≤ 1970 then 1970 else Y) - 719468 - (janD y - janD Y) = janD Y - 719468 := by
        have hj := jan1970
        split
        · have : y = 1970 := by omega
          subst this; omega
        · have : y = Y := by omega
          subst this; omega
      rw [e]
      simp only [f_R05_guessDay_l1_eq, f_R05_guessDay_l1u, dd, hK, go_sem]
theorem gd_l2 (Y d n : Int) (m : Nat) (hY0 : -5000 ≤ Y) (hY1 : Y ≤ 10000) (hm : m ≤ 12) (hn0 : -10000000 ≤ n) (hn1 : n ≤ 10000000) (K : Ex × Env × St → Option (AV × St)) (Z : Option (AV × St)) (hK : ∀ i : Nat, K (.exit 4, [(4, .int .i64 Y), (5, .int .i64 m), (6, .int .i64 d), (7, .int .i64 (n + (cumL (leapB Y) m : Nat))), (10, .int .i64 i), (82, .bool false)], []) = Z) :
    ∀ (k i : Nat), 1 ≤ i → i + k = m → (Run prog 0 (.loop 0 [4, 5, 6, 7, 10] f_R05_guessDay_l2) [(4, .int .i64 Y), (5, .int .i64 m), (6, .int .i64 d), (7, .int .i64 (n + (cumL (leapB Y) i : Nat))), (10, .int .i64 i)] []).bind K = Z := by
  have hcl : ∀ i, 1 ≤ i → i ≤ 13 → cumL (leapB Y) i ≤ 366 := by
    intro i h1 h2
    have := cum_mono (leapB Y) (k := 13 - i) h1
    rw [show i + (13 - i) = 13 by omega] at this
    have : cumL (leapB Y) 13 ≤ 366 := by cases leapB Y <;> decide
    omega
  intro k
  induction k with
  | zero =>
    intro i h0 h1
    have : i = m := by omega
    subst this
    have dd : decide ((i : Int) < (i : Int)) = false := by simp
    have hK := hK i
    rw [Run_loop]
    simp only [f_R05_guessDay_l2_eq, f_R05_guessDay_l2u, dd, hK, go_sem]
  | succ k ih =>
    intro i h0 h1
    rw [Run_loop]
    have dd : decide ((i : Int) < (m : Int)) = true := by rw [decide_eq_true_eq]; omega
    have hl := R05_month Y i (by omega) (by omega) h0 (by omega)
    have hs := cum_step (leapB Y) i h0
    have hc := hcl i h0 (by omega)
    have hb := monL_le (leapB Y) i
    have w1 : IntKind.wrap .i64 (n + ((cumL (leapB Y) i : Nat) : Int) + ((monL (leapB Y) i : Nat) : Int)) = n + ((cumL (leapB Y) (i + 1) : Nat) : Int) := by rw [wrap_i64 (by omega) (by omega)]; omega
    have w2 : IntKind.wrap .i64 ((i : Int) + 1) = ((i + 1 : Nat) : Int) := by rw [wrap_i64 (by omega) (by omega)]; omega
    have ih := ih (i + 1) (by omega) (by omega)
    generalize i + 1 = i2 at *
    generalize n + ((cumL (leapB Y) i : Nat) : Int) = a at *
    generalize n + ((cumL (leapB Y) i2 : Nat) : Int) = b at *
    simp only [f_R05_guessDay_l2_eq, f_R05_guessDay_l2u, dd, hl, w1, w2, ih, go_sem]
theorem R05_guessDay (l : List UInt8) (hs : l.length < 1000000000) : Den prog 471 [.str (ba l)] [] = some (.int .i64 (gDay l), []) := by
  rw [Den_ofK [] pr_R05_guessDay rfl]
  have q1 : decide ((l.length : Int) < 10) = decide (l.length < 10) := by rw [Bool.eq_iff_iff]; simp; omega
  have q2 : decide ((12 : Int) < (l.length : Int)) = decide (12 < l.length) := by rw [Bool.eq_iff_iff]; simp; omega
  unfold gDay
  cases g1 : decide (l.length < 10) with
  | true => simp only [f_R05_guessDay, ba_size, q1, g1, Bool.true_or, cond_true, go_sem]
  | false =>
  cases g2 : decide (12 < l.length) with
  | true => simp only [f_R05_guessDay, ba_size, q1, q2, g1, g2, Bool.or_true, cond_true, go_sem]
  | false =>
  have hl0 : 10 ≤ l.length := by simp at g1; omega
  have hl1 : l.length ≤ 12 := by simp at g2; omega
  have w6 : IntKind.wrap .i64 ((l.length : Int) - 6) = ((l.length - 6 : Nat) : Int) := by rw [wrap_i64 (by omega) (by omega)]; omega
  have w1 : IntKind.wrap .i64 (((l.length - 6 : Nat) : Int) + 1) = ((l.length - 5 : Nat) : Int) := by rw [wrap_i64 (by omega) (by omega)]; omega
  have w3 : IntKind.wrap .i64 (((l.length - 6 : Nat) : Int) + 3) = ((l.length - 3 : Nat) : Int) := by rw [wrap_i64 (by omega) (by omega)]; omega
  have w4 : IntKind.wrap .i64 (((l.length - 6 : Nat) : Int) + 4) = ((l.length - 2 : Nat) : Int) := by rw [wrap_i64 (by omega) (by omega)]; omega
  have s1 : (ba l).extract 0 (l.length - 6) = ba (l.take (l.length - 6)) := by rw [ba_extract]; simp
  have s2 : (ba l).extract (l.length - 5) (l.length - 3) = ba ((l.drop (l.length - 5)).take 2) := by rw [ba_extract, show l.length - 3 - (l.length - 5) = 2 by omega]
  have s3 : (ba l).extract (l.length - 2) l.length = ba (l.drop (l.length - 2)) := by rw [ba_extract, List.take_of_length_le (by simp)]
  have c1 : ((l.length - 6 : Nat) : Int) ≤ (l.length : Int) := by omega
  have c2 : ((l.length - 5 : Nat) : Int) ≤ ((l.length - 3 : Nat) : Int) := by omega
  have c3 : ((l.length - 3 : Nat) : Int) ≤ (l.length : Int) := by omega
  have c4 : ((l.length - 2 : Nat) : Int) ≤ (l.length : Int) := by omega
  have n1 := R05_guessInt (l.take (l.length - 6)) (by simp; omega)
  have n2 := R05_number (ba ((l.drop (l.length - 5)).take 2)) (by rw [ba_size]; simp; omega)
  have n3 := R05_number (ba (l.drop (l.length - 2))) (by rw [ba_size]; simp; omega)
  rw [ba_data] at n2 n3
  simp only [Bool.or_self, cond_false]
  generalize gInt (l.take (l.length - 6)) = Y at *
  generalize numI 0 ((l.drop (l.length - 5)).take 2) = NM at *
  generalize numI 0 (l.drop (l.length - 2)) = ND at *
  generalize hM : IntKind.wrap .i64 NM = M at *
  generalize hD : IntKind.wrap .i64 ND = D at *
  cases r1 : decide (Y < -1000) with
  | true => simp only [f_R05_guessDay, r1, Bool.true_or, cond_true, ba_size, q1, q2, g1, g2, w6, w1, w3, w4, s1, s2, s3, c1, c2, c3, c4, n1, n2, n3, hM, hD, go_sem]
  | false =>
  cases r2 : decide (5000 < Y) with
  | true => simp only [f_R05_guessDay, r1, r2, Bool.true_or, Bool.or_true, cond_true, ba_size, q1, q2, g1, g2, w6, w1, w3, w4, s1, s2, s3, c1, c2, c3, c4, n1, n2, n3, hM, hD, go_sem]
  | false =>
  cases r3 : decide (M < 1) with
  | true => simp only [f_R05_guessDay, r1, r2, r3, Bool.true_or, Bool.or_true, cond_true, ba_size, q1, q2, g1, g2, w6, w1, w3, w4, s1, s2, s3, c1, c2, c3, c4, n1, n2, n3, hM, hD, go_sem]
  | false =>
  cases r4 : decide (12 < M) with
  | true => simp only [f_R05_guessDay, r1, r2, r3, r4, Bool.true_or, Bool.or_true, cond_true, ba_size, q1, q2, g1, g2, w6, w1, w3, w4, s1, s2, s3, c1, c2, c3, c4, n1, n2, n3, hM, hD, go_sem]
  | false =>
  cases r5 : decide (D < 1) with
  | true => simp only [f_R05_guessDay, r1, r2, r3, r4, r5, Bool.true_or, Bool.or_true, cond_true, ba_size, q1, q2, g1, g2, w6, w1, w3, w4, s1, s2, s3, c1, c2, c3, c4, n1, n2, n3, hM, hD, go_sem]
  | false =>
  cases r6 : decide (31 < D) with
  | true => simp only [f_R05_guessDay, r1, r2, r3, r4, r5, r6, Bool.or_true, cond_true, ba_size, q1, q2, g1, g2, w6, w1, w3, w4, s1, s2, s3, c1, c2, c3, c4, n1, n2, n3, hM, hD, go_sem]
  | false =>
  have b1 : -1000 ≤ Y := by simp at r1; omega
  have b2 : Y ≤ 5000 := by simp at r2; omega
  have b3 : 1 ≤ M := by simp at r3; omega
  have b4 : M ≤ 12 := by simp at r4; omega
  have b5 : 1 ≤ D := by simp at r5; omega
  have b6 : D ≤ 31 := by simp at r6; omega
  simp only [Bool.or_self, cond_false]
  obtain ⟨m, rfl⟩ : ∃ m : Nat, M = (m : Int) := ⟨M.toNat, by omega⟩
  rw [Int.toNat_natCast]
  have hj := jan1970
  have j0 : janD 1970 - 719468 = 0 := by omega
  have hbj : -10000000 + 719468 ≤ janD Y - 0 ∧ janD Y ≤ 5000000 := by
    unfold janD eD; omega
  have hcl : cumL (leapB Y) m ≤ 366 := by
    have := cum_mono (leapB Y) (k := 13 - m) (show 1 ≤ m by omega)
    rw [show m + (13 - m) = 13 by omega] at this
    have : cumL (leapB Y) 13 ≤ 366 := by cases leapB Y <;> decide
    omega
  simp only [f_R05_guessDay, r1, r2, r3, r4, r5, r6, ba_size, q1, q2, g1, g2, w6, w1, w3, w4, s1, s2, s3, c1, c2, c3, c4, n1, n2, n3, hM, hD, go_sem]
  clear n1 n2 n3 s1 s2 s3
  rw [show (0 : Int) = janD 1970 - 719468 from j0.symm]
  refine gd_l0 Y m D (by omega) (by omega) _ _ ?_ 3100 1970 (by omega) (by omega) (by omega)
  intro y hy
  simp only [go_sem]
  rw [loop_gc (e' := [(4, .int .i64 Y), (5, .int .i64 m), (6, .int .i64 D), (7, .int .i64 (janD y - 719468)), (9, .int .i64 Y)]) (s' := []) (by simp only [go_sem])]
  rw [show janD y - 719468 = janD (if Y ≤ 1970 then 1970 else Y) - 719468 - (janD Y - janD Y) by rw [hy]; omega]
  refine gd_l1 Y m D (by omega) (by omega) _ _ ?_ 3100 Y (by omega) (by omega) (by omega)
  intro y2
  simp only [go_sem]
  rw [loop_gc (e' := [(4, .int .i64 Y), (5, .int .i64 m), (6, .int .i64 D), (7, .int .i64 (janD Y - 719468)), (10, .int .i64 1)]) (s' := []) (by simp only [go_sem])]
  rw [show janD Y - 719468 = janD Y - 719468 + ((cumL (leapB Y) 1 : Nat) : Int) from (Int.add_zero _).symm]
  refine gd_l2 Y D (janD Y - 719468) m (by omega) (by omega) (by omega) (by omega) (by omega) _ _ ?_ (m - 1) 1 (by omega) (by omega)
  intro i
  have v1 : IntKind.wrap .i64 (janD Y - 719468 + ((cumL (leapB Y) m : Nat) : Int) + D) = janD Y - 719468 + ((cumL (leapB Y) m : Nat) : Int) + D := wrap_i64 (by omega) (by omega)
  have v2 : IntKind.wrap .i64 (janD Y - 719468 + ((cumL (leapB Y) m : Nat) : Int) + D - 1) = janD Y - 719468 + ((cumL (leapB Y) m : Nat) : Int) + D - 1 := wrap_i64 (by omega) (by omega)
  have c0 : cumL (leapB Y) 1 = 0 := rfl
  simp only [v1, v2, c0, go_sem]
end Go.Den
