/- Ch. 05: ValueOrder. -/
import Derived.Test.YtimlnhpiddfbaaaDoorS5A
namespace Go.Den
open Go Go.Proofs
set_option linter.unusedSimpArgs false
set_option linter.unusedVariables false
set_option maxRecDepth 100000
set_option maxHeartbeats 1000000
theorem rnd_null (a b : Val) : (a.null && (!b.null && !decide (cmpV a b = -1))) = false := by
  cases h1 : a.null with
  | false => rfl
  | true =>
    cases h2 : b.null with
    | true => rfl
    | false => rw [cmpV_null a b h1 h2]; rfl
theorem rnd_trans (a b c : Val) : (decide (cmpV a b ≤ 0) && (decide (cmpV b c ≤ 0) && decide (0 < cmpV a c))) = false := by
  cases h1 : decide (cmpV a b ≤ 0) with
  | false => rfl
  | true =>
    cases h2 : decide (cmpV b c ≤ 0) with
    | false => rfl
    | true =>
      have := cmpV_trans a b c (by simpa using h1) (by simpa using h2)
      rw [decide_eq_false (by omega)]; rfl
theorem ord_0 (a b c : Val) (K : Ex × Env × St → Option (AV × St)) : (Run prog 0 (.loop 0 [1, 3, 4] f_L05_ValueOrder_l0) [(1, .rptr [.bool a.null, .int .i64 a.n, .str a.s, .bool b.null, .int .i64 b.n, .str b.s, .bool c.null, .int .i64 c.n, .str c.s]), (3, .bool true), (4, .int .i64 0)] []).bind K = (Run prog 0 (.loop 0 [1, 3, 4] f_L05_ValueOrder_l0) [(1, .rptr [.bool a.null, .int .i64 a.n, .str a.s, .bool b.null, .int .i64 b.n, .str b.s, .bool c.null, .int .i64 c.n, .str c.s]), (3, .bool true), (4, .int .i64 1)] []).bind K := by
  have h1 := value_Compare a b
  have h2 := value_Compare b c
  have h3 := value_Compare a c
  have h4 := value_Compare b a
  have rg := cmpV_rng a b
  have ng := cmpV_neg a b
  have heq := cmpV_eq a b
  have hnull := rnd_null a b
  have htr := rnd_trans a b c
  have nz : (3 : Int) ≠ 0 := by decide
  have l3 : decide ((0 : Int) < 3) = true := rfl
  have v1 : IntKind.wrap .i64 1 = 1 := rfl
  have v2 : IntKind.wrap .i64 2 = 2 := rfl
  have v3 : (1 : Int).tmod 3 = 1 := rfl
  have v4 : (2 : Int).tmod 3 = 2 := rfl
  rw [ng] at h4
  have wn : IntKind.wrap .i64 (0 - (- cmpV a b)) = cmpV a b := by rw [wrap_i64 (by omega) (by omega)]; omega
  have e1 : decide (cmpV a b = cmpV a b) = true := decide_eq_true rfl
  have e2 : decide (cmpV a b < -1) = false := by rw [decide_eq_false_iff_not]; omega
  have e3 : decide (1 < cmpV a b) = false := by rw [decide_eq_false_iff_not]; omega
  rw [Run_loop]
  revert hnull htr
  generalize cmpV a b = X at *
  generalize cmpV b c = Y at *
  generalize cmpV a c = Z at *
  intro hnull htr
  have b1 : (true == false) = false := rfl
  have b2 : (false == true) = false := rfl
  cases n0 : decide (X = 0) <;> cases n3 : decide (X = -1) <;> cases t1 : decide (X ≤ 0) <;>
  first
    | (exfalso; simp only [decide_eq_true_eq, decide_eq_false_iff_not] at n0 n3 t1; omega)
    | (rw [n0] at heq
       cases n1 : a.null <;> cases n2 : b.null <;> rw [n1, n2] at heq <;> simp only [beq_self_eq_true, b1, b2, Bool.true_and, Bool.false_and] at heq <;>
       first
         | (exfalso; simp at heq; done)
         | (exfalso; simp [n1, n2, n3] at hnull; done)
         | (cases t2 : decide (Y ≤ 0) <;> cases t3 : decide (0 < Z) <;>
            first
              | (exfalso; simp [t1, t2, t3] at htr; done)
              | (rw [n1, n2] at h1 h4; rw [n2] at h2; rw [n1] at h3
                 first
                   | (simp only [f_L05_ValueOrder_l0_eq, f_L05_ValueOrder_l0u, l3, v1, v2, v3, v4, nz, h1, h2, h3, h4, heq, wn, e1, e2, e3, n0, n1, n2, n3, t1, t2, t3, b1, b2, beq_self_eq_true, go_sem]; done)
                   | (simp only [f_L05_ValueOrder_l0_eq, f_L05_ValueOrder_l0u, l3, v1, v2, v3, v4, nz, h1, h2, h3, h4, wn, e1, e2, e3, n0, n1, n2, n3, t1, t2, t3, b1, b2, beq_self_eq_true, go_sem]; done))))
theorem ord_1 (a b c : Val) (K : Ex × Env × St → Option (AV × St)) : (Run prog 0 (.loop 0 [1, 3, 4] f_L05_ValueOrder_l0) [(1, .rptr [.bool a.null, .int .i64 a.n, .str a.s, .bool b.null, .int .i64 b.n, .str b.s, .bool c.null, .int .i64 c.n, .str c.s]), (3, .bool true), (4, .int .i64 1)] []).bind K = (Run prog 0 (.loop 0 [1, 3, 4] f_L05_ValueOrder_l0) [(1, .rptr [.bool a.null, .int .i64 a.n, .str a.s, .bool b.null, .int .i64 b.n, .str b.s, .bool c.null, .int .i64 c.n, .str c.s]), (3, .bool true), (4, .int .i64 2)] []).bind K := by
  have h1 := value_Compare b c
  have h2 := value_Compare c a
  have h3 := value_Compare b a
  have h4 := value_Compare c b
  have rg := cmpV_rng b c
  have ng := cmpV_neg b c
  have heq := cmpV_eq b c
  have hnull := rnd_null b c
  have htr := rnd_trans b c a
  have nz : (3 : Int) ≠ 0 := by decide
  have l3 : decide ((1 : Int) < 3) = true := rfl
  have v1 : IntKind.wrap .i64 2 = 2 := rfl
  have v2 : IntKind.wrap .i64 3 = 3 := rfl
  have v3 : (2 : Int).tmod 3 = 2 := rfl
  have v4 : (3 : Int).tmod 3 = 0 := rfl
  rw [ng] at h4
  have wn : IntKind.wrap .i64 (0 - (- cmpV b c)) = cmpV b c := by rw [wrap_i64 (by omega) (by omega)]; omega
  have e1 : decide (cmpV b c = cmpV b c) = true := decide_eq_true rfl
  have e2 : decide (cmpV b c < -1) = false := by rw [decide_eq_false_iff_not]; omega
  have e3 : decide (1 < cmpV b c) = false := by rw [decide_eq_false_iff_not]; omega
  rw [Run_loop]
  revert hnull htr
  generalize cmpV b c = X at *
  generalize cmpV c a = Y at *
  generalize cmpV b a = Z at *
  intro hnull htr
  have b1 : (true == false) = false := rfl
  have b2 : (false == true) = false := rfl
  cases n0 : decide (X = 0) <;> cases n3 : decide (X = -1) <;> cases t1 : decide (X ≤ 0) <;>
  first
    | (exfalso; simp only [decide_eq_true_eq, decide_eq_false_iff_not] at n0 n3 t1; omega)
    | (rw [n0] at heq
       cases n1 : b.null <;> cases n2 : c.null <;> rw [n1, n2] at heq <;> simp only [beq_self_eq_true, b1, b2, Bool.true_and, Bool.false_and] at heq <;>
       first
         | (exfalso; simp at heq; done)
         | (exfalso; simp [n1, n2, n3] at hnull; done)
         | (cases t2 : decide (Y ≤ 0) <;> cases t3 : decide (0 < Z) <;>
            first
              | (exfalso; simp [t1, t2, t3] at htr; done)
              | (rw [n1, n2] at h1 h4; rw [n2] at h2; rw [n1] at h3
                 first
                   | (simp only [f_L05_ValueOrder_l0_eq, f_L05_ValueOrder_l0u, l3, v1, v2, v3, v4, nz, h1, h2, h3, h4, heq, wn, e1, e2, e3, n0, n1, n2, n3, t1, t2, t3, b1, b2, beq_self_eq_true, go_sem]; done)
                   | (simp only [f_L05_ValueOrder_l0_eq, f_L05_ValueOrder_l0u, l3, v1, v2, v3, v4, nz, h1, h2, h3, h4, wn, e1, e2, e3, n0, n1, n2, n3, t1, t2, t3, b1, b2, beq_self_eq_true, go_sem]; done))))
theorem ord_2 (a b c : Val) (K : Ex × Env × St → Option (AV × St)) : (Run prog 0 (.loop 0 [1, 3, 4] f_L05_ValueOrder_l0) [(1, .rptr [.bool a.null, .int .i64 a.n, .str a.s, .bool b.null, .int .i64 b.n, .str b.s, .bool c.null, .int .i64 c.n, .str c.s]), (3, .bool true), (4, .int .i64 2)] []).bind K = (Run prog 0 (.loop 0 [1, 3, 4] f_L05_ValueOrder_l0) [(1, .rptr [.bool a.null, .int .i64 a.n, .str a.s, .bool b.null, .int .i64 b.n, .str b.s, .bool c.null, .int .i64 c.n, .str c.s]), (3, .bool true), (4, .int .i64 3)] []).bind K := by
  have h1 := value_Compare c a
  have h2 := value_Compare a b
  have h3 := value_Compare c b
  have h4 := value_Compare a c
  have rg := cmpV_rng c a
  have ng := cmpV_neg c a
  have heq := cmpV_eq c a
  have hnull := rnd_null c a
  have htr := rnd_trans c a b
  have nz : (3 : Int) ≠ 0 := by decide
  have l3 : decide ((2 : Int) < 3) = true := rfl
  have v1 : IntKind.wrap .i64 3 = 3 := rfl
  have v2 : IntKind.wrap .i64 4 = 4 := rfl
  have v3 : (3 : Int).tmod 3 = 0 := rfl
  have v4 : (4 : Int).tmod 3 = 1 := rfl
  rw [ng] at h4
  have wn : IntKind.wrap .i64 (0 - (- cmpV c a)) = cmpV c a := by rw [wrap_i64 (by omega) (by omega)]; omega
  have e1 : decide (cmpV c a = cmpV c a) = true := decide_eq_true rfl
  have e2 : decide (cmpV c a < -1) = false := by rw [decide_eq_false_iff_not]; omega
  have e3 : decide (1 < cmpV c a) = false := by rw [decide_eq_false_iff_not]; omega
  rw [Run_loop]
  revert hnull htr
  generalize cmpV c a = X at *
  generalize cmpV a b = Y at *
  generalize cmpV c b = Z at *
  intro hnull htr
  have b1 : (true == false) = false := rfl
  have b2 : (false == true) = false := rfl
  cases n0 : decide (X = 0) <;> cases n3 : decide (X = -1) <;> cases t1 : decide (X ≤ 0) <;>
  first
    | (exfalso; simp only [decide_eq_true_eq, decide_eq_false_iff_not] at n0 n3 t1; omega)
    | (rw [n0] at heq
       cases n1 : c.null <;> cases n2 : a.null <;> rw [n1, n2] at heq <;> simp only [beq_self_eq_true, b1, b2, Bool.true_and, Bool.false_and] at heq <;>
       first
         | (exfalso; simp at heq; done)
         | (exfalso; simp [n1, n2, n3] at hnull; done)
         | (cases t2 : decide (Y ≤ 0) <;> cases t3 : decide (0 < Z) <;>
            first
              | (exfalso; simp [t1, t2, t3] at htr; done)
              | (rw [n1, n2] at h1 h4; rw [n2] at h2; rw [n1] at h3
                 first
                   | (simp only [f_L05_ValueOrder_l0_eq, f_L05_ValueOrder_l0u, l3, v1, v2, v3, v4, nz, h1, h2, h3, h4, heq, wn, e1, e2, e3, n0, n1, n2, n3, t1, t2, t3, b1, b2, beq_self_eq_true, go_sem]; done)
                   | (simp only [f_L05_ValueOrder_l0_eq, f_L05_ValueOrder_l0u, l3, v1, v2, v3, v4, nz, h1, h2, h3, h4, wn, e1, e2, e3, n0, n1, n2, n3, t1, t2, t3, b1, b2, beq_self_eq_true, go_sem]; done))))
theorem law_VO (a b c : Val) : Den prog 450 [.agg [.bool a.null, .int .i64 a.n, .str a.s, .bool b.null, .int .i64 b.n, .str b.s, .bool c.null, .int .i64 c.n, .str c.s]] [] = some (.bool true, []) := by
  rw [Den_ofK [] pr_L05_ValueOrder rfl]
  have hsan := sanity05
  have l33 : decide ((3 : Int) < 3) = false := rfl
  cases g1 : decide ((400 : Int) < (a.s.size : Int)) with
  | true => simp only [f_L05_ValueOrder, hsan, g1, go_sem]
  | false =>
  cases g2 : decide ((400 : Int) < (b.s.size : Int)) with
  | true => simp only [f_L05_ValueOrder, hsan, g1, g2, go_sem]
  | false =>
  cases g3 : decide ((400 : Int) < (c.s.size : Int)) with
  | true => simp only [f_L05_ValueOrder, hsan, g1, g2, g3, go_sem]
  | false =>
    simp only [f_L05_ValueOrder, hsan, g1, g2, g3, go_sem]
    rw [ord_0, ord_1, ord_2, Run_loop]
    simp only [f_L05_ValueOrder_l0_eq, f_L05_ValueOrder_l0u, l33, go_sem]
theorem row_VO (xs : List AV) (h : Args Tryd.prog [44] xs) : Den prog 450 xs [] = some (.bool true, []) := by
  obtain ⟨n, x, ys, rfl, h1, h⟩ := h.one
  cases h.none
  obtain ⟨ps, m, hl, rfl, hp⟩ := Sh.array h1 Tryd.underlying44
  obtain ⟨a, b, c, rfl⟩ : ∃ a b c, ps = [a, b, c] := by
    match ps, hl with
    | [a, b, c], _ => exact ⟨a, b, c, rfl⟩
  obtain ⟨b1, j1, s1, rfl, _, _⟩ := sh_valb (hp a (by simp))
  obtain ⟨b2, j2, s2, rfl, _, _⟩ := sh_valb (hp b (by simp))
  obtain ⟨b3, j3, s3, rfl, _, _⟩ := sh_valb (hp c (by simp))
  simp only [avOf, Tryd.underlying44, List.flatten_cons, List.flatten_nil, List.cons_append, List.nil_append, List.append_nil]
  exact law_VO ⟨b1, j1, s1⟩ ⟨b2, j2, s2⟩ ⟨b3, j3, s3⟩
end Go.Den
