/- Ch. 10: the reference's parsers of Runs, Plain and Delta pages. -/
import Derived.Test.YtfjaimkpmehojaaGreatS10DA
namespace Go.Den
open Go
set_option linter.unusedSimpArgs false
set_option linter.unusedVariables false
set_option maxRecDepth 100000
set_option maxHeartbeats 1000000
theorem R10_runs_p1 (kd rw_ t : Int) (b : List UInt8) (v : Val) (n : Nat) (en : Int) (hn : n ≤ 1024) {K : Ex × Env × St → Option (AV × St)} {Z : Option (AV × St)} (out : List Val) (ho : out.length ≤ 1024)
    (hK : K (.exit 2, [(1, .int .i64 t), (2, .rptr [.int .i64 kd, .int .i64 rw_, .sl (b.map bcell)]), (6, .osl 0 0 (out.length + n) 0 (out.length + n)), (8, .int .u64 n), (11, .ref 1 0), (12, .int .i64 en), (14, .int .u64 n), (54, .bool false)], [.arr 0 3 ((out ++ List.replicate n v).map Val.cells), .cells v.cells]) = Z) :
    ∀ (k j m : Nat), j + k = n → m = out.length + j →
    (Run prog 0 (.loop 2 [1, 2, 6, 8, 11, 12, 14] f_R10_parseRuns_l1) [(1, .int .i64 t), (2, .rptr [.int .i64 kd, .int .i64 rw_, .sl (b.map bcell)]), (6, .osl 0 0 m 0 m), (8, .int .u64 n), (11, .ref 1 0), (12, .int .i64 en), (14, .int .u64 j)] [.arr 0 3 ((out ++ List.replicate j v).map Val.cells), .cells v.cells]).bind K = Z := by
  intro k
  induction k with
  | zero =>
    intro j m hj hm
    have e : j = n := by omega
    subst e
    rw [← hm] at hK
    have d : decide ((j : Int) < (j : Int)) = false := by simp
    rw [Run_loop]
    generalize (out ++ List.replicate j v).map Val.cells = E at *
    simp only [Val.cells] at hK ⊢
    simp only [f_R10_parseRuns_l1_eq, f_R10_parseRuns_l1u, d, hK, go_sem]
  | succ k ih =>
    intro j m hj hm
    have d : decide ((j : Int) < (n : Int)) = true := by simp; omega
    have w1 : IntKind.wrap .u64 ((j : Int) + 1) = ((j + 1 : Nat) : Int) := by rw [wrap_u64 (by omega) (by omega)]; simp
    have hE : ((out ++ List.replicate j v).map Val.cells).length = m := by simp; omega
    have hb : (m + 1) * 32 ≤ 140737488355328 := by omega
    have ih := ih (j + 1) (m + 1) (by omega) (by omega)
    have hap : (out ++ List.replicate (j + 1) v).map Val.cells = (out ++ List.replicate j v).map Val.cells ++ [v.cells] := by
      rw [List.replicate_succ']; simp
    rw [hap] at ih
    clear hK hap
    generalize (out ++ List.replicate j v).map Val.cells = E at *
    simp only [Val.cells] at ih ⊢
    simp only [go_sem] at ih
    rw [Run_loop]
    simp only [f_R10_parseRuns_l1_eq, f_R10_parseRuns_l1u, d, w1, hE, hb, ih, go_sem]
theorem R10_runs_p0 (kd : Int) (b : List UInt8) (t : Int) (rows : Nat) (hbl : b.length < 1000000000) (hr : rows ≤ 1024) {K : Ex × Env × St → Option (AV × St)} {Z : Option (AV × St)} (R : Option (List Val))
    (hS : ∀ L, R = some L → ∀ a' : Int, K (.exit 0, [(1, .int .i64 t), (2, .rptr [.int .i64 kd, .int .i64 rows, .sl (b.map bcell)]), (6, .osl 0 0 L.length 0 L.length), (7, .int .i64 a'), (20, .bool false)], [.arr 0 3 (L.map Val.cells)]) = Z)
    (hN : R = none → ∀ τ : St, K (.ret, [(4, .nils), (5, .bool false)], τ) = Z) :
    ∀ (f : Nat) (out : List Val) (a : Int) (m : Nat), m = out.length → m ≤ rows → (b.length : Int) ≤ a + f → 0 ≤ a → a ≤ b.length → R = getR b t rows f out a →
    (Run prog 0 (.loop 1 [1, 2, 6, 7] f_R10_parseRuns_l0) [(1, .int .i64 t), (2, .rptr [.int .i64 kd, .int .i64 rows, .sl (b.map bcell)]), (6, .osl 0 0 m 0 m), (7, .int .i64 a)] [.arr 0 3 (out.map Val.cells)]).bind K = Z := by
  intro f
  induction f with
  | zero =>
    intro out a m hm hmr h1 h2 h3 hR
    rw [getR, if_neg (by omega)] at hR
    have hS := hS out hR a
    have d : decide (a < (b.length : Int)) = false := by simp; omega
    rw [← hm] at hS
    clear hR hN
    rw [Run_loop]
    generalize out.map Val.cells = E at *
    simp only [f_R10_parseRuns_l0_eq, f_R10_parseRuns_l0u, d, hS, go_sem]
  | succ f ih =>
    intro out a m hm hmr h1 h2 h3 hR
    rw [getR] at hR
    rw [Run_loop]
    cases d : decide (a < (b.length : Int)) with
    | false =>
      rw [d, cond_false] at hR
      have hS := hS out hR a
      rw [← hm] at hS
      clear hR hN ih
      generalize out.map Val.cells = E at *
      simp only [f_R10_parseRuns_l0_eq, f_R10_parseRuns_l0u, d, hS, go_sem]
    | true =>
      rw [d, cond_true] at hR
      have hu := R01_ReadU b a (by omega)
      have hue := (rU_end b a).1
      have hv := R05_Decode b (rU b a).2.1 t (by omega)
      have hve := decV_ends b (rU b a).2.1 t
      have hOl : (out.map Val.cells).length = m := by simp [hm]
      have w1 : IntKind.wrap .i64 ((rows : Int) - (m : Int)) = ((rows - m : Nat) : Int) := by rw [wrap_i64 (by omega) (by omega)]; omega
      have w2 : IntKind.wrap .u64 ((rows - m : Nat) : Int) = ((rows - m : Nat) : Int) := wrap_u64 (by omega) (by omega)
      rw [← hm] at hR
      obtain ⟨q, hq⟩ : ∃ q, q = rows - m := ⟨_, rfl⟩
      rw [← hq] at w1 w2 hR
      generalize rU b a = r at *
      obtain ⟨n, nx, e⟩ := r
      simp only [t3] at hu hue hv hve hR
      cases de : decide (e = 0) with
      | false =>
        rw [de] at hR
        simp only [Bool.not_false, Bool.true_or, cond_true] at hR
        have hN := hN hR
        clear hR hS ih
        generalize out.map Val.cells = E at *
        simp only [f_R10_parseRuns_l0_eq, f_R10_parseRuns_l0u, d, hu, de, hN, go_sem]
      | true =>
        have hue := hue (by simpa using de)
        rw [de] at hR
        simp only [Bool.not_true, Bool.false_or] at hR
        cases dn : decide (q < n) with
        | true =>
          have dn' : decide ((q : Int) < (n : Int)) = true := by simp at dn ⊢; omega
          rw [dn, cond_true] at hR
          have hN := hN hR
          clear hR hS ih
          generalize out.map Val.cells = E at *
          simp only [f_R10_parseRuns_l0_eq, f_R10_parseRuns_l0u, d, hu, de, hOl, w1, w2, dn', hN, go_sem]
        | false =>
          have dn' : decide ((q : Int) < (n : Int)) = false := by simp at dn ⊢; omega
          rw [dn, cond_false] at hR
          generalize decV b nx t = dv at *
          obtain ⟨v, en, e2⟩ := dv
          simp only [V3] at hv hve hR
          cases de2 : decide (e2 = 0) with
          | false =>
            rw [de2, cond_false] at hR
            have hN := hN hR
            clear hR hS ih
            obtain ⟨nu, x, s⟩ := v
            simp only [Val.cells] at hv
            generalize out.map Val.cells = E at *
            simp only [f_R10_parseRuns_l0_eq, f_R10_parseRuns_l0u, d, hu, de, hOl, w1, w2, dn', hv, de2, hN, go_sem]
          | true =>
            have hve := hve (by simpa using de2)
            rw [de2, cond_true] at hR
            have hnq : n ≤ q := by simp at dn; omega
            have ih := ih (out ++ List.replicate n v) en (m + n) (by simp; omega) (by omega) (by omega) (by omega) (by omega) hR
            have hl1 := fun K Z hK => R10_runs_p1 kd rows t b v n en (by omega) (K := K) (Z := Z) out (by omega) hK n 0 out.length (by omega) (by omega)
            rw [← hm] at hl1
            simp only [List.replicate_zero, List.append_nil, Int.natCast_zero] at hl1
            clear hR hS hN
            generalize (out ++ List.replicate n v).map Val.cells = E2 at *
            generalize out.map Val.cells = E at *
            obtain ⟨nu, x, s⟩ := v
            simp only [Val.cells] at hv hl1
            simp only [f_R10_parseRuns_l0_eq, f_R10_parseRuns_l0u, d, hu, de, hOl, w1, w2, dn', hv, de2, go_sem]
            refine hl1 _ _ ?_
            simp only [ih, go_sem]
theorem R10_parseRuns (kd : Int) (b : List UInt8) (t : Int) (rows : Nat) (hbl : b.length < 1000000000) (hr : rows ≤ 1024) : Den prog 552 [.agg [.int .i64 kd, .int .i64 rows, .sl (b.map bcell)], .int .i64 t] [] = some (parR (getR b t rows b.length [] 0), []) := by
  rw [Den_ofK [] pr_R10_parseRuns rfl]
  have k0 := fun K Z hS hN => R10_runs_p0 kd b t rows hbl hr (K := K) (Z := Z) (getR b t rows b.length [] 0) hS hN b.length [] 0 0 rfl (by omega) (by omega) (by omega) (by omega) rfl
  simp only [List.map_nil] at k0
  simp only [f_R10_parseRuns, go_sem]
  refine k0 _ _ ?_ ?_
  · intro L hL a'
    rw [hL]
    simp only [parR, go_sem]
  · intro hL τ
    rw [hL]
    simp only [parR, go_sem]
end Go.Den
