/- Ch. 10: PageBest. -/
import Derived.Test.YtfjaimkpmehojaaS10N
import Derived.Test.YtfjaimkpmehojaaS10E
namespace Go.Den
open Go Go.Proofs
set_option linter.unusedSimpArgs false
set_option linter.unusedVariables false
set_option maxRecDepth 100000
set_option maxHeartbeats 1000000
theorem PB_step (l : List Val) (t k k0 : Int) (B : Pg) (hk : 1 ≤ k ∧ k ≤ 4) (hl : l.length ≤ 1024) (hi : ∀ v ∈ l, InB v) (hB : encP l t k0 = (B, 0))
    (hmin : ∀ k, 1 ≤ k → k ≤ 4 → (encP l t k).2 = 0 → B.b.length ≤ (encP l t k).1.b.length ∧ (k < k0 → B.b.length < (encP l t k).1.b.length)) {K : Ex × Env × St → Option (AV × St)} {Z : Option (AV × St)}
    (h : (Run prog 0 (.loop 1 [3, 4, 5, 6, 8, 9] f_L10_PageBest_l0) [(3, .bool true), (4, .sl (l.map Val.cells)), (5, .int .i64 t), (6, .ref 0 0), (8, .bool (decide (k0 < k + 1))), (9, .int .i64 (k + 1))] [.cells B.cells]).bind K = Z) :
    (Run prog 0 (.loop 1 [3, 4, 5, 6, 8, 9] f_L10_PageBest_l0) [(3, .bool true), (4, .sl (l.map Val.cells)), (5, .int .i64 t), (6, .ref 0 0), (8, .bool (decide (k0 < k))), (9, .int .i64 k)] [.cells B.cells]).bind K = Z := by
  have d0 : decide (k ≤ 4) = true := by simp; omega
  have w1 : IntKind.wrap .i64 (k + 1) = k + 1 := wrap_i64 (by omega) (by omega)
  have hE := page_Encode l t k hi (by omega)
  have hm := hmin k hk.1 hk.2
  obtain ⟨c1, c2, c3, c4⟩ := encP_ok hB
  have hBk : B.kind = k0 := by rw [c4]
  rw [Run_loop]
  cases hp : encP l t k with
  | mk p e =>
  rw [hp] at hE hm
  unfold P2 at hE
  simp only [] at hE hm
  by_cases he : e = 0
  · subst he
    obtain ⟨m1, m2⟩ := hm rfl
    obtain ⟨g1, g2, g3, g4⟩ := encP_ok hp
    have hpk : p.kind = k := by rw [g4]
    have hc : Col l t := fun v hv => ⟨okL_mem g3 v hv, hi v hv⟩
    have hpl : p.b.length ≤ 300000 := by rw [g4]; exact conP_len k hl hc
    have hS := R10_Same p B (by omega) (by omega)
    have hs : samP p B = decide (k = k0) := by
      rw [Bool.eq_iff_iff, samP_iff, decide_eq_true_eq]
      constructor
      · intro h; rw [← hpk, ← hBk, h]
      · intro h; subst h; rw [hp] at hB; exact (Prod.mk.inj hB).1
    rw [hs] at hS
    have f1 : (decide (k0 < k) || decide (k = k0)) = decide (k0 < k + 1) := by
      rw [Bool.eq_iff_iff]; simp; omega
    have d1 : decide ((p.b.length : Int) < (B.b.length : Int)) = false := by simp; omega
    obtain ⟨B1, B2, B3⟩ := B
    obtain ⟨p1, p2, p3⟩ := p
    simp only [] at hBk hpk d1 m2
    subst hBk
    subst hpk
    unfold Pg.cells at *
    have d3 : decide (p1 < B1) = true → decide ((p3.length : Int) ≤ (B3.length : Int)) = false := by
      intro hlt; simp at hlt ⊢; have := m2 hlt; omega
    clear hm hmin m1 m2 g4 c4 hB hp hs
    cases q : decide (p1 < B1) with
    | true =>
      have d3 := d3 q
      have q' : decide (B1 < p1) = false := by simp at q ⊢; omega
      have q'' : decide (p1 = B1) = false := by simp at q ⊢; omega
      rw [q', q''] at f1
      rw [q''] at hS
      rw [← f1] at h
      simp only [Bool.or_self] at h
      simp only [f_L10_PageBest_l0_eq, f_L10_PageBest_l0u, d0, w1, hE, hS, d1, d3, q, q', h, go_sem]
    | false =>
      cases q' : decide (B1 < p1) with
      | true =>
        rw [q', Bool.true_or] at f1
        rw [← f1] at h
        simp only [f_L10_PageBest_l0_eq, f_L10_PageBest_l0u, d0, w1, hE, hS, d1, q, q', h, go_sem]
      | false =>
        rw [q', Bool.false_or] at f1
        rw [f1] at hS
        simp only [f_L10_PageBest_l0_eq, f_L10_PageBest_l0u, d0, w1, hE, hS, d1, q, q', h, go_sem]
  · have de : decide (e = 0) = false := decide_eq_false he
    have f1 : decide (k0 < k + 1) = decide (k0 < k) := by
      have hne : k ≠ k0 := by
        intro h; subst h; rw [hp] at hB; exact he (Prod.mk.inj hB).2
      rw [Bool.eq_iff_iff]; simp; omega
    rw [f1] at h
    unfold Pg.cells at *
    clear hm hmin c4 hB hp
    simp only [f_L10_PageBest_l0_eq, f_L10_PageBest_l0u, d0, w1, hE, de, h, go_sem]
theorem L10_Best (l : List Val) (n : Int) (hL : l.length < 1000000000000000) (hi : ∀ v ∈ l, InB v) (h0 : 0 ≤ n) (h1 : n < 256) : Den prog 504 [.agg [.sl (l.map Val.cells), .int .u8 n]] [] = some (.bool true, []) := by
  rw [Den_ofK [] pr_L10_PageBest rfl]
  have hm := L10_made l n hL h0 h1
  have ht := typT_ok h0
  obtain ⟨ho, hb, hl⟩ := madeL_ok ht hi
  cases hs : smallB l with
  | false => simp only [f_L10_PageBest, hs, hL, go_sem]
  | true =>
    generalize madeL l (typT n) = m at hm ho hb hl
    generalize typT n = t at hm ho ht
    have hBs := page_Best m t hb (by omega)
    have hc1 : chkP 1 t = 0 := by
      rw [chkP_def ht (by omega)]; rfl
    obtain ⟨b1, k0, b2, b3, b4, b5, b6⟩ := best_I m t (by rw [enc_made hl ho hc1])
    have hB : encP m t k0 = ((bestP m t).1, 0) := Prod.ext b5.symm b4
    generalize bestP m t = r at hBs b1 b5 b6 hB
    obtain ⟨B, e⟩ := r
    simp only [] at b1 hB b6 b5
    subst b1
    unfold P2 Pg.cells at hBs
    simp only [f_L10_PageBest, hs, hL, hm, hBs, go_sem]
    have f1 : decide (k0 < 1) = false := by simp; omega
    have f5 : decide (k0 < 4 + 1) = true := by simp; omega
    have g := fun K Z => PB_step m t 1 k0 B (by decide) hl hb hB b6 (K := K) (Z := Z)
    rw [f1] at g
    unfold Pg.cells at g
    refine g _ _ ?_
    refine PB_step m t 2 k0 B (by decide) hl hb hB b6 ?_
    refine PB_step m t 3 k0 B (by decide) hl hb hB b6 ?_
    refine PB_step m t 4 k0 B (by decide) hl hb hB b6 ?_
    rw [Run_loop, f5]
    have e5 : decide ((4 : Int) + 1 ≤ 4) = false := rfl
    unfold Pg.cells
    simp only [f_L10_PageBest_l0_eq, f_L10_PageBest_l0u, e5, go_sem]
theorem row_BE (xs : List AV) (h : Args Try.prog [24] xs) : Den prog 504 xs [] = some (.bool true, []) := by
  obtain ⟨n, x, ys, rfl, h1, h⟩ := h.one
  cases h.none
  obtain ⟨L, m, rfl, hL, hi, h0, h2⟩ := sh_col h1
  simp only [avOf, Try.underlying24]
  exact L10_Best L m hL hi h0 h2
end Go.Den
