/- Ch. 10: PageEncodeMatchesReference. -/
import Derived.Test.YtfjaimkpmehojaaGreatS10JA
import Derived.Test.YtfjaimkpmehojaaGreatS10EB
import Derived.Test.YtfjaimkpmehojaaGreatSh10
namespace Go.Den
open Go Go.Proofs
set_option linter.unusedSimpArgs false
set_option linter.unusedVariables false
set_option maxRecDepth 100000
set_option maxHeartbeats 1000000
theorem encP_len (l : List Val) (t k : Int) (hi : ∀ v ∈ l, InB v) : (encP l t k).1.b.length ≤ 300000 := by
  unfold encP
  cases decide (chkP k t = 0) with
  | false => simp [noP]
  | true =>
    cases d : decide (1024 < l.length) with
    | true => simp [noP]
    | false =>
      cases d2 : okL l t with
      | false => simp [noP]
      | true => exact conP_len k (by simp at d; omega) (fun v hv => ⟨okL_mem d2 v hv, hi v hv⟩)
theorem bestP_len (l : List Val) (t : Int) (hi : ∀ v ∈ l, InB v) : (bestP l t).1.b.length ≤ 300000 := by
  by_cases h : (encP l t 1).2 = 0
  · obtain ⟨_, k0, _, _, _, e, _⟩ := best_I l t h
    rw [e]; exact encP_len l t k0 hi
  · unfold bestP
    rw [decide_eq_false h]; simp [noP]
theorem same_self (p : Pg) (h : p.b.length ≤ 300000) : Den prog 483 [.agg p.cells, .agg p.cells] [] = some (.bool true, []) := by
  have := R10_Same p p (by omega) (by omega)
  rw [samP_iff.2 rfl] at this
  exact this
theorem EM_step (l : List Val) (t k : Int) (hk : 1 ≤ k ∧ k ≤ 4) (hl : l.length ≤ 1024) (hi : ∀ v ∈ l, InB v) (o1 o2 o3 o4 : Ob) (u1 : o1.under 4 = true) (u2 : o2.under 4 = true) (u3 : o3.under 4 = true) (u4 : o4.under 4 = true) {K : Ex × Env × St → Option (AV × St)} {Z : Option (AV × St)}
    (h : (Run prog 0 (.loop 4 [7, 16, 17, 18] f_L10_PageEncodeMatchesReference_l0) [(7, .bool true), (16, .sl (l.map Val.cells)), (17, .int .i64 t), (18, .int .i64 (k + 1))] [o1, o2, o3, o4]).bind K = Z) :
    (Run prog 0 (.loop 4 [7, 16, 17, 18] f_L10_PageEncodeMatchesReference_l0) [(7, .bool true), (16, .sl (l.map Val.cells)), (17, .int .i64 t), (18, .int .i64 k)] [o1, o2, o3, o4]).bind K = Z := by
  have d0 : decide (k ≤ 4) = true := by simp; omega
  have w1 : IntKind.wrap .i64 (k + 1) = k + 1 := wrap_i64 (by omega) (by omega)
  have hE := page_Encode l t k hi (by omega)
  have hE2 := R10_Encode l t k hi (by omega)
  have hS := same_self _ (encP_len l t k hi)
  generalize encP l t k = r at *
  obtain ⟨p, e⟩ := r
  have he : decide (e = e) = true := decide_eq_true rfl
  unfold P2 Pg.cells at *
  simp only [] at hE hE2 hS
  rw [Run_loop]
  simp only [f_L10_PageEncodeMatchesReference_l0_eq, f_L10_PageEncodeMatchesReference_l0u, d0, w1, hE, hE2, hS, he, h, u1, u2, u3, u4, go_sem]
theorem L10_Encode (l : List Val) (n t k : Int) (hL : l.length < 1000000000000000) (hi : ∀ v ∈ l, InB v) (h0 : 0 ≤ n) (h1 : n < 256) : Den prog 555 [.agg [.sl (l.map Val.cells), .int .u8 n], .int .i64 t, .int .i64 k] [] = some (.bool true, []) := by
  rw [Den_ofK [] pr_L10_PageEncodeMatchesReference rfl]
  have hm := L10_made l n hL h0 h1
  have ht := typT_ok h0
  obtain ⟨ho, hb, hl⟩ := madeL_ok ht hi
  cases hs : smallB l with
  | false => simp only [f_L10_PageEncodeMatchesReference, hs, hL, go_sem]
  | true =>
    have hl3 : l.length ≤ 3000 := by
      unfold smallB at hs
      rw [Bool.and_eq_true] at hs
      have := hs.2
      simp at this; omega
    have hA := page_Encode l t k hi (by omega)
    have hA2 := R10_Encode l t k hi (by omega)
    have hAS := same_self _ (encP_len l t k hi)
    have hB := page_Best l t hi (by omega)
    have hB2 := R10_Best l t hi (by omega)
    have hBS := same_self _ (bestP_len l t hi)
    generalize encP l t k = ra at hA hA2 hAS
    generalize bestP l t = rb at hB hB2 hBS
    generalize madeL l (typT n) = m at hm ho hb hl
    generalize typT n = u at hm ho ht
    have hC := page_Best m u hb (by omega)
    have hC2 := R10_Best m u hb (by omega)
    have hCS := same_self _ (bestP_len m u hb)
    have hst := fun k hk pa pb K Z => EM_step m u k hk hl hb (.cells (Pg.cells pa)) (.cells (Pg.cells pa)) (.cells (Pg.cells pb)) (.cells (Pg.cells pb)) rfl rfl rfl rfl (K := K) (Z := Z)
    generalize bestP m u = rc at hC hC2 hCS
    obtain ⟨pa, ea⟩ := ra
    obtain ⟨pb, eb⟩ := rb
    obtain ⟨pc, ec⟩ := rc
    have ha : decide (ea = ea) = true := decide_eq_true rfl
    have hb' : decide (eb = eb) = true := decide_eq_true rfl
    have hc : decide (ec = ec) = true := decide_eq_true rfl
    have hL2 : l.length < 1000000000000000 := hL
    unfold P2 Pg.cells at *
    simp only [] at hA hA2 hAS hB hB2 hBS hC hC2 hCS
    simp only [f_L10_PageEncodeMatchesReference, hs, hL2, hm, hA, hA2, hAS, hB, hB2, hBS, ha, hb', go_sem]
    refine hst 1 (by decide) pa pb _ _ ?_
    refine hst 2 (by decide) pa pb _ _ ?_
    refine hst 3 (by decide) pa pb _ _ ?_
    refine hst 4 (by decide) pa pb _ _ ?_
    rw [Run_loop]
    have e5 : decide ((4 : Int) + 1 ≤ 4) = false := rfl
    simp only [f_L10_PageEncodeMatchesReference_l0_eq, f_L10_PageEncodeMatchesReference_l0u, e5, hC, hC2, hCS, hc, go_sem]
theorem row_EM (xs : List AV) (h : Args Tryz.prog [24, 3, 3] xs) : Den prog 555 xs [] = some (.bool true, []) := by
  obtain ⟨n, x, ys, rfl, h1, h⟩ := h.one
  obtain ⟨n2, x2, ys2, rfl, h2, h⟩ := h.one
  obtain ⟨n3, x3, ys3, rfl, h3, h⟩ := h.one
  cases h.none
  obtain ⟨L, m, rfl, hL, hi, h0, h4⟩ := sh_col h1
  obtain ⟨t, rfl, _⟩ := sh_int h2
  obtain ⟨k, rfl, _⟩ := sh_int h3
  simp only [avOf, Tryz.underlying24, Tryz.underlying3]
  exact L10_Encode L m t k hL hi h0 h4
end Go.Den
