
/- Ch. 10: the reference's Encode and Best. -/
import Derived.Test.YtfjaimkpmehojaaGreatS10J
namespace Go.Den
open Go
set_option linter.unusedSimpArgs false
set_option linter.unusedVariables false
set_option maxRecDepth 100000
set_option maxHeartbeats 1000000
theorem bare_num {n : Int} {s : ByteArray} {t : Int} (h : decide (t = 4) = false) : bareB ⟨false, n, s⟩ t = leb (zz n) := by
  unfold bareB; rw [h]; rfl
theorem R10_content_l0 (l : List Val) (t k : Int) (hl : l.length ≤ 1024) (hc : Col l t) (hk : k = 1 ∨ (k = 3 ∧ decide (t = 4) = false)) {K : Ex × Env × St → Option (AV × St)} {Z : Option (AV × St)}
    (hK : ∀ z : Int, K (.exit 1, [(0, .sl (l.map Val.cells)), (1, .int .i64 t), (2, .int .i64 k), (7, .sl ((maskOf l ++ bif decide (k = 3) then bodyD 0 l else bodyP l t).map bcell)), (8, .int .i64 z), (9, .int .i64 l.length), (27, .bool false)], []) = Z) :
    (Run prog 0 (.loop 0 [0, 1, 2, 7, 8, 9] f_R10_content_l0) [(0, .sl (l.map Val.cells)), (1, .int .i64 t), (2, .int .i64 k), (7, .sl ((maskOf l).map bcell)), (8, .int .i64 0), (9, .int .i64 0)] []).bind K = Z := by
  have hml := maskOf_len l
  refine range_ind l (by omega) (fun i (a : List UInt8 × Int) => (Run prog 0 (.loop 0 [0, 1, 2, 7, 8, 9] f_R10_content_l0) [(0, .sl (l.map Val.cells)), (1, .int .i64 t), (2, .int .i64 k), (7, .sl (a.1.map bcell)), (8, .int .i64 a.2), (9, .int .i64 i)] []).bind K = Z)
    (fun i rest a => a.1.length + 300 * rest.length ≤ 1000000 ∧ (-9223372036854775808 ≤ a.2 ∧ a.2 ≤ 9223372036854775807) ∧ (a.1 ++ bif decide (k = 3) then bodyD a.2 rest else bodyP rest t) = (maskOf l ++ bif decide (k = 3) then bodyD 0 l else bodyP l t)) ?_ ?_ (maskOf l, 0) ⟨by simp only []; omega, by simp, rfl⟩
  · intro ⟨O, z⟩ ⟨h1, h2, h3⟩
    simp only [] at h3 ⊢
    have e : O = maskOf l ++ bif decide (k = 3) then bodyD 0 l else bodyP l t := by
      rw [← h3]
      cases decide (k = 3) <;> simp [bodyD, bodyP]
    have hK := hK z
    rw [← e] at hK
    clear e h3
    rw [Run_loop]
    simp only [f_R10_content_l0_eq, f_R10_content_l0u, hK, go_sem]
  · intro i pre rest x ⟨O, z⟩ hp _ hi0 hi1 hx hcx hw ⟨h1, h2, h3⟩ ih
    simp only [] at h1 h2 h3 ih ⊢
    have hxc := hc x (by rw [hp]; simp)
    have hsz := okV_size hxc.1
    have hbl := bareB_len hxc.1 hxc.2
    have hol : O.length ≤ 1000000 := by omega
    simp only [List.length_cons] at h1
    obtain ⟨nu, n, s⟩ := x
    simp only [] at hsz
    have hin : -9223372036854775808 ≤ n ∧ n ≤ 9223372036854775807 := hxc.2
    rw [Run_loop]
    cases nu with
    | true =>
      have ih := ih (O, z) ⟨by simp only []; omega, h2, by
        simp only []
        rw [← h3]
        cases decide (k = 3) <;> simp [bodyD, bodyP]⟩
      clear hK h3 hp
      simp only [f_R10_content_l0_eq, f_R10_content_l0u, hx, hcx, hw, ih, Val.cells, go_sem]
    | false =>
      rcases hk with rfl | ⟨rfl, h4⟩
      · have q : decide ((1 : Int) = 3) = false := rfl
        rw [q] at h3
        have hB := R10_Bare O false n s t (by omega) (by omega) hin
        have ih := ih (O ++ bareB ⟨false, n, s⟩ t, z) ⟨by simp only [List.length_append]; omega, h2, by
          rw [q]
          simp only [cond_false] at h3 ⊢
          rw [← h3]; simp [bodyP]⟩
        clear hK h3 hp
        generalize O ++ bareB ⟨false, n, s⟩ t = O2 at *
        simp only [f_R10_content_l0_eq, f_R10_content_l0u, hx, hcx, hw, q, hB, ih, Val.cells, go_sem]
      · have q : decide ((3 : Int) = 3) = true := rfl
        rw [q] at h3
        have hwr : -9223372036854775808 ≤ IntKind.wrap .i64 (n - z) ∧ IntKind.wrap .i64 (n - z) ≤ 9223372036854775807 := by
          simp [IntKind.wrap, IntKind.bits, IntKind.signed]; omega
        have hB := R10_Bare O false (IntKind.wrap .i64 (n - z)) s t (by omega) (by omega) hwr
        rw [bare_num h4] at hB
        have hl10 := leb_len10 (zz_lt hwr.1 hwr.2)
        have ih := ih (O ++ leb (zz (IntKind.wrap .i64 (n - z))), n) ⟨by simp only [List.length_append]; omega, hin, by
          rw [q]
          simp only [cond_true] at h3 ⊢
          rw [← h3]; simp [bodyD]⟩
        clear hK h3 hp hl10 hwr
        generalize O ++ leb (zz (IntKind.wrap .i64 (n - z))) = O2 at *
        generalize hdz : IntKind.wrap .i64 (n - z) = dz at *
        simp only [f_R10_content_l0_eq, f_R10_content_l0u, hx, hcx, hw, q, hdz, hB, ih, Val.cells, go_sem]
theorem R10_content (l : List Val) (t k : Int) (hl : l.length ≤ 1024) (hc : Col l t) (hk : chkP k t = 0) : Den prog 547 [.sl (l.map Val.cells), .int .i64 t, .int .i64 k] [] = some (.sl ((conP l t k).map bcell), []) := by
  obtain ⟨hk1, ht, h34⟩ := chk_zero hk
  rw [Den_ofK [] pr_R10_content rfl]
  have hM := R10_Mask l (by omega)
  unfold conP
  rcases hk1 with rfl | rfl | rfl | rfl
  · have hl0 := fun K Z => R10_content_l0 l t 1 hl hc (.inl rfl) (K := K) (Z := Z)
    have q1 : decide ((1 : Int) = 1) = true := rfl
    have q2 : decide ((1 : Int) = 2) = false := rfl
    have q3 : decide ((1 : Int) = 3) = false := rfl
    have q4 : decide ((1 : Int) = 4) = false := rfl
    rw [q3] at hl0
    simp only [cond_false] at hl0
    rw [q1, cond_true]
    unfold plainP
    generalize maskOf l ++ bodyP l t = B at *
    generalize maskOf l = M at *
    simp only [f_R10_content, q2, q4, hM, go_sem]
    refine hl0 _ _ (fun z => ?_)
    simp only [go_sem]
  · have q1 : decide ((2 : Int) = 1) = false := rfl
    have q2 : decide ((2 : Int) = 2) = true := rfl
    have hd := R10_dict l t hl hc
    rw [q1, q2]
    simp only [cond_true, cond_false]
    generalize dictP l t = B at *
    simp only [f_R10_content, q2, hd, go_sem]
  · have h4 : decide (t = 4) = false := by
      rw [decide_eq_false_iff_not]; intro e; exact h34 ⟨rfl, e⟩
    have hl0 := fun K Z => R10_content_l0 l t 3 hl hc (.inr ⟨rfl, h4⟩) (K := K) (Z := Z)
    have q1 : decide ((3 : Int) = 1) = false := rfl
    have q2 : decide ((3 : Int) = 2) = false := rfl
    have q3 : decide ((3 : Int) = 3) = true := rfl
    have q4 : decide ((3 : Int) = 4) = false := rfl
    rw [q3] at hl0
    simp only [cond_true] at hl0
    rw [q1, q2, q3]
    simp only [cond_true, cond_false]
    unfold deltaP
    generalize maskOf l ++ bodyD 0 l = B at *
    generalize maskOf l = M at *
    simp only [f_R10_content, q2, q4, hM, go_sem]
    refine hl0 _ _ (fun z => ?_)
    simp only [go_sem]
  · have q1 : decide ((4 : Int) = 1) = false := rfl
    have q2 : decide ((4 : Int) = 2) = false := rfl
    have q3 : decide ((4 : Int) = 3) = false := rfl
    have q4 : decide ((4 : Int) = 4) = true := rfl
    have hd := R10_runs l t hl hc
    rw [q1, q2, q3]
    simp only [cond_false]
    generalize runsP l t = B at *
    simp only [f_R10_content, q2, q4, hd, go_sem]
theorem R10_Encode (l : List Val) (t k : Int) (hi : ∀ v ∈ l, InB v) (hL : l.length < 100000000) : Den prog 548 [.sl (l.map Val.cells), .int .i64 t, .int .i64 k] [] = some (P2 (encP l t k), []) := by
  rw [Den_ofK [] pr_R10_Encode rfl]
  have hN := R10_numbers t k
  have hC := R10_Column l t (by omega)
  have hct : ∀ h : chkP k t = 0, l.length ≤ 1024 → Col l t → Den prog 547 [.sl (l.map Val.cells), .int .i64 t, .int .i64 k] [] = some (.sl ((conP l t k).map bcell), []) := fun h h1 h2 => R10_content l t k h1 h2 h
  unfold encP P2 Pg.cells
  have ek : kindOk k = !(decide (k < 1) || decide (4 < k)) := by
    unfold kindOk; rw [Bool.eq_iff_iff]; simp
  cases d1 : decide (k < 1) with
  | true =>
    have hc : chkP k t = 1 := by unfold chkP; rw [ek, d1]; rfl
    rw [hc]
    have e1 : decide ((1 : Int) = 0) = false := rfl
    simp only [f_R10_Encode, d1, e1, Bool.not_false, cond_true, noP, go_sem]
  | false =>
  cases d2 : decide (4 < k) with
  | true =>
    have hc : chkP k t = 1 := by unfold chkP; rw [ek, d1, d2]; rfl
    rw [hc]
    have e1 : decide ((1 : Int) = 0) = false := rfl
    simp only [f_R10_Encode, d1, d2, e1, Bool.not_false, cond_true, noP, go_sem]
  | false =>
  have hkk : kindOk k = true := by rw [ek, d1, d2]; rfl
  cases d3 : (typeOk t && !(decide (k = 3) && decide (t = 4))) with
  | false =>
    rw [d3] at hN
    have hc : chkP k t = 7 := by
      unfold chkP; rw [hkk]
      cases a : typeOk t <;> cases b : (decide (k = 3) && decide (t = 4)) <;> rw [a, b] at d3 <;> first | (exact absurd d3 (by decide)) | rfl
    rw [hc]
    have e1 : decide ((7 : Int) = 0) = false := rfl
    simp only [f_R10_Encode, d1, d2, hN, e1, Bool.not_false, cond_true, noP, go_sem]
  | true =>
    rw [d3] at hN
    have ht : typeOk t = true := (Bool.and_eq_true _ _ ▸ d3 : typeOk t = true ∧ _).1
    have hc : chkP k t = 0 := by
      unfold chkP; rw [hkk, ht]
      have := (Bool.and_eq_true _ _ ▸ d3 : typeOk t = true ∧ _).2
      cases b : (decide (k = 3) && decide (t = 4)) <;> rw [b] at this <;> first | (exact absurd this (by decide)) | rfl
    rw [hc]
    have hct := hct hc
    have e0 : decide ((0 : Int) = 0) = true := rfl
    have e2 : decide ((2 : Int) = 0) = false := rfl
    have e7 : decide ((7 : Int) = 0) = false := rfl
    have eo : l.all (fun v => typeOk t && okV v t) = okL l t := by unfold okL; simp only [ht, Bool.true_and]
    unfold colE at hC
    rw [eo] at hC
    simp only [e0, Bool.not_true, cond_false]
    cases d4 : decide (1024 < l.length) with
    | true =>
      rw [d4, cond_true] at hC
      simp only [f_R10_Encode, d1, d2, hN, hC, e2, cond_true, cond_false, noP, go_sem]
    | false =>
      rw [d4, cond_false] at hC
      cases d5 : okL l t with
      | false =>
        rw [d5, cond_false] at hC
        simp only [f_R10_Encode, d1, d2, hN, hC, e7, cond_true, cond_false, Bool.not_false, noP, go_sem]
      | true =>
        rw [d5, cond_true] at hC
        have hct := hct (by simp at d4; omega) (fun v hv => ⟨okL_mem d5 v hv, hi v hv⟩)
        simp only [f_R10_Encode, d1, d2, hN, hC, e0, hct, cond_true, cond_false, Bool.not_true, go_sem]
end Go.Den
