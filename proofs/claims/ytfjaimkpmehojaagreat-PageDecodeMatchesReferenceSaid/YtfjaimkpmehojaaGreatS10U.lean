/- Package page: Encode, Best. -/
import Derived.Test.YtfjaimkpmehojaaGreatS10T
import Derived.Test.YtfjaimkpmehojaaGreatS10UA
namespace Go.Den
open Go
set_option linter.unusedSimpArgs false
set_option linter.unusedVariables false
set_option maxRecDepth 100000
set_option maxHeartbeats 1000000
theorem type_lt (t : Int) : typeOk t = (!decide (t < 1) && !decide (5 < t)) := by
  unfold typeOk
  rw [Bool.eq_iff_iff]; simp
theorem page_check (k t : Int) : Den prog 477 [.int .i64 k, .int .i64 t] [] = some (.int .i64 (chkP k t), []) := by
  rw [Den_ofK [] pr_page_check rfl]
  have hc := page_coderOf k
  have hk := kind_cases k
  have ht := type_lt t
  unfold chkP
  rw [hk, ht]
  unfold codV at hc
  cases d1 : decide (k = 1) with
  | true =>
    have e : k = 1 := by simpa using d1
    subst e
    have q : decide ((1 : Int) = 3) = false := rfl
    rw [d1] at hc
    simp only [cond_true] at hc
    cases h1 : decide (t < 1) <;> cases h2 : decide (5 < t) <;> simp only [f_page_check, hc, h1, h2, q, Bool.true_or, Bool.not_true, Bool.not_false, Bool.and_self, Bool.and_true, Bool.and_false, Bool.false_and, Bool.or_self, Bool.or_false, cond_true, cond_false, go_sem]
  | false =>
  cases d2 : decide (k = 2) with
  | true =>
    have e : k = 2 := by simpa using d2
    subst e
    have q : decide ((2 : Int) = 3) = false := rfl
    rw [d1, d2] at hc
    simp only [cond_true, cond_false] at hc
    cases h1 : decide (t < 1) <;> cases h2 : decide (5 < t) <;> simp only [f_page_check, hc, h1, h2, q, Bool.false_or, Bool.true_or, Bool.not_true, Bool.not_false, Bool.and_self, Bool.and_true, Bool.and_false, Bool.false_and, Bool.or_self, Bool.or_false, cond_true, cond_false, go_sem]
  | false =>
  cases d3 : decide (k = 3) with
  | true =>
    rw [d1, d2, d3] at hc
    simp only [cond_true, cond_false] at hc
    cases h1 : decide (t < 1) <;> cases h2 : decide (5 < t) <;> cases h4 : decide (t = 4) <;> simp only [f_page_check, hc, d3, h1, h2, h4, Bool.false_or, Bool.true_or, Bool.or_true, Bool.not_true, Bool.not_false, Bool.and_self, Bool.and_true, Bool.and_false, Bool.true_and, Bool.false_and, Bool.or_self, Bool.or_false, cond_true, cond_false, go_sem]
  | false =>
  cases d4 : decide (k = 4) with
  | true =>
    have e : k = 4 := by simpa using d4
    subst e
    have q : decide ((4 : Int) = 3) = false := rfl
    rw [d1, d2, d3, d4] at hc
    simp only [cond_true, cond_false] at hc
    cases h1 : decide (t < 1) <;> cases h2 : decide (5 < t) <;> simp only [f_page_check, hc, h1, h2, q, Bool.false_or, Bool.true_or, Bool.not_true, Bool.not_false, Bool.and_self, Bool.and_true, Bool.and_false, Bool.false_and, Bool.or_self, Bool.or_false, cond_true, cond_false, go_sem]
  | false =>
    rw [d1, d2, d3, d4] at hc
    simp only [cond_false] at hc
    simp only [f_page_check, hc, Bool.false_or, Bool.or_self, Bool.not_false, cond_true, go_sem]
theorem chk_zero {k t : Int} (h : chkP k t = 0) : (k = 1 ∨ k = 2 ∨ k = 3 ∨ k = 4) ∧ typeOk t = true ∧ ¬ (k = 3 ∧ t = 4) := by
  unfold chkP at h
  cases h1 : kindOk k with
  | false => rw [h1] at h; simp at h
  | true =>
    rw [h1] at h
    cases h2 : typeOk t with
    | false => rw [h2] at h; simp at h
    | true =>
      rw [h2] at h
      simp only [kindOk, Bool.and_eq_true, decide_eq_true_eq] at h1
      refine ⟨by omega, rfl, ?_⟩
      rintro ⟨rfl, rfl⟩
      simp at h
def P2 (r : Pg × Int) : AV := .tup [.agg r.1.cells, .int .i64 r.2]
theorem okL_app (a b : List Val) (t : Int) : okL (a ++ b) t = (okL a t && okL b t) := by unfold okL; rw [List.all_append]
theorem okL_cons (v : Val) (l : List Val) (t : Int) : okL (v :: l) t = (okV v t && okL l t) := rfl
theorem Encode_l0 (l : List Val) (t k : Int) (ht : typeOk t = true) (hl : l.length ≤ 1024) (hi : ∀ v ∈ l, InB v) {K : Ex × Env × St → Option (AV × St)} {Z : Option (AV × St)}
    (hK : okL l t = true → K (.exit 0, [(0, .sl (l.map Val.cells)), (1, .int .i64 t), (2, .int .i64 k), (6, .ref 0 0), (22, .sl (l.map Val.cells)), (23, .int .i64 l.length), (24, .int .i64 l.length), (25, .bool false)], [.cells [.int .i64 0, .int .i64 0, .nils]]) = Z)
    (hK2 : okL l t = false → ∀ o : Ob, K (.ret, [(6, .ref 0 0), (7, .int .i64 7)], [.cells [.int .i64 0, .int .i64 0, .nils], o]) = Z) :
    (Run prog 0 (.loop 1 [0, 1, 2, 6, 22, 23, 24] f_page_Encode_l0) [(0, .sl (l.map Val.cells)), (1, .int .i64 t), (2, .int .i64 k), (6, .ref 0 0), (22, .sl (l.map Val.cells)), (23, .int .i64 l.length), (24, .int .i64 0)] [.cells [.int .i64 0, .int .i64 0, .nils]]).bind K = Z := by
  refine range_ind l (by omega) (fun i (_ : Unit) => (Run prog 0 (.loop 1 [0, 1, 2, 6, 22, 23, 24] f_page_Encode_l0) [(0, .sl (l.map Val.cells)), (1, .int .i64 t), (2, .int .i64 k), (6, .ref 0 0), (22, .sl (l.map Val.cells)), (23, .int .i64 l.length), (24, .int .i64 i)] [.cells [.int .i64 0, .int .i64 0, .nils]]).bind K = Z)
    (fun i rest _ => okL l t = okL rest t) ?_ ?_ () rfl
  · intro _ h
    have hK := hK (by rw [h]; rfl)
    clear hK2 h
    rw [Run_loop]
    simp only [f_page_Encode_l0_eq, f_page_Encode_l0u, hK, go_sem]
  · intro i pre rest x _ hq _ hi0 hi1 hx hc hw h ih
    have hv := value_Valid x.null x.n x.s t (hi x (by rw [hq]; simp))
    rw [ht, Bool.true_and] at hv
    have hb := hi x (by rw [hq]; simp)
    rw [okL_cons] at h
    obtain ⟨nu, n, s⟩ := x
    simp only [] at hv
    rw [Run_loop]
    cases d : okV ⟨nu, n, s⟩ t with
    | true =>
      rw [d, Bool.true_and] at h
      rw [d] at hv
      have ih := ih () h
      clear hK hK2 hq
      simp only [f_page_Encode_l0_eq, f_page_Encode_l0u, hx, hc, hw, hv, ih, Val.cells, go_sem]
    | false =>
      rw [d, Bool.false_and] at h
      rw [d] at hv
      have hK2 := fun o => hK2 h o
      clear hK hq ih
      simp only [f_page_Encode_l0_eq, f_page_Encode_l0u, hx, hc, hv, hK2, Val.cells, go_sem]
theorem page_Encode (l : List Val) (t k : Int) (hi : ∀ v ∈ l, InB v) (hL : l.length < 100000000) : Den prog 478 [.sl (l.map Val.cells), .int .i64 t, .int .i64 k] [] = some (P2 (encP l t k), []) := by
  rw [Den_ofK [] pr_page_Encode rfl]
  have hch := page_check k t
  unfold encP P2 Pg.cells
  cases d0 : decide (chkP k t = 0) with
  | false => simp only [f_page_Encode, hch, d0, Bool.not_false, cond_true, noP, go_sem]
  | true =>
    simp only [Bool.not_true, cond_false]
    have c0 : chkP k t = 0 := by simpa using d0
    obtain ⟨hk, ht, h34⟩ := chk_zero c0
    rw [c0] at hch
    cases d1 : decide (1024 < l.length) with
    | true =>
      have d1' : decide ((1024 : Int) < (l.length : Int)) = true := by simp at d1 ⊢; omega
      simp only [f_page_Encode, hch, d1', cond_true, noP, go_sem]
    | false =>
      have d1' : decide ((1024 : Int) < (l.length : Int)) = false := by simp at d1 ⊢; omega
      have hl : l.length ≤ 1024 := by simp at d1; omega
      have hl0 := fun K Z => Encode_l0 l t k ht hl hi (K := K) (Z := Z)
      simp only [f_page_Encode, hch, d1', go_sem]
      refine hl0 _ _ ?_ ?_
      · intro ho
        rw [ho]
        have hc : Col l t := fun v hv => ⟨okL_mem ho v hv, hi v hv⟩
        have hcd := page_coderOf k
        unfold codV at hcd
        unfold conP
        rcases hk with rfl | rfl | rfl | rfl
        · have he := plain_encode l t hl hc
          have htl : tlook [(77, 516), (78, 542), (79, 518), (80, 520)] 77 = some 516 := rfl
          simp only [decide_true, cond_true] at hcd ⊢
          simp only [hcd, htl, he, Bool.not_true, cond_false, go_sem]
        · have he := dict_encode l t hl hc
          have htl : tlook [(77, 516), (78, 542), (79, 518), (80, 520)] 78 = some 542 := rfl
          have q1 : decide ((2 : Int) = 1) = false := rfl
          simp only [q1, decide_true, cond_true, cond_false] at hcd ⊢
          simp only [hcd, htl, he, Bool.not_true, cond_false, go_sem]
        · have he := delta_encode l t hl hi
          have htl : tlook [(77, 516), (78, 542), (79, 518), (80, 520)] 79 = some 518 := rfl
          have q1 : decide ((3 : Int) = 1) = false := rfl
          have q2 : decide ((3 : Int) = 2) = false := rfl
          simp only [q1, q2, decide_true, cond_true, cond_false] at hcd ⊢
          simp only [hcd, htl, he, Bool.not_true, cond_false, go_sem]
        · have he := runs_encode l t hl hc
          have htl : tlook [(77, 516), (78, 542), (79, 518), (80, 520)] 80 = some 520 := rfl
          have q1 : decide ((4 : Int) = 1) = false := rfl
          have q2 : decide ((4 : Int) = 2) = false := rfl
          have q3 : decide ((4 : Int) = 3) = false := rfl
          simp only [q1, q2, q3, decide_true, cond_true, cond_false] at hcd ⊢
          simp only [hcd, htl, he, Bool.not_true, cond_false, go_sem]
      · intro ho o
        rw [ho]
        simp only [Bool.not_false, cond_true, cond_false, noP, go_sem]
theorem Best_round (l : List Val) (t : Int) (hi : ∀ v ∈ l, InB v) (hL : l.length < 100000000) (p : Pg) (i k : Int) (h0 : 0 ≤ i) (h3 : i < 3) (hk : getE [[AV.int .i64 2], [AV.int .i64 3], [AV.int .i64 4]] i = some [.int .i64 k]) {K : Ex × Env × St → Option (AV × St)} {Z : Option (AV × St)}
    (hK : (Run prog 0 (.loop 2 [0, 1, 4, 6, 22, 23, 24] f_page_Best_l0) [(0, .sl (l.map Val.cells)), (1, .int .i64 t), (4, .ref 0 0), (6, .ref 1 0), (22, .sl [[.int .i64 2], [.int .i64 3], [.int .i64 4]]), (23, .int .i64 3), (24, .int .i64 (i + 1))] [.cells [.int .i64 0, .int .i64 0, .nils], .cells (better l t k p).cells]).bind K = Z) :
    (Run prog 0 (.loop 2 [0, 1, 4, 6, 22, 23, 24] f_page_Best_l0) [(0, .sl (l.map Val.cells)), (1, .int .i64 t), (4, .ref 0 0), (6, .ref 1 0), (22, .sl [[.int .i64 2], [.int .i64 3], [.int .i64 4]]), (23, .int .i64 3), (24, .int .i64 i)] [.cells [.int .i64 0, .int .i64 0, .nils], .cells p.cells]).bind K = Z := by
  have he := page_Encode l t k hi hL
  have d3 : decide (i < 3) = true := by simpa using h3
  have w : IntKind.wrap .i64 (i + 1) = i + 1 := wrap_i64 (by omega) (by omega)
  unfold better at hK
  generalize encP l t k = r at *
  obtain ⟨⟨kd, rw_, b⟩, e⟩ := r
  obtain ⟨pk, pr, pb⟩ := p
  simp only [P2, Pg.cells] at he hK ⊢
  rw [Run_loop]
  cases d1 : decide (e = 0) with
  | false =>
    rw [d1, Bool.false_and, cond_false] at hK
    simp only [f_page_Best_l0_eq, f_page_Best_l0u, d3, w, hk, he, d1, hK, go_sem]
  | true =>
    rw [d1, Bool.true_and] at hK
    cases d2 : decide (b.length < pb.length) with
    | true =>
      rw [d2, cond_true] at hK
      have d2' : decide ((b.length : Int) < (pb.length : Int)) = true := by simp at d2 ⊢; omega
      simp only [f_page_Best_l0_eq, f_page_Best_l0u, d3, w, hk, he, d1, d2', hK, go_sem]
    | false =>
      rw [d2, cond_false] at hK
      have d2' : decide ((b.length : Int) < (pb.length : Int)) = false := by simp at d2 ⊢; omega
      simp only [f_page_Best_l0_eq, f_page_Best_l0u, d3, w, hk, he, d1, d2', hK, go_sem]
theorem page_Best (l : List Val) (t : Int) (hi : ∀ v ∈ l, InB v) (hL : l.length < 100000000) : Den prog 484 [.sl (l.map Val.cells), .int .i64 t] [] = some (P2 (bestP l t), []) := by
  rw [Den_ofK [] pr_page_Best rfl]
  have he := page_Encode l t 1 hi hL
  unfold bestP
  have hr := fun i k h0 h3 hk p K Z => Best_round l t hi hL p i k h0 h3 hk (K := K) (Z := Z)
  generalize encP l t 1 = r at *
  obtain ⟨⟨kd, rw_, b⟩, e⟩ := r
  simp only [P2, Pg.cells] at he ⊢
  cases d1 : decide (e = 0) with
  | false => simp only [f_page_Best, he, d1, Bool.not_false, cond_true, noP, go_sem]
  | true =>
    simp only [f_page_Best, he, d1, Bool.not_true, cond_false, go_sem]
    refine hr 0 2 (by decide) (by decide) rfl ⟨kd, rw_, b⟩ _ _ ?_
    refine hr 1 3 (by decide) (by decide) rfl _ _ _ ?_
    refine hr 2 4 (by decide) (by decide) rfl _ _ _ ?_
    generalize better l t 4 (better l t 3 (better l t 2 ⟨kd, rw_, b⟩)) = q
    obtain ⟨qk, qr, qb⟩ := q
    have d : decide ((2 : Int) + 1 < 3) = false := rfl
    simp only [Pg.cells]
    rw [Run_loop]
    simp only [f_page_Best_l0_eq, f_page_Best_l0u, d, go_sem]
end Go.Den
