/- The reference's Valid and Same. -/
import Derived.Test.YtggelolphgcpgaaS06M
namespace Go.Den
open Go
set_option linter.unusedSimpArgs false
set_option linter.unusedVariables false
set_option maxRecDepth 100000
set_option maxHeartbeats 1000000
theorem Same_zero : Den prog 207 [.agg [.sl [], .int .i64 0], .agg [.sl [], .int .i64 0]] [] = some (.bool true, []) := by
  rw [Den_ofK [] pr_R06_Same rfl]
  have d0 : decide ((0 : Int) = 0) = true := rfl
  have d1 : decide ((0 : Int) < 0) = false := rfl
  simp only [f_R06_Same, d0, go_sem]
  rw [Run_loop]
  simp only [f_R06_Same_l0_eq, f_R06_Same_l0u, d1, go_sem]
theorem R06_Valid (fs : List Fld) (next : Int) (s : SV fs next) : Den prog 211 [.agg [.sl (fs.map Fld.cells), .int .i64 next]] [] = some (.bool true, []) := by
  have hl := s.i.len
  have hL2 : fs.length < 1000000000000000 := by omega
  have a1 : decide (64 < (fs.length : Int)) = false := by simp; omega
  have a2 : decide (next < 1) = false := by have := s.i.n0; simp; omega
  have a3 : decide (1073741824 < next) = false := by have := s.i.n1; simp; omega
  rw [Den_ofK [] pr_R06_Valid rfl]
  simp only [f_R06_Valid, a1, a2, a3, go_sem]
  refine range_ind fs hL2 (fun i (_ : Unit) => (Run prog 0 (.loop 0 [1, 3] f_R06_Valid_l0) [(1, .rptr [.sl (fs.map Fld.cells), .int .i64 next]), (3, .int .i64 i)] []).bind _ = _) (fun _ _ _ => True) ?_ ?_ () trivial
  · intro _ _
    rw [Run_loop]
    simp only [f_R06_Valid_l0_eq, f_R06_Valid_l0u, go_sem]
  · intro i pre rest x _ hq hip hi0 hil hx hc hw _ ih
    have ih := ih () trivial
    have hxm : x ∈ fs := by rw [hq]; simp
    have b1 : decide (x.id < 1) = false := by have := s.n.q.pos x hxm; simp; omega
    have b2 : decide (next ≤ x.id) = false := by have := s.n.lt x hxm; simp; omega
    have b3 := s.nm x hxm
    have b4 : decide (x.type < 1) = false := by have := s.ty x hxm; simp; omega
    have b5 : decide (6 < x.type) = false := by have := s.ty x hxm; simp; omega
    have b6 : decide (8 < depth fs 9 x.id 0) = false := by have := (deep_dp fs x.id).2 (s.dp x hxm); simp; omega
    have hn := s.i.nm x hxm
    have hgr := s.gr x hxm
    have hpre : ∀ (k : Int) (z : Fld), getE pre k = some z → getE fs k = some z := by
      intro k z hk
      unfold getE at hk ⊢
      split at hk
      · rename_i h0
        rw [if_pos h0, hq, List.getElem?_append_left (List.getElem?_eq_some_iff.1 hk).1]
        exact hk
      · exact absurd hk (by simp)
    have hdis : ∀ z ∈ pre, ¬ (z.par = x.par ∧ z.name = x.name) := by
      have := s.un
      rw [hq, List.pairwise_append] at this
      exact fun z hz => this.2.2 z hz x (by simp)
    -- the one before
    have prev : decide (0 < i) = false ∨ ∃ y, decide (0 < i) = true ∧ IntKind.wrap .i64 (i - 1) = i - 1 ∧ getE fs (i - 1) = some y ∧ decide (x.id ≤ y.id) = false := by
      rcases List.eq_nil_or_concat pre with h | ⟨p', y, h⟩
      · left; subst h; simp at hip; simp [hip]
      · right
        have hpl : i = (p'.length : Int) + 1 := by rw [hip, h]; simp
        refine ⟨y, by simp; omega, wrap_i64 (by omega) (by omega), hpre _ _ ?_, ?_⟩
        · unfold getE
          rw [if_pos (by omega), h, show (i - 1).toNat = p'.length by omega]
          simp
        · have := s.n.q.rise
          rw [hq, h, List.pairwise_append] at this
          have := this.2.2 y (by simp) x (by simp)
          simp; omega
    have hpl : pre.length < 1000000000000000 := by rw [hq, List.length_append] at hL2; omega
    -- the inner loop
    have inner : ∀ {β : Type} {K : Ex × Env × St → Option β} {Z : Option β} (o1 : Ob), K (.exit 2, [(1, .rptr [.sl (fs.map Fld.cells), .int .i64 next]), (3, .int .i64 i), (4, .ref 0 0), (8, .int .i64 i), (106, .bool false)], [.cells [.int .i64 x.id, .str x.name, .int .i64 x.type, .int .i64 x.par], o1]) = Z →
        (Run prog 0 (.loop 2 [1, 3, 4, 8] f_R06_Valid_l1) [(1, .rptr [.sl (fs.map Fld.cells), .int .i64 next]), (3, .int .i64 i), (4, .ref 0 0), (8, .int .i64 0)] [.cells [.int .i64 x.id, .str x.name, .int .i64 x.type, .int .i64 x.par], o1]).bind K = Z := by
      intro β K Z o1 hK
      refine range_ind pre hpl (fun k (_ : Unit) => (Run prog 0 (.loop 2 [1, 3, 4, 8] f_R06_Valid_l1) [(1, .rptr [.sl (fs.map Fld.cells), .int .i64 next]), (3, .int .i64 i), (4, .ref 0 0), (8, .int .i64 k)] [.cells [.int .i64 x.id, .str x.name, .int .i64 x.type, .int .i64 x.par], o1]).bind K = Z) (fun _ _ _ => True) ?_ ?_ () trivial
      · intro _ _
        have e : decide ((pre.length : Int) < i) = false := by rw [hip]; simp
        rw [← hip] at e ⊢
        rw [Run_loop]
        simp only [f_R06_Valid_l1_eq, f_R06_Valid_l1u, e, hK, go_sem]
      · intro k p2 r2 z _ hq2 _ _ _ hz hcz hwz _ ihz
        have ihz := ihz () trivial
        have hz2 := hpre k z hz
        have hzm : z ∈ pre := by rw [hq2]; simp
        have hnd := hdis z hzm
        rw [← hip] at hcz
        clear hq2
        rw [Run_loop]
        cases e1 : decide (z.par = x.par) with
        | false => simp only [f_R06_Valid_l1_eq, f_R06_Valid_l1u, hz2, hcz, hwz, e1, ihz, go_sem]
        | true =>
          have e2 : decide (z.name = x.name) = false := by
            rw [decide_eq_false_iff_not]; intro e; exact hnd ⟨by simpa using e1, e⟩
          simp only [f_R06_Valid_l1_eq, f_R06_Valid_l1u, hz2, hcz, hwz, e1, e2, ihz, go_sem]
    clear hq hpre hdis
    rw [Run_loop]
    have gcase : decide (x.par = 0) = true ∨ (decide (x.par = 0) = false ∧ hasF fs x.par = true ∧ decide ((getF fs x.par).type = 6) = true) := by
      by_cases h0 : x.par = 0
      · left; simpa using h0
      · right
        obtain ⟨h1, h2⟩ := group_par hgr h0
        exact ⟨by simpa using h0, h1, by simpa using h2⟩
    rcases prev with hp | ⟨y, hp, hwp, hy, hyx⟩
    · rcases gcase with g0 | ⟨g0, g1, g2⟩
      · simp only [f_R06_Valid_l0_eq, f_R06_Valid_l0u, hx, hc, hn, hL2, b1, b2, b3, b4, b5, b6, hp, g0, go_sem]
        refine inner _ ?_
        simp only [hw, ih, go_sem]
      · simp only [f_R06_Valid_l0_eq, f_R06_Valid_l0u, hx, hc, hn, hL2, b1, b2, b3, b4, b5, b6, hp, g0, g1, g2, go_sem]
        refine inner _ ?_
        simp only [hw, ih, go_sem]
    · rcases gcase with g0 | ⟨g0, g1, g2⟩
      · simp only [f_R06_Valid_l0_eq, f_R06_Valid_l0u, hx, hc, hn, hL2, b1, b2, b3, b4, b5, b6, hp, hwp, hy, hyx, g0, go_sem]
        refine inner _ ?_
        simp only [hw, ih, go_sem]
      · simp only [f_R06_Valid_l0_eq, f_R06_Valid_l0u, hx, hc, hn, hL2, b1, b2, b3, b4, b5, b6, hp, hwp, hy, hyx, g0, g1, g2, go_sem]
        refine inner _ ?_
        simp only [hw, ih, go_sem]
end Go.Den
