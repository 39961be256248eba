/- Ch. 10: PageUnique. -/
import Derived.Test.YtfjaimkpmehojaaGreatS10M
import Derived.Test.YtfjaimkpmehojaaGreatS10NA
import Derived.Test.YtfjaimkpmehojaaGreatSh10
namespace Go.Den
open Go Go.Proofs
set_option linter.unusedSimpArgs false
set_option linter.unusedVariables false
set_option maxRecDepth 100000
set_option maxHeartbeats 1000000
def colE (l : List Val) (t : Int) : Int := bif decide (1024 < l.length) then 2 else bif l.all (fun v => typeOk t && okV v t) then 0 else 7
theorem R10_Column (l : List Val) (t : Int) (hL : l.length < 1000000000000000) : Den prog 494 [.sl (l.map Val.cells), .int .i64 t] [] = some (.int .i64 (colE l t), []) := by
  rw [Den_ofK [] pr_R10_Column rfl]
  unfold colE
  have dd : decide ((1024 : Int) < (l.length : Int)) = decide (1024 < l.length) := by rw [Bool.eq_iff_iff]; simp; omega
  cases d : decide (1024 < l.length) with
  | true =>
    rw [d] at dd
    simp only [f_R10_Column, dd, cond_true, go_sem]
  | false =>
    rw [d] at dd
    rw [cond_false]
    simp only [f_R10_Column, dd, go_sem]
    refine range_ind l hL (fun i (_ : Unit) => (Run prog 0 (.loop 0 [0, 1, 5] f_R10_Column_l0) [(0, .sl (l.map Val.cells)), (1, .int .i64 t), (5, .int .i64 i)] []).bind _ = _) (fun i rest _ => l.all (fun v => typeOk t && okV v t) = rest.all (fun v => typeOk t && okV v t)) ?_ ?_ () rfl
    · intro _ h
      rw [h, Run_loop]
      simp only [f_R10_Column_l0_eq, f_R10_Column_l0u, List.all_nil, cond_true, go_sem]
    · intro i pre rest x _ hp _ hi0 hi1 hx hc hw h ih
      rw [Run_loop]
      rw [mall] at h
      have hv := R05_Valid x.null x.n x.s t
      cases dv : (typeOk t && okV x t) with
      | false =>
        have dv' : (typeOk t && okV ⟨x.null, x.n, x.s⟩ t) = false := dv
        rw [dv'] at hv
        rw [h, dv, Bool.false_and, cond_false]
        clear h hp ih
        simp only [f_R10_Column_l0_eq, f_R10_Column_l0u, hx, hc, hw, hv, Val.cells, go_sem]
      | true =>
        have dv' : (typeOk t && okV ⟨x.null, x.n, x.s⟩ t) = true := dv
        rw [dv'] at hv
        rw [dv, Bool.true_and] at h
        have ih := ih () h
        clear h hp
        simp only [f_R10_Column_l0_eq, f_R10_Column_l0u, hx, hc, hw, hv, ih, Val.cells, go_sem]
theorem encP_ok {l : List Val} {t k : Int} {p : Pg} (h : encP l t k = (p, 0)) : chkP k t = 0 ∧ l.length ≤ 1024 ∧ okL l t = true ∧ p = ⟨k, l.length, conP l t k⟩ := by
  unfold encP at h
  cases d0 : decide (chkP k t = 0) with
  | false => rw [d0] at h; simp at h d0; exact absurd h.2 d0
  | true =>
    rw [d0] at h
    cases d1 : decide (1024 < l.length) with
    | true => rw [d1] at h; simp at h
    | false =>
      rw [d1] at h
      cases d2 : okL l t with
      | false => rw [d2] at h; simp at h
      | true =>
        rw [d2] at h
        simp at h d0 d1
        exact ⟨d0, by omega, rfl, h.symm⟩
theorem encP_len (l : List Val) (t k : Int) (hi : ∀ v ∈ l, InB v) : (encP l t k).1.b.length ≤ 300000 := by
  unfold encP
  cases decide (chkP k t = 0) with
  | false => simp [noP]
  | true =>
    cases d : decide (1024 < l.length) with
    | true => simp [noP]
    | false =>
      cases d2 : okL l t with
      | false => simp [noP]
      | true => exact conP_len k (by simp at d; omega) (fun v hv => ⟨okL_mem d2 v hv, hi v hv⟩)
end Go.Den
