
/- Ch. 10: PageUnique. -/
import Derived.Test.YtfjaimkpmehojaaS10M
import Derived.Test.YtfjaimkpmehojaaS10NA
import Derived.Test.YtfjaimkpmehojaaSh10
namespace Go.Den
open Go Go.Proofs
set_option linter.unusedSimpArgs false
set_option linter.unusedVariables false
set_option maxRecDepth 100000
set_option maxHeartbeats 1000000
def colE (l : List Val) (t : Int) : Int := bif decide (1024 < l.length) then 2 else bif l.all (fun v => typeOk t && okV v t) then 0 else 7
theorem encP_ok {l : List Val} {t k : Int} {p : Pg} (h : encP l t k = (p, 0)) : chkP k t = 0 ∧ l.length ≤ 1024 ∧ okL l t = true ∧ p = ⟨k, l.length, conP l t k⟩ := by
  unfold encP at h
  cases d0 : decide (chkP k t = 0) with
  | false => rw [d0] at h; simp at h d0; exact absurd h.2 d0
  | true =>
    rw [d0] at h
    cases d1 : decide (1024 < l.length) with
    | true => rw [d1] at h; simp at h
    | false =>
      rw [d1] at h
      cases d2 : okL l t with
      | false => rw [d2] at h; simp at h
      | true =>
        rw [d2] at h
        simp at h d0 d1
        exact ⟨d0, by omega, rfl, h.symm⟩
theorem decP_cases (p : Pg) (t : Int) : ((decP p t).2 ≠ 0 ∧ (decP p t).1 = []) ∨ ((decP p t).2 = 0 ∧ chkP p.kind t = 0 ∧ parP p t = some (decP p t).1 ∧ encP (decP p t).1 t p.kind = (p, 0)) := by
  unfold decP
  cases d0 : decide (chkP p.kind t = 0) with
  | false => simp at d0; exact .inl ⟨d0, rfl⟩
  | true =>
    simp only [Bool.not_true, cond_false]
    cases decide (p.rows < 0) || decide (1024 < p.rows) with
    | true => exact .inl ⟨by simp, rfl⟩
    | false =>
      simp only [cond_false]
      cases hp : parP p t with
      | none => exact .inl ⟨by simp, rfl⟩
      | some l =>
        simp only []
        cases d : decide ((encP l t p.kind).2 = 0) && samP (encP l t p.kind).1 p with
        | false => exact .inl ⟨by simp, rfl⟩
        | true =>
          rw [Bool.and_eq_true] at d
          obtain ⟨d1, d2⟩ := d
          rw [samP_iff] at d2
          simp at d0 d1
          refine .inr ⟨rfl, d0, rfl, ?_⟩
          exact Prod.ext d2 d1
end Go.Den
