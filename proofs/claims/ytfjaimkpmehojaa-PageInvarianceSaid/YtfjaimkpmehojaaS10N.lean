
/- Ch. 10: PageUnique. -/
import Derived.Test.YtfjaimkpmehojaaS10M
import Derived.Test.YtfjaimkpmehojaaS10NA
import Derived.Test.YtfjaimkpmehojaaSh10
namespace Go.Den
open Go Go.Proofs
set_option linter.unusedSimpArgs false
set_option linter.unusedVariables false
set_option maxRecDepth 100000
set_option maxHeartbeats 1000000
def colE (l : List Val) (t : Int) : Int := bif decide (1024 < l.length) then 2 else bif l.all (fun v => typeOk t && okV v t) then 0 else 7
theorem encP_ok {l : List Val} {t k : Int} {p : Pg} (h : encP l t k = (p, 0)) : chkP k t = 0 ∧ l.length ≤ 1024 ∧ okL l t = true ∧ p = ⟨k, l.length, conP l t k⟩ := by
  unfold encP at h
  cases d0 : decide (chkP k t = 0) with
  | false => rw [d0] at h; simp at h d0; exact absurd h.2 d0
  | true =>
    rw [d0] at h
    cases d1 : decide (1024 < l.length) with
    | true => rw [d1] at h; simp at h
    | false =>
      rw [d1] at h
      cases d2 : okL l t with
      | false => rw [d2] at h; simp at h
      | true =>
        rw [d2] at h
        simp at h d0 d1
        exact ⟨d0, by omega, rfl, h.symm⟩
end Go.Den
