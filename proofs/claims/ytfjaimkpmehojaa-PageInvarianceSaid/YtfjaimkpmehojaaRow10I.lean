/- The row of PageInvariance. -/
import Derived.Test.YtfjaimkpmehojaaRows
import Derived.Test.YtfjaimkpmehojaaDenY
import Derived.Test.YtfjaimkpmehojaaFn10ILink
import Derived.Test.YtfjaimkpmehojaaS10IL
import Derived.WalkKit
import Derived.ProofKit
import Derived.OpenShut
import Derived.ShutString
import Derived.ChangeOld
import Derived.Below
import Derived.SizedLaws
namespace Go.Proofs.Ytfjaimkpmehojaa.pageInvariance
open Go.ChangeShapes Go.WideShapes Go.ChangeAt Go.RowKit
set_option linter.unusedVariables false
theorem own : ownKnob Try.prog.godebug = none := by kernel_rfl
theorem laidOut : laidOutB Try.prog = true := by kernel_rfl
set_option maxRecDepth 100000 in
theorem lifted (os : Os) (started : os.Started) (H : Type) (enc : TypeId × Value → H) :
    ReturnsInHanded {} Try.checked os 6 .any (Rows.pageInvarianceSpec.pre6 enc Try.prog Try.f6 Rows.pageInvarianceRow.domain false) (Rows.pageInvarianceSpec.post enc Try.prog Try.f6 false true false false) := by
  refine returnsInHanded_of_change_sized (C := Try.checked) own started (by kernel_rfl) Try.func6
    (ChangeSpec.witness6 (enc := enc) (C := Try.checked) false ⟨#[], #[.agg #[.slice none 0 0, .int .u8 0], .int .i64 0, .int .u16 0], []⟩ 8 (by kernel_rfl) (by kernel_rfl) (by kernel_rfl) (by kernel_rfl)) ?_
  intro W base args ds gs before hval0 hW hcnd hsz0 _
  have hsz : (DataW.weightsEach Try.prog (Try.f6.params.toList ++ Rows.pageInvarianceSpec.plain.varTypes Try.prog) (ds ++ gs)).all (· ≤ reachBytes) = true := hsz0
  have hval : ∀ (j : Nat) t v, Try.f6.params[j]? = some t → args[j]? = some v → Value.okWide Try.prog W .any base t v := hval0
  have hW' := hW
  obtain ⟨p, q, hA0, hV, rfl, hfz, hnd⟩ := hW
  have hA : DataW.TrodAll enc Try.prog W 0 (fun _ => true) true Try.f6.params.toList args.toList ds p := hA0
  rw [Try.params6] at hA hval hsz
  obtain ⟨rfl, rfl⟩ := trodVars_none hV
  obtain ⟨d0, d1, d2, rfl⟩ : ∃ d0 d1 d2, ds = [d0, d1, d2] := by
    obtain ⟨v0, vs0, d0, ds0, p0, q0, _, rfl, _, _, r0⟩ := trodAll_cons hA; obtain ⟨v1, vs1, d1, ds1, p1, q1, _, rfl, _, _, r1⟩ := trodAll_cons r0; obtain ⟨v2, vs2, d2, ds2, p2, q2, _, rfl, _, _, r2⟩ := trodAll_cons r1; obtain ⟨_, rfl, _⟩ := trodAll_nil r2
    exact ⟨_, _, _, rfl⟩
  have hw : ∀ x ∈ DataW.weightsEach Try.prog [24, 2, 43] [d0, d1, d2], x ≤ reachBytes := by
    have h0 := List.all_eq_true.1 hsz
    intro x hx
    refine of_decide_eq_true (h0 x ?_)
    exact hx
  have hc := Go.Den.law_calls (enc := enc) Go.Den.link (T := [24, 22, 46, 4, 2, 9, 5, 43]) (by kernel_rfl) (by kernel_rfl) (f := 505) Go.Den.row_IV hA hw (fun j t v h1 h2 => hval j t v (by simpa using h1) (by simpa using h2)) (fun g => ⟨fun gs h => (by cases h), fun k h => (by cases h), fun h => (by cases h)⟩)
  refine hc.mono fun e W' ⟨he, bel⟩ => ?_
  subst he
  exact ⟨_, rfl, _, _, _, [], _, [], hW', trodAll_mk1 (shut_bool Try.underlying4 _), Go.Den.trodAll_back laidOut bel (by kernel_rfl) hA, rfl, bel.frame _, fun h => by cases h⟩
theorem over : Rows.pageInvarianceRow.holds Try.pinned (OpenSpec.ofChange Rows.pageInvarianceSpec) :=
  OpenClaim.holds_of_wide 6 Try.f6 rfl rfl rfl rfl rfl rfl rfl ⟨rfl, rfl, rfl, rfl, rfl⟩ rfl rfl rfl rfl rfl (by kernel_rfl) Try.func6 (by kernel_rfl)
    (of_decide_eq_true (by kernel_rfl)) (by unfold Func.isWrapper; first | (rw [if_pos (by decide +kernel)]; kernel_rfl) | (rw [if_neg (by decide +kernel)]; exact ⟨rfl, rfl⟩))
    (fun os started H enc _ => lifted os started H enc)
theorem proved : Rows.PageInvarianceSaid := over
#print axioms proved
end Go.Proofs.Ytfjaimkpmehojaa.pageInvariance
namespace Go.Proofs.Ytfjaimkpmehojaa
/-- The row, under a short name, for the claim. -/
theorem pageInvariance_holds : Rows.PageInvarianceSaid := pageInvariance.proved
end Go.Proofs.Ytfjaimkpmehojaa
