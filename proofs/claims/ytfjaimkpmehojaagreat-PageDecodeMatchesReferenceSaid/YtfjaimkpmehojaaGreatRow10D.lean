/- The row of PageDecodeMatchesReference. -/
import Derived.Test.YtfjaimkpmehojaaGreatRows
import Derived.Test.YtfjaimkpmehojaaGreatDenY
import Derived.Test.YtfjaimkpmehojaaGreatFn10WLink
import Derived.Test.YtfjaimkpmehojaaGreatS10DC
import Derived.WalkKit
import Derived.ProofKit
import Derived.OpenShut
import Derived.ShutString
import Derived.ChangeOld
import Derived.Below
import Derived.SizedLaws
namespace Go.Proofs.YtfjaimkpmehojaaGreat.pageDecodeMatchesReference
open Go.ChangeShapes Go.WideShapes Go.ChangeAt Go.RowKit
set_option linter.unusedVariables false
theorem own : ownKnob Tryz.prog.godebug = none := by kernel_rfl
theorem laidOut : laidOutB Tryz.prog = true := by kernel_rfl
set_option maxRecDepth 100000 in
theorem lifted (os : Os) (started : os.Started) (H : Type) (enc : TypeId × Value → H) :
    ReturnsInHanded {} Tryz.checked os 4 .any (Rows.pageDecodeMatchesReferenceSpec.pre6 enc Tryz.prog Tryz.f4 Rows.pageDecodeMatchesReferenceRow.domain false) (Rows.pageDecodeMatchesReferenceSpec.post enc Tryz.prog Tryz.f4 false true false false) := by
  refine returnsInHanded_of_change_sized (C := Tryz.checked) own started (by kernel_rfl) Tryz.func4
    (ChangeSpec.witness6 (enc := enc) (C := Tryz.checked) false ⟨#[], #[.agg #[.int .i64 0, .int .i64 0, .slice none 0 0], .int .i64 0], []⟩ 8 (by kernel_rfl) (by kernel_rfl) (by kernel_rfl) (by kernel_rfl)) ?_
  intro W base args ds gs before hval0 hW hcnd hsz0 _
  have hsz : (DataW.weightsEach Tryz.prog (Tryz.f4.params.toList ++ Rows.pageDecodeMatchesReferenceSpec.plain.varTypes Tryz.prog) (ds ++ gs)).all (· ≤ reachBytes) = true := hsz0
  have hval : ∀ (j : Nat) t v, Tryz.f4.params[j]? = some t → args[j]? = some v → Value.okWide Tryz.prog W .any base t v := hval0
  have hW' := hW
  obtain ⟨p, q, hA0, hV, rfl, hfz, hnd⟩ := hW
  have hA : DataW.TrodAll enc Tryz.prog W 0 (fun _ => true) true Tryz.f4.params.toList args.toList ds p := hA0
  rw [Tryz.params4] at hA hval hsz
  obtain ⟨rfl, rfl⟩ := trodVars_none hV
  obtain ⟨d0, d1, rfl⟩ : ∃ d0 d1, ds = [d0, d1] := by
    obtain ⟨v0, vs0, d0, ds0, p0, q0, _, rfl, _, _, r0⟩ := trodAll_cons hA; obtain ⟨v1, vs1, d1, ds1, p1, q1, _, rfl, _, _, r1⟩ := trodAll_cons r0; obtain ⟨_, rfl, _⟩ := trodAll_nil r1
    exact ⟨_, _, rfl⟩
  have hw : ∀ x ∈ DataW.weightsEach Tryz.prog [29, 3] [d0, d1], x ≤ reachBytes := by
    have h0 := List.all_eq_true.1 hsz
    intro x hx
    refine of_decide_eq_true (h0 x ?_)
    exact hx
  have hc := Go.Den.law_calls (enc := enc) Go.Den.link (T := [29, 3, 27, 5]) (by kernel_rfl) (by kernel_rfl) (f := 556) Go.Den.row_DM hA hw (fun j t v h1 h2 => hval j t v (by simpa using h1) (by simpa using h2)) (fun g => ⟨fun gs h => (by cases h), fun k h => (by cases h), fun h => (by cases h)⟩)
  refine hc.mono fun e W' ⟨he, bel⟩ => ?_
  subst he
  exact ⟨_, rfl, _, _, _, [], _, [], hW', trodAll_mk1 (shut_bool Tryz.underlying4 _), Go.Den.trodAll_back laidOut bel (by kernel_rfl) hA, rfl, bel.frame _, fun h => by cases h⟩
theorem over : Rows.pageDecodeMatchesReferenceRow.holds Tryz.pinned (OpenSpec.ofChange Rows.pageDecodeMatchesReferenceSpec) :=
  OpenClaim.holds_of_wide 4 Tryz.f4 rfl rfl rfl rfl rfl rfl rfl ⟨rfl, rfl, rfl, rfl, rfl⟩ rfl rfl rfl rfl rfl (by kernel_rfl) Tryz.func4 (by kernel_rfl)
    (of_decide_eq_true (by kernel_rfl)) (by unfold Func.isWrapper; first | (rw [if_pos (by decide +kernel)]; kernel_rfl) | (rw [if_neg (by decide +kernel)]; exact ⟨rfl, rfl⟩))
    (fun os started H enc _ => lifted os started H enc)
theorem proved : Rows.PageDecodeMatchesReferenceSaid := over
#print axioms proved
end Go.Proofs.YtfjaimkpmehojaaGreat.pageDecodeMatchesReference
namespace Go.Proofs.YtfjaimkpmehojaaGreat
theorem pageDecodeMatchesReference_holds : Rows.PageDecodeMatchesReferenceSaid := pageDecodeMatchesReference.proved
end Go.Proofs.YtfjaimkpmehojaaGreat
