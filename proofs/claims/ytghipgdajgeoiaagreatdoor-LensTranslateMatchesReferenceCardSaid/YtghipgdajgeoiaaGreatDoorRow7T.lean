/- The row and the tied card of LensTranslateMatchesReference. -/
import Derived.Test.YtghipgdajgeoiaaGreatDoorRows
import Derived.Test.YtghipgdajgeoiaaGreatDoorCards
import Derived.Test.YtghipgdajgeoiaaGreatDoorTie
import Derived.Test.YtghipgdajgeoiaaGreatDoorDenY
import Derived.Test.YtghipgdajgeoiaaGreatDoorFn7ZLink
import Derived.Test.YtghipgdajgeoiaaGreatDoorLaidV
import Derived.Test.YtghipgdajgeoiaaGreatDoorS07ZE
import Derived.WalkKit
import Derived.ProofKit
import Derived.OpenShut
import Derived.ShutString
import Derived.ChangeOld
import Derived.Below
import Derived.SizedLaws
import Derived.Lay
import Derived.LaidOnce
import Derived.SevenTiedAt
namespace Go.Proofs.YtghipgdajgeoiaaGreatDoor.lensTranslateMatchesReference
open Go.ChangeShapes Go.WideShapes Go.ChangeAt Go.RowKit
set_option linter.unusedVariables false
theorem own : ownKnob Tryz.prog.godebug = none := by kernel_rfl
theorem laidOut : laidOutB Tryz.prog = true := by kernel_rfl
set_option maxRecDepth 100000 in
theorem lifted (os : Os) (started : os.Started) (H : Type) (enc : TypeId × Value → H) :
    ReturnsInHanded {} Tryz.checked os 4 .any (fun w args => (Rows.lensTranslateMatchesReferenceSpec.pre enc Tryz.prog Tryz.f4 Rows.lensTranslateMatchesReferenceRow.domain false w args ∧ laidMetH Tryz.prog [("fenland/lens.null", Rows.laid_fenland_lens_null)] w) ∧ sizedMet enc Tryz.prog Tryz.f4 (OpenSpec.ofChange Rows.lensTranslateMatchesReferenceSpec) false w args) (Rows.lensTranslateMatchesReferenceSpec.post enc Tryz.prog Tryz.f4 false true false false) := by
  refine returnsInHanded_laid_shaped (C := Tryz.checked) (X := fun w _ => laidMetH Tryz.prog [("fenland/lens.null", Rows.laid_fenland_lens_null)] w) (fun _ _ _ hh h => h.of_heap hh) own started (by kernel_rfl) Tryz.func4
    (ChangeSpec.witness_shaped (enc := enc) (C := Tryz.checked) (os := os) (X := fun w _ => laidMetH Tryz.prog [("fenland/lens.null", Rows.laid_fenland_lens_null)] w) false (World.laidAll Tryz.prog os [("fenland/lens.null", Rows.laid_fenland_lens_null)]) #[.agg #[.slice none 0 0, .int .i64 0, .int .i64 0, .int .i64 0, .string ByteArray.empty, .string ByteArray.empty, .int .i64 0, .int .i64 0, .string ByteArray.empty, .slice none 0 0], .agg #[.slice none 0 0], .agg #[.int .i64 0, .int .i64 0]] 8 (World.laidAll_os _ _ _)
      (World.shaped_of_ZipB (by kernel_rfl) (by kernel_rfl)) (by kernel_rfl) (by kernel_rfl) (by kernel_rfl)
      (by rw [MakeChecks.laidMetH_plain _ _ _ (by kernel_rfl)]; exact laidMet_laidAll _ (by kernel_rfl) (by kernel_rfl))) ?_
  intro W base args ds gs before hval0 hW _ hsz0 hL hsh _
  have hsz : (DataW.weightsEach Tryz.prog (Tryz.f4.params.toList ++ Rows.lensTranslateMatchesReferenceSpec.plain.varTypes Tryz.prog) (ds ++ gs)).all (· ≤ reachBytes) = true := hsz0
  have hval : ∀ (j : Nat) t v, Tryz.f4.params[j]? = some t → args[j]? = some v → Value.okWide Tryz.prog W .any base t v := hval0
  have hW' := hW
  obtain ⟨p, q, hA0, hV, rfl, hfz, hnd⟩ := hW
  have hA : DataW.TrodAll enc Tryz.prog W 0 (fun _ => true) true Tryz.f4.params.toList args.toList ds p := hA0
  rw [Tryz.params4] at hA hval hsz
  obtain ⟨rfl, rfl⟩ := trodVars_none hV
  obtain ⟨d0, d1, d2, rfl⟩ : ∃ d0 d1 d2, ds = [d0, d1, d2] := by
    obtain ⟨v0, vs0, d0, ds0, p0, q0, _, rfl, _, _, r0⟩ := trodAll_cons hA; obtain ⟨v1, vs1, d1, ds1, p1, q1, _, rfl, _, _, r1⟩ := trodAll_cons r0; obtain ⟨v2, vs2, d2, ds2, p2, q2, _, rfl, _, _, r2⟩ := trodAll_cons r1; obtain ⟨_, rfl, _⟩ := trodAll_nil r2
    exact ⟨_, _, _, rfl⟩
  have hw : ∀ x ∈ DataW.weightsEach Tryz.prog [27, 30, 46] [d0, d1, d2], x ≤ reachBytes := by
    have h0 := List.all_eq_true.1 hsz
    intro x hx
    refine of_decide_eq_true (h0 x ?_)
    exact hx
  have hc := Go.Den.law_calls (enc := enc) Go.Den.link (T := [27, 22, 24, 3, 9, 25, 58, 4, 2, 30, 28, 62, 46]) (by kernel_rfl) (by kernel_rfl) (f := 266) Go.Den.row_LTMR hA hw (fun j t v h1 h2 => hval j t v (by simpa using h1) (by simpa using h2)) (Go.Den.gok _ hL hsh)
  refine hc.mono fun e W' ⟨he, bel⟩ => ?_
  subst he
  exact ⟨_, rfl, _, _, _, [], _, [], hW', trodAll_mk1 (shut_bool Tryz.underlying4 _), Go.Den.trodAll_back laidOut bel (by kernel_rfl) hA, rfl, bel.frame _, fun h => by cases h⟩
theorem proved : Rows.LensTranslateMatchesReferenceSaid :=
  OpenClaim.holds_of_wide 4 Tryz.f4 rfl rfl rfl rfl rfl rfl rfl ⟨rfl, rfl, rfl, rfl, rfl⟩ rfl rfl rfl rfl rfl (by kernel_rfl) Tryz.func4 (by kernel_rfl)
    (of_decide_eq_true (by kernel_rfl)) (by unfold Func.isWrapper; first | (rw [if_pos (by decide +kernel)]; kernel_rfl) | (rw [if_neg (by decide +kernel)]; exact ⟨rfl, rfl⟩))
    (fun os started H enc _ => lifted os started H enc)
#print axioms proved
end Go.Proofs.YtghipgdajgeoiaaGreatDoor.lensTranslateMatchesReference
namespace Go.Proofs.YtghipgdajgeoiaaGreatDoor
/-- The tied card. -/
theorem lensTranslateMatchesReference_holds : Rows.LensTranslateMatchesReferenceCardSaid :=
  Claim7.holds_tied_plain_at .later [] [.data] true (true, "e138a59fd952ac6a24e0e3b01cb9fa03d92219b17ec30e244da288bb3f1c1b41") false lensTranslateMatchesReference.proved (fun _ h => by cases h) (by kernel_rfl) (fun _ h => by cases h) lensTranslateMatchesReference_row_tie rfl ⟨rfl, rfl⟩ (by kernel_rfl) rfl
    (fun f fn hf hfn => by
      obtain rfl : f = 4 := Option.some.inj ((show Tryz.prog.funcNamed "fenland/fenlandlaw07.LensTranslateMatchesReference" = some 4 by kernel_rfl).symm.trans hf) |>.symm
      obtain rfl : fn = Tryz.f4 := (Option.some.inj (Tryz.func4.symm.trans hfn)).symm
      exact ⟨by kernel_rfl, fun j t ht => by
        rw [Tryz.params4] at ht
        have hm : t ∈ [27, 30, 46] := by simpa using Array.mem_of_getElem? ht
        have hall : ([27, 30, 46].all fun u => !Tryz.prog.wantsStandIn u) = true := by kernel_rfl
        exact (show Tryz.prog.wantsStandIn t = false by simpa using List.all_eq_true.1 hall t hm)⟩)
    (by kernel_rfl)
#print axioms lensTranslateMatchesReference_holds
end Go.Proofs.YtghipgdajgeoiaaGreatDoor
