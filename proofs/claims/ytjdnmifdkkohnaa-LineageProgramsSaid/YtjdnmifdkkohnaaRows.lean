/-
  NARROWER THAN 'FOR EVERY INPUT', by the rows' own cells (each row's printed sentence says how): LineagePrograms: loops.
  DERIVED. THE GIVEN ROWS OF THIS SEAT. 7 by the template 'for every input the law returns true; each argument reads behind the call as it read before'; 0 by the template 'total and deterministic' (their statements: YtjdnmifdkkohnaaTotals.lean).
  GIVEN WITH THE SEED: the statements are not yours to turn. If you find one false, say at which input.
  Laid BY PROGRAM, IN A SANDBOX (cutbox-rows.mjs): the forced cells as the released guide's own fill.sh prints them over the translation 7218c24cda3e2112… (all of the seat's roots in one cut). By AI agents, Wed Nov 11 2026. No macro, syntax, notation, axiom, sorry.
-/
import Derived.Test.YtjdnmifdkkohnaaChecked
import GoSem.Claim
import GoSem.ClaimJoined
import GoSem.ClaimMapViews
import Derived.JoinedTies
import Derived.KernelRfl
namespace Go.Proofs.Ytjdnmifdkkohnaa
/- THE CELL 'sum', in the pinned program and in every row, IS THE sha256 OF THE DUMP (.gsa) THAT YtjdnmifdkkohnaaProg.lean LOADS. Nothing in Lean hashes anything: it is a label: what it is worth is what the hold of that sum in a sandbox is worth. -/
noncomputable def Try.pinned : Pinned := { name := "ytjdnmifdkkohnaa", sum := "7218c24cda3e21126be4c3029f1144525dce51c82b30c7c33b6e354ecf389462", checked := Try.checked }
namespace Rows
def none {H : Type} : Left H := { results := [], args := [] }

/-- 'fenlandlaw29.LineageMatchesReference': WHATEVER THE INPUT: true; the input reads as it did. -/
def lineageMatchesReferenceSpec : ChangeSpec := { name := "lineageMatchesReference", fn := fun _ => fun
  | [d1, d2, d3] => { results := [.lit (.bool true)], args := [d1, d2, d3] }
  | _ => none }
def lineageMatchesReferenceRow : OpenClaim := { program := "ytjdnmifdkkohnaa", sum := "7218c24cda3e21126be4c3029f1144525dce51c82b30c7c33b6e354ecf389462", func := "fenland/fenlandlaw29.LineageMatchesReference", spec := "lineageMatchesReference", unfollowed := true, recurses := true, apart := false }
def LineageMatchesReferenceSaid : Prop := lineageMatchesReferenceRow.holds Try.pinned (OpenSpec.ofChange lineageMatchesReferenceSpec)

/-- ITS FALSE NEIGHBOUR: 'it returns false'. Refute it at one input. -/
def lineageMatchesReferenceWrong : ChangeSpec := { name := "lineageMatchesReference", fn := fun _ => fun
  | [d1, d2, d3] => { results := [.lit (.bool false)], args := [d1, d2, d3] }
  | _ => none }
def LineageMatchesReferenceWrongFalsely : Prop := lineageMatchesReferenceRow.holds Try.pinned (OpenSpec.ofChange lineageMatchesReferenceWrong)

/-- 'fenlandlaw29.LineageFeedsMatchReference': WHATEVER THE INPUT: true; the input reads as it did. -/
def lineageFeedsMatchReferenceSpec : ChangeSpec := { name := "lineageFeedsMatchReference", fn := fun _ => fun
  | [d1, d2] => { results := [.lit (.bool true)], args := [d1, d2] }
  | _ => none }
def lineageFeedsMatchReferenceRow : OpenClaim := { program := "ytjdnmifdkkohnaa", sum := "7218c24cda3e21126be4c3029f1144525dce51c82b30c7c33b6e354ecf389462", func := "fenland/fenlandlaw29.LineageFeedsMatchReference", spec := "lineageFeedsMatchReference", unfollowed := true, recurses := true, apart := false }
def LineageFeedsMatchReferenceSaid : Prop := lineageFeedsMatchReferenceRow.holds Try.pinned (OpenSpec.ofChange lineageFeedsMatchReferenceSpec)

/-- ITS FALSE NEIGHBOUR: 'it returns false'. Refute it at one input. -/
def lineageFeedsMatchReferenceWrong : ChangeSpec := { name := "lineageFeedsMatchReference", fn := fun _ => fun
  | [d1, d2] => { results := [.lit (.bool false)], args := [d1, d2] }
  | _ => none }
def LineageFeedsMatchReferenceWrongFalsely : Prop := lineageFeedsMatchReferenceRow.holds Try.pinned (OpenSpec.ofChange lineageFeedsMatchReferenceWrong)

/-- 'fenlandlaw29.LineageFollows': WHATEVER THE INPUT: true; the input reads as it did. -/
def lineageFollowsSpec : ChangeSpec := { name := "lineageFollows", fn := fun _ => fun
  | [d] => { results := [.lit (.bool true)], args := [d] }
  | _ => none }
def lineageFollowsRow : OpenClaim := { program := "ytjdnmifdkkohnaa", sum := "7218c24cda3e21126be4c3029f1144525dce51c82b30c7c33b6e354ecf389462", func := "fenland/fenlandlaw29.LineageFollows", spec := "lineageFollows", unfollowed := true, recurses := true, apart := false }
def LineageFollowsSaid : Prop := lineageFollowsRow.holds Try.pinned (OpenSpec.ofChange lineageFollowsSpec)

/-- ITS FALSE NEIGHBOUR: 'it returns false'. Refute it at one input. -/
def lineageFollowsWrong : ChangeSpec := { name := "lineageFollows", fn := fun _ => fun
  | [d] => { results := [.lit (.bool false)], args := [d] }
  | _ => none }
def LineageFollowsWrongFalsely : Prop := lineageFollowsRow.holds Try.pinned (OpenSpec.ofChange lineageFollowsWrong)

/-- 'fenlandlaw29.LineageComposes': WHATEVER THE INPUT: true; the input reads as it did. -/
def lineageComposesSpec : ChangeSpec := { name := "lineageComposes", fn := fun _ => fun
  | [d] => { results := [.lit (.bool true)], args := [d] }
  | _ => none }
def lineageComposesRow : OpenClaim := { program := "ytjdnmifdkkohnaa", sum := "7218c24cda3e21126be4c3029f1144525dce51c82b30c7c33b6e354ecf389462", func := "fenland/fenlandlaw29.LineageComposes", spec := "lineageComposes", unfollowed := true, recurses := true, apart := false }
def LineageComposesSaid : Prop := lineageComposesRow.holds Try.pinned (OpenSpec.ofChange lineageComposesSpec)

/-- ITS FALSE NEIGHBOUR: 'it returns false'. Refute it at one input. -/
def lineageComposesWrong : ChangeSpec := { name := "lineageComposes", fn := fun _ => fun
  | [d] => { results := [.lit (.bool false)], args := [d] }
  | _ => none }
def LineageComposesWrongFalsely : Prop := lineageComposesRow.holds Try.pinned (OpenSpec.ofChange lineageComposesWrong)

/-- 'fenlandlaw29.LineageInverts': WHATEVER THE INPUT: true; the input reads as it did. -/
def lineageInvertsSpec : ChangeSpec := { name := "lineageInverts", fn := fun _ => fun
  | [d] => { results := [.lit (.bool true)], args := [d] }
  | _ => none }
def lineageInvertsRow : OpenClaim := { program := "ytjdnmifdkkohnaa", sum := "7218c24cda3e21126be4c3029f1144525dce51c82b30c7c33b6e354ecf389462", func := "fenland/fenlandlaw29.LineageInverts", spec := "lineageInverts", unfollowed := true, recurses := true, apart := false }
def LineageInvertsSaid : Prop := lineageInvertsRow.holds Try.pinned (OpenSpec.ofChange lineageInvertsSpec)

/-- ITS FALSE NEIGHBOUR: 'it returns false'. Refute it at one input. -/
def lineageInvertsWrong : ChangeSpec := { name := "lineageInverts", fn := fun _ => fun
  | [d] => { results := [.lit (.bool false)], args := [d] }
  | _ => none }
def LineageInvertsWrongFalsely : Prop := lineageInvertsRow.holds Try.pinned (OpenSpec.ofChange lineageInvertsWrong)

/-- 'fenlandlaw29.LineageGaps': WHATEVER THE INPUT: true; the input reads as it did. -/
def lineageGapsSpec : ChangeSpec := { name := "lineageGaps", fn := fun _ => fun
  | [d] => { results := [.lit (.bool true)], args := [d] }
  | _ => none }
def lineageGapsRow : OpenClaim := { program := "ytjdnmifdkkohnaa", sum := "7218c24cda3e21126be4c3029f1144525dce51c82b30c7c33b6e354ecf389462", func := "fenland/fenlandlaw29.LineageGaps", spec := "lineageGaps", unfollowed := true, recurses := true, apart := false }
def LineageGapsSaid : Prop := lineageGapsRow.holds Try.pinned (OpenSpec.ofChange lineageGapsSpec)

/-- ITS FALSE NEIGHBOUR: 'it returns false'. Refute it at one input. -/
def lineageGapsWrong : ChangeSpec := { name := "lineageGaps", fn := fun _ => fun
  | [d] => { results := [.lit (.bool false)], args := [d] }
  | _ => none }
def LineageGapsWrongFalsely : Prop := lineageGapsRow.holds Try.pinned (OpenSpec.ofChange lineageGapsWrong)

/-- 'fenlandlaw29.LineagePrograms': WHATEVER THE INPUT: true; the input reads as it did. -/
def lineageProgramsSpec : ChangeSpec := { name := "lineagePrograms", fn := fun _ => fun
  | [d] => { results := [.lit (.bool true)], args := [d] }
  | _ => none }
def lineageProgramsRow : OpenClaim := { program := "ytjdnmifdkkohnaa", sum := "7218c24cda3e21126be4c3029f1144525dce51c82b30c7c33b6e354ecf389462", func := "fenland/fenlandlaw29.LineagePrograms", spec := "lineagePrograms", unfollowed := true, recurses := true, loops := true, apart := false }
def LineageProgramsSaid : Prop := lineageProgramsRow.holds Try.pinned (OpenSpec.ofChange lineageProgramsSpec)

/-- ITS FALSE NEIGHBOUR: 'it returns false'. Refute it at one input. -/
def lineageProgramsWrong : ChangeSpec := { name := "lineagePrograms", fn := fun _ => fun
  | [d] => { results := [.lit (.bool false)], args := [d] }
  | _ => none }
def LineageProgramsWrongFalsely : Prop := lineageProgramsRow.holds Try.pinned (OpenSpec.ofChange lineageProgramsWrong)

/- THE SECOND FORM. 'bulk': how many values and letters a reading holds, each counted each time it is reached (what is shared counts as often as it is met; a slice's spare places count too). A statement '..UptoSaid' is the law's where the arguments, and the package variables that the reading takes, are together of bulk at most 1048576: NARROWER than '..Said'. Prove '..Said' where nothing that the law and all that it calls make is longer than what came in: it says more and counts as full. Else prove '..UptoSaid'. A law counts once. -/
mutual
def uptoBulk {H : Type} : DataW H → Nat
  | .lit (.string bytes) => bytes.length + 1
  | .lit _ => 1
  | .nil => 1
  | .ptr d => uptoBulk d + 1
  | .slice elems spare => uptoBulkAll elems + uptoBulkAll spare + 1
  | .agg parts => uptoBulkAll parts + 1
  | .iface _ d => uptoBulk d + 1
  | .map entries => uptoBulkEntries entries + 1
  | .held _ => 1
def uptoBulkAll {H : Type} : List (DataW H) → Nat
  | [] => 0
  | d :: r => uptoBulk d + uptoBulkAll r
def uptoBulkEntries {H : Type} : List (Lit × DataW H) → Nat
  | [] => 0
  | x :: r => uptoBulkEntry x + uptoBulkEntries r
def uptoBulkEntry {H : Type} : Lit × DataW H → Nat
  | (.string bytes, d) => bytes.length + uptoBulk d + 1
  | (_, d) => uptoBulk d + 1
 end
def uptoSmall : (H : Type) → List (DataW H) → Bool := fun _ ds => decide (uptoBulkAll ds ≤ 1048576)
def OpenSpec.upto (s : _root_.Go.ChangeSpec) : _root_.Go.OpenSpec := { _root_.Go.OpenSpec.ofChange s with cond := some uptoSmall }

/-- 'fenlandlaw29.LineageMatchesReference', WHERE WHAT IT READS IS OF BULK AT MOST 1048576: true; the input reads as it did. -/
def lineageMatchesReferenceUptoRow : OpenClaim := { program := "ytjdnmifdkkohnaa", sum := "7218c24cda3e21126be4c3029f1144525dce51c82b30c7c33b6e354ecf389462", func := "fenland/fenlandlaw29.LineageMatchesReference", spec := "lineageMatchesReference", unfollowed := true, recurses := true, apart := false, narrowed := true }
def LineageMatchesReferenceUptoSaid : Prop := lineageMatchesReferenceUptoRow.holds Try.pinned (OpenSpec.upto lineageMatchesReferenceSpec)

/-- 'fenlandlaw29.LineageFeedsMatchReference', WHERE WHAT IT READS IS OF BULK AT MOST 1048576: true; the input reads as it did. -/
def lineageFeedsMatchReferenceUptoRow : OpenClaim := { program := "ytjdnmifdkkohnaa", sum := "7218c24cda3e21126be4c3029f1144525dce51c82b30c7c33b6e354ecf389462", func := "fenland/fenlandlaw29.LineageFeedsMatchReference", spec := "lineageFeedsMatchReference", unfollowed := true, recurses := true, apart := false, narrowed := true }
def LineageFeedsMatchReferenceUptoSaid : Prop := lineageFeedsMatchReferenceUptoRow.holds Try.pinned (OpenSpec.upto lineageFeedsMatchReferenceSpec)

/-- 'fenlandlaw29.LineageFollows', WHERE WHAT IT READS IS OF BULK AT MOST 1048576: true; the input reads as it did. -/
def lineageFollowsUptoRow : OpenClaim := { program := "ytjdnmifdkkohnaa", sum := "7218c24cda3e21126be4c3029f1144525dce51c82b30c7c33b6e354ecf389462", func := "fenland/fenlandlaw29.LineageFollows", spec := "lineageFollows", unfollowed := true, recurses := true, apart := false, narrowed := true }
def LineageFollowsUptoSaid : Prop := lineageFollowsUptoRow.holds Try.pinned (OpenSpec.upto lineageFollowsSpec)

/-- 'fenlandlaw29.LineageComposes', WHERE WHAT IT READS IS OF BULK AT MOST 1048576: true; the input reads as it did. -/
def lineageComposesUptoRow : OpenClaim := { program := "ytjdnmifdkkohnaa", sum := "7218c24cda3e21126be4c3029f1144525dce51c82b30c7c33b6e354ecf389462", func := "fenland/fenlandlaw29.LineageComposes", spec := "lineageComposes", unfollowed := true, recurses := true, apart := false, narrowed := true }
def LineageComposesUptoSaid : Prop := lineageComposesUptoRow.holds Try.pinned (OpenSpec.upto lineageComposesSpec)

/-- 'fenlandlaw29.LineageInverts', WHERE WHAT IT READS IS OF BULK AT MOST 1048576: true; the input reads as it did. -/
def lineageInvertsUptoRow : OpenClaim := { program := "ytjdnmifdkkohnaa", sum := "7218c24cda3e21126be4c3029f1144525dce51c82b30c7c33b6e354ecf389462", func := "fenland/fenlandlaw29.LineageInverts", spec := "lineageInverts", unfollowed := true, recurses := true, apart := false, narrowed := true }
def LineageInvertsUptoSaid : Prop := lineageInvertsUptoRow.holds Try.pinned (OpenSpec.upto lineageInvertsSpec)

/-- 'fenlandlaw29.LineageGaps', WHERE WHAT IT READS IS OF BULK AT MOST 1048576: true; the input reads as it did. -/
def lineageGapsUptoRow : OpenClaim := { program := "ytjdnmifdkkohnaa", sum := "7218c24cda3e21126be4c3029f1144525dce51c82b30c7c33b6e354ecf389462", func := "fenland/fenlandlaw29.LineageGaps", spec := "lineageGaps", unfollowed := true, recurses := true, apart := false, narrowed := true }
def LineageGapsUptoSaid : Prop := lineageGapsUptoRow.holds Try.pinned (OpenSpec.upto lineageGapsSpec)

/-- 'fenlandlaw29.LineagePrograms', WHERE WHAT IT READS IS OF BULK AT MOST 1048576: true; the input reads as it did. -/
def lineageProgramsUptoRow : OpenClaim := { program := "ytjdnmifdkkohnaa", sum := "7218c24cda3e21126be4c3029f1144525dce51c82b30c7c33b6e354ecf389462", func := "fenland/fenlandlaw29.LineagePrograms", spec := "lineagePrograms", unfollowed := true, recurses := true, loops := true, apart := false, narrowed := true }
def LineageProgramsUptoSaid : Prop := lineageProgramsUptoRow.holds Try.pinned (OpenSpec.upto lineageProgramsSpec)

end Rows
end Go.Proofs.Ytjdnmifdkkohnaa
