/-
  NARROWER THAN 'FOR EVERY INPUT', by the rows' own cells (each row's printed sentence says how): MergeProgramsMatchesReference: loops · MergeProgramsReplay: loops.
  DERIVED. THE GIVEN ROWS OF THIS SEAT. 7 by the template 'for every input the law returns true; each argument reads behind the call as it read before'; 0 by the template 'total and deterministic' (their statements: YtljecilfdpgdbaaTotals.lean).
  GIVEN WITH THE SEED: the statements are not yours to turn. If you find one false, say at which input.
  Laid BY PROGRAM, IN A SANDBOX (cutbox-rows.mjs): the forced cells as the released guide's own fill.sh prints them over the translation 30a585db8bf323f2… (all of the seat's roots in one cut). By AI agents, Wed Nov 11 2026. No macro, syntax, notation, axiom, sorry.
-/
import Derived.Test.YtljecilfdpgdbaaChecked
import GoSem.Claim
import GoSem.ClaimJoined
import GoSem.ClaimMapViews
import Derived.JoinedTies
import Derived.KernelRfl
namespace Go.Proofs.Ytljecilfdpgdbaa
/- THE CELL 'sum', in the pinned program and in every row, IS THE sha256 OF THE DUMP (.gsa) THAT YtljecilfdpgdbaaProg.lean LOADS. Nothing in Lean hashes anything: it is a label: what it is worth is what the hold of that sum in a sandbox is worth. -/
noncomputable def Try.pinned : Pinned := { name := "ytljecilfdpgdbaa", sum := "30a585db8bf323f2fe7be939b56df210eb82d514eee8cff129201a8eb391f535", checked := Try.checked }
namespace Rows
def none {H : Type} : Left H := { results := [], args := [] }

/-- 'fenlandlaw30.MergeMatchesReference': WHATEVER THE INPUT: true; the input reads as it did. -/
def mergeMatchesReferenceSpec : ChangeSpec := { name := "mergeMatchesReference", fn := fun _ => fun
  | [d] => { results := [.lit (.bool true)], args := [d] }
  | _ => none }
def mergeMatchesReferenceRow : OpenClaim := { program := "ytljecilfdpgdbaa", sum := "30a585db8bf323f2fe7be939b56df210eb82d514eee8cff129201a8eb391f535", func := "fenland/fenlandlaw30.MergeMatchesReference", spec := "mergeMatchesReference", unfollowed := true, recurses := true, apart := false }
def MergeMatchesReferenceSaid : Prop := mergeMatchesReferenceRow.holds Try.pinned (OpenSpec.ofChange mergeMatchesReferenceSpec)

/-- ITS FALSE NEIGHBOUR: 'it returns false'. Refute it at one input. -/
def mergeMatchesReferenceWrong : ChangeSpec := { name := "mergeMatchesReference", fn := fun _ => fun
  | [d] => { results := [.lit (.bool false)], args := [d] }
  | _ => none }
def MergeMatchesReferenceWrongFalsely : Prop := mergeMatchesReferenceRow.holds Try.pinned (OpenSpec.ofChange mergeMatchesReferenceWrong)

/-- 'fenlandlaw30.MergeBaseMatchesReference': WHATEVER THE INPUT: true; the input reads as it did. -/
def mergeBaseMatchesReferenceSpec : ChangeSpec := { name := "mergeBaseMatchesReference", fn := fun _ => fun
  | [d1, d2, d3] => { results := [.lit (.bool true)], args := [d1, d2, d3] }
  | _ => none }
def mergeBaseMatchesReferenceRow : OpenClaim := { program := "ytljecilfdpgdbaa", sum := "30a585db8bf323f2fe7be939b56df210eb82d514eee8cff129201a8eb391f535", func := "fenland/fenlandlaw30.MergeBaseMatchesReference", spec := "mergeBaseMatchesReference", unfollowed := true, recurses := true, apart := false }
def MergeBaseMatchesReferenceSaid : Prop := mergeBaseMatchesReferenceRow.holds Try.pinned (OpenSpec.ofChange mergeBaseMatchesReferenceSpec)

/-- ITS FALSE NEIGHBOUR: 'it returns false'. Refute it at one input. -/
def mergeBaseMatchesReferenceWrong : ChangeSpec := { name := "mergeBaseMatchesReference", fn := fun _ => fun
  | [d1, d2, d3] => { results := [.lit (.bool false)], args := [d1, d2, d3] }
  | _ => none }
def MergeBaseMatchesReferenceWrongFalsely : Prop := mergeBaseMatchesReferenceRow.holds Try.pinned (OpenSpec.ofChange mergeBaseMatchesReferenceWrong)

/-- 'fenlandlaw30.MergeOneSide': WHATEVER THE INPUT: true; the input reads as it did. -/
def mergeOneSideSpec : ChangeSpec := { name := "mergeOneSide", fn := fun _ => fun
  | [d] => { results := [.lit (.bool true)], args := [d] }
  | _ => none }
def mergeOneSideRow : OpenClaim := { program := "ytljecilfdpgdbaa", sum := "30a585db8bf323f2fe7be939b56df210eb82d514eee8cff129201a8eb391f535", func := "fenland/fenlandlaw30.MergeOneSide", spec := "mergeOneSide", unfollowed := true, recurses := true, apart := false }
def MergeOneSideSaid : Prop := mergeOneSideRow.holds Try.pinned (OpenSpec.ofChange mergeOneSideSpec)

/-- ITS FALSE NEIGHBOUR: 'it returns false'. Refute it at one input. -/
def mergeOneSideWrong : ChangeSpec := { name := "mergeOneSide", fn := fun _ => fun
  | [d] => { results := [.lit (.bool false)], args := [d] }
  | _ => none }
def MergeOneSideWrongFalsely : Prop := mergeOneSideRow.holds Try.pinned (OpenSpec.ofChange mergeOneSideWrong)

/-- 'fenlandlaw30.MergeIsSymmetric': WHATEVER THE INPUT: true; the input reads as it did. -/
def mergeIsSymmetricSpec : ChangeSpec := { name := "mergeIsSymmetric", fn := fun _ => fun
  | [d] => { results := [.lit (.bool true)], args := [d] }
  | _ => none }
def mergeIsSymmetricRow : OpenClaim := { program := "ytljecilfdpgdbaa", sum := "30a585db8bf323f2fe7be939b56df210eb82d514eee8cff129201a8eb391f535", func := "fenland/fenlandlaw30.MergeIsSymmetric", spec := "mergeIsSymmetric", unfollowed := true, recurses := true, apart := false }
def MergeIsSymmetricSaid : Prop := mergeIsSymmetricRow.holds Try.pinned (OpenSpec.ofChange mergeIsSymmetricSpec)

/-- ITS FALSE NEIGHBOUR: 'it returns false'. Refute it at one input. -/
def mergeIsSymmetricWrong : ChangeSpec := { name := "mergeIsSymmetric", fn := fun _ => fun
  | [d] => { results := [.lit (.bool false)], args := [d] }
  | _ => none }
def MergeIsSymmetricWrongFalsely : Prop := mergeIsSymmetricRow.holds Try.pinned (OpenSpec.ofChange mergeIsSymmetricWrong)

/-- 'fenlandlaw30.MergeKeepsBoth': WHATEVER THE INPUT: true; the input reads as it did. -/
def mergeKeepsBothSpec : ChangeSpec := { name := "mergeKeepsBoth", fn := fun _ => fun
  | [d] => { results := [.lit (.bool true)], args := [d] }
  | _ => none }
def mergeKeepsBothRow : OpenClaim := { program := "ytljecilfdpgdbaa", sum := "30a585db8bf323f2fe7be939b56df210eb82d514eee8cff129201a8eb391f535", func := "fenland/fenlandlaw30.MergeKeepsBoth", spec := "mergeKeepsBoth", unfollowed := true, recurses := true, apart := false }
def MergeKeepsBothSaid : Prop := mergeKeepsBothRow.holds Try.pinned (OpenSpec.ofChange mergeKeepsBothSpec)

/-- ITS FALSE NEIGHBOUR: 'it returns false'. Refute it at one input. -/
def mergeKeepsBothWrong : ChangeSpec := { name := "mergeKeepsBoth", fn := fun _ => fun
  | [d] => { results := [.lit (.bool false)], args := [d] }
  | _ => none }
def MergeKeepsBothWrongFalsely : Prop := mergeKeepsBothRow.holds Try.pinned (OpenSpec.ofChange mergeKeepsBothWrong)

/-- 'fenlandlaw30.MergeProgramsMatchesReference': WHATEVER THE INPUT: true; the input reads as it did. -/
def mergeProgramsMatchesReferenceSpec : ChangeSpec := { name := "mergeProgramsMatchesReference", fn := fun _ => fun
  | [d] => { results := [.lit (.bool true)], args := [d] }
  | _ => none }
def mergeProgramsMatchesReferenceRow : OpenClaim := { program := "ytljecilfdpgdbaa", sum := "30a585db8bf323f2fe7be939b56df210eb82d514eee8cff129201a8eb391f535", func := "fenland/fenlandlaw30.MergeProgramsMatchesReference", spec := "mergeProgramsMatchesReference", unfollowed := true, recurses := true, loops := true, apart := false }
def MergeProgramsMatchesReferenceSaid : Prop := mergeProgramsMatchesReferenceRow.holds Try.pinned (OpenSpec.ofChange mergeProgramsMatchesReferenceSpec)

/-- ITS FALSE NEIGHBOUR: 'it returns false'. Refute it at one input. -/
def mergeProgramsMatchesReferenceWrong : ChangeSpec := { name := "mergeProgramsMatchesReference", fn := fun _ => fun
  | [d] => { results := [.lit (.bool false)], args := [d] }
  | _ => none }
def MergeProgramsMatchesReferenceWrongFalsely : Prop := mergeProgramsMatchesReferenceRow.holds Try.pinned (OpenSpec.ofChange mergeProgramsMatchesReferenceWrong)

/-- 'fenlandlaw30.MergeProgramsReplay': WHATEVER THE INPUT: true; the input reads as it did. -/
def mergeProgramsReplaySpec : ChangeSpec := { name := "mergeProgramsReplay", fn := fun _ => fun
  | [d] => { results := [.lit (.bool true)], args := [d] }
  | _ => none }
def mergeProgramsReplayRow : OpenClaim := { program := "ytljecilfdpgdbaa", sum := "30a585db8bf323f2fe7be939b56df210eb82d514eee8cff129201a8eb391f535", func := "fenland/fenlandlaw30.MergeProgramsReplay", spec := "mergeProgramsReplay", unfollowed := true, recurses := true, loops := true, apart := false }
def MergeProgramsReplaySaid : Prop := mergeProgramsReplayRow.holds Try.pinned (OpenSpec.ofChange mergeProgramsReplaySpec)

/-- ITS FALSE NEIGHBOUR: 'it returns false'. Refute it at one input. -/
def mergeProgramsReplayWrong : ChangeSpec := { name := "mergeProgramsReplay", fn := fun _ => fun
  | [d] => { results := [.lit (.bool false)], args := [d] }
  | _ => none }
def MergeProgramsReplayWrongFalsely : Prop := mergeProgramsReplayRow.holds Try.pinned (OpenSpec.ofChange mergeProgramsReplayWrong)

/- THE SECOND FORM. 'bulk': how many values and letters a reading holds, each counted each time it is reached (what is shared counts as often as it is met; a slice's spare places count too). A statement '..UptoSaid' is the law's where the arguments, and the package variables that the reading takes, are together of bulk at most 1048576: NARROWER than '..Said'. Prove '..Said' where nothing that the law and all that it calls make is longer than what came in: it says more and counts as full. Else prove '..UptoSaid'. A law counts once. -/
mutual
def uptoBulk {H : Type} : DataW H → Nat
  | .lit (.string bytes) => bytes.length + 1
  | .lit _ => 1
  | .nil => 1
  | .ptr d => uptoBulk d + 1
  | .slice elems spare => uptoBulkAll elems + uptoBulkAll spare + 1
  | .agg parts => uptoBulkAll parts + 1
  | .iface _ d => uptoBulk d + 1
  | .map entries => uptoBulkEntries entries + 1
  | .held _ => 1
def uptoBulkAll {H : Type} : List (DataW H) → Nat
  | [] => 0
  | d :: r => uptoBulk d + uptoBulkAll r
def uptoBulkEntries {H : Type} : List (Lit × DataW H) → Nat
  | [] => 0
  | x :: r => uptoBulkEntry x + uptoBulkEntries r
def uptoBulkEntry {H : Type} : Lit × DataW H → Nat
  | (.string bytes, d) => bytes.length + uptoBulk d + 1
  | (_, d) => uptoBulk d + 1
 end
def uptoSmall : (H : Type) → List (DataW H) → Bool := fun _ ds => decide (uptoBulkAll ds ≤ 1048576)
def OpenSpec.upto (s : _root_.Go.ChangeSpec) : _root_.Go.OpenSpec := { _root_.Go.OpenSpec.ofChange s with cond := some uptoSmall }

/-- 'fenlandlaw30.MergeMatchesReference', WHERE WHAT IT READS IS OF BULK AT MOST 1048576: true; the input reads as it did. -/
def mergeMatchesReferenceUptoRow : OpenClaim := { program := "ytljecilfdpgdbaa", sum := "30a585db8bf323f2fe7be939b56df210eb82d514eee8cff129201a8eb391f535", func := "fenland/fenlandlaw30.MergeMatchesReference", spec := "mergeMatchesReference", unfollowed := true, recurses := true, apart := false, narrowed := true }
def MergeMatchesReferenceUptoSaid : Prop := mergeMatchesReferenceUptoRow.holds Try.pinned (OpenSpec.upto mergeMatchesReferenceSpec)

/-- 'fenlandlaw30.MergeBaseMatchesReference', WHERE WHAT IT READS IS OF BULK AT MOST 1048576: true; the input reads as it did. -/
def mergeBaseMatchesReferenceUptoRow : OpenClaim := { program := "ytljecilfdpgdbaa", sum := "30a585db8bf323f2fe7be939b56df210eb82d514eee8cff129201a8eb391f535", func := "fenland/fenlandlaw30.MergeBaseMatchesReference", spec := "mergeBaseMatchesReference", unfollowed := true, recurses := true, apart := false, narrowed := true }
def MergeBaseMatchesReferenceUptoSaid : Prop := mergeBaseMatchesReferenceUptoRow.holds Try.pinned (OpenSpec.upto mergeBaseMatchesReferenceSpec)

/-- 'fenlandlaw30.MergeOneSide', WHERE WHAT IT READS IS OF BULK AT MOST 1048576: true; the input reads as it did. -/
def mergeOneSideUptoRow : OpenClaim := { program := "ytljecilfdpgdbaa", sum := "30a585db8bf323f2fe7be939b56df210eb82d514eee8cff129201a8eb391f535", func := "fenland/fenlandlaw30.MergeOneSide", spec := "mergeOneSide", unfollowed := true, recurses := true, apart := false, narrowed := true }
def MergeOneSideUptoSaid : Prop := mergeOneSideUptoRow.holds Try.pinned (OpenSpec.upto mergeOneSideSpec)

/-- 'fenlandlaw30.MergeIsSymmetric', WHERE WHAT IT READS IS OF BULK AT MOST 1048576: true; the input reads as it did. -/
def mergeIsSymmetricUptoRow : OpenClaim := { program := "ytljecilfdpgdbaa", sum := "30a585db8bf323f2fe7be939b56df210eb82d514eee8cff129201a8eb391f535", func := "fenland/fenlandlaw30.MergeIsSymmetric", spec := "mergeIsSymmetric", unfollowed := true, recurses := true, apart := false, narrowed := true }
def MergeIsSymmetricUptoSaid : Prop := mergeIsSymmetricUptoRow.holds Try.pinned (OpenSpec.upto mergeIsSymmetricSpec)

/-- 'fenlandlaw30.MergeKeepsBoth', WHERE WHAT IT READS IS OF BULK AT MOST 1048576: true; the input reads as it did. -/
def mergeKeepsBothUptoRow : OpenClaim := { program := "ytljecilfdpgdbaa", sum := "30a585db8bf323f2fe7be939b56df210eb82d514eee8cff129201a8eb391f535", func := "fenland/fenlandlaw30.MergeKeepsBoth", spec := "mergeKeepsBoth", unfollowed := true, recurses := true, apart := false, narrowed := true }
def MergeKeepsBothUptoSaid : Prop := mergeKeepsBothUptoRow.holds Try.pinned (OpenSpec.upto mergeKeepsBothSpec)

/-- 'fenlandlaw30.MergeProgramsMatchesReference', WHERE WHAT IT READS IS OF BULK AT MOST 1048576: true; the input reads as it did. -/
def mergeProgramsMatchesReferenceUptoRow : OpenClaim := { program := "ytljecilfdpgdbaa", sum := "30a585db8bf323f2fe7be939b56df210eb82d514eee8cff129201a8eb391f535", func := "fenland/fenlandlaw30.MergeProgramsMatchesReference", spec := "mergeProgramsMatchesReference", unfollowed := true, recurses := true, loops := true, apart := false, narrowed := true }
def MergeProgramsMatchesReferenceUptoSaid : Prop := mergeProgramsMatchesReferenceUptoRow.holds Try.pinned (OpenSpec.upto mergeProgramsMatchesReferenceSpec)

/-- 'fenlandlaw30.MergeProgramsReplay', WHERE WHAT IT READS IS OF BULK AT MOST 1048576: true; the input reads as it did. -/
def mergeProgramsReplayUptoRow : OpenClaim := { program := "ytljecilfdpgdbaa", sum := "30a585db8bf323f2fe7be939b56df210eb82d514eee8cff129201a8eb391f535", func := "fenland/fenlandlaw30.MergeProgramsReplay", spec := "mergeProgramsReplay", unfollowed := true, recurses := true, loops := true, apart := false, narrowed := true }
def MergeProgramsReplayUptoSaid : Prop := mergeProgramsReplayUptoRow.holds Try.pinned (OpenSpec.upto mergeProgramsReplaySpec)

end Rows
end Go.Proofs.Ytljecilfdpgdbaa
