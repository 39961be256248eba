/-
  NARROWER THAN 'FOR EVERY INPUT', by the rows' own cells (each row's printed sentence says how): LensMatchesReference: laid · LensTranslateMatchesReference: laid.
  DERIVED. THE GIVEN ROWS OF THIS SEAT. 2 by the template 'for every input the law returns true; each argument reads behind the call as it read before'; 0 by the template 'total and deterministic' (their statements: YtghipgdajgeoiaaGreatDoorTotals.lean).
  GIVEN WITH THE SEED: the statements are not yours to turn. If you find one false, say at which input.
  Laid BY PROGRAM, IN A SANDBOX (cutbox-rows.mjs): the forced cells as the released guide's own fill.sh prints them over the translation 993cf44ead767ea0… (all of the seat's roots in one cut). By AI agents, Wed Nov 11 2026. No macro, syntax, notation, axiom, sorry.
-/
import Derived.Test.YtghipgdajgeoiaaGreatDoorChecked
import GoSem.Claim
import GoSem.ClaimJoined
import GoSem.ClaimMapViews
import Derived.JoinedTies
import Derived.KernelRfl
namespace Go.Proofs.YtghipgdajgeoiaaGreatDoor
/- THE CELL 'sum', in the pinned program and in every row, IS THE sha256 OF THE DUMP (.gsa) THAT YtghipgdajgeoiaaGreatDoorProg.lean LOADS. Nothing in Lean hashes anything: it is a label: what it is worth is what the hold of that sum in a sandbox is worth. -/
noncomputable def Tryz.pinned : Pinned := { name := "ytghipgdajgeoiaagreatdoor", sum := "993cf44ead767ea0ca6ec5fac9dd73714d10ddd3daa74697cb518aa53d1ce432", checked := Tryz.checked }
namespace Rows
def none {H : Type} : Left H := { results := [], args := [] }

/- WHAT THE LISTED PACKAGE-LEVEL VARIABLES READ AS WHEN THE CALL BEGINS. Each datum BY PROGRAM (the guide's laid-datum.mjs) off the statement by which the dump's own 'gosem.cut.vars' lays the variable. In a bare row this is a premise. The card (YtghipgdajgeoiaaGreatDoorCards.lean) ties it to the program's text. -/
def laid_fenland_lens_null {H : Type} : DataW H := .agg [.lit (.bool true), .lit (.int .i64 0), .lit (.string [])]

/-- 'fenlandlaw07.LensMatchesReference': WHATEVER THE INPUT: true; the input reads as it did. -/
def lensMatchesReferenceSpec : ChangeSpec := { name := "lensMatchesReference", fn := fun _ => fun
  | [d1, d2] => { results := [.lit (.bool true)], args := [d1, d2] }
  | _ => none }
def lensMatchesReferenceRow : OpenClaim := { program := "ytghipgdajgeoiaagreatdoor", sum := "993cf44ead767ea0ca6ec5fac9dd73714d10ddd3daa74697cb518aa53d1ce432", func := "fenland/fenlandlaw07.LensMatchesReference", spec := "lensMatchesReference", inPlace := ["internal/bytealg.IndexByteString", "internal/bytealg.IndexString"], unfollowed := true, recurses := true, named := ["fenland/lens.null", "internal/bytealg.MaxLen"], apart := false, laid := [("fenland/lens.null", laid_fenland_lens_null)] }
def LensMatchesReferenceSaid : Prop := lensMatchesReferenceRow.holds Tryz.pinned (OpenSpec.ofChange lensMatchesReferenceSpec)

/-- ITS FALSE NEIGHBOUR: 'it returns false'. Refute it at one input. -/
def lensMatchesReferenceWrong : ChangeSpec := { name := "lensMatchesReference", fn := fun _ => fun
  | [d1, d2] => { results := [.lit (.bool false)], args := [d1, d2] }
  | _ => none }
def LensMatchesReferenceWrongFalsely : Prop := lensMatchesReferenceRow.holds Tryz.pinned (OpenSpec.ofChange lensMatchesReferenceWrong)

/-- 'fenlandlaw07.LensTranslateMatchesReference': WHATEVER THE INPUT: true; the input reads as it did. -/
def lensTranslateMatchesReferenceSpec : ChangeSpec := { name := "lensTranslateMatchesReference", fn := fun _ => fun
  | [d1, d2, d3] => { results := [.lit (.bool true)], args := [d1, d2, d3] }
  | _ => none }
def lensTranslateMatchesReferenceRow : OpenClaim := { program := "ytghipgdajgeoiaagreatdoor", sum := "993cf44ead767ea0ca6ec5fac9dd73714d10ddd3daa74697cb518aa53d1ce432", func := "fenland/fenlandlaw07.LensTranslateMatchesReference", spec := "lensTranslateMatchesReference", inPlace := ["internal/bytealg.IndexByteString", "internal/bytealg.IndexString"], unfollowed := true, recurses := true, named := ["fenland/lens.null", "internal/bytealg.MaxLen"], apart := false, laid := [("fenland/lens.null", laid_fenland_lens_null)] }
def LensTranslateMatchesReferenceSaid : Prop := lensTranslateMatchesReferenceRow.holds Tryz.pinned (OpenSpec.ofChange lensTranslateMatchesReferenceSpec)

/-- ITS FALSE NEIGHBOUR: 'it returns false'. Refute it at one input. -/
def lensTranslateMatchesReferenceWrong : ChangeSpec := { name := "lensTranslateMatchesReference", fn := fun _ => fun
  | [d1, d2, d3] => { results := [.lit (.bool false)], args := [d1, d2, d3] }
  | _ => none }
def LensTranslateMatchesReferenceWrongFalsely : Prop := lensTranslateMatchesReferenceRow.holds Tryz.pinned (OpenSpec.ofChange lensTranslateMatchesReferenceWrong)

/- THE SECOND FORM. 'bulk': how many values and letters a reading holds, each counted each time it is reached (what is shared counts as often as it is met; a slice's spare places count too). A statement '..UptoSaid' is the law's where the arguments, and the package variables that the reading takes, are together of bulk at most 1048576: NARROWER than '..Said'. Prove '..Said' where nothing that the law and all that it calls make is longer than what came in: it says more and counts as full. Else prove '..UptoSaid'. A law counts once. -/
mutual
def uptoBulk {H : Type} : DataW H → Nat
  | .lit (.string bytes) => bytes.length + 1
  | .lit _ => 1
  | .nil => 1
  | .ptr d => uptoBulk d + 1
  | .slice elems spare => uptoBulkAll elems + uptoBulkAll spare + 1
  | .agg parts => uptoBulkAll parts + 1
  | .iface _ d => uptoBulk d + 1
  | .map entries => uptoBulkEntries entries + 1
  | .held _ => 1
def uptoBulkAll {H : Type} : List (DataW H) → Nat
  | [] => 0
  | d :: r => uptoBulk d + uptoBulkAll r
def uptoBulkEntries {H : Type} : List (Lit × DataW H) → Nat
  | [] => 0
  | x :: r => uptoBulkEntry x + uptoBulkEntries r
def uptoBulkEntry {H : Type} : Lit × DataW H → Nat
  | (.string bytes, d) => bytes.length + uptoBulk d + 1
  | (_, d) => uptoBulk d + 1
 end
def uptoSmall : (H : Type) → List (DataW H) → Bool := fun _ ds => decide (uptoBulkAll ds ≤ 1048576)
def OpenSpec.upto (s : _root_.Go.ChangeSpec) : _root_.Go.OpenSpec := { _root_.Go.OpenSpec.ofChange s with cond := some uptoSmall }

/-- 'fenlandlaw07.LensMatchesReference', WHERE WHAT IT READS IS OF BULK AT MOST 1048576: true; the input reads as it did. -/
def lensMatchesReferenceUptoRow : OpenClaim := { program := "ytghipgdajgeoiaagreatdoor", sum := "993cf44ead767ea0ca6ec5fac9dd73714d10ddd3daa74697cb518aa53d1ce432", func := "fenland/fenlandlaw07.LensMatchesReference", spec := "lensMatchesReference", inPlace := ["internal/bytealg.IndexByteString", "internal/bytealg.IndexString"], unfollowed := true, recurses := true, named := ["fenland/lens.null", "internal/bytealg.MaxLen"], apart := false, laid := [("fenland/lens.null", laid_fenland_lens_null)], narrowed := true }
def LensMatchesReferenceUptoSaid : Prop := lensMatchesReferenceUptoRow.holds Tryz.pinned (OpenSpec.upto lensMatchesReferenceSpec)

/-- 'fenlandlaw07.LensTranslateMatchesReference', WHERE WHAT IT READS IS OF BULK AT MOST 1048576: true; the input reads as it did. -/
def lensTranslateMatchesReferenceUptoRow : OpenClaim := { program := "ytghipgdajgeoiaagreatdoor", sum := "993cf44ead767ea0ca6ec5fac9dd73714d10ddd3daa74697cb518aa53d1ce432", func := "fenland/fenlandlaw07.LensTranslateMatchesReference", spec := "lensTranslateMatchesReference", inPlace := ["internal/bytealg.IndexByteString", "internal/bytealg.IndexString"], unfollowed := true, recurses := true, named := ["fenland/lens.null", "internal/bytealg.MaxLen"], apart := false, laid := [("fenland/lens.null", laid_fenland_lens_null)], narrowed := true }
def LensTranslateMatchesReferenceUptoSaid : Prop := lensTranslateMatchesReferenceUptoRow.holds Tryz.pinned (OpenSpec.upto lensTranslateMatchesReferenceSpec)

end Rows
end Go.Proofs.YtghipgdajgeoiaaGreatDoor
