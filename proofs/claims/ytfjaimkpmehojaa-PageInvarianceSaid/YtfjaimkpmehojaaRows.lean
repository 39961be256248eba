/-
  No cell of these rows narrows 'for every input' (looked for: loops, veiled, ifaces, maps, wideKeys, modest, calm, conditions, laid).
  DERIVED. THE GIVEN ROWS OF THIS SEAT. 6 by the template 'for every input the law returns true; each argument reads behind the call as it read before'; 0 by the template 'total and deterministic' (their statements: YtfjaimkpmehojaaTotals.lean).
  GIVEN WITH THE SEED: the statements are not yours to turn. If you find one false, say at which input.
  Laid BY PROGRAM, IN A SANDBOX (cutbox-rows.mjs): the forced cells as the released guide's own fill.sh prints them over the translation d894ab7142206bf7… (all of the seat's roots in one cut). By AI agents, Wed Nov 11 2026. No macro, syntax, notation, axiom, sorry.
-/
import Derived.Test.YtfjaimkpmehojaaChecked
import GoSem.Claim
import GoSem.ClaimJoined
import GoSem.ClaimMapViews
import Derived.JoinedTies
import Derived.KernelRfl
namespace Go.Proofs.Ytfjaimkpmehojaa
/- THE CELL 'sum', in the pinned program and in every row, IS THE sha256 OF THE DUMP (.gsa) THAT YtfjaimkpmehojaaProg.lean LOADS. Nothing in Lean hashes anything: it is a label: what it is worth is what the hold of that sum in a sandbox is worth. -/
noncomputable def Try.pinned : Pinned := { name := "ytfjaimkpmehojaa", sum := "d894ab7142206bf7b175734cf92fac164371c820908ecb4119b5e9d7a94b39a8", checked := Try.checked }
namespace Rows
def none {H : Type} : Left H := { results := [], args := [] }

/-- 'fenlandlaw10.PageRoundTrip': WHATEVER THE INPUT: true; the input reads as it did. -/
def pageRoundTripSpec : ChangeSpec := { name := "pageRoundTrip", fn := fun _ => fun
  | [d] => { results := [.lit (.bool true)], args := [d] }
  | _ => none }
def pageRoundTripRow : OpenClaim := { program := "ytfjaimkpmehojaa", sum := "d894ab7142206bf7b175734cf92fac164371c820908ecb4119b5e9d7a94b39a8", func := "fenland/fenlandlaw10.PageRoundTrip", spec := "pageRoundTrip", unfollowed := true, recurses := true, apart := false }
def PageRoundTripSaid : Prop := pageRoundTripRow.holds Try.pinned (OpenSpec.ofChange pageRoundTripSpec)

/-- ITS FALSE NEIGHBOUR: 'it returns false'. Refute it at one input. -/
def pageRoundTripWrong : ChangeSpec := { name := "pageRoundTrip", fn := fun _ => fun
  | [d] => { results := [.lit (.bool false)], args := [d] }
  | _ => none }
def PageRoundTripWrongFalsely : Prop := pageRoundTripRow.holds Try.pinned (OpenSpec.ofChange pageRoundTripWrong)

/-- 'fenlandlaw10.PageUnique': WHATEVER THE INPUT: true; the input reads as it did. -/
def pageUniqueSpec : ChangeSpec := { name := "pageUnique", fn := fun _ => fun
  | [d1, d2] => { results := [.lit (.bool true)], args := [d1, d2] }
  | _ => none }
def pageUniqueRow : OpenClaim := { program := "ytfjaimkpmehojaa", sum := "d894ab7142206bf7b175734cf92fac164371c820908ecb4119b5e9d7a94b39a8", func := "fenland/fenlandlaw10.PageUnique", spec := "pageUnique", unfollowed := true, recurses := true, apart := false }
def PageUniqueSaid : Prop := pageUniqueRow.holds Try.pinned (OpenSpec.ofChange pageUniqueSpec)

/-- ITS FALSE NEIGHBOUR: 'it returns false'. Refute it at one input. -/
def pageUniqueWrong : ChangeSpec := { name := "pageUnique", fn := fun _ => fun
  | [d1, d2] => { results := [.lit (.bool false)], args := [d1, d2] }
  | _ => none }
def PageUniqueWrongFalsely : Prop := pageUniqueRow.holds Try.pinned (OpenSpec.ofChange pageUniqueWrong)

/-- 'fenlandlaw10.PageBest': WHATEVER THE INPUT: true; the input reads as it did. -/
def pageBestSpec : ChangeSpec := { name := "pageBest", fn := fun _ => fun
  | [d] => { results := [.lit (.bool true)], args := [d] }
  | _ => none }
def pageBestRow : OpenClaim := { program := "ytfjaimkpmehojaa", sum := "d894ab7142206bf7b175734cf92fac164371c820908ecb4119b5e9d7a94b39a8", func := "fenland/fenlandlaw10.PageBest", spec := "pageBest", unfollowed := true, recurses := true, apart := false }
def PageBestSaid : Prop := pageBestRow.holds Try.pinned (OpenSpec.ofChange pageBestSpec)

/-- ITS FALSE NEIGHBOUR: 'it returns false'. Refute it at one input. -/
def pageBestWrong : ChangeSpec := { name := "pageBest", fn := fun _ => fun
  | [d] => { results := [.lit (.bool false)], args := [d] }
  | _ => none }
def PageBestWrongFalsely : Prop := pageBestRow.holds Try.pinned (OpenSpec.ofChange pageBestWrong)

/-- 'fenlandlaw10.PageInvariance': WHATEVER THE INPUT: true; the input reads as it did. -/
def pageInvarianceSpec : ChangeSpec := { name := "pageInvariance", fn := fun _ => fun
  | [d1, d2, d3] => { results := [.lit (.bool true)], args := [d1, d2, d3] }
  | _ => none }
def pageInvarianceRow : OpenClaim := { program := "ytfjaimkpmehojaa", sum := "d894ab7142206bf7b175734cf92fac164371c820908ecb4119b5e9d7a94b39a8", func := "fenland/fenlandlaw10.PageInvariance", spec := "pageInvariance", unfollowed := true, recurses := true, apart := false }
def PageInvarianceSaid : Prop := pageInvarianceRow.holds Try.pinned (OpenSpec.ofChange pageInvarianceSpec)

/-- ITS FALSE NEIGHBOUR: 'it returns false'. Refute it at one input. -/
def pageInvarianceWrong : ChangeSpec := { name := "pageInvariance", fn := fun _ => fun
  | [d1, d2, d3] => { results := [.lit (.bool false)], args := [d1, d2, d3] }
  | _ => none }
def PageInvarianceWrongFalsely : Prop := pageInvarianceRow.holds Try.pinned (OpenSpec.ofChange pageInvarianceWrong)

/-- 'fenlandlaw10.PageGrowth': WHATEVER THE INPUT: true; the input reads as it did. -/
def pageGrowthSpec : ChangeSpec := { name := "pageGrowth", fn := fun _ => fun
  | [d1, d2] => { results := [.lit (.bool true)], args := [d1, d2] }
  | _ => none }
def pageGrowthRow : OpenClaim := { program := "ytfjaimkpmehojaa", sum := "d894ab7142206bf7b175734cf92fac164371c820908ecb4119b5e9d7a94b39a8", func := "fenland/fenlandlaw10.PageGrowth", spec := "pageGrowth", unfollowed := true, recurses := true, apart := false }
def PageGrowthSaid : Prop := pageGrowthRow.holds Try.pinned (OpenSpec.ofChange pageGrowthSpec)

/-- ITS FALSE NEIGHBOUR: 'it returns false'. Refute it at one input. -/
def pageGrowthWrong : ChangeSpec := { name := "pageGrowth", fn := fun _ => fun
  | [d1, d2] => { results := [.lit (.bool false)], args := [d1, d2] }
  | _ => none }
def PageGrowthWrongFalsely : Prop := pageGrowthRow.holds Try.pinned (OpenSpec.ofChange pageGrowthWrong)

/-- 'fenlandlaw10.PagePut': WHATEVER THE INPUT: true; the input reads as it did. -/
def pagePutSpec : ChangeSpec := { name := "pagePut", fn := fun _ => fun
  | [d1, d2, d3] => { results := [.lit (.bool true)], args := [d1, d2, d3] }
  | _ => none }
def pagePutRow : OpenClaim := { program := "ytfjaimkpmehojaa", sum := "d894ab7142206bf7b175734cf92fac164371c820908ecb4119b5e9d7a94b39a8", func := "fenland/fenlandlaw10.PagePut", spec := "pagePut", unfollowed := true, recurses := true, apart := false }
def PagePutSaid : Prop := pagePutRow.holds Try.pinned (OpenSpec.ofChange pagePutSpec)

/-- ITS FALSE NEIGHBOUR: 'it returns false'. Refute it at one input. -/
def pagePutWrong : ChangeSpec := { name := "pagePut", fn := fun _ => fun
  | [d1, d2, d3] => { results := [.lit (.bool false)], args := [d1, d2, d3] }
  | _ => none }
def PagePutWrongFalsely : Prop := pagePutRow.holds Try.pinned (OpenSpec.ofChange pagePutWrong)

/- THE SECOND FORM. 'bulk': how many values and letters a reading holds, each counted each time it is reached (what is shared counts as often as it is met; a slice's spare places count too). A statement '..UptoSaid' is the law's where the arguments, and the package variables that the reading takes, are together of bulk at most 1048576: NARROWER than '..Said'. Prove '..Said' where nothing that the law and all that it calls make is longer than what came in: it says more and counts as full. Else prove '..UptoSaid'. A law counts once. -/
mutual
def uptoBulk {H : Type} : DataW H → Nat
  | .lit (.string bytes) => bytes.length + 1
  | .lit _ => 1
  | .nil => 1
  | .ptr d => uptoBulk d + 1
  | .slice elems spare => uptoBulkAll elems + uptoBulkAll spare + 1
  | .agg parts => uptoBulkAll parts + 1
  | .iface _ d => uptoBulk d + 1
  | .map entries => uptoBulkEntries entries + 1
  | .held _ => 1
def uptoBulkAll {H : Type} : List (DataW H) → Nat
  | [] => 0
  | d :: r => uptoBulk d + uptoBulkAll r
def uptoBulkEntries {H : Type} : List (Lit × DataW H) → Nat
  | [] => 0
  | x :: r => uptoBulkEntry x + uptoBulkEntries r
def uptoBulkEntry {H : Type} : Lit × DataW H → Nat
  | (.string bytes, d) => bytes.length + uptoBulk d + 1
  | (_, d) => uptoBulk d + 1
 end
def uptoSmall : (H : Type) → List (DataW H) → Bool := fun _ ds => decide (uptoBulkAll ds ≤ 1048576)
def OpenSpec.upto (s : _root_.Go.ChangeSpec) : _root_.Go.OpenSpec := { _root_.Go.OpenSpec.ofChange s with cond := some uptoSmall }

/-- 'fenlandlaw10.PageRoundTrip', WHERE WHAT IT READS IS OF BULK AT MOST 1048576: true; the input reads as it did. -/
def pageRoundTripUptoRow : OpenClaim := { program := "ytfjaimkpmehojaa", sum := "d894ab7142206bf7b175734cf92fac164371c820908ecb4119b5e9d7a94b39a8", func := "fenland/fenlandlaw10.PageRoundTrip", spec := "pageRoundTrip", unfollowed := true, recurses := true, apart := false, narrowed := true }
def PageRoundTripUptoSaid : Prop := pageRoundTripUptoRow.holds Try.pinned (OpenSpec.upto pageRoundTripSpec)

/-- 'fenlandlaw10.PageUnique', WHERE WHAT IT READS IS OF BULK AT MOST 1048576: true; the input reads as it did. -/
def pageUniqueUptoRow : OpenClaim := { program := "ytfjaimkpmehojaa", sum := "d894ab7142206bf7b175734cf92fac164371c820908ecb4119b5e9d7a94b39a8", func := "fenland/fenlandlaw10.PageUnique", spec := "pageUnique", unfollowed := true, recurses := true, apart := false, narrowed := true }
def PageUniqueUptoSaid : Prop := pageUniqueUptoRow.holds Try.pinned (OpenSpec.upto pageUniqueSpec)

/-- 'fenlandlaw10.PageBest', WHERE WHAT IT READS IS OF BULK AT MOST 1048576: true; the input reads as it did. -/
def pageBestUptoRow : OpenClaim := { program := "ytfjaimkpmehojaa", sum := "d894ab7142206bf7b175734cf92fac164371c820908ecb4119b5e9d7a94b39a8", func := "fenland/fenlandlaw10.PageBest", spec := "pageBest", unfollowed := true, recurses := true, apart := false, narrowed := true }
def PageBestUptoSaid : Prop := pageBestUptoRow.holds Try.pinned (OpenSpec.upto pageBestSpec)

/-- 'fenlandlaw10.PageInvariance', WHERE WHAT IT READS IS OF BULK AT MOST 1048576: true; the input reads as it did. -/
def pageInvarianceUptoRow : OpenClaim := { program := "ytfjaimkpmehojaa", sum := "d894ab7142206bf7b175734cf92fac164371c820908ecb4119b5e9d7a94b39a8", func := "fenland/fenlandlaw10.PageInvariance", spec := "pageInvariance", unfollowed := true, recurses := true, apart := false, narrowed := true }
def PageInvarianceUptoSaid : Prop := pageInvarianceUptoRow.holds Try.pinned (OpenSpec.upto pageInvarianceSpec)

/-- 'fenlandlaw10.PageGrowth', WHERE WHAT IT READS IS OF BULK AT MOST 1048576: true; the input reads as it did. -/
def pageGrowthUptoRow : OpenClaim := { program := "ytfjaimkpmehojaa", sum := "d894ab7142206bf7b175734cf92fac164371c820908ecb4119b5e9d7a94b39a8", func := "fenland/fenlandlaw10.PageGrowth", spec := "pageGrowth", unfollowed := true, recurses := true, apart := false, narrowed := true }
def PageGrowthUptoSaid : Prop := pageGrowthUptoRow.holds Try.pinned (OpenSpec.upto pageGrowthSpec)

/-- 'fenlandlaw10.PagePut', WHERE WHAT IT READS IS OF BULK AT MOST 1048576: true; the input reads as it did. -/
def pagePutUptoRow : OpenClaim := { program := "ytfjaimkpmehojaa", sum := "d894ab7142206bf7b175734cf92fac164371c820908ecb4119b5e9d7a94b39a8", func := "fenland/fenlandlaw10.PagePut", spec := "pagePut", unfollowed := true, recurses := true, apart := false, narrowed := true }
def PagePutUptoSaid : Prop := pagePutUptoRow.holds Try.pinned (OpenSpec.upto pagePutSpec)

end Rows
end Go.Proofs.Ytfjaimkpmehojaa
