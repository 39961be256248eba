/- Package-level variables that the code reads, and what they hold. -/
import GoSem.Core.Code
namespace Go.Den
open Go
/-- A cell of a variable. -/
inductive GC where
  | i (k : IntKind) (n : Int)
  | b (v : Bool)
  | s (v : ByteArray)
/-- Variables that hold what the text of the program lays. -/
def globs : Nat → Option (List GC)
  | 0 => some [.b true, .i .i64 0, .s ⟨#[]⟩]
  | _ => none
/-- Variables that hold some number. -/
def gints : Nat → Option IntKind
  | 1 => some .i64
  | _ => none
end Go.Den
