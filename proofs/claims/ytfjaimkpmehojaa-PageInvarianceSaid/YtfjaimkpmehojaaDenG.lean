/- Package-level variables that the code reads, and what they hold (none here). -/
import GoSem.Core.Code
namespace Go.Den
open Go
/-- A cell of a variable. -/
inductive GC where
  | i (k : IntKind) (n : Int)
  | b (v : Bool)
  | s (v : ByteArray)
/-- Variables that hold what the program's text lays. -/
def globs : Nat → Option (List GC)
  | _ => none
/-- Variables that hold some number. -/
def gints : Nat → Option IntKind
  | _ => none
/-- Variables that hold some value of an interface. -/
def gifs : Nat → Bool
  | _ => false
end Go.Den
