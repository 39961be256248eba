/- Package-level variables that the code reads, and what they hold (none here). -/
import GoSem.Core.Code
namespace Go.Den
open Go
inductive GC where
 | i (k : IntKind) (n : Int)
 | b (v : Bool)
 | s (v : ByteArray)
def globs : Nat → Option (List GC)
 | _ => none
def gints : Nat → Option IntKind
 | _ => none
def gifs : Nat → Bool
 | _ => false
end Go.Den
