/- Package-level variables that the code reads, and what they hold. -/
import GoSem.Core.Code
namespace Go.Den
open Go
/-- A cell of a variable. -/
inductive GC where
  | i (k : IntKind) (n : Int)
  | b (v : Bool)
  | s (v : ByteArray)
/-- Variables that hold what the text of the program lays. -/
def globs : Nat → Option (List GC)
  | 3 => some [.i .u64 1, .i .u64 10, .i .u64 100, .i .u64 1000, .i .u64 10000, .i .u64 100000, .i .u64 1000000, .i .u64 10000000, .i .u64 100000000, .i .u64 1000000000, .i .u64 10000000000, .i .u64 100000000000, .i .u64 1000000000000, .i .u64 10000000000000, .i .u64 100000000000000, .i .u64 1000000000000000, .i .u64 10000000000000000, .i .u64 100000000000000000, .i .u64 1000000000000000000, .i .u64 10000000000000000000]
  | _ => none
/-- Variables that hold some number. -/
def gints : Nat → Option IntKind
  | 0 => some .i64
  | _ => none
/-- Variables that hold some value of an interface. -/
def gifs : Nat → Bool
  | 1 => true
  | 2 => true
  | _ => false
end Go.Den
