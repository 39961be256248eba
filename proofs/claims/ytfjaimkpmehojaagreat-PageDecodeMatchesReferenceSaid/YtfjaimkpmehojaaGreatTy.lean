/- The values of the program's types. -/
import Derived.Test.YtfjaimkpmehojaaGreatDenEv
namespace Go.Den
open Go
structure Cell where
  id : Int
  v : Val
deriving DecidableEq
def Cell.cells (c : Cell) : List AV := [.int .i64 c.id, .bool c.v.null, .int .i64 c.v.n, .str c.v.s]
structure Line where
  n : Int
  r : List Cell
deriving DecidableEq
def Line.cells (l : Line) : List AV := [.int .i64 l.n, .sl (l.r.map Cell.cells)]
structure Event where
  kind : Int
  l : Line
deriving DecidableEq
def Event.cells (e : Event) : List AV := [.int .i64 e.kind, .int .i64 e.l.n, .sl (e.l.r.map Cell.cells)]
structure Table where
  next : Int
  l : List Line
def Table.cells (t : Table) : List AV := [.int .i64 t.next, .sl (t.l.map Line.cells)]
attribute [go_sem] Line.cells Cell.cells Event.cells Table.cells
end Go.Den
