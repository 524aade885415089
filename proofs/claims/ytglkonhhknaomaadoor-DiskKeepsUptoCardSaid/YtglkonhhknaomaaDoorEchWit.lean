/- A world in which the listed tables of Go's library hold what they hold: for the rows' witness. -/
import Derived.Test.YtglkonhhknaomaaDoorRows
import Derived.WalkKit
import Derived.ProofKit
import Derived.OpenShut
import Derived.Deep.DeepHandedRow
namespace Go.Proofs.YtglkonhhknaomaaDoor
open Go.ChangeShapes Go.WideShapes Go.ChangeAt Go.RowKit

def litCell : DataW Unit → Value
  | .lit (.int k n) => .int k n
  | _ => .bool false
/-- The cells of a row of numbers; of a row of structs of numbers. -/
def rowCells : DataW Unit → Array Value
  | .agg l => (l.map litCell).toArray
  | _ => #[]
def rowsCells : DataW Unit → Array Value
  | .agg l => (l.flatMap fun x => (rowCells x).toList).toArray
  | _ => #[]
def putRow (cs : Array Value) : Obj → Obj
  | .cells _ t frozen => .cells cs t frozen
  | o => o

theorem own : ownKnob Tryd.prog.godebug = none := by kernel_rfl
theorem laidOut : laidOutB Tryd.prog = true := by kernel_rfl

noncomputable def laidWorld (os : Os) : World :=
  { World.holding Tryd.prog os ⟨#[], #[], []⟩ with heap := ((World.holding Tryd.prog os ⟨#[], #[], []⟩).heap.modify 1 (putRow (rowCells Rows.laid_unicode_utf8_first))).modify 2 (putRow (rowsCells (Rows.laid_unicode_utf8_acceptRanges (H := Unit)))) }
end Go.Proofs.YtglkonhhknaomaaDoor
