/-
  A start in which the rows' tables lie.
-/
import Derived.Test.YticcphppnmoogaaDoorCards
import Derived.Test.YticcphppnmoogaaDoorTie
import Derived.Test.YticcphppnmoogaaDoorArcIn
import Derived.Deep.DeepHandedRow
import Derived.Stop.LaidErr
namespace Go.Proofs.YticcphppnmoogaaDoor
open Go.RowKit

def litC : DataW Unit → List Value
  | .lit (.int k n) => [.int k n]
  | _ => []
def rowC : DataW Unit → List Value
  | .agg l => l.flatMap litC
  | _ => []
def rowsC : DataW Unit → List Value
  | .agg l => l.flatMap rowC
  | _ => []
def layCells (cs : Array Value) : Obj → Obj
  | .cells _ t frozen => .cells cs t frozen
  | o => o
/-- The settled world, the four tables as their initialisers lay them. -/
noncomputable def laidWorld (os : Os) : World :=
  { World.holding Tryd.prog os ⟨#[], #[], []⟩ with heap := ((((World.holding Tryd.prog os ⟨#[], #[], []⟩).heap.modify 0 (layCells (rowC Rows.laid_creel_digest_first).toArray)).modify 1 (layCells (rowC Rows.laid_creel_digest_round).toArray)).modify 3 (layCells (rowC Rows.laid_unicode_utf8_first).toArray)).modify 4 (layCells (rowsC Rows.laid_unicode_utf8_acceptRanges).toArray) }

end Go.Proofs.YticcphppnmoogaaDoor
