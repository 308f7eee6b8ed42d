/-
  The table, out of the rows' own condition; a start in which the listed variables lie.
-/
import Derived.Test.YtbnmbncjefnpiaaDoorCards
import Derived.Test.YtbnmbncjefnpiaaDoorTie
import Derived.Test.YtbnmbncjefnpiaaDoorCdF
import Derived.Deep.DeepHandedRow
import Derived.Lib.LaidTab
import Derived.Stop.LaidErr
namespace Go.Proofs.YtbnmbncjefnpiaaDoor
open Go.RowKit

theorem gPT : (Tryd.prog.globals[0]?).map (·.type) = some 99 := by kernel_rfl
theorem pow_eq : (Rows.laid_internal_strconv_uint64pow10 : DataW Unit) = Lib.tabData .u64 Lib.pow10Tab := by kernel_rfl
theorem tabs_of {W : World} (h : laidMet Tryd.prog [("math/bits.deBruijn32tab", Rows.laid_math_bits_deBruijn32tab), ("math/bits.deBruijn64tab", Rows.laid_math_bits_deBruijn64tab), ("internal/strconv.uint64pow10", Rows.laid_internal_strconv_uint64pow10), ("strconv.ErrRange", Rows.laid_strconv_ErrRange), ("strconv.ErrSyntax", Rows.laid_strconv_ErrSyntax)] W) : Pw W W.heap.size := by
  have h2 := laidMet.tail (laidMet.tail h)
  rw [pow_eq] at h2
  have h1 : Lib.TabIs Tryd.prog W "internal/strconv.uint64pow10" .u64 Lib.pow10Tab :=
    Lib.tabIs_of_head pwNamed gPT Tryd.underlying99 Tryd.underlying52 (by kernel_rfl) (by kernel_rfl) h2
  refine ⟨h1, ?_⟩
  have h3 := h1.cell pwNamed 0 (by decide)
  exact cell_lt' h3

def litC : DataW Unit → List Value
  | .lit (.int k n) => [.int k n]
  | _ => []
def rowC : DataW Unit → List Value
  | .agg l => l.flatMap litC
  | _ => []
def layCells (cs : Array Value) : Obj → Obj
  | .cells _ t frozen => .cells cs t frozen
  | o => o
/-- The settled world with two blocks more (the two errors' texts), the five variables as their initialisers lay them. -/
noncomputable def laidWorld (os : Os) : World :=
  let N := (World.settled Tryd.prog os).heap.size
  let w0 := World.holding Tryd.prog os ⟨#[.cells #[.string ⟨#[118, 97, 108, 117, 101, 32, 111, 117, 116, 32, 111, 102, 32, 114, 97, 110, 103, 101]⟩] 117, .cells #[.string ⟨#[105, 110, 118, 97, 108, 105, 100, 32, 115, 121, 110, 116, 97, 120]⟩] 117], #[], []⟩
  { w0 with heap := ((((w0.heap.modify 0 (layCells (rowC Rows.laid_internal_strconv_uint64pow10).toArray)).modify 3 (layCells (rowC Rows.laid_math_bits_deBruijn32tab).toArray)).modify 4 (layCells (rowC Rows.laid_math_bits_deBruijn64tab).toArray)).modify 2 (layCells #[.iface 115 (.pointer (some ⟨N, 0, none⟩))])).modify 1 (layCells #[.iface 115 (.pointer (some ⟨N + 1, 0, none⟩))]) }

end Go.Proofs.YtbnmbncjefnpiaaDoor
