/-
  The table of blanks, out of the row's own condition; a start in which the four tables lie.
-/
import Derived.Test.YtliealcdiogilaaDoorCards
import Derived.Test.YtliealcdiogilaaDoorTie
import Derived.Test.YtliealcdiogilaaDoorCoX
import Derived.Deep.DeepHandedRow
import Derived.Deep.DeepWitnessRowRef
import Derived.Lib.LaidTab
import Derived.Stop.LaidErr
namespace Go.Proofs.YtliealcdiogilaaDoor
open Go.RowKit

theorem gS : Tryd.prog.globalNamed "strings.asciiSpace" = some 0 := by kernel_rfl
theorem gST : (Tryd.prog.globals[0]?).map (·.type) = some 107 := by kernel_rfl
theorem tab_eq : (Rows.laid_strings_asciiSpace : DataW Unit) = Lib.tabData .u8 Lib.asciiSpaceTab := by kernel_rfl
theorem tabs_of {rest : List (String × DataW Unit)} {W : World} (h : laidMet Tryd.prog (("unicode/utf8.acceptRanges", Rows.laid_unicode_utf8_acceptRanges) :: ("unicode.White_Space", Rows.laid_unicode_White_Space) :: ("strings.asciiSpace", Rows.laid_strings_asciiSpace) :: rest) W) : Spw W W.heap.size := by
  have h2 := laidMet.tail (laidMet.tail h)
  rw [tab_eq] at h2
  have h1 : Lib.TabIs Tryd.prog W "strings.asciiSpace" .u8 Lib.asciiSpaceTab :=
    Lib.tabIs_of_head (rest := rest) gS gST Tryd.underlying107 Tryd.underlying5 (by kernel_rfl) (by kernel_rfl) h2
  have h3 := h1.cell gS 0 (by rw [Lib.asciiSpaceTab_length]; decide)
  exact ⟨h1, cell_lt' h3⟩

def litC : DataW Unit → List Value
  | .lit (.int k n) => [.int k n]
  | _ => []
def rowC : DataW Unit → List Value
  | .agg l => l.flatMap litC
  | _ => []
def rowsC : DataW Unit → List Value
  | .agg l => l.flatMap rowC
  | _ => []
def layCells (cs : Array Value) : Obj → Obj
  | .cells _ t frozen => .cells cs t frozen
  | o => o
/-- The settled world with two blocks more (the ranges; their table), the four variables as their initialisers lay them. -/
noncomputable def laidWorld (os : Os) : World :=
  let N := (World.settled Tryd.prog os).heap.size
  let w0 := World.holding Tryd.prog os ⟨#[.cells (([9, 13, 1, 32, 133, 101, 160, 5760, 5600, 8192, 8202, 1, 8232, 8233, 1, 8239, 8287, 48, 12288, 12288, 1] : List Int).map (Value.int .u16)).toArray 149, .cells #[.slice (some ⟨N, 0, none⟩) 7 7, .slice none 0 0, .int .i64 2] 146], #[], []⟩
  { w0 with heap := (((w0.heap.modify 0 (layCells (Lib.asciiSpaceTab.map (Value.int .u8)).toArray)).modify 1 (layCells #[.pointer (some ⟨N + 1, 0, none⟩)])).modify 2 (layCells (rowC Rows.laid_unicode_utf8_first).toArray)).modify 3 (layCells (rowsC Rows.laid_unicode_utf8_acceptRanges).toArray) }

end Go.Proofs.YtliealcdiogilaaDoor
