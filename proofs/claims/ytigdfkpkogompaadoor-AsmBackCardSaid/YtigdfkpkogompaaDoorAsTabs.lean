/-
  The tables, out of the rows' own condition; a start in which the listed variables lie.
-/
import Derived.Test.YtigdfkpkogompaaDoorCards
import Derived.Test.YtigdfkpkogompaaDoorTie
import Derived.Test.YtigdfkpkogompaaDoorAsA
import Derived.Deep.DeepHandedRow
import Derived.Deep.DeepWitnessRowRef
import Derived.Lib.LaidTab
import Derived.Stop.LaidErr
import Derived.Shelf.Vars
import Derived.Test.YtigdfkpkogompaaDoorU8
namespace Go.Proofs.YtigdfkpkogompaaDoor
open Go.RowKit Go.ChangeShapes Go.WideShapes Go.ChangeAt

theorem gS : Tryd.prog.globalNamed "strings.asciiSpace" = some 0 := by kernel_rfl
theorem gST : (Tryd.prog.globals[0]?).map (·.type) = some 71 := by kernel_rfl
theorem tab_eq : (Rows.laid_strings_asciiSpace : DataW Unit) = Lib.tabData .u8 Lib.asciiSpaceTab := by kernel_rfl
theorem gPT : (Tryd.prog.globals[3]?).map (·.type) = some 130 := by kernel_rfl
theorem pow_eq : (Rows.laid_internal_strconv_uint64pow10 : DataW Unit) = Lib.tabData .u64 Lib.pow10Tab := by kernel_rfl
/-- The two tables lie. -/
def Tb (W : World) : Prop := Lib.TabIs Tryd.prog W "strings.asciiSpace" .u8 Lib.asciiSpaceTab ∧ Lib.TabIs Tryd.prog W "internal/strconv.uint64pow10" .u64 Lib.pow10Tab
theorem tabs_of {rest : List (String × DataW Unit)} {W : World} (h : laidMet Tryd.prog (("math/bits.deBruijn32tab", Rows.laid_math_bits_deBruijn32tab) :: ("math/bits.deBruijn64tab", Rows.laid_math_bits_deBruijn64tab) :: ("internal/strconv.uint64pow10", Rows.laid_internal_strconv_uint64pow10) :: ("unicode/utf8.acceptRanges", Rows.laid_unicode_utf8_acceptRanges) :: ("unicode.White_Space", Rows.laid_unicode_White_Space) :: ("strings.asciiSpace", Rows.laid_strings_asciiSpace) :: rest) W) : Tb W := by
  have h2 := laidMet.tail (laidMet.tail h)
  have h5 := laidMet.tail (laidMet.tail (laidMet.tail h2))
  rw [pow_eq] at h2
  rw [tab_eq] at h5
  exact ⟨Lib.tabIs_of_head (rest := rest) gS gST Tryd.underlying71 Tryd.underlying5 (by kernel_rfl) (by kernel_rfl) h5,
    Lib.tabIs_of_head pwNamed gPT Tryd.underlying130 Tryd.underlying122 (by kernel_rfl) (by kernel_rfl) h2⟩
theorem eg_of {W : World} (h : Tb W) (hsh : W.ShapedOpen Tryd.prog) : Eg W W.heap.size := by
  obtain ⟨m, hm⟩ : ∃ m : Int, W.cell? ⟨2, 0, none⟩ = some (.int .i64 m) :=
    cell_of_shapedOpen_int (P := Tryd.prog) (g := 2) (t := 3) (zero := #[.int .i64 0]) hsh (of_decide_eq_true (by kernel_rfl)) (by kernel_rfl) rfl (by kernel_rfl) (by kernel_rfl) Tryd.underlying3
  have h3 := h.1.cell gS 0 (by rw [Lib.asciiSpaceTab_length]; decide)
  have h4 := h.2.cell pwNamed 0 (by decide)
  exact ⟨⟨h.1, cell_lt' h3⟩, h.2, cell_lt' h4, ⟨m, hm⟩, cell_lt' hm⟩

def litC : DataW Unit → List Value
  | .lit (.int k n) => [.int k n]
  | _ => []
def rowC : DataW Unit → List Value
  | .agg l => l.flatMap litC
  | _ => []
def rowsC : DataW Unit → List Value
  | .agg l => l.flatMap rowC
  | _ => []
def layCells (cs : Array Value) : Obj → Obj
  | .cells _ t frozen => .cells cs t frozen
  | o => o
/-- The settled world with two blocks more (the ranges; their table), the listed variables as their initialisers lay them. -/
noncomputable def laidWorld (os : Os) : World :=
  let N := (World.settled Tryd.prog os).heap.size
  let w0 := World.holding Tryd.prog os ⟨#[.cells (([9, 13, 1, 32, 133, 101, 160, 5760, 5600, 8192, 8202, 1, 8232, 8233, 1, 8239, 8287, 48, 12288, 12288, 1] : List Int).map (Value.int .u16)).toArray 109, .cells #[.slice (some ⟨N, 0, none⟩) 7 7, .slice none 0 0, .int .i64 2] 106], #[], []⟩
  { w0 with heap := ((((((w0.heap.modify 0 (layCells (Lib.asciiSpaceTab.map (Value.int .u8)).toArray)).modify 1 (layCells #[.pointer (some ⟨N + 1, 0, none⟩)])).modify 4 (layCells (rowC Rows.laid_unicode_utf8_first).toArray)).modify 5 (layCells (rowsC Rows.laid_unicode_utf8_acceptRanges).toArray)).modify 3 (layCells (rowC Rows.laid_internal_strconv_uint64pow10).toArray)).modify 6 (layCells (rowC Rows.laid_math_bits_deBruijn32tab).toArray)).modify 7 (layCells (rowC Rows.laid_math_bits_deBruijn64tab).toArray) }

end Go.Proofs.YtigdfkpkogompaaDoor
