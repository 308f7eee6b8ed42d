/-
  The two tables, out of the rows' own condition; a start in which they lie.
-/
import Derived.Test.YtaffjcenojikjaaDoorCards
import Derived.Test.YtaffjcenojikjaaDoorTie
import Derived.Test.YtaffjcenojikjaaDoorDigNil
import Derived.Deep.DeepHandedRow
import Derived.Lib.LaidTab
import Derived.Stop.LaidErr
namespace Go.Proofs.YtaffjcenojikjaaDoor
open Go.RowKit

theorem gR : Tryd.prog.globalNamed "creel/digest.round" = some 1 := by kernel_rfl
theorem gRT : (Tryd.prog.globals[1]?).map (·.type) = some 74 := by kernel_rfl
theorem gF : Tryd.prog.globalNamed "creel/digest.first" = some 0 := by kernel_rfl
theorem gFT : (Tryd.prog.globals[0]?).map (·.type) = some 28 := by kernel_rfl
theorem tabs_of {W : World} (h : laidMet Tryd.prog [("creel/digest.round", Rows.laid_creel_digest_round), ("creel/digest.first", Rows.laid_creel_digest_first)] W) : Tabs W := by
  have h1 : Lib.TabIs Tryd.prog W "creel/digest.round" .u32 (KT.map fun n : Nat => (n : Int)) :=
    Lib.tabIs_of_head (rest := [("creel/digest.first", Rows.laid_creel_digest_first)]) gR gRT Tryd.underlying74 Tryd.underlying26 (by kernel_rfl) (by kernel_rfl) h
  have h2 : Lib.TabIs Tryd.prog W "creel/digest.first" .u32 (FT.map fun n : Nat => (n : Int)) :=
    Lib.tabIs_of_head (rest := []) gF gFT Tryd.underlying28 Tryd.underlying26 (by kernel_rfl) (by kernel_rfl) (laidMet.tail h)
  have c1 : ∀ i, i < 64 → W.cell? ⟨1, i, none⟩ = some (.int .u32 ((KT.getD i 0 : Nat) : Int)) := fun i hi => by
    rw [h1.cell gR i (by simpa [KT] using hi)]
    have : i < KT.length := by simpa [KT] using hi
    simp [this]
  have c2 : ∀ i, i < 8 → W.cell? ⟨0, i, none⟩ = some (.int .u32 ((FT.getD i 0 : Nat) : Int)) := fun i hi => by
    rw [h2.cell gF i (by simpa [FT] using hi)]
    have : i < FT.length := by simpa [FT] using hi
    simp [this]
  exact ⟨cell_lt' (c1 0 (by decide)), c1, c2⟩

def layCells (cs : Array Value) : Obj → Obj
  | .cells _ t frozen => .cells cs t frozen
  | o => o
/-- The settled world, the two tables as their initialisers lay them. -/
noncomputable def laidWorld (os : Os) : World :=
  { World.holding Tryd.prog os ⟨#[], #[], []⟩ with heap := ((World.holding Tryd.prog os ⟨#[], #[], []⟩).heap.modify 0 (layCells (u32s FT).toArray)).modify 1 (layCells (u32s KT).toArray) }

end Go.Proofs.YtaffjcenojikjaaDoor
