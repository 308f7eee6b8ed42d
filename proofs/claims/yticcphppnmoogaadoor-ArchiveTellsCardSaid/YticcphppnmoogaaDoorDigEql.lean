/-
  == between two digests.
-/
import Derived.Test.YticcphppnmoogaaDoorDigSum
import Derived.Test.YticcphppnmoogaaDoorWordsI
namespace Go.Proofs.YticcphppnmoogaaDoor
open Go.RowKit

theorem info8e : (Tryd.prog.info? 5).map (·.size) = some 1 := by kernel_rfl
theorem eql_dig (A B : List Nat) (hA : A.length = 32) (hB : B.length = 32) (w : World) : (binOp .eql 45 (.agg (u8s A).toArray) (.agg (u8s B).toArray)).run Tryd.prog w = .ok (.bool (A == B)) w := by
  have := run_eql_arr (P := Tryd.prog) w 45 5 32 .u8 .u8 (A.map fun n : Nat => (n : Int)) (B.map fun n : Nat => (n : Int)) (by simpa using hA) (by simpa using hB) Tryd.underlying45 Tryd.underlying5 info8e
  rw [List.map_map, List.map_map] at this
  have e : ((A.map fun n : Nat => (n : Int)) == (B.map fun n : Nat => (n : Int))) = (A == B) := by
    rw [Bool.eq_iff_iff, beq_iff_eq, beq_iff_eq]
    exact List.map_inj_right (fun a b h => by exact_mod_cast h)
  rw [e] at this
  exact this

end Go.Proofs.YticcphppnmoogaaDoor
