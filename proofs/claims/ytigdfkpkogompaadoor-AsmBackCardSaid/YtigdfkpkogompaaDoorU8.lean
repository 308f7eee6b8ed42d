/-
  Bytes as values.
-/
import Derived.Test.YtigdfkpkogompaaDoorWords
namespace Go.Proofs.YtigdfkpkogompaaDoor
open Go.RowKit

def u8s (l : List Nat) : List Value := l.map fun n : Nat => Value.int .u8 (n : Int)
theorem u8s_len (l : List Nat) : (u8s l).length = l.length := by simp [u8s]
theorem u8s_one (l : List Nat) : ∀ v ∈ u8s l, v.oneCell' = true := by
  intro v hv
  simp only [u8s, List.mem_map] at hv
  obtain ⟨n, -, rfl⟩ := hv
  rfl
theorem cell_lt' {w : World} {p : Addr} {v : Value} (h : w.cell? p = some v) : p.block < w.heap.size := by
  rcases Nat.lt_or_ge p.block w.heap.size with hlt | hge
  · exact hlt
  · have : w.heap[p.block]? = none := Array.getElem?_eq_none hge
    simp [World.cell?, this] at h

end Go.Proofs.YtigdfkpkogompaaDoor
