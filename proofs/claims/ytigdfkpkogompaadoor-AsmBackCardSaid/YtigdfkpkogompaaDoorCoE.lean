/-
  The contract of the reference's Behind.
-/
import Derived.Test.YtigdfkpkogompaaDoorCoD
namespace Go.Proofs.YtigdfkpkogompaaDoor
open Go.RowKit
attribute [local go_sem ↓] Go.wp_at_zero Go.wp_at_succ

theorem bs_at {l : List UInt8} {i : Nat} (h : i < (bsS l).size) : (bsS l)[i] = l.getD i 0 := by
  have h2 : i < l.length := by rw [bs_size] at h; exact h
  show l.toArray[i] = _
  simp [h2]
theorem u8_beq (a b : UInt8) : ((a.toNat : Int) == (b.toNat : Int)) = (a == b) := by
  rw [Bool.eq_iff_iff, beq_iff_eq, beq_iff_eq]
  exact ⟨fun h => UInt8.toNat_inj.1 (by omega), fun h => by rw [h]⟩
theorem all_nt {s : List UInt8} (h : ∀ j, j < s.length → ntB (s.getD j 0) = true) : s.all ntB = true := by
  rw [List.all_eq_true]
  intro x hx
  obtain ⟨j, hj, rfl⟩ := List.mem_iff_getElem.1 hx
  have := h j hj
  rwa [List.getD_eq_getElem?_getD, List.getElem?_eq_getElem hj] at this

end Go.Proofs.YtigdfkpkogompaaDoor
