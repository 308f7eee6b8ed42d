/-
  Byte slices that read: small words.
-/
import Derived.Test.YticcphppnmoogaaDoorDigWrite
namespace Go.Proofs.YticcphppnmoogaaDoor
open Go.RowKit

theorem add_zero' (g j : Nat) : (⟨g, 0, none⟩ : Addr).add j = ⟨g, j, none⟩ := by unfold Addr.add; split <;> simp_all
theorem rd_cells {w : World} {S : Nat → Prop} {g : Nat} {l : List Nat} (hS : S g) (h : ∀ j, j < l.length → w.cell? ⟨g, j, none⟩ = some (.int .u8 ((l.getD j 0 : Nat) : Int))) : RdS w S (some ⟨g, 0, none⟩) l := fun j hj =>
  ⟨_, rfl, hS, by rw [add_zero']; exact h j hj⟩
theorem rds_mono {w : World} {S S' : Nat → Prop} {A : Option Addr} {l : List Nat} (h : RdS w S A l) (hS : ∀ b, S b → S' b) : RdS w S' A l := fun j hj => by
  obtain ⟨ad, e, hb, hc⟩ := h j hj
  exact ⟨ad, e, hS _ hb, hc⟩

end Go.Proofs.YticcphppnmoogaaDoor
