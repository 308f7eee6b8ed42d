/-
  Rows of the call's own: their form, their place, their cells.
-/
import Derived.Test.YtigdfkpkogompaaDoorWordsQ
namespace Go.Proofs.YtigdfkpkogompaaDoor
open Go.RowKit

section
variable {w : World} {base n size : Nat} {e : TypeId} {v : Value} {xs : List Value}
theorem ownForm (h : w.ownsRow base e size v n xs) : ∃ A c, v = .slice A n c := by
  rcases h.2 with ⟨rfl, rfl⟩ | ⟨g', cap, cur, rfl, _⟩
  · exact ⟨none, 0, rfl⟩
  · exact ⟨_, cap, rfl⟩
theorem ownGe (h : w.ownsRow base e size v n xs) {g : Nat} (hg : v.ownBlock = some g) : base ≤ g := by
  rcases h.2 with ⟨rfl, _⟩ | ⟨g', cap, cur, rfl, hb, _⟩
  · simp [Value.ownBlock] at hg
  · have : g' = g := by simpa [Value.ownBlock] using hg
    omega
theorem ownNe (h : w.ownsRow base e size v n xs) {g : Nat} (hg : g < base) : v.ownBlock = none ∨ v.ownBlock ≠ some g := by
  rcases h.2 with ⟨rfl, _⟩ | ⟨g', cap, cur, rfl, hb, _⟩
  · exact .inl rfl
  · refine .inr fun e => ?_
    have : g' = g := by simpa [Value.ownBlock] using e
    omega
theorem ownCells (h : w.ownsRow base e size v n xs) (hn : 0 < n) : ∃ g c, v = .slice (some ⟨g, 0, none⟩) n c ∧ base ≤ g ∧ g < w.heap.size ∧ ∀ j u, xs[j]? = some u → w.cell? ⟨g, j, none⟩ = some u := by
  obtain ⟨g, c, hv, hb, hg⟩ := h.form hn
  subst hv
  refine ⟨g, c, rfl, hb, hg, fun j u hj => ?_⟩
  have := h.cells (g := g) rfl j u hj
  have hadd : (⟨g, 0, none⟩ : Addr).add j = ⟨g, j, none⟩ := by unfold Addr.add; split <;> simp_all
  rw [hadd] at this
  exact this
theorem ownCap (h : w.ownsRow base e size v n xs) : ∃ A c, v = .slice A n c ∧ n ≤ c ∧ c ≤ maxLen := by
  rcases h.2 with ⟨rfl, rfl⟩ | ⟨g', cap, cur, rfl, _, _, h1, h2, _⟩
  · exact ⟨none, 0, rfl, Nat.le_refl _, Nat.zero_le _⟩
  · exact ⟨_, cap, rfl, h1, h2⟩
end
theorem reads_newL (w0 : World) (l : List Value) (t : TypeId) {B : Nat} (hB : w0.heap.size < B) : Reads (w0.alloc (.cells l.toArray t)) B 1 (some ⟨w0.heap.size, 0, none⟩) l.length l :=
  ⟨by simp, fun _ => ⟨_, rfl, hB, fun j u hj => by
    have hadd : (⟨w0.heap.size, 0, none⟩ : Addr).add j = ⟨w0.heap.size, j, none⟩ := by unfold Addr.add; split <;> simp_all
    rw [hadd, (Blk.new w0 t l.toArray).cell j]
    simpa using hj⟩⟩

end Go.Proofs.YtigdfkpkogompaaDoor
