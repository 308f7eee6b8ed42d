/-
  What is read of arguments that come in: a slice of ints as a list.
-/
import Derived.Test.YtkmdhmnjohlnaaaWordsB
import Derived.ProofKit
namespace Go.Proofs.Ytkmdhmnjohlnaaa
open Go.ChangeShapes Go.WideShapes Go.ChangeAt Go.RowKit

theorem cell_lt {w : World} {p : Addr} {v : Value} (h : w.cell? p = some v) : p.block < w.heap.size := by
  rcases Nat.lt_or_ge p.block w.heap.size with hlt | hge
  · exact hlt
  · have : w.heap[p.block]? = none := Array.getElem?_eq_none hge
    simp [World.cell?, this] at h

theorem open_intslice {H : Type} {enc : TypeId × Value → H} {P : Program} {W : World} {base : Nat} {T E : TypeId} {k : IntKind} {v : Value} {d : DataW H} {p : List MemPlace}
    (hT : P.underlying T = some (.slice E)) (hE : P.underlying E = some (.int k)) (hC : P.cellsOf E = 1)
    (h : DataW.Trod enc P W 0 (fun _ => true) true T v d p) (o : Value.okWide P W .any base T v) :
    ∃ (A : Option Addr) (n c : Nat) (l : List Int), v = .slice A n c ∧ n ≤ c ∧ c ≤ 9223372036854775807 ∧ Reads W W.heap.size 1 A n (l.map (Value.int k)) ∧ ∀ x ∈ l, (Lit.int k x).wf = true := by
  obtain ⟨A, n, c, rfl⟩ := okWide_slice hT o
  obtain ⟨fuel, hf⟩ := h
  rcases open_ints hT hE hC hf with ⟨hcs, -⟩ | ⟨x, l, cc, zs, hcs, -, hl, hm, hz, -, hcell, hwz⟩
  · simp [Value.cells] at hcs
    obtain ⟨rfl, rfl, rfl⟩ := hcs
    exact ⟨none, 0, 0, [], rfl, Nat.le_refl _, by omega, Reads.none_, fun x hx => by cases hx⟩
  · simp [Value.cells] at hcs
    obtain ⟨rfl, rfl, rfl⟩ := hcs
    simp only [if_true] at hz
    unfold maxLen at hm
    refine ⟨some x, n, c, zs.take n, rfl, hl, hm, ⟨by simp [hz]; omega, fun hn => ⟨x, rfl, ?_, fun j u hu => ?_⟩⟩, fun y hy => hwz y (List.mem_of_mem_take hy)⟩
    · have h0 := cell_lt (hcell 0 (by omega))
      rw [block_of_add] at h0
      exact h0
    · rw [List.getElem?_map, List.getElem?_take] at hu
      split at hu
      · rename_i hj
        have hj2 : j < zs.length := by omega
        rw [hcell j hj2]
        rw [List.getElem?_eq_getElem hj2] at hu
        simp at hu
        subst hu
        simp [List.getD, List.getElem?_eq_getElem hj2]
      · simp at hu

end Go.Proofs.Ytkmdhmnjohlnaaa
