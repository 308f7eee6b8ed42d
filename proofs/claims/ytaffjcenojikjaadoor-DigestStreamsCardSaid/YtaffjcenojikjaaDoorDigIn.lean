/-
  A slice of byte slices that comes in.
-/
import Derived.Test.YtaffjcenojikjaaDoorDigTabs
import Derived.Test.YtaffjcenojikjaaDoorDigPieces
import Derived.Deep.Matrix
import Derived.ProofKit
import Derived.OpenShut
namespace Go.Proofs.YtaffjcenojikjaaDoor
open Go.ChangeShapes Go.WideShapes Go.ChangeAt Go.RowKit Go.ChangeMaps Go.Deep

theorem wf8 {n : Int} (h : (Lit.int .u8 n).wf = true) : 0 ≤ n ∧ n < 256 := by
  have h1 : decide (IntKind.u8.min ≤ n) && decide (n ≤ IntKind.u8.max) := h
  simp only [Bool.and_eq_true, decide_eq_true_eq] at h1
  have e1 : IntKind.u8.min = 0 := by decide
  have e2 : IntKind.u8.max = 255 := by decide
  omega

theorem open_rows {H : Type} {enc : TypeId × Value → H} {W : World} {base : Nat} {v : Value} {d : DataW H} {p : List MemPlace}
    (h : DataW.Trod enc Tryd.prog W 0 (fun _ => true) true 22 v d p) (o : Value.okWide Tryd.prog W .any base 22 v) :
    ∃ (A : Option Addr) (n c : Nat) (AA : Nat → Option Addr) (L C : Nat → Nat) (Z : Nat → List Nat), v = .slice A n c ∧ n ≤ 9223372036854775807 ∧ RowsIn W A n AA L C Z := by
  obtain ⟨A, n, c, rfl⟩ := okWide_slice Tryd.underlying22 o
  obtain ⟨fuel, hf⟩ := h
  rcases open_int_rows Tryd.underlying22 Tryd.underlying23 Tryd.underlying5 (by kernel_rfl) (by kernel_rfl) hf with ⟨hcs, -⟩ | ⟨a, len, cap, AA, L, C, Z, hcs, -, hl, hm, -, hr⟩
  · simp [Value.cells] at hcs
    obtain ⟨rfl, rfl, rfl⟩ := hcs
    exact ⟨none, 0, 0, fun _ => none, fun _ => 0, fun _ => 0, fun _ => [], rfl, by omega, ⟨fun r h => by omega, fun r h => by omega, fun r h => by omega, fun r h => by omega, fun r h => by omega⟩⟩
  · simp [Value.cells] at hcs
    obtain ⟨rfl, rfl, rfl⟩ := hcs
    unfold maxLen at hm
    refine ⟨some a, n, c, AA, L, C, fun r => ((Z r).take (L r)).map Int.toNat, rfl, by omega, ⟨fun r h => ?_, fun r h => ?_, fun r h => ?_, fun r h => ?_, fun r h => ?_⟩⟩
    · obtain ⟨h1, -⟩ := hr r (by omega)
      have h0 := block_lt_of_cell h1
      rw [block_of_add] at h0
      exact ⟨a, rfl, h0, h1⟩
    · obtain ⟨-, h2, h3, -⟩ := hr r (by omega)
      unfold maxLen at h3
      exact ⟨h2, h3⟩
    · obtain ⟨-, h2, -, h4, -⟩ := hr r (by omega)
      simp [h4]; omega
    · obtain ⟨-, h2, -, h4, h5, h6, h7⟩ := hr r (by omega)
      intro j hj
      simp only [List.length_map, List.length_take, h4] at hj
      have hjC : j < C r := by omega
      cases hA : AA r with
      | none => have := h6 hA; omega
      | some a' =>
        obtain ⟨-, hc⟩ := h7 a' hA
        have h1 := hc j hjC
        have h0 := block_lt_of_cell h1
        rw [block_of_add] at h0
        have hjZ : j < (Z r).length := by omega
        have hw := wf8 (h5 _ (List.getElem_mem hjZ))
        refine ⟨a', rfl, h0, h1.trans ?_⟩
        have e : (((Z r).take (L r)).map Int.toNat).getD j 0 = ((Z r)[j]).toNat := by simp [List.getD, show j < L r by omega, hjZ]
        have e2 : (Z r).getD j 0 = (Z r)[j] := by simp [hjZ]
        rw [e, e2]
        congr 2
        omega
    · obtain ⟨-, h2, -, h4, h5, -⟩ := hr r (by omega)
      intro x hx
      simp only [List.mem_map] at hx
      obtain ⟨y, hy, rfl⟩ := hx
      have := wf8 (h5 y (List.mem_of_mem_take hy))
      omega

theorem pieces_any {H : Type} {enc : TypeId × Value → H} (W : World) (base : Nat) {v0 : Value} {d0 : DataW H} {p0 : List MemPlace}
    (h0 : DataW.Trod enc Tryd.prog W 0 (fun _ => true) true 22 v0 d0 p0) (o0 : Value.okWide Tryd.prog W .any base 22 v0) (hT : Tabs W) :
    Calls Tryd.prog 5 #[v0] W fun e w' => e = .returned (.bool true) ∧ Below W.heap.size W w' := by
  obtain ⟨A, n, c, AA, L, C, Z, rfl, hn, hI⟩ := open_rows h0 o0
  exact pieces_walk A n c AA L C Z W hn hI hT

end Go.Proofs.YtaffjcenojikjaaDoor
