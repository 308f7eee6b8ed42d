/-
  CodecPlaces at any input that reads.
-/
import Derived.Test.YtbnmbncjefnpiaaDoorCd8
import Derived.Test.YtbnmbncjefnpiaaDoorCdTabs
namespace Go.Proofs.YtbnmbncjefnpiaaDoor
open Go.ChangeShapes Go.WideShapes Go.ChangeAt Go.RowKit Go.ChangeMaps Go.Deep Go.Joins

/-- A slice of numbers that comes in. -/
theorem open_nums {H : Type} {enc : TypeId × Value → H} {W : World} {fuel : Nat} {v : Value} {x : DataW H × List MemPlace} (h : DataW.trod enc Tryd.prog W 0 (fun _ => true) true fuel 38 [v] = some x) :
    ∃ (A : Option Addr) (n c : Nat) (d : List Int), v = .slice A n c ∧ d.length = n ∧ n ≤ c ∧ Reads W W.heap.size 1 A n (intsV d) := by
  rcases open_ints Tryd.underlying38 Tryd.underlying3 (by kernel_rfl) h with ⟨hcs, -⟩ | ⟨a, len, cap, zs, hcs, -, hl, hm, hz, -, hcell, hwz⟩
  · injection hcs with hcs
    subst hcs
    exact ⟨none, 0, 0, [], rfl, rfl, Nat.le_refl _, Reads.none_⟩
  · injection hcs with hcs
    subst hcs
    simp only [if_true] at hz
    have hlen : (zs.take len).length = len := by rw [List.length_take]; omega
    refine ⟨some a, len, cap, zs.take len, rfl, hlen, hl, ⟨by rw [intsV_len, hlen, Nat.mul_one], fun hn => ⟨a, rfl, ?_, fun j u hu => ?_⟩⟩⟩
    · have h0 := cell_lt' (hcell 0 (by omega))
      rw [block_of_add] at h0
      exact h0
    · have hj : j < (intsV (zs.take len)).length := (List.getElem?_eq_some_iff.1 hu).1
      rw [intsV_len, hlen] at hj
      have hjz : j < zs.length := by omega
      rw [hcell j hjz, ← hu]
      simp [intsV, hj, hjz]

set_option maxRecDepth 100000 in
theorem cplaces_any {H : Type} {enc : TypeId × Value → H} (W : World) (base : Nat) {v0 v1 v2 : Value} {d0 d1 d2 : DataW H} {p0 p1 p2 : List MemPlace}
    (h0 : DataW.Trod enc Tryd.prog W 0 (fun _ => true) true 22 v0 d0 p0) (h1 : DataW.Trod enc Tryd.prog W 0 (fun _ => true) true 22 v1 d1 p1) (h2 : DataW.Trod enc Tryd.prog W 0 (fun _ => true) true 38 v2 d2 p2)
    (o0 : Value.okWide Tryd.prog W .any base 22 v0) (o1 : Value.okWide Tryd.prog W .any base 22 v1) (o2 : Value.okWide Tryd.prog W .any base 38 v2) (hT : Pw W W.heap.size) :
    Calls Tryd.prog 4 #[v0, v1, v2] W fun e w' => e = .returned (.bool true) ∧ Below W.heap.size W w' := by
  obtain ⟨A, n, c, l, rfl, -, -, hI⟩ := open_toks h0 o0
  obtain ⟨A', n', c', l', rfl, -, -, hI'⟩ := open_toks h1 o1
  obtain ⟨A3, n3, c3, rfl⟩ := okWide_slice Tryd.underlying38 o2
  obtain ⟨fuel, h2⟩ := h2
  obtain ⟨A4, n4, c4, zs, e, hz, hzc, hR⟩ := open_nums h2
  injection e with e1 e2 e3
  subst e1 e2 e3
  exact places_walk A A' A3 n c n' c' n3 c3 l l' zs W hI hI' hz hzc hR hT

end Go.Proofs.YtbnmbncjefnpiaaDoor
