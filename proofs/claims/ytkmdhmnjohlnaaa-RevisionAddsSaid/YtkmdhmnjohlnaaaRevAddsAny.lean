/-
  The law RevisionAdds at whatever arguments come in.
-/
import Derived.Test.YtkmdhmnjohlnaaaRevAL
namespace Go.Proofs.Ytkmdhmnjohlnaaa
open Go.ChangeShapes Go.WideShapes Go.ChangeAt Go.RowKit Go.ChangeMaps

theorem open_rv {H : Type} {enc : TypeId × Value → H} {W : World} {base : Nat} {v : Value} {d : DataW H} {p : List MemPlace}
    (h : DataW.Trod enc Try.prog W 0 (fun _ => true) true 27 v d p) (o : Value.okWide Try.prog W .any base 27 v) : ∃ r : Rv, v = .agg (rvC r).toArray := by
  obtain ⟨cs, rfl, -⟩ := okWide_struct Try.underlying27 o
  obtain ⟨fuel, hf⟩ := h
  obtain ⟨r, hr⟩ := rv_cells hf
  have hr' : cs.toList = rvC r := hr
  exact ⟨r, by rw [← hr']⟩

theorem adds_law {H : Type} {enc : TypeId × Value → H} (W : World) (base : Nat) {v0 v2 : Value} {d0 d2 : DataW H} {p0 p2 : List MemPlace}
    (h0 : DataW.Trod enc Try.prog W 0 (fun _ => true) true 24 v0 d0 p0) (h2 : DataW.Trod enc Try.prog W 0 (fun _ => true) true 27 v2 d2 p2)
    (o0 : Value.okWide Try.prog W .any base 24 v0) (o2 : Value.okWide Try.prog W .any base 27 v2) :
    Calls Try.prog 3 #[v0, v2] W fun e w' => e = .returned (.bool true) ∧ Below W.heap.size W w' := by
  obtain ⟨s1, s2, a, A, n, c, l, rfl, hs1, hs2, hnc, hcm, hR⟩ := open_pkg h0 o0
  obtain ⟨r, rfl⟩ := open_rv h2 o2
  exact adds_walk s1 s2 a A n c l r W hs1 hs2 (by omega) hR

end Go.Proofs.Ytkmdhmnjohlnaaa
