/-
  ArchiveFronts at any input that reads.
-/
import Derived.Test.YticcphppnmoogaaDoorArcL
import Derived.Test.YticcphppnmoogaaDoorArcTabs
namespace Go.Proofs.YticcphppnmoogaaDoor
open Go.ChangeShapes Go.WideShapes Go.ChangeAt Go.RowKit Go.ChangeMaps

set_option maxRecDepth 100000 in
theorem fronts_any {H : Type} {enc : TypeId × Value → H} (W : World) (base : Nat) {v0 v1 : Value} {d0 d1 : DataW H} {p0 p1 : List MemPlace}
    (h0 : DataW.Trod enc Tryd.prog W 0 (fun _ => true) true 22 v0 d0 p0) (h1 : DataW.Trod enc Tryd.prog W 0 (fun _ => true) true 3 v1 d1 p1)
    (o0 : Value.okWide Tryd.prog W .any base 22 v0) (o1 : Value.okWide Tryd.prog W .any base 3 v1) (hsh : W.ShapedOpen Tryd.prog) :
    Calls Tryd.prog 3 #[v0, v1] W fun e w' => e = .returned (.bool true) ∧ Below W.heap.size W w' := by
  obtain ⟨A, n, c, l, rfl, hn, hc, hI⟩ := open_ents h0 o0
  obtain ⟨k, rfl, -⟩ := open_int Tryd.underlying3 o1 h1
  exact fronts_walk A n c l k W (by omega) hI (mx_of hsh)

end Go.Proofs.YticcphppnmoogaaDoor
