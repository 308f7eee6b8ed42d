/-
  ModeTexts at any input that reads.
-/
import Derived.Test.YtheffimpadccaaaDoorModeTabs
import Derived.ProofKit
import Derived.OpenShut
namespace Go.Proofs.YtheffimpadccaaaDoor
open Go.ChangeShapes Go.WideShapes Go.ChangeAt Go.RowKit Go.ChangeMaps

theorem modetexts_any {H : Type} {enc : TypeId × Value → H} (W : World) (base : Nat) {v0 v1 v2 : Value} {d0 d1 d2 : DataW H} {p0 p1 p2 : List MemPlace}
    (h0 : DataW.Trod enc Tryd.prog W 0 (fun _ => true) true 3 v0 d0 p0) (h1 : DataW.Trod enc Tryd.prog W 0 (fun _ => true) true 9 v1 d1 p1) (h2 : DataW.Trod enc Tryd.prog W 0 (fun _ => true) true 3 v2 d2 p2)
    (o0 : Value.okWide Tryd.prog W .any base 3 v0) (o1 : Value.okWide Tryd.prog W .any base 9 v1) (o2 : Value.okWide Tryd.prog W .any base 3 v2) (hT : Spc W) :
    Calls Tryd.prog 3 #[v0, v1, v2] W fun e w' => e = .returned (.bool true) ∧ Below W.heap.size W w' := by
  obtain ⟨n, rfl, -⟩ := open_int Tryd.underlying3 o0 h0
  obtain ⟨s, rfl, -, -, ws⟩ := open_string Tryd.underlying9 o1 h1
  obtain ⟨k, rfl, -⟩ := open_int Tryd.underlying3 o2 h2
  unfold maxLen at ws
  exact modetexts_walk n k s W (by omega) hT

end Go.Proofs.YtheffimpadccaaaDoor
