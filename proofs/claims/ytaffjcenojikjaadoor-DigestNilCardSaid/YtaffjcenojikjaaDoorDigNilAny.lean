/-
  DigestNil at any slice that reads.
-/
import Derived.Test.YtaffjcenojikjaaDoorDigTabs
import Derived.ProofKit
import Derived.OpenShut
namespace Go.Proofs.YtaffjcenojikjaaDoor
open Go.ChangeShapes Go.WideShapes Go.ChangeAt Go.RowKit Go.ChangeMaps

theorem nil_any {H : Type} {enc : TypeId × Value → H} (W : World) (base : Nat) {v0 : Value} {d0 : DataW H} {p0 : List MemPlace}
    (_ : DataW.Trod enc Tryd.prog W 0 (fun _ => true) true 23 v0 d0 p0) (o0 : Value.okWide Tryd.prog W .any base 23 v0) (hT : Tabs W) :
    Calls Tryd.prog 4 #[v0] W fun e w' => e = .returned (.bool true) ∧ Below W.heap.size W w' :=
  nil_walk v0 W (okWide_slice Tryd.underlying23 o0) hT

end Go.Proofs.YtaffjcenojikjaaDoor
