/-
  The law DigestStreams at whatever comes in.
-/
import Derived.Test.YtaffjcenojikjaaDoorDigIn
import Derived.Test.YtaffjcenojikjaaDoorDigStreamsL
namespace Go.Proofs.YtaffjcenojikjaaDoor
open Go.ChangeShapes Go.WideShapes Go.ChangeAt Go.RowKit Go.ChangeMaps Go.Deep

theorem streams_any {H : Type} {enc : TypeId × Value → H} (W : World) (base : Nat) {v0 v1 : Value} {d0 d1 : DataW H} {p0 p1 : List MemPlace}
    (h0 : DataW.Trod enc Tryd.prog W 0 (fun _ => true) true 22 v0 d0 p0) (h1 : DataW.Trod enc Tryd.prog W 0 (fun _ => true) true 3 v1 d1 p1)
    (o0 : Value.okWide Tryd.prog W .any base 22 v0) (o1 : Value.okWide Tryd.prog W .any base 3 v1) (hT : Tabs W) :
    Calls Tryd.prog 3 #[v0, v1] W fun e w' => e = .returned (.bool true) ∧ Below W.heap.size W w' := by
  obtain ⟨A, n, c, AA, L, C, Z, rfl, hn, hI⟩ := open_rows h0 o0
  obtain ⟨at0, rfl, -⟩ := open_int Tryd.underlying3 o1 h1
  exact streams_walk A n c AA L C Z _ W hn hI hT

end Go.Proofs.YtaffjcenojikjaaDoor
