/-
  The law DigestTexts at whatever comes in.
-/
import Derived.Test.YtaffjcenojikjaaDoorDigIn
import Derived.Test.YtaffjcenojikjaaDoorDigTextsLaw
namespace Go.Proofs.YtaffjcenojikjaaDoor
open Go.ChangeShapes Go.WideShapes Go.ChangeAt Go.RowKit Go.ChangeMaps Go.Deep

theorem textsl_any {H : Type} {enc : TypeId × Value → H} (W : World) (base : Nat) {v0 : Value} {d0 : DataW H} {p0 : List MemPlace}
    (h0 : DataW.Trod enc Tryd.prog W 0 (fun _ => true) true 22 v0 d0 p0) (o0 : Value.okWide Tryd.prog W .any base 22 v0) (hT : Tabs W) :
    Calls Tryd.prog 6 #[v0] W fun e w' => e = .returned (.bool true) ∧ Below W.heap.size W w' := by
  obtain ⟨A, n, c, AA, L, C, Z, rfl, hn, hI⟩ := open_rows h0 o0
  exact textsl_walk A n c AA L C Z W hn hI hT

end Go.Proofs.YtaffjcenojikjaaDoor
