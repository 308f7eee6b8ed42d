/-
  CodecLists at any input that reads.
-/
import Derived.Test.YtbnmbncjefnpiaaDoorCd7
import Derived.Test.YtbnmbncjefnpiaaDoorCdTabs
namespace Go.Proofs.YtbnmbncjefnpiaaDoor
open Go.ChangeShapes Go.WideShapes Go.ChangeAt Go.RowKit Go.ChangeMaps

set_option maxRecDepth 100000 in
theorem clists_any {H : Type} {enc : TypeId × Value → H} (W : World) (base : Nat) {v0 : Value} {d0 : DataW H} {p0 : List MemPlace}
    (h0 : DataW.Trod enc Tryd.prog W 0 (fun _ => true) true 22 v0 d0 p0) (o0 : Value.okWide Tryd.prog W .any base 22 v0) (hT : Pw W W.heap.size) :
    Calls Tryd.prog 3 #[v0] W fun e w' => e = .returned (.bool true) ∧ Below W.heap.size W w' := by
  obtain ⟨A, n, c, l, rfl, -, -, hI⟩ := open_toks h0 o0
  exact lists_walk A n c l W hI hT

end Go.Proofs.YtbnmbncjefnpiaaDoor
