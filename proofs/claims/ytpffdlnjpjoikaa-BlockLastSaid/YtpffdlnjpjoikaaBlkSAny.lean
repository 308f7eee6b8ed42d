/-
  The law BlockLast at whatever arguments come in.
-/
import Derived.Test.YtpffdlnjpjoikaaBlkS
namespace Go.Proofs.Ytpffdlnjpjoikaa
open Go.ChangeShapes Go.WideShapes Go.ChangeAt Go.RowKit

theorem last_law {H : Type} {enc : TypeId × Value → H} (W : World) (base : Nat) {v0 : Value} {d0 : DataW H} {p0 : List MemPlace}
    (h0 : DataW.Trod enc Try.prog W 0 (fun _ => true) true 22 v0 d0 p0) (o0 : Value.okWide Try.prog W .any base 22 v0) :
    Calls Try.prog 3 #[v0] W fun e w' => e = .returned (.bool true) ∧ Below W.heap.size W w' := by
  obtain ⟨A, n, c, D, rfl, -, hA⟩ := open_acts h0 o0
  exact last_walk A n c D W hA

end Go.Proofs.Ytpffdlnjpjoikaa
