/-
  The law BlockNil at whatever arguments come in.
-/
import Derived.Test.YtpffdlnjpjoikaaBlkN
import Derived.Test.YtpffdlnjpjoikaaRows
import Derived.ProofKit
namespace Go.Proofs.Ytpffdlnjpjoikaa
open Go.ChangeShapes Go.WideShapes Go.ChangeAt Go.RowKit

theorem nil_law {H : Type} {enc : TypeId × Value → H} (W : World) (base : Nat) {v0 v1 : Value} {d0 d1 : DataW H} {p0 p1 : List MemPlace}
    (_h0 : DataW.Trod enc Try.prog W 0 (fun _ => true) true 3 v0 d0 p0) (_h1 : DataW.Trod enc Try.prog W 0 (fun _ => true) true 30 v1 d1 p1)
    (o0 : Value.okWide Try.prog W .any base 3 v0) (o1 : Value.okWide Try.prog W .any base 30 v1) :
    Calls Try.prog 6 #[v0, v1] W fun e w' => e = .returned (.bool true) ∧ Below W.heap.size W w' := by
  obtain ⟨n, rfl⟩ := okWide_int Try.underlying3 o0
  obtain ⟨A, k, c, rfl⟩ := okWide_slice Try.underlying30 o1
  exact nil_walk n A k c W

end Go.Proofs.Ytpffdlnjpjoikaa
