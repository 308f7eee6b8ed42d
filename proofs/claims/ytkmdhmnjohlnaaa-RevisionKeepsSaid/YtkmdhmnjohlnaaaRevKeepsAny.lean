/-
  The law RevisionKeeps at whatever argument comes in.
-/
import Derived.Test.YtkmdhmnjohlnaaaRevKeepsLaw
namespace Go.Proofs.Ytkmdhmnjohlnaaa
open Go.ChangeShapes Go.WideShapes Go.ChangeAt Go.RowKit

theorem keeps_any {H : Type} {enc : TypeId × Value → H} (W : World) (base : Nat) {v0 : Value} {d0 : DataW H} {p0 : List MemPlace}
    (h0 : DataW.Trod enc Try.prog W 0 (fun _ => true) true 50 v0 d0 p0) (o0 : Value.okWide Try.prog W .any base 50 v0) :
    Calls Try.prog 4 #[v0] W fun e w' => e = .returned (.bool true) ∧ Below W.heap.size W w' := by
  obtain ⟨A, n, c, l, rfl, hbc, hcm, hR, -⟩ := open_intslice Try.underlying50 Try.underlying3 (by kernel_rfl) h0 o0
  exact keeps_walk l A n c W (by omega) hR

end Go.Proofs.Ytkmdhmnjohlnaaa
