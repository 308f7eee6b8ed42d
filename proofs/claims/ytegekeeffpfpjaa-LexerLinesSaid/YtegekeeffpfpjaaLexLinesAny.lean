/-
  LexerLines at any string that reads.
-/
import Derived.Test.YtegekeeffpfpjaaLexLinesLaw
import Derived.ProofKit
import Derived.OpenShut
namespace Go.Proofs.Ytegekeeffpfpjaa
open Go.ChangeShapes Go.WideShapes Go.ChangeAt Go.RowKit Go.ChangeMaps

theorem lines_any {H : Type} {enc : TypeId × Value → H} (W : World) (base : Nat) {v0 : Value} {d0 : DataW H} {p0 : List MemPlace}
    (h0 : DataW.Trod enc Try.prog W 0 (fun _ => true) true 9 v0 d0 p0) (o0 : Value.okWide Try.prog W .any base 9 v0) :
    Calls Try.prog 3 #[v0] W fun e w' => e = .returned (.bool true) ∧ Below W.heap.size W w' := by
  obtain ⟨s, rfl, -, -, hs⟩ := open_string Try.underlying9 o0 h0
  exact lines_walk s W hs

end Go.Proofs.Ytegekeeffpfpjaa
