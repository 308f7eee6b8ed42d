/-
  The law LexerTexts at whatever comes in.
-/
import Derived.Test.YtegekeeffpfpjaaLexTextsL
import Derived.ProofKit
import Derived.OpenShut
namespace Go.Proofs.Ytegekeeffpfpjaa
open Go.ChangeShapes Go.WideShapes Go.ChangeAt Go.RowKit Go.ChangeMaps

theorem textslaw_any {H : Type} {enc : TypeId × Value → H} (W : World) (base : Nat) {v0 v1 : Value} {d0 d1 : DataW H} {p0 p1 : List MemPlace}
    (h0 : DataW.Trod enc Try.prog W 0 (fun _ => true) true 9 v0 d0 p0) (h1 : DataW.Trod enc Try.prog W 0 (fun _ => true) true 3 v1 d1 p1)
    (o0 : Value.okWide Try.prog W .any base 9 v0) (o1 : Value.okWide Try.prog W .any base 3 v1) :
    Calls Try.prog 5 #[v0, v1] W fun e w' => e = .returned (.bool true) ∧ Below W.heap.size W w' := by
  obtain ⟨s, rfl, -, -, hs⟩ := open_string Try.underlying9 o0 h0
  obtain ⟨gap, rfl, -⟩ := open_int Try.underlying3 o1 h1
  exact texts_walk s gap W hs

end Go.Proofs.Ytegekeeffpfpjaa
