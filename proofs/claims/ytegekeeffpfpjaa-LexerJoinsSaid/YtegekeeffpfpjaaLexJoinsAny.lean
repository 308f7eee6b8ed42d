/-
  LexerJoins at any strings that read.
-/
import Derived.Test.YtegekeeffpfpjaaLexJoinsLaw
import Derived.ProofKit
import Derived.OpenShut
namespace Go.Proofs.Ytegekeeffpfpjaa
open Go.ChangeShapes Go.WideShapes Go.ChangeAt Go.RowKit Go.ChangeMaps

theorem joins_any {H : Type} {enc : TypeId × Value → H} (W : World) (base : Nat) {v0 v1 : Value} {d0 d1 : DataW H} {p0 p1 : List MemPlace}
    (h0 : DataW.Trod enc Try.prog W 0 (fun _ => true) true 9 v0 d0 p0) (h1 : DataW.Trod enc Try.prog W 0 (fun _ => true) true 9 v1 d1 p1)
    (o0 : Value.okWide Try.prog W .any base 9 v0) (o1 : Value.okWide Try.prog W .any base 9 v1) :
    Calls Try.prog 4 #[v0, v1] W fun e w' => e = .returned (.bool true) ∧ Below W.heap.size W w' := by
  obtain ⟨s, rfl, -, -, hs⟩ := open_string Try.underlying9 o0 h0
  obtain ⟨t, rfl, -, -, ht⟩ := open_string Try.underlying9 o1 h1
  exact joins_walk s t W hs ht

end Go.Proofs.Ytegekeeffpfpjaa
