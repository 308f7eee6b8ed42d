/-
  What is read of a stat that comes in: its four numbers.
-/
import Derived.Test.YtheffimpadccaaaRows
import Derived.ProofKit
import Derived.Lib.SmallJoins
namespace Go.Proofs.Ytheffimpadccaaa
open Go.ChangeShapes Go.WideShapes Go.ChangeAt Go.RowKit Go.Joins

theorem open_stat {H : Type} {enc : TypeId × Value → H} {W : World} {base : Nat} {v : Value} {d : DataW H} {p : List MemPlace}
    (h : DataW.Trod enc Try.prog W 0 (fun _ => true) true 23 v d p) (o : Value.okWide Try.prog W .any base 23 v) :
    ∃ k m ow g : Int, v = .agg #[.int .i64 k, .int .i64 m, .int .i64 ow, .int .i64 g] ∧ (Lit.int .i64 k).wf = true ∧ (Lit.int .i64 m).wf = true ∧ (Lit.int .i64 ow).wf = true ∧ (Lit.int .i64 g).wf = true := by
  obtain ⟨c0, c1, c2, c3, y0, y1, y2, y3, n, rfl, -, -, h0, h1, h2, h3⟩ := open_agg4 Try.underlying23 (by kernel_rfl) (by kernel_rfl) o h
  obtain ⟨k, e0, -, w0⟩ := DataW.trod_int Try.underlying3 h0
  obtain ⟨m, e1, -, w1⟩ := DataW.trod_int Try.underlying3 h1
  obtain ⟨ow, e2, -, w2⟩ := DataW.trod_int Try.underlying3 h2
  obtain ⟨g, e3, -, w3⟩ := DataW.trod_int Try.underlying3 h3
  simp only [List.cons.injEq, and_true] at e0 e1 e2 e3
  subst e0 e1 e2 e3
  exact ⟨k, m, ow, g, rfl, w0, w1, w2, w3⟩

end Go.Proofs.Ytheffimpadccaaa
