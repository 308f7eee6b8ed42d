/-
  The law ModeGrows at whatever arguments come in.
-/
import Derived.Test.YtheffimpadccaaaModeOpen
import Derived.Test.YtheffimpadccaaaModeGrowsLaw
import Derived.Test.YtheffimpadccaaaModeGrowsPlain
namespace Go.Proofs.Ytheffimpadccaaa
open Go.ChangeShapes Go.WideShapes Go.ChangeAt Go.RowKit

theorem grows_any {H : Type} {enc : TypeId × Value → H} (W : World) (base : Nat) {v0 v1 v2 v3 v4 v5 : Value} {d0 d1 d2 d3 d4 d5 : DataW H} {p0 p1 p2 p3 p4 p5 : List MemPlace}
    (h0 : DataW.Trod enc Try.prog W 0 (fun _ => true) true 23 v0 d0 p0)
    (h1 : DataW.Trod enc Try.prog W 0 (fun _ => true) true 3 v1 d1 p1) (h2 : DataW.Trod enc Try.prog W 0 (fun _ => true) true 3 v2 d2 p2)
    (h3 : DataW.Trod enc Try.prog W 0 (fun _ => true) true 3 v3 d3 p3) (h4 : DataW.Trod enc Try.prog W 0 (fun _ => true) true 3 v4 d4 p4)
    (h5 : DataW.Trod enc Try.prog W 0 (fun _ => true) true 3 v5 d5 p5)
    (o0 : Value.okWide Try.prog W .any base 23 v0) (o1 : Value.okWide Try.prog W .any base 3 v1) (o2 : Value.okWide Try.prog W .any base 3 v2)
    (o3 : Value.okWide Try.prog W .any base 3 v3) (o4 : Value.okWide Try.prog W .any base 3 v4) (o5 : Value.okWide Try.prog W .any base 3 v5) :
    Calls Try.prog 3 #[v0, v1, v2, v3, v4, v5] W fun e w' => e = .returned (.bool true) ∧ Below W.heap.size W w' := by
  obtain ⟨k, m, ow, g, rfl, -⟩ := open_stat h0 o0
  obtain ⟨who, rfl, -⟩ := open_int Try.underlying3 o1 h1
  obtain ⟨grp, rfl, -⟩ := open_int Try.underlying3 o2 h2
  obtain ⟨more, rfl, -⟩ := open_int Try.underlying3 o3 h3
  obtain ⟨a, rfl, -⟩ := open_int Try.underlying3 o4 h4
  obtain ⟨b, rfl, -⟩ := open_int Try.underlying3 o5 h5
  exact grows_walk k m ow g who grp more a b W (fun x y t hx0 hx1 hy0 hy1 ht0 ht1 hc hw0 hw1 hg0 hg1 => grows_plain k m ow g who grp x y t hx0 hx1 hy0 hy1 ht0 ht1 hc hw0 hw1 hg0 hg1)

end Go.Proofs.Ytheffimpadccaaa
