/-
  The law RevisionDrops at whatever arguments come in.
-/
import Derived.Test.YtkmdhmnjohlnaaaRevDL
namespace Go.Proofs.Ytkmdhmnjohlnaaa
open Go.ChangeShapes Go.WideShapes Go.ChangeAt Go.RowKit Go.ChangeMaps

theorem drops_law {H : Type} {enc : TypeId × Value → H} (W : World) (base : Nat) {v0 v2 : Value} {d0 d2 : DataW H} {p0 p2 : List MemPlace}
    (h0 : DataW.Trod enc Try.prog W 0 (fun _ => true) true 24 v0 d0 p0) (h2 : DataW.Trod enc Try.prog W 0 (fun _ => true) true 50 v2 d2 p2)
    (o0 : Value.okWide Try.prog W .any base 24 v0) (o2 : Value.okWide Try.prog W .any base 50 v2) :
    Calls Try.prog 5 #[v0, v2] W fun e w' => e = .returned (.bool true) ∧ Below W.heap.size W w' := by
  obtain ⟨s1, s2, a, A, n, c, l, rfl, hs1, hs2, hnc, hcm, hR⟩ := open_pkg h0 o0
  obtain ⟨B, m, d, ns, rfl, hmd, hdm, hN, -⟩ := open_intslice Try.underlying50 Try.underlying3 (by kernel_rfl) h2 o2
  obtain ⟨m1, hm1, hle⟩ : ∃ m1 : Nat, ((m ≤ 10 ∧ m1 = m) ∨ (10 < m ∧ m1 = 10)) ∧ m1 ≤ m := by
    by_cases h : m ≤ 10
    · exact ⟨m, .inl ⟨h, rfl⟩, Nat.le_refl _⟩
    · exact ⟨10, .inr ⟨by omega, rfl⟩, by omega⟩
  have hN2 := reads_take hN hle
  rw [← List.map_take] at hN2
  exact drops_walk s1 s2 a A n c l B m d m1 (ns.take m1) W hs1 hs2 (by omega) (by omega) hmd hm1 hR hN2

end Go.Proofs.Ytkmdhmnjohlnaaa
