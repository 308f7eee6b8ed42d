/-
  The law ModeCuts at whatever arguments come in.
-/
import Derived.Test.YtheffimpadccaaaWordsP
import Derived.Test.YtheffimpadccaaaModeCutsPlain
namespace Go.Proofs.Ytheffimpadccaaa
open Go.ChangeShapes Go.WideShapes Go.ChangeAt Go.RowKit

theorem cuts_any {H : Type} {enc : TypeId × Value → H} (W : World) (base : Nat) {v0 v1 : Value} {d0 d1 : DataW H} {p0 p1 : List MemPlace}
    (h0 : DataW.Trod enc Try.prog W 0 (fun _ => true) true 3 v0 d0 p0) (h1 : DataW.Trod enc Try.prog W 0 (fun _ => true) true 39 v1 d1 p1)
    (o0 : Value.okWide Try.prog W .any base 3 v0) (o1 : Value.okWide Try.prog W .any base 39 v1) :
    Calls Try.prog 6 #[v0, v1] W fun e w' => e = .returned (.bool true) ∧ Below W.heap.size W w' := by
  obtain ⟨n, rfl, -⟩ := open_int Try.underlying3 o0 h0
  obtain ⟨A, b0, c, l, rfl, hbc, hcm, hR, -⟩ := open_intslice Try.underlying39 Try.underlying3 (by kernel_rfl) h1 o1
  obtain ⟨len, hlen, hle⟩ : ∃ len : Nat, ((b0 ≤ 10 ∧ len = b0) ∨ (10 < b0 ∧ len = 10)) ∧ len ≤ b0 := by
    by_cases h : b0 ≤ 10
    · exact ⟨b0, .inl ⟨h, rfl⟩, Nat.le_refl _⟩
    · exact ⟨10, .inr ⟨by omega, rfl⟩, by omega⟩
  have hR2 := reads_take hR hle
  rw [← List.map_take] at hR2
  by_cases hn : n < 0 ∨ 4095 < n
  · exact cuts_no n (l.take len) A b0 len c W hn hR2 hlen (by omega) hbc
  · have hp := cuts_plain n (l.take len) (by omega) (by omega)
    exact cuts_yes n (l.take len) A b0 len c W (by omega) (by omega) hR2 hlen (by omega) hbc hp.1 hp.2.1 hp.2.2

end Go.Proofs.Ytheffimpadccaaa
