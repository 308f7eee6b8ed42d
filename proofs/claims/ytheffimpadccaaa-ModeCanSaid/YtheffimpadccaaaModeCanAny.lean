/-
  The law ModeCan at whatever arguments come in.
-/
import Derived.Test.YtheffimpadccaaaModeOpen
import Derived.Test.YtheffimpadccaaaWordsP
import Derived.Test.YtheffimpadccaaaModeCanLaw
namespace Go.Proofs.Ytheffimpadccaaa
open Go.ChangeShapes Go.WideShapes Go.ChangeAt Go.RowKit

theorem can_plain (k m o g who grp : Int) (l : List Int) : canB k m o g who grp l = rall k m o g who grp l := by
  unfold rall
  by_cases h : ((chk k m o g == 0) && bel who 65536 && bel grp 65536) = true
  · have e : ∀ x, rcan k m o g who grp x = good m o g who grp x := fun x => by unfold rcan canB; rw [h]; simp
    have e0 : rcan k m o g who grp 0 = true := by
      rw [e]; unfold good; rw [Bool.and_eq_true]
      refine ⟨by decide, ?_⟩
      have z : bits .andNot .i64 0 (bts m o g who grp) = 0 := by simp [bits, IntKind.wrap_i64]
      rw [z]; rfl
    have e1 : l.all (rcan k m o g who grp) = l.all (good m o g who grp) := by
      congr 1; funext x; exact e x
    rw [e0, e1]; unfold canB; rw [h]
  · have h' : ((chk k m o g == 0) && bel who 65536 && bel grp 65536) = false := by simpa using h
    have e0 : rcan k m o g who grp 0 = false := by unfold rcan canB; rw [h']; rfl
    rw [e0]; unfold canB; rw [h']; rfl

theorem modecan_any {H : Type} {enc : TypeId × Value → H} (W : World) (base : Nat) {v0 v1 v2 v3 : Value} {d0 d1 d2 d3 : DataW H} {p0 p1 p2 p3 : List MemPlace}
    (h0 : DataW.Trod enc Try.prog W 0 (fun _ => true) true 23 v0 d0 p0) (h1 : DataW.Trod enc Try.prog W 0 (fun _ => true) true 3 v1 d1 p1)
    (h2 : DataW.Trod enc Try.prog W 0 (fun _ => true) true 3 v2 d2 p2) (h3 : DataW.Trod enc Try.prog W 0 (fun _ => true) true 39 v3 d3 p3)
    (o0 : Value.okWide Try.prog W .any base 23 v0) (o1 : Value.okWide Try.prog W .any base 3 v1) (o2 : Value.okWide Try.prog W .any base 3 v2) (o3 : Value.okWide Try.prog W .any base 39 v3) :
    Calls Try.prog 5 #[v0, v1, v2, v3] W fun e w' => e = .returned (.bool true) ∧ Below W.heap.size W w' := by
  obtain ⟨k, m, o, g, rfl, -⟩ := open_stat h0 o0
  obtain ⟨who, rfl, -⟩ := open_int Try.underlying3 o1 h1
  obtain ⟨grp, rfl, -⟩ := open_int Try.underlying3 o2 h2
  obtain ⟨A, b0, c, l, rfl, hbc, hcm, hR, -⟩ := open_intslice Try.underlying39 Try.underlying3 (by kernel_rfl) h3 o3
  obtain ⟨len, hlen, hle⟩ : ∃ len : Nat, ((b0 ≤ 10 ∧ len = b0) ∨ (10 < b0 ∧ len = 10)) ∧ len ≤ b0 := by
    by_cases h : b0 ≤ 10
    · exact ⟨b0, .inl ⟨h, rfl⟩, Nat.le_refl _⟩
    · exact ⟨10, .inr ⟨by omega, rfl⟩, by omega⟩
  have hR2 := reads_take hR hle
  rw [← List.map_take] at hR2
  exact modecan_walk k m o g who grp (l.take len) A b0 len c W hR2 hlen (by omega) hbc (can_plain _ _ _ _ _ _ _)

end Go.Proofs.Ytheffimpadccaaa
