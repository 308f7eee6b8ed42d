/-
  The law ModeNumbers at whatever arguments come in.
-/
import Derived.Test.YtheffimpadccaaaModeOpen
import Derived.Test.YtheffimpadccaaaModeNumbersLaw
namespace Go.Proofs.Ytheffimpadccaaa
open Go.ChangeShapes Go.WideShapes Go.ChangeAt Go.RowKit

theorem of_back {n : Int} (h : chk (oK n) (oM n) (oO n) (oG n) = 0) : num (oK n) (oM n) (oO n) (oG n) = n := by
  rw [num_dec h]; unfold oK oM oO oG; omega
theorem of_num_ok {k m o g : Int} (h : chk k m o g = 0) : ofOk (num k m o g) := by
  obtain ⟨r1, r2, r3, r4, r5, r6, r7, r8⟩ := chk_all h
  have e := num_dec h
  have e1 : oK (num k m o g) = k := by unfold oK; rw [e]; omega
  have e2 : oM (num k m o g) = m := by unfold oM; rw [e]; omega
  have e3 : oO (num k m o g) = o := by unfold oO; rw [e]; omega
  have e4 : oG (num k m o g) = g := by unfold oG; rw [e]; omega
  exact ⟨by rw [e]; omega, by rw [e1, e2, e3, e4]; exact h⟩

theorem numbers_any {H : Type} {enc : TypeId × Value → H} (W : World) (base : Nat) {v0 v1 : Value} {d0 d1 : DataW H} {p0 p1 : List MemPlace}
    (h0 : DataW.Trod enc Try.prog W 0 (fun _ => true) true 23 v0 d0 p0) (h1 : DataW.Trod enc Try.prog W 0 (fun _ => true) true 3 v1 d1 p1)
    (o0 : Value.okWide Try.prog W .any base 23 v0) (o1 : Value.okWide Try.prog W .any base 3 v1) :
    Calls Try.prog 4 #[v0, v1] W fun e w' => e = .returned (.bool true) ∧ Below W.heap.size W w' := by
  obtain ⟨k, m, o, g, rfl, -⟩ := open_stat h0 o0
  obtain ⟨n, rfl, -, -, wn⟩ := open_int Try.underlying3 o1 h1
  have hn : -9223372036854775808 ≤ n ∧ n ≤ 9223372036854775807 := by
    have h1 : IntKind.i64.min = -9223372036854775808 := rfl
    have h2 : IntKind.i64.max = 9223372036854775807 := rfl
    simp only [Lit.wf, Bool.and_eq_true, decide_eq_true_eq] at wn
    omega
  by_cases hf : ofOk n
  · have hb := of_back hf.2
    by_cases hs : chk k m o g = 0
    · exact numbers_yy k m o g n W hf.1 hn.2 hf.2 (by simpa using hf.2) (by simpa using hb) hs
    · exact numbers_yn k m o g n W hf.1 hn.2 hf.2 (by simpa using hf.2) (by simpa using hb) (by simpa using hs) (if_neg hs)
  · by_cases hs : chk k m o g = 0
    · exact numbers_ny k m o g n W hn.1 hn.2 hf (by rw [bne_iff_ne]; intro e; subst e; exact hf (of_num_ok hs)) hs
    · exact numbers_nn k m o g n W hn.1 hn.2 hf (by simpa using hs) (if_neg hs)

end Go.Proofs.Ytheffimpadccaaa
