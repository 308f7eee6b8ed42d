/-
  DigestHex at any array of 32 bytes and any string.
-/
import Derived.Test.YtaffjcenojikjaaDoorDigHexLaw
import Derived.Test.YtaffjcenojikjaaDoorDigTabs
import Derived.Deep.Matrix
import Derived.ProofKit
import Derived.OpenShut
namespace Go.Proofs.YtaffjcenojikjaaDoor
open Go.ChangeShapes Go.WideShapes Go.ChangeAt Go.RowKit Go.ChangeMaps Go.Deep

theorem wf8' {n : Int} (h : (Lit.int .u8 n).wf = true) : 0 ≤ n ∧ n < 256 := by
  have h1 : decide (IntKind.u8.min ≤ n) && decide (n ≤ IntKind.u8.max) := h
  simp only [Bool.and_eq_true, decide_eq_true_eq] at h1
  have e1 : IntKind.u8.min = 0 := by decide
  have e2 : IntKind.u8.max = 255 := by decide
  omega

theorem open_dig {H : Type} {enc : TypeId × Value → H} {W : World} {base : Nat} {v : Value} {d : DataW H} {p : List MemPlace}
    (h : DataW.Trod enc Tryd.prog W 0 (fun _ => true) true 37 v d p) (o : Value.okWide Tryd.prog W .any base 37 v) :
    ∃ D : List Nat, v = .agg (u8s D).toArray ∧ D.length = 32 ∧ ∀ x ∈ D, x < 256 := by
  have hu := Tryd.underlying37
  have hc : Tryd.prog.cellsOf 37 = 32 := by kernel_rfl
  have hc1 : Tryd.prog.cellsOf 5 = 1 := by kernel_rfl
  obtain ⟨cs, rfl⟩ : ∃ cs, v = .agg cs := by
    simp only [Value.okWide, hu] at o
    obtain ⟨cs, h1, -⟩ := o
    exact ⟨cs, h1⟩
  obtain ⟨fuel, hf⟩ := h
  simp only [Value.cells] at hf
  obtain ⟨xs, m, -, -, hl, hxl, hall⟩ := DataW.trod_array hu hf
  rw [hc] at hl
  have key : ∀ i, i < 32 → ∃ n : Nat, n < 256 ∧ cs.toList[i]? = some (.int .u8 (n : Int)) := by
    intro i hi
    have h1 := hall i hi
    obtain ⟨x, hx⟩ : ∃ x, xs[i]? = some x := ⟨_, List.getElem?_eq_getElem (by omega)⟩
    rw [hx, hc1] at h1
    obtain ⟨n, hn, -, hw⟩ := DataW.trod_int Tryd.underlying5 h1
    have := wf8' hw
    refine ⟨n.toNat, by omega, ?_⟩
    have h2 : ((cs.toList.drop (i * 1)).take 1)[0]? = some (.int .u8 n) := by rw [hn]; rfl
    rw [List.getElem?_take, if_pos (by omega), List.getElem?_drop] at h2
    rw [show i * 1 + 0 = i by omega] at h2
    rw [h2, show ((n.toNat : Nat) : Int) = n by omega]
  have hbytes : ∃ D : List Nat, D.length = 32 ∧ (∀ x ∈ D, x < 256) ∧ cs.toList = u8s D := by
    have gen : ∀ (l : List Value), (∀ i, i < l.length → ∃ n : Nat, n < 256 ∧ l[i]? = some (.int .u8 (n : Int))) → ∃ D : List Nat, D.length = l.length ∧ (∀ x ∈ D, x < 256) ∧ l = u8s D := by
      intro l
      induction l with
      | nil => exact fun _ => ⟨[], rfl, fun x hx => (by cases hx), rfl⟩
      | cons v l ih =>
        intro hk
        obtain ⟨n, hn, h0⟩ := hk 0 (by simp)
        simp at h0
        subst h0
        obtain ⟨D, h1, h2, rfl⟩ := ih (fun i hi => by
          obtain ⟨m, h3, h4⟩ := hk (i + 1) (by simp; omega)
          exact ⟨m, h3, by simpa using h4⟩)
        exact ⟨n :: D, by simp [h1], fun x hx => by
          rcases List.mem_cons.1 hx with rfl | hx
          · exact hn
          · exact h2 x hx, rfl⟩
    obtain ⟨D, h1, h2, h3⟩ := gen cs.toList (fun i hi => key i (by omega))
    exact ⟨D, by omega, h2, h3⟩
  obtain ⟨D, h1, h2, h3⟩ := hbytes
  exact ⟨D, by rw [← h3], h1, h2⟩

theorem dighex_any {H : Type} {enc : TypeId × Value → H} (W : World) (base : Nat) {v0 v1 : Value} {d0 d1 : DataW H} {p0 p1 : List MemPlace}
    (h0 : DataW.Trod enc Tryd.prog W 0 (fun _ => true) true 37 v0 d0 p0)
    (h1 : DataW.Trod enc Tryd.prog W 0 (fun _ => true) true 9 v1 d1 p1) (o0 : Value.okWide Tryd.prog W .any base 37 v0) (o1 : Value.okWide Tryd.prog W .any base 9 v1) (hT : Tabs W) :
    Calls Tryd.prog 7 #[v0, v1] W fun e w' => e = .returned (.bool true) ∧ Below W.heap.size W w' := by
  obtain ⟨D, rfl, hD, hb⟩ := open_dig h0 o0
  obtain ⟨s, rfl, -, -, hs⟩ := open_string Tryd.underlying9 o1 h1
  exact hex_walk D s W hD hb hs hT

end Go.Proofs.YtaffjcenojikjaaDoor
