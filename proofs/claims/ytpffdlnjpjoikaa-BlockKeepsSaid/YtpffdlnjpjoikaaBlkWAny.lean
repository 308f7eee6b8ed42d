/-
  The law BlockKeeps at whatever arguments come in.
-/
import Derived.Test.YtpffdlnjpjoikaaBlkW
namespace Go.Proofs.Ytpffdlnjpjoikaa
open Go.ChangeShapes Go.WideShapes Go.ChangeAt Go.RowKit

theorem keeps_law {H : Type} {enc : TypeId × Value → H} (W : World) (base : Nat) {v0 v1 v2 : Value} {d0 d1 d2 : DataW H} {p0 p1 p2 : List MemPlace}
    (h0 : DataW.Trod enc Try.prog W 0 (fun _ => true) true 27 v0 d0 p0) (h1 : DataW.Trod enc Try.prog W 0 (fun _ => true) true 22 v1 d1 p1) (h2 : DataW.Trod enc Try.prog W 0 (fun _ => true) true 28 v2 d2 p2)
    (o0 : Value.okWide Try.prog W .any base 27 v0) (o1 : Value.okWide Try.prog W .any base 22 v1) (o2 : Value.okWide Try.prog W .any base 28 v2) :
    Calls Try.prog 4 #[v0, v1, v2] W fun e w' => e = .returned (.bool true) ∧ Below W.heap.size W w' := by
  obtain ⟨Ao, no, co, Do, rfl, hO⟩ := open_olds h0 o0
  obtain ⟨Aw, nw, cw, D, rfl, -, hW⟩ := open_acts h1 o1
  obtain ⟨A2, n2, c2, rfl⟩ := okWide_slice Try.underlying28 o2
  obtain ⟨fuel, hf⟩ := h2
  obtain ⟨Ak, nk, ck, l, hv, hk, hkc, hR⟩ := trod_ints (v := .slice A2 n2 c2) Try.underlying28 Try.underlying3 (by kernel_rfl) (by simpa [Value.cells] using hf)
  rw [hv]
  rcases Nat.lt_or_ge 30 nk with hm | hm
  · have h30 := reads_take hR (Nat.le_of_lt hm)
    rw [← List.map_take] at h30
    exact keeps_walk Ao Aw Ak no nw nk co cw ck Do D (l.take 30) W hO hW 30 hk hkc (.inr ⟨hm, rfl⟩) h30
  · exact keeps_walk Ao Aw Ak no nw nk co cw ck Do D l W hO hW nk hk hkc (.inl ⟨hm, rfl⟩) hR

end Go.Proofs.Ytpffdlnjpjoikaa
