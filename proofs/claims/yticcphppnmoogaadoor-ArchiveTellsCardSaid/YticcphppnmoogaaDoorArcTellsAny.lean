/-
  ArchiveTells at any input that reads.
-/
import Derived.Test.YticcphppnmoogaaDoorArcT
import Derived.Test.YticcphppnmoogaaDoorArcTabs
import Derived.Lib.LaidTab
namespace Go.Proofs.YticcphppnmoogaaDoor
open Go.ChangeShapes Go.WideShapes Go.ChangeAt Go.RowKit Go.ChangeMaps

theorem gR : Tryd.prog.globalNamed "creel/digest.round" = some 1 := by kernel_rfl
theorem gRT : (Tryd.prog.globals[1]?).map (·.type) = some 110 := by kernel_rfl
theorem gF : Tryd.prog.globalNamed "creel/digest.first" = some 0 := by kernel_rfl
theorem gFT : (Tryd.prog.globals[0]?).map (·.type) = some 66 := by kernel_rfl
theorem tabs_of {rest : List (String × DataW Unit)} {W : World} (h : laidMet Tryd.prog (("creel/digest.round", Rows.laid_creel_digest_round) :: ("creel/digest.first", Rows.laid_creel_digest_first) :: rest) W) : Tabs W := by
  have h1 : Lib.TabIs Tryd.prog W "creel/digest.round" .u32 (KT.map fun n : Nat => (n : Int)) :=
    Lib.tabIs_of_head (rest := ("creel/digest.first", Rows.laid_creel_digest_first) :: rest) gR gRT Tryd.underlying110 Tryd.underlying64 (by kernel_rfl) (by kernel_rfl) h
  have h2 : Lib.TabIs Tryd.prog W "creel/digest.first" .u32 (FT.map fun n : Nat => (n : Int)) :=
    Lib.tabIs_of_head (rest := rest) gF gFT Tryd.underlying66 Tryd.underlying64 (by kernel_rfl) (by kernel_rfl) (laidMet.tail h)
  have c1 : ∀ i, i < 64 → W.cell? ⟨1, i, none⟩ = some (.int .u32 ((KT.getD i 0 : Nat) : Int)) := fun i hi => by
    rw [h1.cell gR i (by simpa [KT] using hi)]
    have : i < KT.length := by simpa [KT] using hi
    simp [this]
  have c2 : ∀ i, i < 8 → W.cell? ⟨0, i, none⟩ = some (.int .u32 ((FT.getD i 0 : Nat) : Int)) := fun i hi => by
    rw [h2.cell gF i (by simpa [FT] using hi)]
    have : i < FT.length := by simpa [FT] using hi
    simp [this]
  exact ⟨cell_lt' (c1 0 (by decide)), c1, c2⟩

set_option maxRecDepth 100000 in
theorem tells_any {H : Type} {enc : TypeId × Value → H} (W : World) (base : Nat) {v0 v1 v2 : Value} {d0 d1 d2 : DataW H} {p0 p1 p2 : List MemPlace}
    (h0 : DataW.Trod enc Tryd.prog W 0 (fun _ => true) true 22 v0 d0 p0) (h1 : DataW.Trod enc Tryd.prog W 0 (fun _ => true) true 22 v1 d1 p1) (h2 : DataW.Trod enc Tryd.prog W 0 (fun _ => true) true 31 v2 d2 p2)
    (o0 : Value.okWide Tryd.prog W .any base 22 v0) (o1 : Value.okWide Tryd.prog W .any base 22 v1) (o2 : Value.okWide Tryd.prog W .any base 31 v2) (hT : Tabs W) (hsh : W.ShapedOpen Tryd.prog) :
    Calls Tryd.prog 4 #[v0, v1, v2] W fun e w' => e = .returned (.bool true) ∧ Below W.heap.size W w' := by
  obtain ⟨A, n, c, l, rfl, hn, hc, hI⟩ := open_ents h0 o0
  obtain ⟨B, m, d, k, rfl, hm, hd, hJ⟩ := open_ents h1 o1
  obtain ⟨P0, pn0, pc0, rfl⟩ := okWide_slice Tryd.underlying31 o2
  obtain ⟨fuel, h⟩ := h2
  have h' : DataW.trod enc Tryd.prog W 0 (fun _ => true) true fuel 31 [.slice P0 pn0 pc0] = some (d2, p2) := by simpa [Value.cells] using h
  obtain ⟨P, pn, pc, p, e, hpl, hpn, hpc, hR, hs⟩ := open_strs h'
  injection e with e1 e2 e3
  subst e1 e2 e3
  exact tells_walk A B P0 n c m d pn0 pc0 l k p W (by omega) hI (by omega) hJ (by omega) hs hR (mx_of hsh) hT

end Go.Proofs.YticcphppnmoogaaDoor
