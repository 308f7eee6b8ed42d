/-
  The contract of the law's known(): the chapter's example of package mode is as the chapter says.
-/
import Derived.Test.YtheffimpadccaaaDoorModeC
import Derived.Test.YtheffimpadccaaaDoorModeT
namespace Go.Proofs.YtheffimpadccaaaDoor
open Go.RowKit

theorem k_text : (texN 420).toList = [48, 54, 52, 52] := by decide +kernel
theorem k_1 : canB 0 420 5 0 5 9 [2] = true := by decide +kernel
theorem k_2 : canB 0 420 5 0 6 9 [4] = true := by decide +kernel
theorem k_3 : canB 0 420 5 0 6 9 [2] = false := by decide +kernel
theorem k_4 : canB 0 420 5 0 0 9 [2, 1] = true := by decide +kernel

set_option maxHeartbeats 400000 in
theorem known_any (w : World) : Calls Tryd.prog 8 #[] w fun e w' => e = .returned (.bool true) ∧ Below w.heap.size w w' := by
  have k0 := k_text
  have k1 := k_1
  have k2 := k_2
  have k3 := k_3
  have k4 := k_4
  go_enter Tryd.func8, Tryd.ntmps8
  go_wp2_with fail
  refine (text_any _ _).mono ?_
  rintro e w1 ⟨rfl, hb1⟩
  have hB : Blk w1 w.heap.size 36 #[.int .i64 0, .int .i64 420, .int .i64 5, .int .i64 0] := (Blk.new w _ _).below hb1 (by simp)
  have hW1 : Below w.heap.size w w1 := ((Below.refl _ _).alloc (Nat.le_refl _) _).trans (hb1.mono (by simp))
  have hs := hB.lt
  obtain ⟨c0, c1, c2, c3⟩ := hB.c4
  clear hb1
  go_wp2_with fail
  refine (can_any 0 420 5 0 5 9 [2] _ 1 1 _ (reads_new1 _ _ _ (by simp)) (by omega)).mono ?_
  rintro e w2 ⟨rfl, hb2⟩
  have hB2 := (hB.alloc (.cells #[.int .i64 2] 3)).below hb2 (by simp; omega)
  have hW2 := (hW1.alloc (by omega) (.cells #[.int .i64 2] 3)).trans (hb2.mono (by simp; omega))
  have hs2 := hB2.lt
  obtain ⟨c0, c1, c2, c3⟩ := hB2.c4
  clear hb2
  go_wp2_with fail
  refine (can_any 0 420 5 0 6 9 [4] _ 1 1 _ (reads_new1 _ _ _ (by simp)) (by omega)).mono ?_
  rintro e w3 ⟨rfl, hb3⟩
  have hB3 := (hB2.alloc (.cells #[.int .i64 4] 3)).below hb3 (by simp; omega)
  have hW3 := (hW2.alloc (by omega) (.cells #[.int .i64 4] 3)).trans (hb3.mono (by simp; omega))
  have hs3 := hB3.lt
  obtain ⟨c0, c1, c2, c3⟩ := hB3.c4
  clear hb3
  go_wp2_with fail
  refine (can_any 0 420 5 0 6 9 [2] _ 1 1 _ (reads_new1 _ _ _ (by simp)) (by omega)).mono ?_
  rintro e w4 ⟨rfl, hb4⟩
  have hB4 := (hB3.alloc (.cells #[.int .i64 2] 3)).below hb4 (by simp; omega)
  have hW4 := (hW3.alloc (by omega) (.cells #[.int .i64 2] 3)).trans (hb4.mono (by simp; omega))
  have hs4 := hB4.lt
  obtain ⟨c0, c1, c2, c3⟩ := hB4.c4
  clear hb4
  go_wp2_with fail
  refine (can_any 0 420 5 0 0 9 [2, 1] _ 2 2 _ (reads_new2 _ _ _ _ (by simp)) (by omega)).mono ?_
  rintro e w5 ⟨rfl, hb5⟩
  have hW5 := (hW4.alloc (by omega) (.cells #[.int .i64 2, .int .i64 1] 3)).trans (hb5.mono (by simp; omega))
  clear hb5
  go_wp2_with fail
  go_ret
  exact ⟨rfl, hW5⟩

end Go.Proofs.YtheffimpadccaaaDoor
