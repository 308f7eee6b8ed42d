/-
  creellaw23.rev: a revision of the document's as the program's.
-/
import Derived.Test.YtkmdhmnjohlnaaaRevRB
import Derived.Test.YtkmdhmnjohlnaaaRevIn
namespace Go.Proofs.Ytkmdhmnjohlnaaa
open Go.RowKit

set_option maxRecDepth 100000 in
set_option maxHeartbeats 2000000 in
theorem rev_any (r : Rv) (w : World) : Calls Try.prog 10 #[.agg (rvC r).toArray] w fun e w' => e = .returned (.agg (rvC r).toArray) ∧ Below w.heap.size w w' := by
  obtain ⟨w0, hw0⟩ : ∃ w0, (w.alloc (.cells (rvC r).toArray 27)).alloc (.cells #[.int .i64 0, .int .u8 0, .int .u8 0, .int .u8 0, .int .u8 0, .int .u8 0, .int .u8 0, .int .u8 0, .int .u8 0, .int .u8 0, .int .u8 0, .int .u8 0, .int .u8 0, .int .u8 0, .int .u8 0, .int .u8 0, .int .u8 0, .int .u8 0, .int .u8 0, .int .u8 0, .int .u8 0, .int .u8 0, .int .u8 0, .int .u8 0, .int .u8 0, .int .u8 0, .int .u8 0, .int .u8 0, .int .u8 0, .int .u8 0, .int .u8 0, .int .u8 0, .int .u8 0, .int .i64 0] 36) = w0 := ⟨_, rfl⟩
  have hE0 := below_al (below_al (Below.refl w.heap.size w) (.cells (rvC r).toArray 27)) (.cells #[.int .i64 0, .int .u8 0, .int .u8 0, .int .u8 0, .int .u8 0, .int .u8 0, .int .u8 0, .int .u8 0, .int .u8 0, .int .u8 0, .int .u8 0, .int .u8 0, .int .u8 0, .int .u8 0, .int .u8 0, .int .u8 0, .int .u8 0, .int .u8 0, .int .u8 0, .int .u8 0, .int .u8 0, .int .u8 0, .int .u8 0, .int .u8 0, .int .u8 0, .int .u8 0, .int .u8 0, .int .u8 0, .int .u8 0, .int .u8 0, .int .u8 0, .int .u8 0, .int .u8 0, .int .i64 0] 36)
  have hV0 := (Blk.new w 27 (rvC r).toArray).alloc (.cells #[.int .i64 0, .int .u8 0, .int .u8 0, .int .u8 0, .int .u8 0, .int .u8 0, .int .u8 0, .int .u8 0, .int .u8 0, .int .u8 0, .int .u8 0, .int .u8 0, .int .u8 0, .int .u8 0, .int .u8 0, .int .u8 0, .int .u8 0, .int .u8 0, .int .u8 0, .int .u8 0, .int .u8 0, .int .u8 0, .int .u8 0, .int .u8 0, .int .u8 0, .int .u8 0, .int .u8 0, .int .u8 0, .int .u8 0, .int .u8 0, .int .u8 0, .int .u8 0, .int .u8 0, .int .i64 0] 36)
  have hZ0 : Blk ((w.alloc (.cells (rvC r).toArray 27)).alloc (.cells #[.int .i64 0, .int .u8 0, .int .u8 0, .int .u8 0, .int .u8 0, .int .u8 0, .int .u8 0, .int .u8 0, .int .u8 0, .int .u8 0, .int .u8 0, .int .u8 0, .int .u8 0, .int .u8 0, .int .u8 0, .int .u8 0, .int .u8 0, .int .u8 0, .int .u8 0, .int .u8 0, .int .u8 0, .int .u8 0, .int .u8 0, .int .u8 0, .int .u8 0, .int .u8 0, .int .u8 0, .int .u8 0, .int .u8 0, .int .u8 0, .int .u8 0, .int .u8 0, .int .u8 0, .int .i64 0] 36)) (w.heap.size + 1) 36 (rvC rv0).toArray := Blk.new' (w := w.alloc (.cells (rvC r).toArray 27)) (g := w.heap.size + 1) (t := 36) (cs := #[.int .i64 0, .int .u8 0, .int .u8 0, .int .u8 0, .int .u8 0, .int .u8 0, .int .u8 0, .int .u8 0, .int .u8 0, .int .u8 0, .int .u8 0, .int .u8 0, .int .u8 0, .int .u8 0, .int .u8 0, .int .u8 0, .int .u8 0, .int .u8 0, .int .u8 0, .int .u8 0, .int .u8 0, .int .u8 0, .int .u8 0, .int .u8 0, .int .u8 0, .int .u8 0, .int .u8 0, .int .u8 0, .int .u8 0, .int .u8 0, .int .u8 0, .int .u8 0, .int .u8 0, .int .i64 0]) (by simp)
  rw [hw0] at hE0 hV0 hZ0
  have d0 := hV0.rv0
  have d33 := hV0.rv33
  have hs : ((rvC r).drop 1).take 32 = r.seal_.map (Value.int .u8) := by simp [rvC, r.h]
  go_enter Try.func10, Try.ntmps10
  go_wp2_with (first | refine wpList_load_vs rfl 25 (.tmp 5) rfl w.heap.size 1 32 27 (rvC r) _ _ hV0 rfl hs (by simp [r.h]) Try.underlying25 rfl (by rw [infoSeal]) ?_ | refine wpList_plain rfl fun _ hK => wp_of_run (v := .agg (rvC r).toArray) (w' := w0) (by unfold execOp; simp only [List.map_toArray, List.map_cons, List.map_nil]; exact by_build (build_rv r w0)) (hK _ _ ?_) | refine st_rv hZ0 rfl (.tmp 2) (.tmp 9) rfl r rfl rfl ?_)
  intro w1 hZ1 hG1 _
  have hE1 := below_only hE0 hG1 hE0.size (by omega)
  go_wp2_with fail
  exact bodyPost_ret (v := .agg (rvC r).toArray) (res_cell Try.results10 _ _ _ rfl hZ1 Try.underlying36 (by rw [infoRv]; simp [rvC_len])) rfl ⟨rfl, hE1⟩

end Go.Proofs.Ytkmdhmnjohlnaaa
