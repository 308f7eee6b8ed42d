/-
  The contract of mode.Text: the four digits of a mode to the base 8; no text for what is no mode.
-/
import Derived.Test.YtheffimpadccaaaDoorModeB
import Derived.Laws.BytesArg
namespace Go.Proofs.YtheffimpadccaaaDoor
open Go.RowKit

def texN (n : Int) : ByteArray := if 0 ≤ n ∧ n < 4096 then strOfNums [48 + n / 512 % 8, 48 + n / 64 % 8, 48 + n / 8 % 8, 48 + n % 8] else ⟨#[]⟩

theorem conv4 (w0 : World) (x0 x1 x2 x3 : Int) :
    (convert 30 9 (.slice (some ⟨w0.heap.size, 0, none⟩) 4 4)).run Tryd.prog (w0.alloc (.cells #[.int .u8 x0, .int .u8 x1, .int .u8 x2, .int .u8 x3] 5)) =
      .ok (.string (strOfNums [x0, x1, x2, x3])) (w0.alloc (.cells #[.int .u8 x0, .int .u8 x1, .int .u8 x2, .int .u8 x3] 5)) :=
  run_convert_bytes_arg (P := Tryd.prog) _ 30 5 Tryd.underlying30 Tryd.underlying5 w0.heap.size 0 4 4 [x0, x1, x2, x3] rfl
    (fun i hi => by
      match i, hi with
      | 0, _ => simp [World.cell?_alloc_new]
      | 1, _ => simp [World.cell?_alloc_new]
      | 2, _ => simp [World.cell?_alloc_new]
      | 3, _ => simp [World.cell?_alloc_new]) 9 Tryd.underlying9

theorem text_no (n : Int) (w : World) (h : ¬ (0 ≤ n ∧ n < 4096)) :
    Calls Tryd.prog 4 #[.int .i64 n] w fun e w' => e = .returned (.string (texN n)) ∧ Below w.heap.size w w' := by
  have hb : bel n 4096 = false := by simp only [bel, decide_eq_false_iff_not]; exact h
  have ht : texN n = ⟨#[]⟩ := if_neg h
  have HT := Lib.hid ht
  clear ht h
  go_enter Tryd.func4, Tryd.ntmps4
  go_wp2_with (first | (go_at_call 9; refine (below_any _ _ _).mono ?_; rintro e w' ⟨rfl, rfl⟩))
  go_ret
  exact ⟨ret_str HT.out.symm, Below.refl _ _⟩

set_option maxHeartbeats 400000 in
theorem text_yes (n : Int) (w : World) (h0 : 0 ≤ n) (h1 : n < 4096) :
    Calls Tryd.prog 4 #[.int .i64 n] w fun e w' => e = .returned (.string (texN n)) ∧ Below w.heap.size w w' := by
  have hb : bel n 4096 = true := by simp [bel]; omega
  have ht : texN n = _ := if_pos ⟨h0, h1⟩
  have HT := Lib.hid ht
  clear ht
  have hcv := conv4
  have e0 := i64_and7 n (by omega) (by omega)
  have e1 := i64_and7 (n / 8) (by omega) (by omega)
  have e2 := i64_and7 (n / 64) (by omega) (by omega)
  have e3 := i64_and7 (n / 512) (by omega) (by omega)
  have hmk : ∀ w : World, (Instr.makeSlice 30 (.int .i64 4) (.int .i64 4)).run Tryd.prog w = .ok (.slice (some ⟨w.heap.size, 0, none⟩) 4 4) (w.alloc (.cells #[.int .u8 0, .int .u8 0, .int .u8 0, .int .u8 0] 5)) := fun _ => by kernel_rfl
  go_enter Tryd.func4, Tryd.ntmps4
  go_wp2_with (first | (go_at_call 9; refine (below_any _ _ _).mono ?_; rintro e w' ⟨rfl, rfl⟩))
  refine wp_loop_rounds 5 ?_
  rw [rounds_succ]
  go_wp2
  rw [rounds_succ]
  go_wp2
  rw [rounds_succ]
  go_wp2
  rw [rounds_succ]
  go_wp2
  rw [rounds_succ]
  go_wp2
  go_ret
  exact ⟨ret_str HT.out.symm, (Below.refl _ _).alloc (Nat.le_refl _) _⟩

theorem text_any (n : Int) (w : World) :
    Calls Tryd.prog 4 #[.int .i64 n] w fun e w' => e = .returned (.string (texN n)) ∧ Below w.heap.size w w' := by
  by_cases h : 0 ≤ n ∧ n < 4096
  · exact text_yes n w h.1 h.2
  · exact text_no n w h

end Go.Proofs.YtheffimpadccaaaDoor
