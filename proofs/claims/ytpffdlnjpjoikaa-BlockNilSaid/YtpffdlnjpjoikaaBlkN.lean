/-
  A nil disk; the walk of the law BlockNil.
-/
import Derived.Test.YtpffdlnjpjoikaaBlkK
namespace Go.Proofs.Ytpffdlnjpjoikaa
open Go.RowKit
attribute [local go_sem ↓] Go.wp_at_zero Go.wp_at_succ

set_option maxHeartbeats 400000 in
theorem power_nil (w : World) : Calls Try.prog 14 #[.pointer none] w fun e w' => e = .returned (.tuple #[]) ∧ w = w' := by
  go_enter Try.func14, Try.ntmps14
  go_wp2
  go_end0
  exact ⟨rfl, rfl⟩
set_option maxHeartbeats 400000 in
theorem arm_nil (n : Int) (w : World) : Calls Try.prog 26 #[.pointer none, .int .i64 n] w fun e w' => e = .returned (.tuple #[]) ∧ w = w' := by
  go_enter Try.func26, Try.ntmps26
  go_wp2
  go_end0
  exact ⟨rfl, rfl⟩
set_option maxHeartbeats 400000 in
theorem waiting_nil (w : World) : Calls Try.prog 18 #[.pointer none] w fun e w' => e = .returned (.int .i64 0) ∧ w = w' := by
  go_enter Try.func18, Try.ntmps18
  go_wp2
  go_ret
  exact ⟨rfl, rfl⟩
set_option maxHeartbeats 400000 in
theorem writes_nil (w : World) : Calls Try.prog 29 #[.pointer none] w fun e w' => e = .returned (.int .i64 0) ∧ w = w' := by
  go_enter Try.func29, Try.ntmps29
  go_wp2
  go_ret
  exact ⟨rfl, rfl⟩
set_option maxHeartbeats 400000 in
theorem flushes_nil (w : World) : Calls Try.prog 30 #[.pointer none] w fun e w' => e = .returned (.int .i64 0) ∧ w = w' := by
  go_enter Try.func30, Try.ntmps30
  go_wp2
  go_ret
  exact ⟨rfl, rfl⟩
set_option maxHeartbeats 400000 in
theorem copy_nil (w : World) : Calls Try.prog 16 #[.pointer none] w fun e w' => e = .returned (.pointer none) ∧ w = w' := by
  go_enter Try.func16, Try.ntmps16
  go_wp2
  go_ret
  exact ⟨rfl, rfl⟩
set_option maxHeartbeats 400000 in
theorem flush_nil (w : World) : Calls Try.prog 8 #[.pointer none] w fun e w' => e = .returned (.int .i64 9) ∧ w = w' := by
  go_enter Try.func8, Try.ntmps8
  go_wp2_with fail
  refine (on_nil _).mono ?_
  rintro e w' ⟨rfl, rfl⟩
  go_wp2_with fail
  go_ret
  exact ⟨rfl, rfl⟩
set_option maxHeartbeats 400000 in
theorem write_nil (no : Int) (v : Value) (w : World) : Calls Try.prog 9 #[.pointer none, .int .i64 no, v] w fun e w' => e = .returned (.int .i64 9) ∧ w = w' := by
  go_enter Try.func9, Try.ntmps9
  go_wp2_with fail
  refine (on_nil _).mono ?_
  rintro e w' ⟨rfl, rfl⟩
  go_wp2_with fail
  go_ret
  exact ⟨rfl, rfl⟩
set_option maxHeartbeats 400000 in
theorem crash_nil (v : Value) (h1 : v.oneCell' = true) (w : World) : Calls Try.prog 13 #[.pointer none, v] w fun e w' => e = .returned (.int .i64 0) ∧ Below w.heap.size w w' := by
  go_enter Try.func13, Try.ntmps13
  go_wp2_with fail
  go_ret
  exact ⟨rfl, below_al (Below.refl _ _) _⟩
set_option maxHeartbeats 1000000 in
theorem laid_nil (w : World) : Calls Try.prog 17 #[.pointer none] w fun e w' => e = .returned (.slice none 0 0) ∧ w = w' := by
  go_enter Try.func17, Try.ntmps17
  go_wp2_with fail
  refine (sectors_nil _).mono ?_
  rintro e w' ⟨rfl, rfl⟩
  go_wp2_with fail
  go_loopw [3, 4, 7] (fun s3 _ s7 wr => s3 = .slice none 0 0 ∧ s7 = .int .i64 0 ∧ wr = w) (fun _ _ _ _ => 0)
  case atStart => exact ⟨rfl, rfl, rfl⟩
  case round =>
    obtain ⟨rfl, rfl, rfl⟩ := hrel
    go_wp2_with fail
    go_ret
    exact ⟨rfl, rfl⟩
set_option maxHeartbeats 1000000 in
theorem read_nil (no : Int) (w : World) : Calls Try.prog 11 #[.pointer none, .int .i64 no] w fun e w' => e = .returned (.tuple #[.slice none 0 0, .int .i64 9]) ∧ Below w.heap.size w w' := by
  go_enter Try.func11, Try.ntmps11
  go_wp2_with fail
  refine (on_nil _).mono ?_
  rintro e w' ⟨rfl, rfl⟩
  go_wp2_with fail
  have h4 := ((Blk.new' (w := w.alloc (.cells #[.int .i64 no] 3)) (g := w.heap.size + 1) (t := 30) (cs := #[.slice none 0 0]) (by simp)).alloc (.cells #[.int .i64 9] 24)).cell 0
  have h5 := (Blk.new' (w := (w.alloc (.cells #[.int .i64 no] 3)).alloc (.cells #[.slice none 0 0] 30)) (g := w.heap.size + 1 + 1) (t := 24) (cs := #[.int .i64 9]) (by simp)).cell 0
  have hB := below_al (below_al (below_al (Below.refl w.heap.size w) (.cells #[.int .i64 no] 3)) (.cells #[.slice none 0 0] 30)) (.cells #[.int .i64 9] 24)
  obtain ⟨W, hW⟩ : ∃ W, ((w.alloc (.cells #[.int .i64 no] 3)).alloc (.cells #[.slice none 0 0] 30)).alloc (.cells #[.int .i64 9] 24) = W := ⟨_, rfl⟩
  rw [hW] at h4 h5 hB ⊢
  have h4' : W.cell? ⟨w.heap.size + 1, 0, none⟩ = some (.slice none 0 0) := h4
  have h5' : W.cell? ⟨w.heap.size + 1 + 1, 0, none⟩ = some (.int .i64 9) := h5
  exact bodyPost_ret (v := .tuple #[.slice none 0 0, .int .i64 9]) (by simp [results, Try.f11, go_sem, h4', h5']) rfl ⟨rfl, hB⟩

set_option maxRecDepth 100000 in
set_option maxHeartbeats 4000000 in
theorem nil_walk (no : Int) (A : Option Addr) (n c : Nat) (w : World) : Calls Try.prog 6 #[.int .i64 no, .slice A n c] w fun e w' => e = .returned (.bool true) ∧ Below w.heap.size w w' := by
  go_enter Try.func6, Try.ntmps6
  go_wp2_with fail
  refine (power_nil _).mono ?_
  rintro e w' ⟨rfl, rfl⟩
  go_wp2_with fail
  refine (arm_nil _ _).mono ?_
  rintro e w' ⟨rfl, rfl⟩
  go_wp2_with fail
  refine (read_nil _ _).mono ?_
  rintro e w1 ⟨rfl, hB1⟩
  go_wp2_with fail
  refine (known_any _).mono ?_
  rintro e w2 ⟨rfl, hB2⟩
  have hC2 := below_tr hB1 hB2
  clear hB1 hB2
  go_wp2_with fail
  refine (write_nil _ _ _).mono ?_
  rintro e w' ⟨rfl, rfl⟩
  go_wp2_with fail
  refine (flush_nil _).mono ?_
  rintro e w' ⟨rfl, rfl⟩
  go_wp2_with fail
  refine (crash_nil _ (by rfl) _).mono ?_
  rintro e w3 ⟨rfl, hB3⟩
  have hC3 := below_tr (below_al hC2 (.cells #[.int .i64 no] 3)) hB3
  clear hC2 hB3
  go_wp2_with fail
  refine (on_nil _).mono ?_
  rintro e w' ⟨rfl, rfl⟩
  go_wp2_with fail
  refine (waiting_nil _).mono ?_
  rintro e w' ⟨rfl, rfl⟩
  go_wp2_with fail
  refine (sectors_nil _).mono ?_
  rintro e w' ⟨rfl, rfl⟩
  go_wp2_with fail
  refine (writes_nil _).mono ?_
  rintro e w' ⟨rfl, rfl⟩
  go_wp2_with fail
  refine (flushes_nil _).mono ?_
  rintro e w' ⟨rfl, rfl⟩
  go_wp2_with fail
  refine (laid_nil _).mono ?_
  rintro e w' ⟨rfl, rfl⟩
  go_wp2_with fail
  refine (copy_nil _).mono ?_
  rintro e w' ⟨rfl, rfl⟩
  go_wp2_with fail
  go_ret
  exact ⟨rfl, hC3⟩

end Go.Proofs.Ytpffdlnjpjoikaa
