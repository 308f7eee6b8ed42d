/-
  The disk's small methods.
-/
import Derived.Test.YtpffdlnjpjoikaaBlkA
namespace Go.Proofs.Ytpffdlnjpjoikaa
open Go.RowKit

set_option maxHeartbeats 400000 in
theorem on_any (g : Nat) (off : Bool) (w : World) (hc : w.cell? ⟨g, 0, none⟩ = some (.bool off)) :
    Calls Try.prog 19 #[.pointer (some ⟨g, 0, none⟩)] w fun e w' => e = .returned (.bool (!off)) ∧ w = w' := by
  have hnot : ∀ (x : Bool) (w : World), (Op.unary .not (.bool x)).run Try.prog w = .ok (.bool (!x)) w := fun _ _ => rfl
  go_enter Try.func19, Try.ntmps19
  go_wp2
  go_ret
  exact ⟨rfl, rfl⟩
set_option maxHeartbeats 400000 in
theorem on_nil (w : World) :
    Calls Try.prog 19 #[.pointer none] w fun e w' => e = .returned (.bool false) ∧ w = w' := by
  go_enter Try.func19, Try.ntmps19
  go_wp2
  go_ret
  exact ⟨rfl, rfl⟩
set_option maxHeartbeats 400000 in
theorem sectors_any (g : Nat) (A : Option Addr) (n c : Nat) (w : World) (hc : w.cell? ⟨g, 3, none⟩ = some (.slice A n c)) :
    Calls Try.prog 20 #[.pointer (some ⟨g, 0, none⟩)] w fun e w' => e = .returned (.int .i64 n) ∧ w = w' := by
  go_enter Try.func20, Try.ntmps20
  go_wp2
  go_ret
  exact ⟨rfl, rfl⟩
set_option maxHeartbeats 400000 in
theorem sectors_nil (w : World) :
    Calls Try.prog 20 #[.pointer none] w fun e w' => e = .returned (.int .i64 0) ∧ w = w' := by
  go_enter Try.func20, Try.ntmps20
  go_wp2
  go_ret
  exact ⟨rfl, rfl⟩
set_option maxHeartbeats 400000 in
theorem waiting_any (g : Nat) (A : Option Addr) (n c : Nat) (w : World) (hc : w.cell? ⟨g, 4, none⟩ = some (.slice A n c)) :
    Calls Try.prog 18 #[.pointer (some ⟨g, 0, none⟩)] w fun e w' => e = .returned (.int .i64 n) ∧ w = w' := by
  go_enter Try.func18, Try.ntmps18
  go_wp2
  go_ret
  exact ⟨rfl, rfl⟩
set_option maxHeartbeats 400000 in
theorem has_any (g : Nat) (A : Option Addr) (n c : Nat) (no : Int) (w : World) (hc : w.cell? ⟨g, 3, none⟩ = some (.slice A n c)) :
    Calls Try.prog 35 #[.pointer (some ⟨g, 0, none⟩), .int .i64 no] w fun e w' => e = .returned (.bool (decide (0 ≤ no) && decide (no < n))) ∧ w = w' := by
  by_cases h0 : 0 ≤ no
  · have h1 : decide (0 ≤ no) = true := by simpa using h0
    go_enter Try.func35, Try.ntmps35
    go_wp2_with (go_at_call 20; refine (sectors_any g A n c _ hc).mono ?_; rintro e w' ⟨rfl, rfl⟩)
    go_ret
    exact ⟨by simp [h1], rfl⟩
  · have h1 : decide (0 ≤ no) = false := by simpa using h0
    go_enter Try.func35, Try.ntmps35
    go_wp2
    go_ret
    exact ⟨by simp, rfl⟩
set_option maxHeartbeats 400000 in
/-- Not armed: nothing is used up. -/
theorem use_any (g : Nat) (w : World) (hc : w.cell? ⟨g, 0, none⟩ = some (.bool false)) (hc1 : w.cell? ⟨g, 1, none⟩ = some (.bool false)) :
    Calls Try.prog 31 #[.pointer (some ⟨g, 0, none⟩)] w fun e w' => e = .returned (.bool true) ∧ w = w' := by
  have hnot : ∀ (x : Bool) (w : World), (Op.unary .not (.bool x)).run Try.prog w = .ok (.bool (!x)) w := fun _ _ => rfl
  go_enter Try.func31, Try.ntmps31
  go_wp2
  go_ret
  exact ⟨rfl, rfl⟩

end Go.Proofs.Ytpffdlnjpjoikaa
