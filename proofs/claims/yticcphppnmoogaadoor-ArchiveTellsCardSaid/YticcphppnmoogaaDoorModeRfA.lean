/-
  The contract of mode.Refusal.
-/
import Derived.Test.YticcphppnmoogaaDoorModeA
namespace Go.Proofs.YticcphppnmoogaaDoor
open Go.RowKit

def andB (x b : Int) : Bool := bits .and .i64 x b != 0
def refu (k m o g : Int) : Int :=
  if chk k m o g = 0 then (if k = 3 then 17 else if k = 4 then 17 else if andB m 3072 || ((k == 0 || k == 1) && andB m 18) then 11 else 0) else chk k m o g

theorem chk_k {k m o g : Int} (h : chk k m o g = 0) : 0 ≤ k ∧ k < 5 := by
  unfold chk at h
  by_cases h1 : bel k 5 = false
  · simp [h1] at h
  simpa [bel] using h1

theorem refusal_no (k m o g : Int) (w : World) (h : ¬ chk k m o g = 0) :
    Calls Tryd.prog 61 #[.agg #[.int .i64 k, .int .i64 m, .int .i64 o, .int .i64 g]] w fun e w' => e = .returned (.int .i64 (refu k m o g)) ∧ Below w.heap.size w w' := by
  have hr : refu k m o g = chk k m o g := if_neg h
  have hc : (chk k m o g != 0) = true := by simpa using h
  have HR := hide hr
  clear h hr
  go_enter Tryd.func61, Tryd.ntmps61
  go_wp2_with (go_at_call 75; refine (check_any _ _ _ _ _).mono ?_; rintro e w1 ⟨rfl, hb⟩)
  go_ret
  exact ⟨ret_int HR.out.symm, ((Below.refl _ _).alloc (Nat.le_refl _) _).trans (hb.mono (by simp))⟩

set_option maxHeartbeats 1000000 in
theorem refusal_yes (k m o g : Int) (w : World) (h : chk k m o g = 0) :
    Calls Tryd.prog 61 #[.agg #[.int .i64 k, .int .i64 m, .int .i64 o, .int .i64 g]] w fun e w' => e = .returned (.int .i64 (refu k m o g)) ∧ Below w.heap.size w w' := by
  have hc : (chk k m o g != 0) = false := by simpa using h
  have hk := chk_k h
  have hr : refu k m o g = if k = 3 then 17 else if k = 4 then 17 else if andB m 3072 || ((k == 0 || k == 1) && andB m 18) then 11 else 0 := if_pos h
  have HR := hide hr
  clear h hr
  have hk5 : k = 0 ∨ k = 1 ∨ k = 2 ∨ k = 3 ∨ k = 4 := by omega
  rcases hk5 with rfl | rfl | rfl | rfl | rfl
  all_goals
    cases e1 : (bits .and .i64 m 3072 != 0)
    all_goals
      cases e2 : (bits .and .i64 m 18 != 0)
      all_goals
        have f1 : andB m 3072 = _ := e1
        have f2 : andB m 18 = _ := e2
        have HF := hide (And.intro f1 f2)
        clear f1 f2
        go_enter Tryd.func61, Tryd.ntmps61
        go_wp2_with (go_at_call 75; refine (check_any _ _ _ _ _).mono ?_; rintro e w1 ⟨rfl, hb⟩; obtain ⟨hcc, -⟩ := bcell hb)
        go_ret
        exact ⟨ret_int (by rw [HR.out, (unhide HF).1, (unhide HF).2]; rfl), ((Below.refl _ _).alloc (Nat.le_refl _) _).trans (hb.mono (by simp))⟩

theorem refusal_any (k m o g : Int) (w : World) :
    Calls Tryd.prog 61 #[.agg #[.int .i64 k, .int .i64 m, .int .i64 o, .int .i64 g]] w fun e w' => e = .returned (.int .i64 (refu k m o g)) ∧ Below w.heap.size w w' := by
  by_cases h : chk k m o g = 0
  · exact refusal_yes k m o g w h
  · exact refusal_no k m o g w h

end Go.Proofs.YticcphppnmoogaaDoor
