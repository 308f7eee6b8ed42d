/-
  The contracts of package mode's small functions: each returns what the plain function of the same place says; of old memory nothing turns.
-/
import Derived.Test.YticcphppnmoogaaDoorRows
import Derived.WalkKit
import Derived.WalkSpells
import Derived.WalkLawsBesides
import Derived.Test.YticcphppnmoogaaDoorWords
namespace Go.Proofs.YticcphppnmoogaaDoor
open Go.RowKit

def bel (n lim : Int) : Bool := decide (0 ≤ n ∧ n < lim)

theorem below_any (n lim : Int) (w : World) :
    Calls Tryd.prog 85 #[.int .i64 n, .int .i64 lim] w fun e w' => e = .returned (.bool (bel n lim)) ∧ w = w' := by
  by_cases h : 0 ≤ n
  · by_cases h2 : n < lim
    · go_enter Tryd.func85, Tryd.ntmps85
      go_wp2
      go_ret
      exact ⟨by simp [bel, h, h2], rfl⟩
    · go_enter Tryd.func85, Tryd.ntmps85
      go_wp2
      go_ret
      exact ⟨by simp [bel, h, h2], rfl⟩
  · go_enter Tryd.func85, Tryd.ntmps85
    go_wp2
    go_ret
    exact ⟨ret_bool (by unfold bel; symm; rw [decide_eq_false_iff_not]; omega), rfl⟩

def chk (k m o g : Int) : Int := if bel k 5 = false then 17 else if bel m 4096 = false then 11 else if bel o 65536 = false then 1 else if bel g 65536 = false then 1 else 0

theorem check_any (k m o g : Int) (w : World) :
    Calls Tryd.prog 75 #[.agg #[.int .i64 k, .int .i64 m, .int .i64 o, .int .i64 g]] w fun e w' => e = .returned (.int .i64 (chk k m o g)) ∧ Below w.heap.size w w' := by
  cases hk : bel k 5
  · go_enter Tryd.func75, Tryd.ntmps75
    go_wp2_with (go_at_call 85; refine (below_any _ _ _).mono ?_; rintro e w' ⟨rfl, rfl⟩)
    go_ret
    exact ⟨by simp [chk, hk], (Below.refl _ _).alloc (Nat.le_refl _) _⟩
  cases hm : bel m 4096
  · go_enter Tryd.func75, Tryd.ntmps75
    go_wp2_with (go_at_call 85; refine (below_any _ _ _).mono ?_; rintro e w' ⟨rfl, rfl⟩)
    go_ret
    exact ⟨by simp [chk, hk, hm], (Below.refl _ _).alloc (Nat.le_refl _) _⟩
  cases ho : bel o 65536
  · go_enter Tryd.func75, Tryd.ntmps75
    go_wp2_with (go_at_call 85; refine (below_any _ _ _).mono ?_; rintro e w' ⟨rfl, rfl⟩)
    go_ret
    exact ⟨by simp [chk, hk, hm, ho], (Below.refl _ _).alloc (Nat.le_refl _) _⟩
  cases hg : bel g 65536
  · go_enter Tryd.func75, Tryd.ntmps75
    go_wp2_with (go_at_call 85; refine (below_any _ _ _).mono ?_; rintro e w' ⟨rfl, rfl⟩)
    go_ret
    exact ⟨by simp [chk, hk, hm, ho, hg], (Below.refl _ _).alloc (Nat.le_refl _) _⟩
  · go_enter Tryd.func75, Tryd.ntmps75
    go_wp2_with (go_at_call 85; refine (below_any _ _ _).mono ?_; rintro e w' ⟨rfl, rfl⟩)
    go_ret
    exact ⟨by simp [chk, hk, hm, ho, hg], (Below.refl _ _).alloc (Nat.le_refl _) _⟩

end Go.Proofs.YticcphppnmoogaaDoor
