/-
  The contracts of package mode's functions over one stat: which bits count, whether somebody may, why it is refused, its number, what is cut.
-/
import Derived.Test.YtheffimpadccaaaDoorModeA
import Derived.Test.YtheffimpadccaaaDoorWords
namespace Go.Proofs.YtheffimpadccaaaDoor
open Go.RowKit

theorem i64_wraps (j : Nat) (hj : j ≤ 60) (n : Int) (h0 : 0 ≤ n) (h1 : n < 2 ^ j) : IntKind.i64.wrap n = n := by
  have : (2 : Int) ^ j ≤ 2 ^ 60 := by exact_mod_cast Nat.pow_le_pow_right (by decide) hj
  have h60 : (2 : Int) ^ 60 = 1152921504606846976 := by decide
  rw [IntKind.wrap_i64]; omega
theorem i64_and7 (x : Int) (h0 : 0 ≤ x) (h1 : x < 4096) : bits .and .i64 x 7 = x % 8 :=
  bits_mask .i64 12 (by decide) (i64_wraps 12 (by decide)) 3 (by decide) x h0 h1

def bts (m o g who grp : Int) : Int := if who = 0 then 7 else if who = o then m / 64 % 8 else if grp = g then m / 8 % 8 else m % 8

theorem bits_any (k m o g who grp : Int) (w : World) (h0 : 0 ≤ m) (h1 : m < 4096) :
    Calls Tryd.prog 16 #[.agg #[.int .i64 k, .int .i64 m, .int .i64 o, .int .i64 g], .int .i64 who, .int .i64 grp] w fun e w' => e = .returned (.int .i64 (bts m o g who grp)) ∧ Below w.heap.size w w' := by
  have e1 := i64_and7 (m / 64) (by omega) (by omega)
  have e2 := i64_and7 (m / 8) (by omega) (by omega)
  have e3 := i64_and7 m (by omega) (by omega)
  by_cases hw : who = 0
  · subst hw
    go_enter Tryd.func16, Tryd.ntmps16
    go_wp2
    go_ret
    exact ⟨by simp [bts], (Below.refl _ _).alloc (Nat.le_refl _) _⟩
  have hw' : (who == 0) = false := by simpa using hw
  by_cases ho : who = o
  · subst ho
    go_enter Tryd.func16, Tryd.ntmps16
    go_wp2
    go_ret
    exact ⟨by simp [bts, hw], (Below.refl _ _).alloc (Nat.le_refl _) _⟩
  have ho' : (who == o) = false := by simpa using ho
  by_cases hg : grp = g
  · subst hg
    go_enter Tryd.func16, Tryd.ntmps16
    go_wp2
    go_ret
    exact ⟨by simp [bts, hw, ho], (Below.refl _ _).alloc (Nat.le_refl _) _⟩
  have hg' : (grp == g) = false := by simpa using hg
  go_enter Tryd.func16, Tryd.ntmps16
  go_wp2
  go_ret
  exact ⟨by simp [bts, hw, ho, hg], (Below.refl _ _).alloc (Nat.le_refl _) _⟩

end Go.Proofs.YtheffimpadccaaaDoor
