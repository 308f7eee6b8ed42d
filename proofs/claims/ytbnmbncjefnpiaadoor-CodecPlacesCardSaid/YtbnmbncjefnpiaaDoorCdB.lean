/-
  The contracts of codec: kind, depth, check.
-/
import Derived.Test.YtbnmbncjefnpiaaDoorCdA
namespace Go.Proofs.YtbnmbncjefnpiaaDoor
open Go.RowKit
attribute [local go_sem ↓] Go.wp_at_zero Go.wp_at_succ

def vZ (k n : Int) (pb : Option Addr) (bl cb : Nat) (pl : Option Addr) (ll cl : Nat) : Array Value := #[.int .i64 k, .int .i64 n, .slice pb bl cb, .slice pl ll cl]
theorem isEmpty_len {α : Type} (l : List α) : l.isEmpty = decide (l.length = 0) := by cases l <;> rfl
def kindN (k n : Int) (bl ll : Nat) : Bool :=
  if k = 0 then decide (bl = 0) && decide (ll = 0) else if k = 1 then decide (n = 0) && decide (ll = 0) else if k = 2 then decide (n = 0) && decide (bl = 0) else false
theorem kindN_eq (k n : Int) (b : List Nat) (l : List Vc) : kindB k n b l = kindN k n b.length l.length := by
  unfold kindB kindN
  rw [isEmpty_len, isEmpty_len]
  have : (n == 0) = decide (n = 0) := by by_cases h : n = 0 <;> simp [h]
  rw [this]

set_option maxHeartbeats 1000000 in
theorem kind_any (k n : Int) (pb : Option Addr) (bl cb : Nat) (pl : Option Addr) (ll cl : Nat) (w : World) (hb : bl ≤ 1000000) (hl : ll ≤ 1000000) :
    Calls Tryd.prog 30 #[.agg #[.int .i64 k, .int .i64 n, .slice pb bl cb, .slice pl ll cl]] w fun e w' => e = .returned (.bool (kindN k n bl ll)) ∧ Below w.heap.size w w' := by
  have hE := below_al (Below.refl w.heap.size w) (.cells #[.int .i64 k, .int .i64 n, .slice pb bl cb, .slice pl ll cl] 26)
  have hC : Blk (w.alloc (.cells #[.int .i64 k, .int .i64 n, .slice pb bl cb, .slice pl ll cl] 26)) w.heap.size 26 #[.int .i64 k, .int .i64 n, .slice pb bl cb, .slice pl ll cl] := Blk.new _ _ _
  have h0 : ∀ W, Below (w.heap.size + 1) (w.alloc (.cells #[.int .i64 k, .int .i64 n, .slice pb bl cb, .slice pl ll cl] 26)) W → True := fun _ _ => trivial
  clear h0
  have c0 := hC.cell 0
  have c1 := hC.cell 1
  have c2 := hC.cell 2
  have c3 := hC.cell 3
  clear hC
  by_cases k0 : k = 0
  · subst k0
    have hK : kindN 0 n bl ll = (decide (bl = 0) && decide (ll = 0)) := by unfold kindN; rw [if_pos rfl]
    rw [hK]
    clear hK
    by_cases hb0 : bl = 0
    · subst hb0
      by_cases hl0 : ll = 0
      · subst hl0
        go_enter Tryd.func30, Tryd.ntmps30
        go_wp2_with fail
        go_ret
        exact ⟨by simp [*], hE⟩
      · go_enter Tryd.func30, Tryd.ntmps30
        go_wp2_with fail
        go_ret
        exact ⟨by simp [*], hE⟩
    · go_enter Tryd.func30, Tryd.ntmps30
      go_wp2_with fail
      go_ret
      exact ⟨by simp [*], hE⟩
  · by_cases k1 : k = 1
    · subst k1
      have hK : kindN 1 n bl ll = (decide (n = 0) && decide (ll = 0)) := by unfold kindN; rw [if_neg k0, if_pos rfl]
      rw [hK]
      clear hK
      by_cases hb0 : n = 0
      · subst hb0
        by_cases hl0 : ll = 0
        · subst hl0
          go_enter Tryd.func30, Tryd.ntmps30
          go_wp2_with fail
          go_ret
          exact ⟨by simp [*], hE⟩
        · go_enter Tryd.func30, Tryd.ntmps30
          go_wp2_with fail
          go_ret
          exact ⟨by simp [*], hE⟩
      · go_enter Tryd.func30, Tryd.ntmps30
        go_wp2_with fail
        go_ret
        exact ⟨by simp [*], hE⟩
    · by_cases k2 : k = 2
      · subst k2
        have hK : kindN 2 n bl ll = (decide (n = 0) && decide (bl = 0)) := by unfold kindN; rw [if_neg k0, if_neg k1, if_pos rfl]
        rw [hK]
        clear hK
        by_cases hb0 : n = 0
        · subst hb0
          by_cases hl0 : bl = 0
          · subst hl0
            go_enter Tryd.func30, Tryd.ntmps30
            go_wp2_with fail
            go_ret
            exact ⟨by simp [*], hE⟩
          · go_enter Tryd.func30, Tryd.ntmps30
            go_wp2_with fail
            go_ret
            exact ⟨by simp [*], hE⟩
        · go_enter Tryd.func30, Tryd.ntmps30
          go_wp2_with fail
          go_ret
          exact ⟨by simp [*], hE⟩
      · have hK : kindN k n bl ll = false := by unfold kindN; rw [if_neg k0, if_neg k1, if_neg k2]
        rw [hK]
        clear hK
        go_enter Tryd.func30, Tryd.ntmps30
        go_wp2_with fail
        go_ret
        exact ⟨by simp [*], hE⟩

end Go.Proofs.YtbnmbncjefnpiaaDoor
