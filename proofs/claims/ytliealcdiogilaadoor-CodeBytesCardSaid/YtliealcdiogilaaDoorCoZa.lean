/-
  What is still to be read of bytes: the contracts of take and one, where there is enough.
  What is still to be read of bytes: the contract of one.
-/
import Derived.Test.YtliealcdiogilaaDoorCoY
namespace Go.Proofs.YtliealcdiogilaaDoor
open Go.RowKit
attribute [local go_sem ↓] Go.wp_at_zero Go.wp_at_succ

theorem reads_anyA {w : World} {B size : Nat} {A : Option Addr} : Reads w B size A 0 [] := ⟨by simp, fun h => absurd h (by omega)⟩
/-- The reader's block, and what is left of its bytes. -/
structure Rst (w : World) (B rb : Nat) (R : List Nat) : Prop where
  blk : ∃ A c, Blk w rb 78 #[.slice A R.length c, .bool false] ∧ Reads w B 1 A R.length (u8s R) ∧ R.length ≤ c ∧ c ≤ 9223372036854775807
  le : B ≤ rb
theorem Rst.be {w w' : World} {B rb : Nat} {R : List Nat} (h : Rst w B rb R) (hb : Below w.heap.size w w') : Rst w' B rb R := by
  obtain ⟨A, c, h1, h2, h3⟩ := h.blk
  have := h1.lt
  have := h.le
  exact ⟨⟨A, c, h1.be hb, h2.below (hb.mono (by omega)), h3⟩, h.le⟩
theorem Rst.lt {w : World} {B rb : Nat} {R : List Nat} (h : Rst w B rb R) : rb < w.heap.size := by
  obtain ⟨A, c, h1, h2, h3⟩ := h.blk
  exact h1.lt
def TkPost (w : World) (B rb k : Nat) (R : List Nat) (e : Ending) (w' : World) : Prop :=
  ∃ A' c', e = .returned (.slice A' k c') ∧ Reads w' B 1 A' k (u8s (R.take k)) ∧ Rst w' B rb (R.drop k) ∧ w.grownBy w' (some rb) ∧ w'.heap.size = w.heap.size
set_option maxRecDepth 100000 in
set_option maxHeartbeats 4000000 in
theorem take_ok (B rb k : Nat) (R : List Nat) (w : World) (hk : k ≤ R.length) (h : Rst w B rb R) :
    Calls Tryd.prog 51 #[.pointer (some ⟨rb, 0, none⟩), .int .i64 k] w (TkPost w B rb k R) := by
  obtain ⟨⟨A, c, hB, hR, hbc, hc⟩, hBR⟩ := h
  have c0 := hB.cell 0
  have f0 := hB.frozen 0
  obtain ⟨L, hL⟩ : ∃ L, R.length = L := ⟨_, rfl⟩
  rw [hL] at hB hR hbc c0 hk
  have hgt : ¬ (L : Int) < (k : Int) := by omega
  have HB := Sl.mk hB
  have HR := Sl.mk hR
  have HL := Sl.mk hL
  have hkc : k ≤ c := by omega
  have hTk : Sl (Reads w B 1 A k (u8s (R.take k))) := Sl.mk (by
    have := reads_take hR (k := k) (by omega)
    simpa [u8s, List.map_take] using this)
  have hdl : (R.drop k).length = L - k := by rw [List.length_drop, hL]
  have HDL := Sl.mk hdl
  clear hL hB hR hdl
  by_cases hcn : c = k
  · subst hcn
    go_enter Tryd.func51, Tryd.ntmps51
    go_wp2_with fail
    go_ret
    have hb0 : R.drop c = [] := List.drop_eq_nil_of_le (by rw [HL.out]; omega)
    refine ⟨_, _, rfl, hTk.out.setCell hBR _, ?_, only_setCell (only_refl w (some rb)) 0 _, by simp⟩
    rw [hb0]
    refine ⟨⟨A, 0, ?_, reads_anyA, Nat.le_refl _, by omega⟩, hBR⟩
    have := HB.out.set_ 0 (.slice A (L - c) 0)
    have e : L - c = 0 := by omega
    rw [e] at this
    simpa [e] using this
  · have HRc := Sl.mk (HR.out.cut (k := k) (cap := c) (by omega) (by omega))
    go_enter Tryd.func51, Tryd.ntmps51
    go_wp2_with fail
    go_ret
    refine ⟨_, _, rfl, hTk.out.setCell hBR _, ?_, only_setCell (only_refl w (some rb)) 0 _, by simp⟩
    have hr := HRc.out
    rw [if_neg hcn] at hr
    have hr2 : Reads w B 1 (A.map (·.add k)) (L - k) (u8s (R.drop k)) := by simpa [u8s, List.map_drop] using hr
    refine ⟨⟨A.map (·.add k), c - k, ?_, ?_, ?_, ?_⟩, hBR⟩
    · rw [HDL.out]; exact HB.out.set_ 0 _
    · rw [HDL.out]; exact hr2.setCell hBR _
    · rw [HDL.out]; omega
    · omega
end Go.Proofs.YtliealcdiogilaaDoor

namespace Go.Proofs.YtliealcdiogilaaDoor
open Go.RowKit
attribute [local go_sem ↓] Go.wp_at_zero Go.wp_at_succ

def OnePost (w : World) (B rb x : Nat) (R : List Nat) (e : Ending) (w' : World) : Prop :=
  e = .returned (.int .i64 x) ∧ Rst w' B rb R ∧ w.grownBy w' (some rb) ∧ w'.heap.size = w.heap.size
set_option maxRecDepth 100000 in
set_option maxHeartbeats 4000000 in
theorem one_ok (B rb x : Nat) (R : List Nat) (w : World) (hx : x < 256) (h : Rst w B rb (x :: R)) :
    Calls Tryd.prog 33 #[.pointer (some ⟨rb, 0, none⟩)] w (OnePost w B rb x R) := by
  have HT := Sl.mk (take_ok B rb 1 (x :: R) w (by simp) h)
  clear h
  go_enter Tryd.func33, Tryd.ntmps33
  go_wp2_with fail
  refine HT.out.mono ?_
  rintro e w1 ⟨A', c', rfl, hR1, hS1, hG1, hz1⟩
  obtain ⟨ad, u, hA, hlt, hu, hc⟩ := hR1.at_ (k := 0) (by omega)
  subst hA
  have hu2 : u = .int .u8 x := by simpa [u8s] using hu.symm
  subst hu2
  have had : ad.add 0 = ad := by simp [Addr.add]
  rw [had] at hc
  have wx : IntKind.i64.wrap (x : Int) = x := by rw [IntKind.wrap_i64]; omega
  have HS1 := Sl.mk hS1
  have HG1 := Sl.mk hG1
  have HR1 := Sl.mk hR1
  have HZ1 := Sl.mk hz1
  clear hu hS1 hG1 hR1 HT hz1
  go_wp2_with fail
  go_ret
  exact ⟨rfl, by simpa using HS1.out, HG1.out, HZ1.out⟩
end Go.Proofs.YtliealcdiogilaaDoor
