/-
  The contract of the reference's Behind.
-/
import Derived.Test.YtliealcdiogilaaDoorCoD
namespace Go.Proofs.YtliealcdiogilaaDoor
open Go.RowKit
attribute [local go_sem ↓] Go.wp_at_zero Go.wp_at_succ

theorem bs_at {l : List UInt8} {i : Nat} (h : i < (bsS l).size) : (bsS l)[i] = l.getD i 0 := by
  have h2 : i < l.length := by rw [bs_size] at h; exact h
  show l.toArray[i] = _
  simp [h2]
theorem u8_beq (a b : UInt8) : ((a.toNat : Int) == (b.toNat : Int)) = (a == b) := by
  rw [Bool.eq_iff_iff, beq_iff_eq, beq_iff_eq]
  exact ⟨fun h => UInt8.toNat_inj.1 (by omega), fun h => by rw [h]⟩
theorem all_nt {s : List UInt8} (h : ∀ j, j < s.length → ntB (s.getD j 0) = true) : s.all ntB = true := by
  rw [List.all_eq_true]
  intro x hx
  obtain ⟨j, hj, rfl⟩ := List.mem_iff_getElem.1 hx
  have := h j hj
  rwa [List.getD_eq_getElem?_getD, List.getElem?_eq_getElem hj] at this
set_option maxHeartbeats 4000000 in
theorem rbeh_wrong (s : List UInt8) (op : Int) (w : World) (hs : s.length ≤ 1000000) (hb : rightS s = false ∨ ¬ (0 ≤ op ∧ op ≤ 21)) :
    Calls Tryd.prog 8 #[.string (bsS s), .int .i64 op] w fun e w' => e = .returned (.tuple #[.string (bsS (behF s op).1), .int .i64 (behF s op).2]) ∧ ∃ k, w' = w.drewN k := by
  have HF := Sl.mk (show behF s op = ([], 1) by unfold behF; rw [if_pos hb])
  have HB := Sl.mk hb
  have hz := bs_size s
  clear hb
  go_enter Tryd.func8, Tryd.ntmps8
  go_wp2_with fail
  go_loopw [6] (fun s6 wr => ∃ i q : Nat, i ≤ s.length ∧ s6 = .int .i64 i ∧ wr = w.drewN q ∧ Sl (∀ j, j < i → ntB (s.getD j 0) = true)) (fun s6 _ => s.length - (intOf s6).toNat)
  case atStart => exact ⟨0, 0, Nat.zero_le _, rfl, rfl, ⟨fun j hj => absurd hj (Nat.not_lt_zero _)⟩⟩
  case round =>
    obtain ⟨i, q, hi, rfl, rfl, HI⟩ := hrel
    by_cases hlt : i < s.length
    · have hlt2 : i < (bsS s).size := by rw [hz]; exact hlt
      have HA := Sl.mk (bs_at hlt2)
      have hc0 : ((((bsS s)[i]).toNat : Int) != 110) = !(s.getD i 0 == 110) := by rw [HA.out]; exact congrArg not (u8_beq _ 110)
      have hc1 : ((((bsS s)[i]).toNat : Int) != 116) = !(s.getD i 0 == 116) := by rw [HA.out]; exact congrArg not (u8_beq _ 116)
      cases h0 : (s.getD i 0 == 110)
      · cases h1 : (s.getD i 0 == 116)
        · rw [h0, Bool.not_false] at hc0
          rw [h1, Bool.not_false] at hc1
          clear h0 h1
          go_wp2_with fail
          go_ret2
          exact ⟨by rw [HF.out]; rfl, q, rfl⟩
        · have HN := Sl.mk (show ntB (s.getD i 0) = true by unfold ntB; rw [h1]; simp)
          rw [h0, Bool.not_false] at hc0
          rw [h1, Bool.not_true] at hc1
          clear h0 h1
          go_wp2_with fail
          go_roundw
          case rel => exact ⟨i + 1, q, by omega, by go_num, rfl, ⟨fun j hj => by rcases Nat.lt_succ_iff_lt_or_eq.1 hj with h | rfl; exact HI.out j h; exact HN.out⟩⟩
          case measure => simp [intOf]; omega
      · have HN := Sl.mk (show ntB (s.getD i 0) = true by unfold ntB; rw [h0]; simp)
        rw [h0, Bool.not_true] at hc0
        clear h0 hc1
        go_wp2_with fail
        go_roundw
        case rel => exact ⟨i + 1, q, by omega, by go_num, rfl, ⟨fun j hj => by rcases Nat.lt_succ_iff_lt_or_eq.1 hj with h | rfl; exact HI.out j h; exact HN.out⟩⟩
        case measure => simp [intOf]; omega
    · obtain rfl : i = s.length := by omega
      have HA := Sl.mk (all_nt HI.out)
      by_cases h16 : 16 < s.length
      · go_wp2_with fail
        go_ret2
        exact ⟨by rw [HF.out]; rfl, q, rfl⟩
      · have hr : rightS s = true := by unfold rightS; rw [HA.out, decide_eq_true (by omega)]; rfl
        have ho : ¬ (0 ≤ op ∧ op ≤ 21) := by
          rcases HB.out with h | h
          · rw [hr] at h; cases h
          · exact h
        clear hr
        by_cases h0 : op < 0
        · have hd : decide (op < 0) = true := decide_eq_true h0
          go_wp2_with fail
          go_ret2
          exact ⟨by rw [HF.out]; rfl, q, rfl⟩
        · have hd : decide (op < 0) = false := decide_eq_false h0
          have h21 : 21 < op := by omega
          go_wp2_with fail
          go_ret2
          exact ⟨by rw [HF.out]; rfl, q, rfl⟩
end Go.Proofs.YtliealcdiogilaaDoor
