/-
  The contract of asm's number.
-/
import Derived.Test.YtigdfkpkogompaaDoorAsA
namespace Go.Proofs.YtigdfkpkogompaaDoor
open Go.RowKit
attribute [local go_sem ↓] Go.wp_at_zero Go.wp_at_succ

theorem decF_snoc (s : List UInt8) (i : Nat) (h : i < s.length) : decF (s.take (i + 1)) = 10 * decF (s.take i) + ((s.getD i 0).toNat - 48) := by
  unfold decF
  rw [List.take_add_one, List.getElem?_eq_getElem h, List.foldl_append, List.getD_eq_getElem?_getD, List.getElem?_eq_getElem h]
  rfl
theorem num_bad {s : List UInt8} (h : numOk s = false) : numF s = (0, false) := by unfold numF; rw [h]; rfl
theorem num_good {s : List UInt8} (h : numOk s = true) : numF s = (decF s, true) := by unfold numF; rw [h]; rfl
theorem numOk_dig {s : List UInt8} {i : Nat} (hi : i < s.length) (h : digB (s.getD i 0) = false) : numOk s = false := by
  unfold numOk
  have : s.all digB = false := by
    rw [List.all_eq_false]
    refine ⟨s.getD i 0, ?_, by rw [h]; simp⟩
    rw [List.getD_eq_getElem?_getD, List.getElem?_eq_getElem hi]
    exact List.getElem_mem hi
  rw [this]; simp
set_option maxHeartbeats 8000000 in
theorem number_any (s : List UInt8) (w : World) (hs : s.length ≤ 1000000) :
    Calls Tryd.prog 60 #[.string (bsS s)] w fun e w' => e = .returned (.tuple #[.int .i64 ((numF s).1 : Nat), .bool (numF s).2]) ∧ w' = w := by
  have hz := bs_size s
  by_cases hl0 : s.length < 1
  · have HR := Sl.mk (num_bad (s := s) (by unfold numOk; rw [decide_eq_false (show ¬ 1 ≤ s.length by omega)]; rfl))
    go_enter Tryd.func60, Tryd.ntmps60
    go_wp2_with fail
    go_ret2
    exact ⟨by rw [HR.out]; rfl, rfl⟩
  · by_cases hl4 : 4 < s.length
    · have HR := Sl.mk (num_bad (s := s) (by unfold numOk; rw [decide_eq_false (show ¬ s.length ≤ 4 by omega)]; simp))
      go_enter Tryd.func60, Tryd.ntmps60
      go_wp2_with fail
      go_ret2
      exact ⟨by rw [HR.out]; rfl, rfl⟩
    · have hlt2 : 0 < (bsS s).size := by rw [hz]; omega
      have HA := Sl.mk (bs_at hlt2)
      obtain ⟨c0, hc0⟩ : ∃ c : Nat, ((bsS s)[0]).toNat = c := ⟨_, rfl⟩
      have hx0 : (s.getD 0 0).toNat = c0 := by rw [← HA.out, hc0]
      have HX0 := Sl.mk hx0
      clear hx0
      by_cases hz0 : c0 = 48 ∧ 1 < s.length
      · obtain ⟨hz1, hz2⟩ := hz0
        have HR := Sl.mk (num_bad (s := s) (by
          have e : s.getD 0 0 = 48 := UInt8.toNat_inj.1 (by rw [HX0.out, hz1]; rfl)
          unfold numOk
          rw [e, decide_eq_true hz2]; simp))
        have hb : ((c0 : Int) == 48) = true := by simp; omega
        go_enter Tryd.func60, Tryd.ntmps60
        go_wp2_with fail
        go_ret2
        exact ⟨by rw [HR.out]; rfl, rfl⟩
      · have HOK := Sl.mk (show s.all digB = true → numOk s = true from fun h => by
          unfold numOk
          rw [h, decide_eq_true (show 1 ≤ s.length by omega), decide_eq_true (show s.length ≤ 4 by omega)]
          by_cases h1 : 1 < s.length
          · have hne : c0 ≠ 48 := fun e => hz0 ⟨e, h1⟩
            have : (s.getD 0 0 == 48) = false := beq_eq_false_iff_ne.2 fun e => hne (by rw [← HX0.out, e]; rfl)
            rw [this]; rfl
          · rw [decide_eq_false h1]; simp)
        have hl4' : s.length ≤ 4 := by omega
        have hnb : ¬ (c0 = 48 ∧ 1 < s.length) := hz0
        clear hz0
        go_enter Tryd.func60, Tryd.ntmps60
        go_upto_region 1 with fail
        go_cut [23] (fun v23 wx => v23 = .bool false ∧ wx = w)
        case first =>
          by_cases h1 : c0 = 48
          · have hb : ((c0 : Int) == 48) = true := by simp; omega
            have h2 : ¬ 1 < s.length := fun h => hnb ⟨h1, h⟩
            clear hnb
            go_wp2_with fail
            go_meet
            exact ⟨by congr 1; simp; omega, rfl⟩
          · have hb : ((c0 : Int) == 48) = false := by simp; omega
            clear hnb
            go_wp2_with fail
            go_meet
            exact ⟨by congr 1; simp; omega, rfl⟩
        case rest =>
          obtain ⟨rfl, hwc⟩ := hcut
          subst hwc
          clear hnb hc0 HX0
          go_wp2_with fail
          go_loopg [4, 26] s.length (fun q v4 v26 wr => ∃ i : Nat, q = s.length - i ∧ i ≤ s.length ∧ v26 = .int .i64 i ∧ v4 = .int .i64 (decF (s.take i) : Nat) ∧ wr = wc ∧ decF (s.take i) < 10 ^ i ∧ Sl (∀ j, j < i → digB (s.getD j 0) = true))
          case atStart => exact ⟨0, rfl, Nat.zero_le _, rfl, rfl, rfl, by simp [decF], ⟨fun j hj => absurd hj (Nat.not_lt_zero _)⟩⟩
          case round =>
            obtain ⟨i, hq, hi, rfl, rfl, hw, hA, HI⟩ := hrel
            by_cases hlt : i < s.length
            · have hlt2 : i < (bsS s).size := by rw [hz]; exact hlt
              have HB := Sl.mk (bs_at hlt2)
              obtain ⟨c, hc⟩ : ∃ c : Nat, ((bsS s)[i]).toNat = c := ⟨_, rfl⟩
              have hx : (s.getD i 0).toNat = c := by rw [← HB.out, hc]
              have HX := Sl.mk hx
              have HS := Sl.mk (decF_snoc s i hlt)
              rw [hx] at HS
              have HDG := Sl.mk (show digB (s.getD i 0) = (decide (48 ≤ c) && decide (c ≤ 57)) by unfold digB; rw [hx])
              have HQ := Sl.mk (show s.length - (i + 1) < gk ∧ i + 1 ≤ s.length by omega)
              obtain ⟨acc, hacc⟩ : ∃ acc, decF (s.take i) = acc := ⟨_, rfl⟩
              have hA3 : acc ≤ 9999 := by
                rw [← hacc]
                have : i ≤ 3 := by omega
                have h10 : 10 ^ i ≤ 10 ^ 3 := Nat.pow_le_pow_right (by decide) this
                have : (10 : Nat) ^ 3 = 1000 := by decide
                omega
              rw [hacc] at HS hA ⊢
              clear hx hq hacc
              by_cases h1 : c < 48
              · have HR := Sl.mk (num_bad (numOk_dig hlt (by rw [HDG.out, decide_eq_false (show ¬ 48 ≤ c by omega)]; rfl)))
                go_wp2_with fail
                go_ret2
                exact ⟨by rw [HR.out]; rfl, by first | rfl | exact hw⟩
              · by_cases h2 : 57 < c
                · have HR := Sl.mk (num_bad (numOk_dig hlt (by rw [HDG.out, decide_eq_false (show ¬ c ≤ 57 by omega)]; simp)))
                  go_wp2_with fail
                  go_ret2
                  exact ⟨by rw [HR.out]; rfl, by first | rfl | exact hw⟩
                · have hd : digB (s.getD i 0) = true := by rw [HDG.out, decide_eq_true (show 48 ≤ c by omega), decide_eq_true (show c ≤ 57 by omega)]; rfl
                  have HI2 := Sl.mk (show ∀ j, j < i + 1 → digB (s.getD j 0) = true from fun j hj => by
                    rcases Nat.lt_succ_iff_lt_or_eq.1 hj with h | rfl
                    · exact HI.out j h
                    · exact hd)
                  have hw1 : IntKind.u8.wrap ((c : Int) - 48) = (c : Int) - 48 := IntWalk.u8_in _ (by omega)
                  have HN := Sl.mk (show decF (s.take (i + 1)) < 10 ^ (i + 1) by rw [HS.out, Nat.pow_succ]; omega)
                  clear hd HI
                  go_wp2_with fail
                  go_roundg (s.length - (i + 1))
                  case measure => exact HQ.out.1
                  case rel => exact ⟨i + 1, rfl, HQ.out.2, by go_num, by rw [HS.out]; congr 1; omega, by first | rfl | exact hw, HN.out, HI2⟩
            · obtain rfl : i = s.length := by omega
              have HR := Sl.mk (num_good (HOK.out (List.all_eq_true.2 fun x hx => by
                obtain ⟨j, hj, rfl⟩ := List.mem_iff_getElem.1 hx
                have := HI.out j hj
                rw [List.getD_eq_getElem?_getD, List.getElem?_eq_getElem hj] at this
                exact this)))
              clear hq
              go_wp2_with fail
              go_ret2
              exact ⟨by rw [HR.out, List.take_length]; rfl, by first | rfl | exact hw⟩
end Go.Proofs.YtigdfkpkogompaaDoor
