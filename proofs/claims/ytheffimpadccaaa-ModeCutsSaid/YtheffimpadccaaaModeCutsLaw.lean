/-
  The walk of the law ModeCuts.
-/
import Derived.Test.YtheffimpadccaaaModeK
import Derived.Test.YtheffimpadccaaaModeCut
import Derived.Test.YtheffimpadccaaaModeRef
import Derived.Test.YtheffimpadccaaaWordsB
namespace Go.Proofs.Ytheffimpadccaaa
open Go.RowKit

def goneB (l : List Int) (bt : Int) : Bool := l.any (fun d => andB d bt)

theorem gone_step {l : List Int} {i : Nat} {x bt : Int} (hx : l[i]? = some x) : goneB (l.take (i + 1)) bt = (goneB (l.take i) bt || andB x bt) := by
  rw [List.take_add_one, hx]; simp [goneB]
theorem pow_le {bt : Int} (h : ∃ j : Nat, j < 12 ∧ bt = 2 ^ j) : bt ≤ 2048 := by
  obtain ⟨j, hj, rfl⟩ := h
  have h1 : (2 : Nat) ^ j ≤ 2 ^ 11 := Nat.pow_le_pow_right (by decide) (by omega)
  have h2 : ((2 ^ j : Nat) : Int) ≤ ((2 ^ 11 : Nat) : Int) := Int.ofNat_le.2 h1
  rw [Int.natCast_pow] at h2
  exact h2
theorem pow_step {bt : Int} (h : ∃ j : Nat, j < 12 ∧ bt = 2 ^ j) : ∃ j : Nat, j ≤ 12 ∧ 2 * bt = 2 ^ j := by
  obtain ⟨j, hj, rfl⟩ := h
  exact ⟨j + 1, by omega, by rw [Int.pow_succ, Int.mul_comm]⟩
theorem below_lt {n : Int} (h0 : 0 ≤ n) (h1 : n ≤ 4095) : bel n 4096 = true := by unfold bel; rw [decide_eq_true_eq]; omega

set_option maxHeartbeats 2000000 in
theorem cuts_no (n : Int) (l : List Int) (A : Option Addr) (b0 len c : Nat) (w : World) (h : n < 0 ∨ 4095 < n) (hR : Reads w w.heap.size 1 A len (l.map (Value.int .i64)))
    (hlen : (b0 ≤ 10 ∧ len = b0) ∨ (10 < b0 ∧ len = 10)) (hb0 : b0 ≤ 9223372036854775807) (hbc : b0 ≤ c) :
    Calls Try.prog 6 #[.int .i64 n, .slice A b0 c] w fun e w' => e = .returned (.bool true) ∧ Below w.heap.size w w' := by
  have hb : bel n 4096 = false := by unfold bel; rw [decide_eq_false_iff_not]; omega
  have h0 : cutN n l = 0 := by unfold cutN; rw [hb]; rfl
  clear hb
  go_enter Try.func6, Try.ntmps6
  go_upto_region 1 with fail
  go_cut [1] (fun s1 wx => s1 = .slice A len c ∧ wx = w)
  case first =>
    clear h0 hR
    rcases hlen with ⟨h1, rfl⟩ | ⟨h1, rfl⟩
    all_goals
      go_wp2
      go_meet
      exact ⟨rfl, rfl⟩
  case rest =>
    obtain ⟨rfl, rfl⟩ := hcut
    have hl10 : len ≤ 9223372036854775807 := by omega
    clear hlen hbc
    go_wp2_with (first | (go_at_call 19; refine (cut_any n l A len c _ _ hR hl10).mono ?_; rintro e w1 ⟨rfl, rfl⟩) | (go_at_call 9; refine (known_any _).mono ?_; rintro e w2 ⟨rfl, hb⟩))
    all_goals go_ret
    all_goals exact ⟨rfl, hb⟩

set_option maxHeartbeats 4000000 in
theorem cuts_yes (n : Int) (l : List Int) (A : Option Addr) (b0 len c : Nat) (w : World) (h0 : 0 ≤ n) (h1 : n ≤ 4095) (hR : Reads w w.heap.size 1 A len (l.map (Value.int .i64)))
    (hlen : (b0 ≤ 10 ∧ len = b0) ∨ (10 < b0 ∧ len = 10)) (hb0 : b0 ≤ 9223372036854775807) (hbc : b0 ≤ c)
    (hplain : ∀ j : Nat, j < 12 → andB (cutN n l) (2 ^ j) = (andB n (2 ^ j) && !goneB l (2 ^ j))) (hcr : 0 ≤ cutN n l ∧ cutN n l < 4096) (hsafe : refu 0 (cutN n [3072, 18]) 0 0 = 0) :
    Calls Try.prog 6 #[.int .i64 n, .slice A b0 c] w fun e w' => e = .returned (.bool true) ∧ Below w.heap.size w w' := by
  have hb := below_lt h0 h1
  have d1 : decide (n < 0) = false := by simp; omega
  have d2 : decide (4095 < n) = false := by simp; omega
  have d3 : decide (cutN n l < 0) = false := by simp; omega
  obtain ⟨r1, r2⟩ := hcr
  have hsafe' : (refu 0 (cutN n [3072, 18]) 0 0 == 0) = true := by rw [hsafe]; rfl
  have HP := hide hplain
  have hl : l.length = len := by simpa using hR.1
  have HL := hide hl
  clear hplain hb hsafe hl
  go_enter Try.func6, Try.ntmps6
  go_upto_region 1 with fail
  go_cut [1] (fun s1 wx => s1 = .slice A len c ∧ wx = w)
  case first =>
    clear hR
    rcases hlen with ⟨h1, rfl⟩ | ⟨h1, rfl⟩
    all_goals
      go_wp2
      go_meet
      exact ⟨rfl, rfl⟩
  case rest =>
    obtain ⟨rfl, rfl⟩ := hcut
    have hl10 : len ≤ 10 := by omega
    have hlc : len ≤ c := by omega
    clear hlen hbc hb0
    go_wp2_with (first | (go_at_call 19; refine (cut_any n l A len c _ _ hR (by omega)).mono ?_; rintro e w1 ⟨rfl, rfl⟩))
    go_loop [6] (fun s6 => ∃ bt : Int, 1 ≤ bt ∧ bt ≤ 4096 ∧ Hid (∃ j : Nat, j ≤ 12 ∧ bt = 2 ^ j) ∧ s6 = .int .i64 bt) (fun s6 => (4096 - intOf s6).toNat)
    case atStart => exact ⟨1, by omega, by omega, ⟨0, by omega, rfl⟩, rfl⟩
    case round =>
      obtain ⟨bt, hb1, hb2, hbj, rfl⟩ := hrel
      by_cases hlt : bt < 4096
      · have hbj2 : Hid (∃ j : Nat, j < 12 ∧ bt = 2 ^ j) := by
          obtain ⟨j, hj, rfl⟩ := hbj.out
          refine ⟨j, ?_, rfl⟩
          rcases Nat.lt_or_ge j 12 with h | h
          · exact h
          · obtain rfl : j = 12 := by omega
            exact absurd hlt (by decide)
        have hb3 : bt ≤ 2048 := pow_le hbj2.out
        clear hbj
        go_wp2
        go_loop [7, 8] (fun s7 s8 => ∃ i : Nat, i ≤ len ∧ s8 = .int .i64 i ∧ s7 = .bool (goneB (l.take i) bt)) (fun _ s8 => len - (intOf s8).toNat)
        case atStart => exact ⟨0, Nat.zero_le _, rfl, rfl⟩
        case round =>
          obtain ⟨i, hi, rfl, rfl⟩ := hrel
          by_cases hil : i < len
          · obtain ⟨x, hx⟩ : ∃ x, l[i]? = some x := ⟨_, List.getElem?_eq_getElem (by rw [HL.out]; exact hil)⟩
            obtain ⟨ad, u, rfl, -, hu, hcx⟩ := hR.at_ hil
            obtain rfl : u = .int .i64 x := by rw [List.getElem?_map, hx] at hu; simpa using hu.symm
            have HX := hide hx
            clear hx hu hR
            cases eg : goneB (l.take i) bt
            all_goals
              go_wp2
              go_round
              case rel => exact ⟨i + 1, by omega, by go_num, by rw [gone_step (unhide HX), eg]; rfl⟩
              case measure => simp [intOf]; omega
          · obtain rfl : i = len := by omega
            have ht : l.take i = l := List.take_of_length_le (by rw [HL.out]; omega)
            rw [ht]
            have HT := hide ht
            clear ht hil hi hR
            have q : andB (cutN n l) bt = (andB n bt && !goneB l bt) := by
              obtain ⟨j, hj, rfl⟩ := hbj2.out
              exact HP.out j hj
            unfold andB at q
            cases e1 : (bits .and .i64 n bt != 0)
            all_goals
              cases e2 : goneB l bt
              all_goals
                rw [e1, e2] at q
                simp only [Bool.not_true, Bool.not_false, Bool.and_true, Bool.and_false] at q
                go_wp2
                go_round
                case rel => exact ⟨2 * bt, by omega, by omega, pow_step hbj2.out, rfl⟩
                case measure => simp [intOf]; omega
      · obtain rfl : bt = 4096 := by omega
        clear hbj hb1 hb2 hR HL
        go_wp2_with fail
        refine (known_any _).mono ?_
        rintro e w2 ⟨rfl, hk⟩
        have hs := hk.size
        go_wp2_with fail
        refine (cut_any n [3072, 18] _ 2 2 _ _ (reads_new2 _ _ _ _ (Nat.lt_succ_self _)) (by omega)).mono ?_
        rintro e w3 ⟨rfl, rfl⟩
        go_wp2_with fail
        refine (safe_any _ _ _ _ _).mono ?_
        rintro e w4 ⟨rfl, hb⟩
        go_wp2_with fail
        go_ret
        exact ⟨rfl, below_tr (below_al hk _) hb⟩

end Go.Proofs.Ytheffimpadccaaa
