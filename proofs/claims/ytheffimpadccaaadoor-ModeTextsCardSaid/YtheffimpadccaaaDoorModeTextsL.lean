/-
  The walk of the law ModeTexts.
-/
import Derived.Test.YtheffimpadccaaaDoorModeWord
import Derived.Test.YtheffimpadccaaaDoorWordsD
namespace Go.Proofs.YtheffimpadccaaaDoor
open Go.RowKit

theorem of_nat8 {x : Nat} (h : x < 256) : (UInt8.ofNat x).toNat = x := by
  rw [UInt8.toNat_ofNat']; exact Nat.mod_eq_of_lt h
theorem sg_app (a b c d : Nat) : sg a ++ sg b ++ sg c ++ sg d = ⟨#[UInt8.ofNat (48 + a), UInt8.ofNat (48 + b), UInt8.ofNat (48 + c), UInt8.ofNat (48 + d)]⟩ := by
  apply ByteArray.ext
  unfold sg
  rw [ByteArray.data_append, ByteArray.data_append, ByteArray.data_append]
  rfl
theorem tex_lit (n : Int) (h0 : 0 ≤ n) (h1 : n < 4096) : ∃ a b c d : Nat, a < 8 ∧ b < 8 ∧ c < 8 ∧ d < 8 ∧ n = (((a : Int) * 8 + b) * 8 + c) * 8 + d ∧ texN n = ⟨#[UInt8.ofNat (48 + a), UInt8.ofNat (48 + b), UInt8.ofNat (48 + c), UInt8.ofNat (48 + d)]⟩ := by
  obtain ⟨a, ha, ha8⟩ : ∃ a : Nat, n / 512 % 8 = a ∧ a < 8 := ⟨(n / 512 % 8).toNat, by omega, by omega⟩
  obtain ⟨b, hb, hb8⟩ : ∃ a : Nat, n / 64 % 8 = a ∧ a < 8 := ⟨(n / 64 % 8).toNat, by omega, by omega⟩
  obtain ⟨c, hc, hc8⟩ : ∃ a : Nat, n / 8 % 8 = a ∧ a < 8 := ⟨(n / 8 % 8).toNat, by omega, by omega⟩
  obtain ⟨d, hd, hd8⟩ : ∃ a : Nat, n % 8 = a ∧ a < 8 := ⟨(n % 8).toNat, by omega, by omega⟩
  refine ⟨a, b, c, d, ha8, hb8, hc8, hd8, by omega, ?_⟩
  have e : texN n = _ := if_pos ⟨h0, h1⟩
  rw [e, ha, hb, hc, hd, str4, sg_app]
theorem parse_lit (a b c d : Nat) (w : World) (ha : a < 8) (hb : b < 8) (hc : c < 8) (hd : d < 8) :
    Calls Tryd.prog 5 #[.string ⟨#[UInt8.ofNat (48 + a), UInt8.ofNat (48 + b), UInt8.ofNat (48 + c), UInt8.ofNat (48 + d)]⟩] w fun e w' => e = .returned (.tuple #[.int .i64 ((((a : Int) * 8 + b) * 8 + c) * 8 + d), .int .i64 0]) ∧ Below w.heap.size w w' := by
  have e0 : (UInt8.ofNat (48 + a)).toNat = 48 + a := of_nat8 (by omega)
  have e1 : (UInt8.ofNat (48 + b)).toNat = 48 + b := of_nat8 (by omega)
  have e2 : (UInt8.ofNat (48 + c)).toNat = 48 + c := of_nat8 (by omega)
  have e3 : (UInt8.ofNat (48 + d)).toNat = 48 + d := of_nat8 (by omega)
  have h := parse_good ⟨#[UInt8.ofNat (48 + a), UInt8.ofNat (48 + b), UInt8.ofNat (48 + c), UInt8.ofNat (48 + d)]⟩ w rfl
    (show (48 : Int) ≤ ((UInt8.ofNat (48 + a)).toNat : Int) by omega) (show ((UInt8.ofNat (48 + a)).toNat : Int) ≤ 55 by omega)
    (show (48 : Int) ≤ ((UInt8.ofNat (48 + b)).toNat : Int) by omega) (show ((UInt8.ofNat (48 + b)).toNat : Int) ≤ 55 by omega)
    (show (48 : Int) ≤ ((UInt8.ofNat (48 + c)).toNat : Int) by omega) (show ((UInt8.ofNat (48 + c)).toNat : Int) ≤ 55 by omega)
    (show (48 : Int) ≤ ((UInt8.ofNat (48 + d)).toNat : Int) by omega) (show ((UInt8.ofNat (48 + d)).toNat : Int) ≤ 55 by omega)
  have hv : valS (UInt8.ofNat (48 + a)).toNat (UInt8.ofNat (48 + b)).toNat (UInt8.ofNat (48 + c)).toNat (UInt8.ofNat (48 + d)).toNat = (((a : Int) * 8 + b) * 8 + c) * 8 + d := by
    rw [e0, e1, e2, e3]; unfold valS; omega
  have h2 : Calls Tryd.prog 5 #[.string ⟨#[UInt8.ofNat (48 + a), UInt8.ofNat (48 + b), UInt8.ofNat (48 + c), UInt8.ofNat (48 + d)]⟩] w fun e w' => e = .returned (.tuple #[.int .i64 (valS (UInt8.ofNat (48 + a)).toNat (UInt8.ofNat (48 + b)).toNat (UInt8.ofNat (48 + c)).toNat (UInt8.ofNat (48 + d)).toNat), .int .i64 0]) ∧ Below w.heap.size w w' := h
  rw [hv] at h2
  exact h2
theorem parse_empty (w : World) : Calls Tryd.prog 5 #[.string ⟨#[]⟩] w fun e w' => e = .returned (.tuple #[.int .i64 0, .int .i64 3]) ∧ Below w.heap.size w w' := parse_bad0 ⟨#[]⟩ w (by decide)
theorem four_of {s : ByteArray} (h : s.size = 4) : s = ⟨#[s[0], s[1], s[2], s[3]]⟩ := by
  obtain ⟨⟨l⟩⟩ := s
  match l, h with
  | [a, b, c, d], _ => rfl
theorem parse_law (s : ByteArray) (w : World) :
    Calls Tryd.prog 5 #[.string s] w fun e w' => ∃ m E : Int, e = .returned (.tuple #[.int .i64 m, .int .i64 E]) ∧ Below w.heap.size w w' ∧ ((E = 0 ∧ texN m = s) ∨ (E = 3 ∧ m = 0)) := by
  by_cases hs : s.size = 4
  · by_cases h : (48 ≤ s[0].toNat ∧ s[0].toNat ≤ 55) ∧ (48 ≤ s[1].toNat ∧ s[1].toNat ≤ 55) ∧ (48 ≤ s[2].toNat ∧ s[2].toNat ≤ 55) ∧ (48 ≤ s[3].toNat ∧ s[3].toNat ≤ 55)
    · obtain ⟨⟨a0, a1⟩, ⟨b0, b1⟩, ⟨c0, c1⟩, d0, d1⟩ := h
      refine (parse_good s w hs (by omega) (by omega) (by omega) (by omega) (by omega) (by omega) (by omega) (by omega)).mono ?_
      rintro e w' ⟨rfl, hB⟩
      refine ⟨_, _, rfl, hB, .inl ⟨rfl, ?_⟩⟩
      have h4 := four_of hs
      have hv0 : 0 ≤ valS s[0].toNat s[1].toNat s[2].toNat s[3].toNat ∧ valS s[0].toNat s[1].toNat s[2].toNat s[3].toNat < 4096 := by unfold valS; omega
      obtain ⟨a, b, c, d, ha, hb, hc, hd, hn, ht⟩ := tex_lit _ hv0.1 hv0.2
      rw [ht]
      unfold valS at hn
      have ea : 48 + a = s[0].toNat := by omega
      have eb : 48 + b = s[1].toNat := by omega
      have ec : 48 + c = s[2].toNat := by omega
      have ed : 48 + d = s[3].toNat := by omega
      rw [ea, eb, ec, ed, UInt8.ofNat_toNat, UInt8.ofNat_toNat, UInt8.ofNat_toNat, UInt8.ofNat_toNat]
      exact h4.symm
    · refine (parse_bad s w hs h).mono ?_
      rintro e w' ⟨rfl, hB⟩
      exact ⟨_, _, rfl, hB, .inr ⟨rfl, rfl⟩⟩
  · refine (parse_bad0 s w hs).mono ?_
    rintro e w' ⟨rfl, hB⟩
    exact ⟨_, _, rfl, hB, .inr ⟨rfl, rfl⟩⟩

set_option maxRecDepth 100000 in
set_option maxHeartbeats 4000000 in
theorem modetexts_walk (n k : Int) (s0 : ByteArray) (w : World) (hs0 : s0.size ≤ 9223372036854775807) (hT : Spc w) :
    Calls Tryd.prog 3 #[.int .i64 n, .string s0, .int .i64 k] w fun e w' => e = .returned (.bool true) ∧ Below w.heap.size w w' := by
  go_enter Tryd.func3, Tryd.ntmps3
  go_upto_region 1 with fail
  go_cut [1] (fun v1 wx => (∃ s : ByteArray, s.size ≤ 20 ∧ v1 = .string s) ∧ wx = w)
  case first =>
    by_cases h : s0.size ≤ 20
    · go_wp2_with fail
      go_meet
      exact ⟨⟨_, by simp; omega, rfl⟩, rfl⟩
    · have h' : ¬ (s0.size : Int) ≤ 20 := by omega
      go_wp2_with fail
      go_meet
      exact ⟨⟨_, by simp; omega, rfl⟩, rfl⟩
  case rest =>
    obtain ⟨⟨s, hs, rfl⟩, rfl⟩ := hcut
    clear hs0
    go_wp2_with fail
    refine (text_any n _).mono ?_
    rintro e w1 ⟨rfl, hB1⟩
    go_wp2_with fail
    refine (parse_law s _).mono ?_
    rintro e w2 ⟨m, E, rfl, hB2, hP⟩
    have hE2 := below_tr hB1 hB2
    have hT2 := hT.be hE2
    clear hB1 hB2 hT
    go_upto_region 6 with fail
    obtain ⟨W, hW⟩ : ∃ W, w2.alloc (.cells #[.string ⟨#[102, 105, 108, 101]⟩, .string ⟨#[100, 105, 114]⟩, .string ⟨#[108, 105, 110, 107]⟩, .string ⟨#[100, 101, 118, 105, 99, 101]⟩, .string ⟨#[112, 105, 112, 101]⟩] 26) = W := ⟨_, rfl⟩
    have hBl : Blk W w2.heap.size 26 #[.string ⟨#[102, 105, 108, 101]⟩, .string ⟨#[100, 105, 114]⟩, .string ⟨#[108, 105, 110, 107]⟩, .string ⟨#[100, 101, 118, 105, 99, 101]⟩, .string ⟨#[112, 105, 112, 101]⟩] := by rw [← hW]; exact Blk.new _ _ _
    have hEW := below_al hE2 (.cells #[.string ⟨#[102, 105, 108, 101]⟩, .string ⟨#[100, 105, 114]⟩, .string ⟨#[108, 105, 110, 107]⟩, .string ⟨#[100, 101, 118, 105, 99, 101]⟩, .string ⟨#[112, 105, 112, 101]⟩] 26)
    have hTW : Spc W := by rw [← hW]; exact hT2.be (below_al (Below.refl _ _) _)
    rw [hW] at hEW ⊢
    clear hW hE2 hT2
    go_cut [32] (fun v32 wx => v32 = .bool (decide (0 ≤ k ∧ k < 5)) ∧ wx = W)
    case first =>
      by_cases k0 : 0 ≤ k
      · by_cases k5 : k < 5
        · go_wp2_with fail
          go_meet
          exact ⟨by simp [k0, k5], rfl⟩
        · go_wp2_with fail
          go_meet
          exact ⟨by simp [k0, k5], rfl⟩
      · go_wp2_with fail
        go_meet
        exact ⟨by rw [decide_eq_false (fun h : 0 ≤ k ∧ k < 5 => by omega)], rfl⟩
    case rest =>
      obtain ⟨rfl, rfl⟩ := hcut
      go_upto_if 32 with fail
      go_cut [11] (fun v11 wx => v11 = .string (wordV k) ∧ wx = wc)
      case first =>
        have c0 : wc.cell? ⟨w2.heap.size, 0, none⟩ = some (.string ⟨#[102, 105, 108, 101]⟩) := hBl.cell 0
        have c1 : wc.cell? ⟨w2.heap.size, 1, none⟩ = some (.string ⟨#[100, 105, 114]⟩) := hBl.cell 1
        have c2 : wc.cell? ⟨w2.heap.size, 2, none⟩ = some (.string ⟨#[108, 105, 110, 107]⟩) := hBl.cell 2
        have c3 : wc.cell? ⟨w2.heap.size, 3, none⟩ = some (.string ⟨#[100, 101, 118, 105, 99, 101]⟩) := hBl.cell 3
        have c4 : wc.cell? ⟨w2.heap.size, 4, none⟩ = some (.string ⟨#[112, 105, 112, 101]⟩) := hBl.cell 4
        by_cases h : 0 ≤ k ∧ k < 5
        · obtain rfl | rfl | rfl | rfl | rfl : k = 0 ∨ k = 1 ∨ k = 2 ∨ k = 3 ∨ k = 4 := by omega
          all_goals
            go_wp2_with fail
            go_meet
            exact ⟨rfl, rfl⟩
        · have hd : decide (0 ≤ k ∧ k < 5) = false := decide_eq_false h
          have hw : wordV k = ⟨#[]⟩ := by
            unfold wordV
            rw [if_neg (by omega), if_neg (by omega), if_neg (by omega), if_neg (by omega), if_neg (by omega)]
          have HW := Lib.hid hw
          rw [hd]
          clear hw h
          go_wp2_with fail
          go_meet
          exact ⟨by rw [HW.out], rfl⟩
      case rest =>
        obtain ⟨rfl, rfl⟩ := hcut
        clear hBl
        go_wp2_with fail
        refine (rtext_any n _).mono ?_
        rintro e w4 ⟨rfl, hB4⟩
        have hE4 := below_tr hEW hB4
        have hT4 := hTW.be hB4
        clear hEW hTW
        go_wp2_with fail
        refine (word_any k _ hT4).mono ?_
        rintro e w5 ⟨rfl, hB5⟩
        have hE5 := below_tr hE4 hB5
        clear hE4 hT4
        rcases hP with ⟨rfl, hm⟩ | ⟨rfl, rfl⟩
        · go_wp2_with fail
          refine (known_any _).mono ?_
          rintro e w6 ⟨rfl, hB6⟩
          have hE6 := below_tr hE5 hB6
          go_wp2_with fail
          refine (rtext_any m _).mono ?_
          rintro e w7 ⟨rfl, hB7⟩
          rw [hm]
          have hE7 := below_tr hE6 hB7
          go_wp2_with fail
          go_ret
          exact ⟨rfl, hE7⟩
        · by_cases hn : 0 ≤ n ∧ n < 4096
          · have hp : ∀ W : World, Calls Tryd.prog 5 #[.string (texN n)] W fun e w' => e = .returned (.tuple #[.int .i64 n, .int .i64 0]) ∧ Below W.heap.size W w' := fun W => by
              obtain ⟨a, b, c, d, ha, hb, hc, hd, hn2, ht⟩ := tex_lit n hn.1 hn.2
              have h := parse_lit a b c d W ha hb hc hd
              rw [← hn2] at h
              rw [ht]
              exact h
            have hsz : (texN n).size = 4 := by
              obtain ⟨a, b, c, d, _, _, _, _, _, ht⟩ := tex_lit n hn.1 hn.2
              rw [ht]; rfl
            obtain ⟨t, ht⟩ : ∃ t, texN n = t := ⟨_, rfl⟩
            rw [ht] at hp hsz ⊢
            have hne : t ≠ ⟨#[]⟩ := fun e => by rw [e] at hsz; cases hsz
            have HP := Lib.hid hp
            clear ht hp hn
            go_wp2_with fail
            refine (HP.out _).mono ?_
            rintro e w6 ⟨rfl, hB6⟩
            have hE6 := below_tr hE5 hB6
            go_wp2_with fail
            refine (known_any _).mono ?_
            rintro e w7 ⟨rfl, hB7⟩
            have hE7 := below_tr hE6 hB7
            go_wp2_with fail
            all_goals go_ret
            all_goals exact ⟨rfl, hE7⟩
          · have ht : texN n = ⟨#[]⟩ := if_neg hn
            rw [ht]
            clear ht hn
            go_wp2_with fail
            refine (parse_empty _).mono ?_
            rintro e w6 ⟨rfl, hB6⟩
            have hE6 := below_tr hE5 hB6
            go_wp2_with fail
            refine (known_any _).mono ?_
            rintro e w7 ⟨rfl, hB7⟩
            have hE7 := below_tr hE6 hB7
            go_wp2_with fail
            go_ret
            exact ⟨rfl, hE7⟩

end Go.Proofs.YtheffimpadccaaaDoor
