/-
  The walk of the law ModeNumbers.
-/
import Derived.Test.YtheffimpadccaaaModeK
import Derived.Test.YtheffimpadccaaaModeNum
import Derived.Test.YtheffimpadccaaaModeEq
namespace Go.Proofs.Ytheffimpadccaaa
open Go.RowKit

theorem num_dec {k m o g : Int} (h : chk k m o g = 0) : num k m o g = ((k * 4096 + m) * 65536 + o) * 65536 + g := if_pos h
theorem of_num (k m o g : Int) (w : World) (h : chk k m o g = 0) :
    Calls Try.prog 12 #[.int .i64 (num k m o g)] w fun e w' => e = .returned (.tuple #[.agg #[.int .i64 k, .int .i64 m, .int .i64 o, .int .i64 g], .int .i64 0]) ∧ Below w.heap.size w w' := by
  obtain ⟨r1, r2, r3, r4, r5, r6, r7, r8⟩ := chk_all h
  have e := num_dec h
  have e1 : oK (num k m o g) = k := by unfold oK; rw [e]; omega
  have e2 : oM (num k m o g) = m := by unfold oM; rw [e]; omega
  have e3 : oO (num k m o g) = o := by unfold oO; rw [e]; omega
  have e4 : oG (num k m o g) = g := by unfold oG; rw [e]; omega
  have hc := of_yes (num k m o g) w (by rw [e]; omega) (by rw [e]; omega) (by rw [e1, e2, e3, e4]; exact h)
  rw [e1, e2, e3, e4] at hc
  exact hc
theorem num_shl {k m o g : Int} (h : chk k m o g = 0) : (num k m o g == k * 17592186044416 + m * 4294967296 + o * 65536 + g) = true := by
  rw [num_dec h]; simp only [beq_iff_eq]; omega

set_option maxRecDepth 100000 in
set_option maxHeartbeats 2000000 in
theorem numbers_yn (k m o g n : Int) (w : World) (h0 : 0 ≤ n) (hm : n ≤ 9223372036854775807) (hf : chk (oK n) (oM n) (oO n) (oG n) = 0) (_hf2 : (chk (oK n) (oM n) (oO n) (oG n) != 0) = false) (hf3 : (num (oK n) (oM n) (oO n) (oG n) != n) = false) (hs : (chk k m o g != 0) = true) (hs2 : num k m o g = 0) :
    Calls Try.prog 4 #[.agg #[.int .i64 k, .int .i64 m, .int .i64 o, .int .i64 g], .int .i64 n] w fun e w' => e = .returned (.bool true) ∧ Below w.heap.size w w' := by
  have heq := stat_eql
  have hne := stat_neq
  have hgd := statG
  go_enter Try.func4, Try.ntmps4
  have hK0 := Keep.start w
  go_wp2_with fail
  refine (toS_any _ _ _ _ _).mono ?_
  rintro e w1 ⟨rfl, hb⟩
  have hK1 := (hK0.new 23 #[.int .i64 k, .int .i64 m, .int .i64 o, .int .i64 g]).be hb
  clear hb hK0
  go_wp2_with fail
  refine (number_any _ _ _ _ _).mono ?_
  rintro e w2 ⟨rfl, hb⟩
  have hK2 := (hK1.new 24 #[.int .i64 k, .int .i64 m, .int .i64 o, .int .i64 g]).be hb
  clear hb hK1
  go_wp2_with fail
  refine (of_yes n _ h0 hm hf).mono ?_
  rintro e w3 ⟨rfl, hb⟩
  have hK3 := hK2.be hb
  clear hb hK2
  go_wp2_with fail
  refine (ofS_any _ _ _ _ _).mono ?_
  rintro e w4 ⟨rfl, hb⟩
  have hK4 := (hK3.new 24 #[.int .i64 (oK n), .int .i64 (oM n), .int .i64 (oO n), .int .i64 (oG n)]).be hb
  clear hb hK3
  go_wp2_with fail
  refine (refcheck_any _ _ _ _ _).mono ?_
  rintro e w5 ⟨rfl, hb⟩
  have hK5 := hK4.be hb
  clear hb hK4
  obtain ⟨c20, c21, c22, c23⟩ := hK5.b0.c4
  go_wp2_with fail
  refine (number_any _ _ _ _ _).mono ?_
  rintro e w6 ⟨rfl, hb⟩
  have hK6 := hK5.be hb
  clear hb hK5
  clear c20 c21 c22 c23
  obtain ⟨c00, c01, c02, c03⟩ := hK6.tl.tl.b0.c4
  go_wp2_with fail
  refine (refcheck_any _ _ _ _ _).mono ?_
  rintro e w7 ⟨rfl, hb⟩
  have hK7 := hK6.be hb
  clear hb hK6
  clear c00 c01 c02 c03
  go_wp2_with fail
  refine (known_any _).mono ?_
  rintro e w8 ⟨rfl, hb⟩
  have hK8 := hK7.be hb
  clear hb hK7
  go_wp2_with fail
  go_ret
  exact ⟨rfl, hK8.1⟩

set_option maxRecDepth 100000 in
set_option maxHeartbeats 2000000 in
theorem numbers_nn (k m o g n : Int) (w : World) (hl : -9223372036854775808 ≤ n) (hm : n ≤ 9223372036854775807) (hf : ¬ ofOk n) (hs : (chk k m o g != 0) = true) (hs2 : num k m o g = 0) :
    Calls Try.prog 4 #[.agg #[.int .i64 k, .int .i64 m, .int .i64 o, .int .i64 g], .int .i64 n] w fun e w' => e = .returned (.bool true) ∧ Below w.heap.size w w' := by
  have heq := stat_eql
  have hne := stat_neq
  have hgd := statG
  go_enter Try.func4, Try.ntmps4
  have hK0 := Keep.start w
  go_wp2_with fail
  refine (toS_any _ _ _ _ _).mono ?_
  rintro e w1 ⟨rfl, hb⟩
  have hK1 := (hK0.new 23 #[.int .i64 k, .int .i64 m, .int .i64 o, .int .i64 g]).be hb
  clear hb hK0
  go_wp2_with fail
  refine (number_any _ _ _ _ _).mono ?_
  rintro e w2 ⟨rfl, hb⟩
  have hK2 := (hK1.new 24 #[.int .i64 k, .int .i64 m, .int .i64 o, .int .i64 g]).be hb
  clear hb hK1
  go_wp2_with fail
  refine (of_no n _ hl hm hf).mono ?_
  rintro e w3 ⟨rfl, hb⟩
  have hK3 := hK2.be hb
  clear hb hK2
  obtain ⟨c00, c01, c02, c03⟩ := hK3.tl.b0.c4
  have hl0 := hK3.tl.b0.lt
  go_wp2_with fail
  refine (refcheck_any _ _ _ _ _).mono ?_
  rintro e w4 ⟨rfl, hb⟩
  have hK4 := (hK3.new 24 #[.int .i64 0, .int .i64 0, .int .i64 0, .int .i64 0]).be hb
  clear hb hK3
  clear c00 c01 c02 c03
  go_wp2_with fail
  refine (known_any _).mono ?_
  rintro e w5 ⟨rfl, hb⟩
  have hK5 := hK4.be hb
  clear hb hK4
  go_wp2_with fail
  go_ret
  exact ⟨rfl, hK5.1⟩

set_option maxRecDepth 100000 in
set_option maxHeartbeats 2000000 in
theorem numbers_yy (k m o g n : Int) (w : World) (h0 : 0 ≤ n) (hm : n ≤ 9223372036854775807) (hf : chk (oK n) (oM n) (oO n) (oG n) = 0) (_hf2 : (chk (oK n) (oM n) (oO n) (oG n) != 0) = false) (hf3 : (num (oK n) (oM n) (oO n) (oG n) != n) = false) (hs0 : chk k m o g = 0) :
    Calls Try.prog 4 #[.agg #[.int .i64 k, .int .i64 m, .int .i64 o, .int .i64 g], .int .i64 n] w fun e w' => e = .returned (.bool true) ∧ Below w.heap.size w w' := by
  have heq := stat_eql
  have hne := stat_neq
  have hgd := statG
  have hs : (chk k m o g != 0) = false := by simpa using hs0
  obtain ⟨r1, r2, r3, r4, r5, r6, r7, r8⟩ := chk_all hs0
  have hnum : (num k m o g == k * 17592186044416 + m * 4294967296 + o * 65536 + g) = true := num_shl hs0
  have HS := hide hs0
  clear hs0
  go_enter Try.func4, Try.ntmps4
  have hK0 := Keep.start w
  go_wp2_with fail
  refine (toS_any _ _ _ _ _).mono ?_
  rintro e w1 ⟨rfl, hb⟩
  have hK1 := (hK0.new 23 #[.int .i64 k, .int .i64 m, .int .i64 o, .int .i64 g]).be hb
  clear hb hK0
  go_wp2_with fail
  refine (number_any _ _ _ _ _).mono ?_
  rintro e w2 ⟨rfl, hb⟩
  have hK2 := (hK1.new 24 #[.int .i64 k, .int .i64 m, .int .i64 o, .int .i64 g]).be hb
  clear hb hK1
  go_wp2_with fail
  refine (of_yes n _ h0 hm hf).mono ?_
  rintro e w3 ⟨rfl, hb⟩
  have hK3 := hK2.be hb
  clear hb hK2
  go_wp2_with fail
  refine (ofS_any _ _ _ _ _).mono ?_
  rintro e w4 ⟨rfl, hb⟩
  have hK4 := (hK3.new 24 #[.int .i64 (oK n), .int .i64 (oM n), .int .i64 (oO n), .int .i64 (oG n)]).be hb
  clear hb hK3
  go_wp2_with fail
  refine (refcheck_any _ _ _ _ _).mono ?_
  rintro e w5 ⟨rfl, hb⟩
  have hK5 := hK4.be hb
  clear hb hK4
  obtain ⟨c20, c21, c22, c23⟩ := hK5.b0.c4
  go_wp2_with fail
  refine (number_any _ _ _ _ _).mono ?_
  rintro e w6 ⟨rfl, hb⟩
  have hK6 := hK5.be hb
  clear hb hK5
  clear c20 c21 c22 c23
  obtain ⟨c00, c01, c02, c03⟩ := hK6.tl.tl.b0.c4
  go_wp2_with fail
  refine (refcheck_any _ _ _ _ _).mono ?_
  rintro e w7 ⟨rfl, hb⟩
  have hK7 := hK6.be hb
  clear hb hK6
  clear c00 c01 c02 c03
  go_wp2_with fail
  refine (of_num k m o g _ HS.out).mono ?_
  rintro e wa ⟨rfl, hb⟩
  have hKa := hK7.be hb
  clear hb hK7
  go_wp2_with fail
  refine (known_any _).mono ?_
  rintro e wb ⟨rfl, hb⟩
  have hKb := (hKa.new 24 #[.int .i64 k, .int .i64 m, .int .i64 o, .int .i64 g]).be hb
  clear hb hKa
  obtain ⟨c30, c31, c32, c33⟩ := hKb.b0.c4
  obtain ⟨c10, c11, c12, c13⟩ := hKb.tl.tl.b0.c4
  obtain ⟨c00, c01, c02, c03⟩ := hKb.tl.tl.tl.b0.c4
  go_wp2_with fail
  all_goals go_ret
  all_goals exact ⟨rfl, hKb.1⟩

set_option maxRecDepth 100000 in
set_option maxHeartbeats 2000000 in
theorem numbers_ny (k m o g n : Int) (w : World) (hl : -9223372036854775808 ≤ n) (hm : n ≤ 9223372036854775807) (hf : ¬ ofOk n) (hnn : (n != num k m o g) = true) (hs0 : chk k m o g = 0) :
    Calls Try.prog 4 #[.agg #[.int .i64 k, .int .i64 m, .int .i64 o, .int .i64 g], .int .i64 n] w fun e w' => e = .returned (.bool true) ∧ Below w.heap.size w w' := by
  have heq := stat_eql
  have hne := stat_neq
  have hgd := statG
  have hs : (chk k m o g != 0) = false := by simpa using hs0
  obtain ⟨r1, r2, r3, r4, r5, r6, r7, r8⟩ := chk_all hs0
  have hnum : (num k m o g == k * 17592186044416 + m * 4294967296 + o * 65536 + g) = true := num_shl hs0
  have HS := hide hs0
  clear hs0
  go_enter Try.func4, Try.ntmps4
  have hK0 := Keep.start w
  go_wp2_with fail
  refine (toS_any _ _ _ _ _).mono ?_
  rintro e w1 ⟨rfl, hb⟩
  have hK1 := (hK0.new 23 #[.int .i64 k, .int .i64 m, .int .i64 o, .int .i64 g]).be hb
  clear hb hK0
  go_wp2_with fail
  refine (number_any _ _ _ _ _).mono ?_
  rintro e w2 ⟨rfl, hb⟩
  have hK2 := (hK1.new 24 #[.int .i64 k, .int .i64 m, .int .i64 o, .int .i64 g]).be hb
  clear hb hK1
  go_wp2_with fail
  refine (of_no n _ hl hm hf).mono ?_
  rintro e w3 ⟨rfl, hb⟩
  have hK3 := hK2.be hb
  clear hb hK2
  obtain ⟨c00, c01, c02, c03⟩ := hK3.tl.b0.c4
  have hl0 := hK3.tl.b0.lt
  go_wp2_with fail
  refine (refcheck_any _ _ _ _ _).mono ?_
  rintro e w4 ⟨rfl, hb⟩
  have hK4 := (hK3.new 24 #[.int .i64 0, .int .i64 0, .int .i64 0, .int .i64 0]).be hb
  clear hb hK3
  clear c00 c01 c02 c03
  go_wp2_with fail
  refine (of_num k m o g _ HS.out).mono ?_
  rintro e wa ⟨rfl, hb⟩
  have hKa := hK4.be hb
  clear hb hK4
  go_wp2_with fail
  refine (known_any _).mono ?_
  rintro e wb ⟨rfl, hb⟩
  have hKb := (hKa.new 24 #[.int .i64 k, .int .i64 m, .int .i64 o, .int .i64 g]).be hb
  clear hb hKa
  obtain ⟨c30, c31, c32, c33⟩ := hKb.b0.c4
  obtain ⟨c10, c11, c12, c13⟩ := hKb.tl.tl.b0.c4
  obtain ⟨c00, c01, c02, c03⟩ := hKb.tl.tl.tl.b0.c4
  go_wp2_with fail
  all_goals go_ret
  all_goals exact ⟨rfl, hKb.1⟩

end Go.Proofs.Ytheffimpadccaaa
