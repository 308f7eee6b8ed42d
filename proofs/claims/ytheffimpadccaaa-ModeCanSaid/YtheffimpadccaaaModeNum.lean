/-
  The contracts of mode.Number, mode.Of, of the reference's Check, and of the law's To and Of.
-/
import Derived.Test.YtheffimpadccaaaModeB
import Derived.Test.YtheffimpadccaaaWordsC
namespace Go.Proofs.Ytheffimpadccaaa
open Go.RowKit

theorem toS_any (k m o g : Int) (w : World) :
    Calls Try.prog 7 #[.agg #[.int .i64 k, .int .i64 m, .int .i64 o, .int .i64 g]] w fun e w' => e = .returned (.agg #[.int .i64 k, .int .i64 m, .int .i64 o, .int .i64 g]) ∧ Below w.heap.size w w' := by
  go_enter Try.func7, Try.ntmps7
  go_wp2
  exact bodyPost_ret (v := .agg #[.int .i64 k, .int .i64 m, .int .i64 o, .int .i64 g]) (by simp [results, Try.results7, go_sem]) rfl ⟨rfl, below_al (below_al (Below.refl _ _) _) _⟩
theorem ofS_any (k m o g : Int) (w : World) :
    Calls Try.prog 14 #[.agg #[.int .i64 k, .int .i64 m, .int .i64 o, .int .i64 g]] w fun e w' => e = .returned (.agg #[.int .i64 k, .int .i64 m, .int .i64 o, .int .i64 g]) ∧ Below w.heap.size w w' := by
  go_enter Try.func14, Try.ntmps14
  go_wp2
  exact bodyPost_ret (v := .agg #[.int .i64 k, .int .i64 m, .int .i64 o, .int .i64 g]) (by simp [results, Try.results14, go_sem]) rfl ⟨rfl, below_al (below_al (Below.refl _ _) _) _⟩

theorem refcheck_any (k m o g : Int) (w : World) :
    Calls Try.prog 13 #[.agg #[.int .i64 k, .int .i64 m, .int .i64 o, .int .i64 g]] w fun e w' => e = .returned (.int .i64 (chk k m o g)) ∧ Below w.heap.size w w' := by
  go_enter Try.func13, Try.ntmps13
  go_wp2
  all_goals go_ret
  all_goals exact ⟨ret_int (by unfold chk bel; simp only [decide_eq_false_iff_not]; (repeat' split) <;> omega), below_al (Below.refl _ _) _⟩

def num (k m o g : Int) : Int := if chk k m o g = 0 then ((k * 4096 + m) * 65536 + o) * 65536 + g else 0

theorem chk_all {k m o g : Int} (h : chk k m o g = 0) : 0 ≤ k ∧ k < 5 ∧ 0 ≤ m ∧ m < 4096 ∧ 0 ≤ o ∧ o < 65536 ∧ 0 ≤ g ∧ g < 65536 := by
  unfold chk bel at h
  simp only [decide_eq_false_iff_not] at h
  (repeat' split at h) <;> omega

theorem number_any (k m o g : Int) (w : World) :
    Calls Try.prog 11 #[.agg #[.int .i64 k, .int .i64 m, .int .i64 o, .int .i64 g]] w fun e w' => e = .returned (.int .i64 (num k m o g)) ∧ Below w.heap.size w w' := by
  by_cases h : chk k m o g = 0
  · have hc : (chk k m o g != 0) = false := by simpa using h
    obtain ⟨a1, a2, a3, a4, a5, a6, a7, a8⟩ := chk_all h
    have hr : num k m o g = _ := if_pos h
    have HR := hide hr
    clear hr h
    go_enter Try.func11, Try.ntmps11
    go_wp2_with (go_at_call 8; refine (check_any _ _ _ _ _).mono ?_; rintro e w1 ⟨rfl, hb⟩; obtain ⟨hcc, -⟩ := bcell hb)
    go_ret
    exact ⟨ret_int HR.out.symm, below_tr (below_al (Below.refl _ _) _) hb⟩
  · have hc : (chk k m o g != 0) = true := by simpa using h
    have hr : num k m o g = _ := if_neg h
    have HR := hide hr
    clear hr h
    go_enter Try.func11, Try.ntmps11
    go_wp2_with (go_at_call 8; refine (check_any _ _ _ _ _).mono ?_; rintro e w1 ⟨rfl, hb⟩)
    go_ret
    exact ⟨ret_int HR.out.symm, below_tr (below_al (Below.refl _ _) _) hb⟩

def oK (n : Int) : Int := n / 65536 / 65536 / 4096
def oM (n : Int) : Int := n / 65536 / 65536 % 4096
def oO (n : Int) : Int := n / 65536 % 65536
def oG (n : Int) : Int := n % 65536

theorem of_yes (n : Int) (w : World) (h0 : 0 ≤ n) (hm : n ≤ 9223372036854775807) (hc0 : chk (oK n) (oM n) (oO n) (oG n) = 0) :
    Calls Try.prog 12 #[.int .i64 n] w fun e w' => e = .returned (.tuple #[.agg #[.int .i64 (oK n), .int .i64 (oM n), .int .i64 (oO n), .int .i64 (oG n)], .int .i64 0]) ∧ Below w.heap.size w w' := by
  have hc : (chk (oK n) (oM n) (oO n) (oG n) != 0) = false := by simpa using hc0
  clear hc0
  unfold oK oM oO oG at hc ⊢
  go_enter Try.func12, Try.ntmps12
  go_wp2_with (go_at_call 8; refine (check_any _ _ _ _ _).mono ?_; rintro e w1 ⟨rfl, hb⟩; obtain ⟨hcc, hff⟩ := bcell hb)
  clear hcc hff
  exact bodyPost_ret (v := .tuple #[.agg #[.int .i64 (n / 65536 / 65536 / 4096), .int .i64 (n / 65536 / 65536 % 4096), .int .i64 (n / 65536 % 65536), .int .i64 (n % 65536)], .int .i64 0]) (res_cell_tmp Try.results12 _ _ _ rfl (blk_set4 ((((Blk.new w 24 #[.int .i64 0, .int .i64 0, .int .i64 0, .int .i64 0]).alloc _).be hb))) Try.underlying24 (by kernel_rfl) rfl) rfl
    ⟨rfl, ((((below_tr (below_al (below_al (Below.refl _ _) _) _) hb).setCell (Nat.le_refl _) _).setCell (Nat.le_refl _) _).setCell (Nat.le_refl _) _).setCell (Nat.le_refl _) _⟩

theorem of_bad (n : Int) (w : World) (h0 : 0 ≤ n) (hm : n ≤ 9223372036854775807) (hc0 : ¬ chk (oK n) (oM n) (oO n) (oG n) = 0) :
    Calls Try.prog 12 #[.int .i64 n] w fun e w' => e = .returned (.tuple #[.agg #[.int .i64 0, .int .i64 0, .int .i64 0, .int .i64 0], .int .i64 3]) ∧ Below w.heap.size w w' := by
  have hc : (chk (oK n) (oM n) (oO n) (oG n) != 0) = true := by simpa using hc0
  clear hc0
  unfold oK oM oO oG at hc
  go_enter Try.func12, Try.ntmps12
  go_wp2_with (go_at_call 8; refine (check_any _ _ _ _ _).mono ?_; rintro e w1 ⟨rfl, hb⟩; obtain ⟨hcc, hff⟩ := bcell hb)
  clear hcc hff
  exact bodyPost_ret (v := .tuple #[.agg #[.int .i64 0, .int .i64 0, .int .i64 0, .int .i64 0], .int .i64 3]) (res_cell_tmp Try.results12 _ _ _ rfl (blk_set4 ((((Blk.new w 24 #[.int .i64 0, .int .i64 0, .int .i64 0, .int .i64 0]).alloc _).be hb))) Try.underlying24 (by kernel_rfl) rfl) rfl
    ⟨rfl, ((((below_tr (below_al (below_al (Below.refl _ _) _) _) hb).setCell (Nat.le_refl _) _).setCell (Nat.le_refl _) _).setCell (Nat.le_refl _) _).setCell (Nat.le_refl _) _⟩

theorem of_neg (n : Int) (w : World) (h0 : n < 0) (hm : -9223372036854775808 ≤ n) :
    Calls Try.prog 12 #[.int .i64 n] w fun e w' => e = .returned (.tuple #[.agg #[.int .i64 0, .int .i64 0, .int .i64 0, .int .i64 0], .int .i64 3]) ∧ Below w.heap.size w w' := by
  go_enter Try.func12, Try.ntmps12
  go_wp2_with fail
  exact bodyPost_ret (v := .tuple #[.agg #[.int .i64 0, .int .i64 0, .int .i64 0, .int .i64 0], .int .i64 3]) (by simp [results, Try.results12, go_sem]) rfl
    ⟨rfl, below_al (below_al (Below.refl _ _) _) _⟩

def ofOk (n : Int) : Prop := 0 ≤ n ∧ chk (oK n) (oM n) (oO n) (oG n) = 0
theorem of_no (n : Int) (w : World) (hl : -9223372036854775808 ≤ n) (hm : n ≤ 9223372036854775807) (h : ¬ ofOk n) :
    Calls Try.prog 12 #[.int .i64 n] w fun e w' => e = .returned (.tuple #[.agg #[.int .i64 0, .int .i64 0, .int .i64 0, .int .i64 0], .int .i64 3]) ∧ Below w.heap.size w w' := by
  by_cases h0 : 0 ≤ n
  · exact of_bad n w h0 hm (fun hc => h ⟨h0, hc⟩)
  · exact of_neg n w (by omega) hl

end Go.Proofs.Ytheffimpadccaaa
