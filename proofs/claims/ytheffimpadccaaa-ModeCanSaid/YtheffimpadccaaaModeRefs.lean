/-
  The contracts of the reference's functions: Digit, has, Can, Refusal.
-/
import Derived.Test.YtheffimpadccaaaModeC
import Derived.Test.YtheffimpadccaaaModeRef
import Derived.Test.YtheffimpadccaaaModeNum
namespace Go.Proofs.Ytheffimpadccaaa
open Go.RowKit

theorem digit0 (m : Int) (w : World) (h0 : 0 ≤ m) (h1 : m < 4096) :
    Calls Try.prog 24 #[.int .i64 m, .int .i64 0] w fun e w' => e = .returned (.int .i64 (m / 512 % 8)) ∧ Below w.heap.size w w' := by
  go_enter Try.func24, Try.ntmps24
  go_wp2
  go_ret
  exact ⟨rfl, below_al (Below.refl _ _) _⟩
theorem digit1 (m : Int) (w : World) (h0 : 0 ≤ m) (h1 : m < 4096) :
    Calls Try.prog 24 #[.int .i64 m, .int .i64 1] w fun e w' => e = .returned (.int .i64 (m / 64 % 8)) ∧ Below w.heap.size w w' := by
  go_enter Try.func24, Try.ntmps24
  go_wp2
  go_ret
  exact ⟨rfl, below_al (Below.refl _ _) _⟩
theorem digit2 (m : Int) (w : World) (h0 : 0 ≤ m) (h1 : m < 4096) :
    Calls Try.prog 24 #[.int .i64 m, .int .i64 2] w fun e w' => e = .returned (.int .i64 (m / 8 % 8)) ∧ Below w.heap.size w w' := by
  go_enter Try.func24, Try.ntmps24
  go_wp2
  go_ret
  exact ⟨rfl, below_al (Below.refl _ _) _⟩
theorem digit3 (m : Int) (w : World) (h0 : 0 ≤ m) (h1 : m < 4096) :
    Calls Try.prog 24 #[.int .i64 m, .int .i64 3] w fun e w' => e = .returned (.int .i64 (m % 8)) ∧ Below w.heap.size w w' := by
  go_enter Try.func24, Try.ntmps24
  go_wp2
  go_ret
  exact ⟨ret_int (by simp), below_al (Below.refl _ _) _⟩

def hasP (d x : Int) : Bool := !(x / 4 % 2 == 1 && d / 4 % 2 == 0) && (!(x / 2 % 2 == 1 && d / 2 % 2 == 0) && !(x % 2 == 1 && d % 2 == 0))

set_option maxHeartbeats 1000000 in
theorem has_any (d x : Int) (w : World) (h0 : 0 ≤ d) (h1 : d < 8) (h2 : 0 ≤ x) (h3 : x < 8) :
    Calls Try.prog 23 #[.int .i64 d, .int .i64 x] w fun e w' => e = .returned (.bool (hasP d x)) ∧ w = w' := by
  go_enter Try.func23, Try.ntmps23
  go_wp2
  refine wp_loop_rounds 4 ?_
  rw [rounds_succ]
  go_wp2
  all_goals try (rw [rounds_succ]; go_wp2)
  all_goals try (rw [rounds_succ]; go_wp2)
  all_goals try (rw [rounds_succ]; go_wp2)
  all_goals go_ret
  all_goals exact ⟨ret_bool (by unfold hasP; simp [*]), rfl⟩

theorem hasP_gd : ∀ d x : Fin 8, hasP (d.val : Int) (x.val : Int) = (bits .andNot .i64 (x.val : Int) (d.val : Int) == 0) := by decide +kernel
theorem gd7 : ∀ x : Fin 8, (bits .andNot .i64 (x.val : Int) 7 == 0) = true := by decide +kernel
theorem hasP_gd' {d x : Int} (h0 : 0 ≤ d) (h1 : d < 8) (h2 : 0 ≤ x) (h3 : x < 8) : hasP d x = (bits .andNot .i64 x d == 0) := by
  obtain ⟨a, rfl⟩ := Int.eq_ofNat_of_zero_le h0
  obtain ⟨b, rfl⟩ := Int.eq_ofNat_of_zero_le h2
  exact hasP_gd ⟨a, by omega⟩ ⟨b, by omega⟩

def rcan (k m o g who grp x : Int) : Bool := canB k m o g who grp [x]

theorem rcan_no1 {k m o g who grp x : Int} (h : ¬ chk k m o g = 0) : rcan k m o g who grp x = false := by
  have : (chk k m o g == 0) = false := by simpa using h
  simp [rcan, canB, this]
theorem rcan_no2 {k m o g who grp x : Int} (h : who < 0 ∨ 65535 < who) : rcan k m o g who grp x = false := by
  have : bel who 65536 = false := by unfold bel; rw [decide_eq_false_iff_not]; omega
  simp [rcan, canB, this]
theorem rcan_no3 {k m o g who grp x : Int} (h : grp < 0 ∨ 65535 < grp) : rcan k m o g who grp x = false := by
  have : bel grp 65536 = false := by unfold bel; rw [decide_eq_false_iff_not]; omega
  simp [rcan, canB, this]
theorem rcan_no4 {k m o g who grp x : Int} (h : x < 0 ∨ 7 < x) : rcan k m o g who grp x = false := by
  have : bel x 8 = false := by unfold bel; rw [decide_eq_false_iff_not]; omega
  simp [rcan, canB, good, this]
theorem rcan_yes {k m o g who grp x : Int} (hc : chk k m o g = 0) (h1 : 0 ≤ who) (h2 : who ≤ 65535) (h3 : 0 ≤ grp) (h4 : grp ≤ 65535) (h5 : 0 ≤ x) (h6 : x ≤ 7) :
    rcan k m o g who grp x = (bits .andNot .i64 x (bts m o g who grp) == 0) := by
  have e1 : (chk k m o g == 0) = true := by simpa using hc
  have e2 : bel who 65536 = true := by unfold bel; rw [decide_eq_true_eq]; omega
  have e3 : bel grp 65536 = true := by unfold bel; rw [decide_eq_true_eq]; omega
  have e4 : bel x 8 = true := by unfold bel; rw [decide_eq_true_eq]; omega
  simp [rcan, canB, good, e1, e2, e3, e4]

set_option maxHeartbeats 1000000 in
theorem refcan_any (k m o g who grp x : Int) (w : World) :
    Calls Try.prog 15 #[.agg #[.int .i64 k, .int .i64 m, .int .i64 o, .int .i64 g], .int .i64 who, .int .i64 grp, .int .i64 x] w fun e w' => e = .returned (.bool (rcan k m o g who grp x)) ∧ Below w.heap.size w w' := by
  by_cases hc : chk k m o g = 0
  · by_cases hin : 0 ≤ who ∧ who ≤ 65535 ∧ 0 ≤ grp ∧ grp ≤ 65535 ∧ 0 ≤ x ∧ x ≤ 7
    · obtain ⟨h1, h2, h3, h4, h5, h6⟩ := hin
      have hr := rcan_yes hc h1 h2 h3 h4 h5 h6
      obtain ⟨hm0, hm1⟩ := chk_m hc
      have hc' : (chk k m o g != 0) = false := by simpa using hc
      clear hc
      by_cases hw : who = 0
      · subst hw
        have hb : bts m o g 0 grp = 7 := if_pos rfl
        have h7 : (bits .andNot .i64 x 7 == 0) = true := by
          obtain ⟨b, rfl⟩ := Int.eq_ofNat_of_zero_le h5
          exact gd7 ⟨b, by omega⟩
        rw [hb, h7] at hr
        have HR := hide hr
        clear hr hb h7
        go_enter Try.func15, Try.ntmps15
        go_wp2_with (go_at_call 13; refine (refcheck_any _ _ _ _ _).mono ?_; rintro e w1 ⟨rfl, hb⟩)
        go_ret
        exact ⟨ret_bool HR.out.symm, below_tr (below_al (Below.refl _ _) _) hb⟩
      have hw' : (who == 0) = false := by simpa using hw
      by_cases ho : who = o
      · subst ho
        have hb : bts m who g who grp = m / 64 % 8 := by unfold bts; rw [if_neg hw, if_pos rfl]
        rw [hb, ← hasP_gd' (by omega) (by omega) h5 (by omega)] at hr
        have HR := hide hr
        clear hr hb hw
        go_enter Try.func15, Try.ntmps15
        go_wp2_with (first | (go_at_call 13; refine (refcheck_any _ _ _ _ _).mono ?_; rintro e w1 ⟨rfl, hb⟩; obtain ⟨hcc, -⟩ := bcell hb) | (go_at_call 24; refine (digit1 _ _ hm0 hm1).mono ?_; rintro e w2 ⟨rfl, hb2⟩) | (go_at_call 23; refine (has_any _ _ _ (by omega) (by omega) (by omega) (by omega)).mono ?_; rintro e w3 ⟨rfl, rfl⟩))
        all_goals go_ret
        all_goals exact ⟨ret_bool HR.out.symm, below_tr (below_tr (below_al (Below.refl _ _) _) hb) hb2⟩
      have ho' : (who == o) = false := by simpa using ho
      by_cases hg : grp = g
      · subst hg
        have hb : bts m o grp who grp = m / 8 % 8 := by unfold bts; rw [if_neg hw, if_neg ho, if_pos rfl]
        rw [hb, ← hasP_gd' (by omega) (by omega) h5 (by omega)] at hr
        have HR := hide hr
        clear hr hb hw ho
        go_enter Try.func15, Try.ntmps15
        go_wp2_with (first | (go_at_call 13; refine (refcheck_any _ _ _ _ _).mono ?_; rintro e w1 ⟨rfl, hb⟩; obtain ⟨hcc, -⟩ := bcell hb) | (go_at_call 24; refine (digit2 _ _ hm0 hm1).mono ?_; rintro e w2 ⟨rfl, hb2⟩) | (go_at_call 23; refine (has_any _ _ _ (by omega) (by omega) (by omega) (by omega)).mono ?_; rintro e w3 ⟨rfl, rfl⟩))
        all_goals go_ret
        all_goals exact ⟨ret_bool HR.out.symm, below_tr (below_tr (below_al (Below.refl _ _) _) hb) hb2⟩
      · have hg' : (grp == g) = false := by simpa using hg
        have hb : bts m o g who grp = m % 8 := by unfold bts; rw [if_neg hw, if_neg ho, if_neg hg]
        rw [hb, ← hasP_gd' (by omega) (by omega) h5 (by omega)] at hr
        have HR := hide hr
        clear hr hb hw ho hg
        go_enter Try.func15, Try.ntmps15
        go_wp2_with (first | (go_at_call 13; refine (refcheck_any _ _ _ _ _).mono ?_; rintro e w1 ⟨rfl, hb⟩; obtain ⟨hcc, -⟩ := bcell hb) | (go_at_call 24; refine (digit3 _ _ hm0 hm1).mono ?_; rintro e w2 ⟨rfl, hb2⟩) | (go_at_call 23; refine (has_any _ _ _ (by omega) (by omega) (by omega) (by omega)).mono ?_; rintro e w3 ⟨rfl, rfl⟩))
        all_goals go_ret
        all_goals exact ⟨ret_bool HR.out.symm, below_tr (below_tr (below_al (Below.refl _ _) _) hb) hb2⟩
    · have hr : rcan k m o g who grp x = false := by
        by_cases h1 : who < 0 ∨ 65535 < who
        · exact rcan_no2 h1
        by_cases h2 : grp < 0 ∨ 65535 < grp
        · exact rcan_no3 h2
        exact rcan_no4 (by omega)
      have hc' : (chk k m o g != 0) = false := by simpa using hc
      have HR := hide hr
      clear hr hc
      go_enter Try.func15, Try.ntmps15
      go_wp2_with (go_at_call 13; refine (refcheck_any _ _ _ _ _).mono ?_; rintro e w1 ⟨rfl, hb⟩; obtain ⟨hcc, -⟩ := bcell hb)
      all_goals go_ret
      all_goals exact ⟨ret_bool HR.out.symm, below_tr (below_al (Below.refl _ _) _) hb⟩
  · have hr : rcan k m o g who grp x = false := rcan_no1 hc
    have hc' : (chk k m o g != 0) = true := by simpa using hc
    have HR := hide hr
    clear hr hc
    go_enter Try.func15, Try.ntmps15
    go_wp2_with (go_at_call 13; refine (refcheck_any _ _ _ _ _).mono ?_; rintro e w1 ⟨rfl, hb⟩)
    go_ret
    exact ⟨ret_bool HR.out.symm, below_tr (below_al (Below.refl _ _) _) hb⟩

end Go.Proofs.Ytheffimpadccaaa
