/-
  The contract of the reference's Refusal: it is the program's.
-/
import Derived.Test.YtheffimpadccaaaModeRefs
namespace Go.Proofs.Ytheffimpadccaaa
open Go.RowKit

theorem bits_plain : ∀ a b : Fin 64, andB ((64 * a.val + b.val : Nat) : Int) 3072 = decide (1 < ((64 * a.val + b.val : Nat) : Int) / 512 % 8) ∧
    andB ((64 * a.val + b.val : Nat) : Int) 18 = (hasP (((64 * a.val + b.val : Nat) : Int) / 8 % 8) 2 || hasP (((64 * a.val + b.val : Nat) : Int) % 8) 2) := by decide +kernel
theorem bits_plain' {m : Int} (h0 : 0 ≤ m) (h1 : m < 4096) : andB m 3072 = decide (1 < m / 512 % 8) ∧ andB m 18 = (hasP (m / 8 % 8) 2 || hasP (m % 8) 2) := by
  obtain ⟨n, rfl⟩ := Int.eq_ofNat_of_zero_le h0
  have h := bits_plain ⟨n / 64, by omega⟩ ⟨n % 64, by omega⟩
  have e2 : 64 * (n / 64) + n % 64 = n := Nat.div_add_mod n 64
  simp only [e2] at h
  exact h

set_option maxHeartbeats 2000000 in
theorem refrefusal_any (k m o g : Int) (w : World) :
    Calls Try.prog 17 #[.agg #[.int .i64 k, .int .i64 m, .int .i64 o, .int .i64 g]] w fun e w' => e = .returned (.int .i64 (refu k m o g)) ∧ Below w.heap.size w w' := by
  by_cases h : chk k m o g = 0
  · have hc : (chk k m o g != 0) = false := by simpa using h
    have hk := chk_k h
    obtain ⟨hm0, hm1⟩ := chk_m h
    obtain ⟨q1, q2⟩ := bits_plain' hm0 hm1
    have hr : refu k m o g = if k = 3 then 17 else if k = 4 then 17 else if andB m 3072 || ((k == 0 || k == 1) && andB m 18) then 11 else 0 := if_pos h
    rw [q1, q2] at hr
    have HR := hide hr
    clear h hr q1 q2
    have hk5 : k = 0 ∨ k = 1 ∨ k = 2 ∨ k = 3 ∨ k = 4 := by omega
    clear hk
    rcases hk5 with rfl | rfl | rfl | rfl | rfl
    all_goals
      cases e1 : decide (1 < m / 512 % 8)
      all_goals
        cases e2 : hasP (m / 8 % 8) 2
        all_goals
          cases e3 : hasP (m % 8) 2
          all_goals
            have HE := hide (And.intro e1 (And.intro e2 e3))
            go_enter Try.func17, Try.ntmps17
            go_wp2_with fail
            refine (refcheck_any _ _ _ _ _).mono ?_
            rintro e w1 ⟨rfl, hb⟩
            have hK := ((Keep.start w).new 23 _).be hb
            clear hb
            obtain ⟨c0, c1, c2, c3⟩ := hK.b0.c4
            go_wp2_with fail
            first
              | (go_ret; exact ⟨ret_int (by rw [HR.out, HE.out.1, HE.out.2.1, HE.out.2.2]; rfl), hK.1⟩)
              | skip
            all_goals
              refine (digit0 _ _ hm0 hm1).mono ?_
              rintro e w2 ⟨rfl, hb⟩
              have hK2 := hK.be hb
              clear hb hK
              obtain ⟨c0, c1, c2, c3⟩ := hK2.b0.c4
              go_wp2_with fail
              first
                | (go_ret; exact ⟨ret_int (by rw [HR.out, HE.out.1, HE.out.2.1, HE.out.2.2]; rfl), hK2.1⟩)
                | skip
              all_goals
                refine (digit2 _ _ hm0 hm1).mono ?_
                rintro e w3 ⟨rfl, hb⟩
                have hK3 := hK2.be hb
                clear hb hK2
                obtain ⟨c0, c1, c2, c3⟩ := hK3.b0.c4
                go_wp2_with fail
                refine (has_any _ _ _ (by omega) (by omega) (by omega) (by omega)).mono ?_
                rintro e w4 ⟨rfl, rfl⟩
                go_wp2_with fail
                first
                  | (go_ret; exact ⟨ret_int (by rw [HR.out, HE.out.1, HE.out.2.1, HE.out.2.2]; rfl), hK3.1⟩)
                  | skip
                all_goals
                  refine (digit3 _ _ hm0 hm1).mono ?_
                  rintro e w5 ⟨rfl, hb⟩
                  have hK4 := hK3.be hb
                  clear hb hK3
                  go_wp2_with fail
                  refine (has_any _ _ _ (by omega) (by omega) (by omega) (by omega)).mono ?_
                  rintro e w6 ⟨rfl, rfl⟩
                  go_wp2_with fail
                  go_ret
                  exact ⟨ret_int (by rw [HR.out, HE.out.1, HE.out.2.1, HE.out.2.2]; rfl), hK4.1⟩
  · have hr : refu k m o g = chk k m o g := if_neg h
    have hc : (chk k m o g != 0) = true := by simpa using h
    have HR := hide hr
    clear h hr
    go_enter Try.func17, Try.ntmps17
    go_wp2_with (go_at_call 13; refine (refcheck_any _ _ _ _ _).mono ?_; rintro e w1 ⟨rfl, hb⟩)
    go_ret
    exact ⟨ret_int HR.out.symm, below_tr (below_al (Below.refl _ _) _) hb⟩

end Go.Proofs.Ytheffimpadccaaa
