/-
  The plain law of ModeGrows: more bits allow no less; the administrator may all; what is wanted at once is what is wanted one by one.
-/
import Derived.Test.YtheffimpadccaaaModeC
namespace Go.Proofs.Ytheffimpadccaaa
open Go.RowKit

def gd (x d : Int) : Bool := bits .andNot .i64 x d == 0
theorem gd_mono : ∀ x d e : Fin 8, gd (x.val : Int) (d.val : Int) = true → gd (x.val : Int) ((d.val ||| e.val : Nat) : Int) = true := by decide +kernel
theorem gd_seven : ∀ x : Fin 8, gd (x.val : Int) 7 = true := by decide +kernel
theorem gd_or : ∀ x y d : Fin 8, gd (bits .or .i64 (x.val : Int) (y.val : Int)) (d.val : Int) = (gd (x.val : Int) (d.val : Int) && gd (y.val : Int) (d.val : Int)) := by decide +kernel
theorem or_bel : ∀ x y : Fin 8, bel (bits .or .i64 (x.val : Int) (y.val : Int)) 8 = true := by decide +kernel

theorem or_i64 (m t : Nat) (hm : m < 4096) (ht : t < 4096) : bits .or .i64 (m : Int) (t : Int) = ((m ||| t : Nat) : Int) :=
  (bits_nat .i64 12 (by decide) (i64_wraps 12 (by decide)) m t hm ht).2
theorem or_digit (m t i : Nat) : (m ||| t) / 2 ^ i % 2 ^ 3 = (m / 2 ^ i % 2 ^ 3) ||| (t / 2 ^ i % 2 ^ 3) := by
  apply Nat.eq_of_testBit_eq
  intro j
  simp only [← Nat.shiftRight_eq_div_pow, Nat.testBit_or, Nat.testBit_mod_two_pow, Nat.testBit_shiftRight]
  cases decide (j < 3) <;> simp

theorem bts_lt (m o g who grp : Int) : 0 ≤ bts m o g who grp ∧ bts m o g who grp < 8 := by
  unfold bts
  split
  · omega
  split
  · omega
  split <;> omega

theorem bts_or (m t : Nat) (o g who grp : Int) :
    bts (m : Int) o g who grp = 7 ∧ bts ((m ||| t : Nat) : Int) o g who grp = 7 ∨ ∃ d e : Nat, d < 8 ∧ e < 8 ∧ bts (m : Int) o g who grp = d ∧ bts ((m ||| t : Nat) : Int) o g who grp = ((d ||| e : Nat) : Int) := by
  unfold bts
  by_cases hw : who = 0
  · exact .inl ⟨if_pos hw, if_pos hw⟩
  right
  rw [if_neg hw, if_neg hw]
  by_cases ho : who = o
  · refine ⟨m / 64 % 8, t / 64 % 8, by omega, by omega, ?_, ?_⟩
    · rw [if_pos ho]; simp
    · rw [if_pos ho]
      have := or_digit m t 6
      simp only [Nat.reducePow] at this
      rw [← this]; simp
  rw [if_neg ho, if_neg ho]
  by_cases hg : grp = g
  · refine ⟨m / 8 % 8, t / 8 % 8, by omega, by omega, ?_, ?_⟩
    · rw [if_pos hg]; simp
    · rw [if_pos hg]
      have := or_digit m t 3
      simp only [Nat.reducePow] at this
      rw [← this]; simp
  refine ⟨m % 8, t % 8, by omega, by omega, ?_, ?_⟩
  · rw [if_neg hg]; simp
  · rw [if_neg hg]
    have := or_digit m t 0
    simp only [Nat.reducePow, Nat.div_one] at this
    rw [← this]; simp

theorem canB_all {k m o g who grp : Int} {l : List Int} (hc : chk k m o g = 0) (h1 : bel who 65536 = true) (h2 : bel grp 65536 = true) : canB k m o g who grp l = l.all (good m o g who grp) := by
  unfold canB; rw [hc, h1, h2]; simp
theorem chk_or {k m o g t : Int} (hc : chk k m o g = 0) (ht : 0 ≤ t) (ht2 : t < 512) : chk k (bits .or .i64 m t) o g = 0 := by
  obtain ⟨h0, h1⟩ := chk_m hc
  obtain ⟨M, rfl⟩ := Int.eq_ofNat_of_zero_le h0
  obtain ⟨T, rfl⟩ := Int.eq_ofNat_of_zero_le ht
  have e := or_i64 M T (by omega) (by omega)
  have hlt : M ||| T < 2 ^ 12 := Nat.or_lt_two_pow (by omega) (by omega)
  have hb : bel ((M ||| T : Nat) : Int) 4096 = true := by unfold bel; rw [decide_eq_true_eq]; omega
  have hb2 : bel (M : Int) 4096 = true := by unfold bel; rw [decide_eq_true_eq]; omega
  rw [e]
  unfold chk at hc ⊢
  rw [hb]; rw [hb2] at hc
  exact hc

theorem grows_plain (k m o g who grp x y t : Int) (hx0 : 0 ≤ x) (hx1 : x < 8) (hy0 : 0 ≤ y) (hy1 : y < 8) (ht0 : 0 ≤ t) (ht1 : t < 512) (hc : chk k m o g = 0) (hw0 : 0 ≤ who) (hw1 : who ≤ 65535) (hg0 : 0 ≤ grp) (hg1 : grp ≤ 65535) :
    (canB k m o g who grp [x] = true → canB k (bits .or .i64 m t) o g who grp [x] = true) ∧ canB k m o g 0 grp [x, y] = true ∧
      canB k m o g who grp [x, y] = (canB k m o g who grp [x] && canB k m o g who grp [y]) ∧ canB k m o g who grp [bits .or .i64 x y] = (canB k m o g who grp [x] && canB k m o g who grp [y]) := by
  have b1 : bel who 65536 = true := by unfold bel; rw [decide_eq_true_eq]; omega
  have b2 : bel grp 65536 = true := by unfold bel; rw [decide_eq_true_eq]; omega
  have b0 : bel 0 65536 = true := by decide
  have bx : bel x 8 = true := by unfold bel; rw [decide_eq_true_eq]; omega
  have by_ : bel y 8 = true := by unfold bel; rw [decide_eq_true_eq]; omega
  obtain ⟨h0, h1⟩ := chk_m hc
  have hd := bts_lt m o g who grp
  rw [canB_all hc b1 b2, canB_all (chk_or hc ht0 ht1) b1 b2, canB_all hc b0 b2, canB_all hc b1 b2, canB_all hc b1 b2, canB_all hc b1 b2]
  obtain ⟨X, rfl⟩ := Int.eq_ofNat_of_zero_le hx0
  obtain ⟨Y, rfl⟩ := Int.eq_ofNat_of_zero_le hy0
  obtain ⟨M, rfl⟩ := Int.eq_ofNat_of_zero_le h0
  obtain ⟨T, rfl⟩ := Int.eq_ofNat_of_zero_le ht0
  have hX : X < 8 := by omega
  have hY : Y < 8 := by omega
  have e := or_i64 M T (by omega) (by omega)
  obtain ⟨D, hD⟩ := Int.eq_ofNat_of_zero_le hd.1
  have hDl : D < 8 := by omega
  have g7 : bts (M : Int) o g 0 grp = 7 := if_pos rfl
  simp only [List.all_cons, List.all_nil, Bool.and_true, good, bx, by_, Bool.true_and, or_bel ⟨X, hX⟩ ⟨Y, hY⟩, g7, e]
  refine ⟨?_, ?_, trivial, ?_⟩
  · rcases bts_or M T o g who grp with ⟨q1, q2⟩ | ⟨d, e2, hd1, he1, q1, q2⟩
    · rw [q1, q2]; exact id
    · rw [q1, q2]; exact gd_mono ⟨X, hX⟩ ⟨d, hd1⟩ ⟨e2, he1⟩
  · rw [show (bits .andNot .i64 (X : Int) 7 == 0) = true from gd_seven ⟨X, hX⟩, show (bits .andNot .i64 (Y : Int) 7 == 0) = true from gd_seven ⟨Y, hY⟩]; rfl
  · rw [hD]; exact gd_or ⟨X, hX⟩ ⟨Y, hY⟩ ⟨D, hDl⟩

end Go.Proofs.Ytheffimpadccaaa
