/-
  The plain law of ModeCuts: bit by bit.
-/
import Derived.Test.YtheffimpadccaaaModeCutsLaw
namespace Go.Proofs.Ytheffimpadccaaa
open Go.RowKit

def bitI (x : Int) (j : Nat) : Bool := (BitVec.ofInt 64 x).getLsbD j

theorem wrap_ofInt (n : Int) : BitVec.ofInt 64 (IntKind.i64.wrap n) = BitVec.ofInt 64 n := by
  rw [IntKind.wrap_i64]
  apply BitVec.eq_of_toNat_eq
  simp only [BitVec.toNat_ofInt, Nat.reducePow]
  omega
theorem ofInt_toNat (v : BitVec 64) : BitVec.ofInt 64 (IntKind.i64.wrap (v.toNat : Int)) = v := by
  rw [wrap_ofInt]
  apply BitVec.eq_of_toNat_eq
  have := v.isLt
  simp only [BitVec.toNat_ofInt, Nat.reducePow]
  omega
theorem bit_andNot (x y : Int) (j : Nat) (hj : j < 64) : bitI (bits .andNot .i64 x y) j = (bitI x j && !bitI y j) := by
  have e : BitVec.ofInt 64 (bits .andNot .i64 x y) = BitVec.ofInt 64 x &&& ~~~(BitVec.ofInt 64 y) := ofInt_toNat _
  unfold bitI
  rw [e, BitVec.getLsbD_and, BitVec.getLsbD_not]
  simp [hj]
theorem andB_bit (x : Int) (j : Nat) (hj : j < 12) : andB x (2 ^ j) = bitI x j := by
  have hp : (2 : Nat) ^ j ≤ 2 ^ 11 := Nat.pow_le_pow_right (by decide) (by omega)
  have hpos : 0 < (2 : Nat) ^ j := Nat.two_pow_pos j
  have e0 : ((2 : Int) ^ j) = ((2 ^ j : Nat) : Int) := by rw [Int.natCast_pow]; rfl
  have e : BitVec.ofInt 64 ((2 : Int) ^ j) = BitVec.twoPow 64 j := by
    apply BitVec.eq_of_toNat_eq
    rw [e0, BitVec.ofInt_natCast, BitVec.toNat_ofNat, BitVec.toNat_twoPow]
  have hb : bits .and .i64 x (2 ^ j) = IntKind.i64.wrap ((BitVec.ofInt 64 x &&& BitVec.twoPow 64 j).toNat : Int) := by
    show IntKind.i64.wrap ((BitVec.ofInt 64 x &&& BitVec.ofInt 64 ((2 : Int) ^ j)).toNat : Int) = _
    rw [e]
  unfold andB bitI
  rw [hb, BitVec.and_twoPow]
  have h11 : (2 : Nat) ^ 11 = 2048 := by decide
  cases h : (BitVec.ofInt 64 x).getLsbD j
  · simp [IntKind.wrap_i64]
  · rw [if_pos rfl, BitVec.toNat_twoPow, Nat.mod_eq_of_lt (by omega), IntKind.wrap_i64]
    simp only [bne_iff_ne, ne_eq]
    omega

theorem cutF_bit (l : List Int) (j : Nat) (hj : j < 12) : ∀ n : Int, bitI (cutF n l) j = (bitI n j && !goneB l (2 ^ j)) := by
  induction l with
  | nil => intro n; simp [cutF, goneB]
  | cons d l ih =>
    intro n
    have := ih (bits .andNot .i64 n d)
    show bitI (cutF (bits .andNot .i64 n d) l) j = _
    rw [this, bit_andNot n d j (by omega)]
    simp only [goneB, List.any_cons, andB_bit d j hj]
    cases bitI n j <;> cases bitI d j <;> simp

theorem andNot_range (x y : Int) (h0 : 0 ≤ x) (h1 : x < 4096) : 0 ≤ bits .andNot .i64 x y ∧ bits .andNot .i64 x y < 4096 := by
  obtain ⟨m, rfl⟩ := Int.eq_ofNat_of_zero_le h0
  have hle : (BitVec.ofInt 64 (m : Int) &&& ~~~(BitVec.ofInt 64 y)).toNat ≤ m := by
    rw [BitVec.toNat_and]
    refine Nat.le_trans Nat.and_le_left ?_
    rw [BitVec.ofInt_natCast, BitVec.toNat_ofNat]
    exact Nat.mod_le _ _
  have e : bits .andNot .i64 (m : Int) y = ((BitVec.ofInt 64 (m : Int) &&& ~~~(BitVec.ofInt 64 y)).toNat : Int) := by
    show IntKind.i64.wrap ((BitVec.ofInt 64 (m : Int) &&& ~~~(BitVec.ofInt 64 y)).toNat : Int) = _
    rw [IntKind.wrap_i64]
    omega
  rw [e]
  omega
theorem cutF_range (l : List Int) : ∀ n : Int, 0 ≤ n → n < 4096 → 0 ≤ cutF n l ∧ cutF n l < 4096 := by
  induction l with
  | nil => intro n h0 h1; exact ⟨h0, h1⟩
  | cons d l ih =>
    intro n h0 h1
    have h := andNot_range n d h0 h1
    exact ih _ h.1 h.2

theorem safe_all : ∀ a b : Fin 64, refu 0 (cutN ((64 * a.val + b.val : Nat) : Int) [3072, 18]) 0 0 = 0 := by decide +kernel

theorem cuts_plain (n : Int) (l : List Int) (h0 : 0 ≤ n) (h1 : n ≤ 4095) :
    (∀ j : Nat, j < 12 → andB (cutN n l) (2 ^ j) = (andB n (2 ^ j) && !goneB l (2 ^ j))) ∧ (0 ≤ cutN n l ∧ cutN n l < 4096) ∧ refu 0 (cutN n [3072, 18]) 0 0 = 0 := by
  have e : cutN n l = cutF n l := if_pos (below_lt h0 h1)
  refine ⟨fun j hj => ?_, ?_, ?_⟩
  · rw [e, andB_bit _ j hj, andB_bit _ j hj, cutF_bit l j hj]
  · rw [e]; exact cutF_range l n h0 (by omega)
  · obtain ⟨m, rfl⟩ := Int.eq_ofNat_of_zero_le h0
    have h := safe_all ⟨m / 64, by omega⟩ ⟨m % 64, by omega⟩
    have e2 : 64 * (m / 64) + m % 64 = m := Nat.div_add_mod m 64
    simp only [e2] at h
    exact h

end Go.Proofs.Ytheffimpadccaaa
