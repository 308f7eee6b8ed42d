/-
  The contracts of package digest's small functions; words of 32 bits as natural numbers.
-/
import Derived.Test.YticcphppnmoogaaDoorRows
import Derived.WalkKit
import Derived.WalkSpells
import Derived.WalkLawsBesides
import Derived.Test.YticcphppnmoogaaDoorWordsF
import Derived.Laws.BitsAllLaws
import Derived.Laws.BitsLemmas
namespace Go.Proofs.YticcphppnmoogaaDoor
open Go.RowKit

def xw (a b : Nat) : Nat := (a % 4294967296) ^^^ (b % 4294967296)
def ow (a b : Nat) : Nat := (a % 4294967296) ||| (b % 4294967296)
def nw (a b : Nat) : Nat := (a % 4294967296) &&& (b % 4294967296)
def aw (a b : Nat) : Nat := (a + b) % 4294967296
def dw (a k : Nat) : Nat := a / 2 ^ k
def lw (a k : Nat) : Nat := a * 2 ^ k % 4294967296
def rotw (x n : Nat) : Nat := ow (dw x n) (lw x (32 - n))

theorem ofInt32 (a : Nat) : (BitVec.ofInt 32 (a : Int)).toNat = a % 4294967296 := by
  rw [BitVec.ofInt_natCast, BitVec.toNat_ofNat]
theorem wrap_u32 (a : Nat) (h : a < 4294967296) : IntKind.u32.wrap (a : Int) = a := by
  rw [IntKind.wrap_u32]; omega
theorem bits_xor (a b : Nat) : bits .xor .u32 (a : Int) (b : Int) = ((xw a b : Nat) : Int) := by
  show IntKind.u32.wrap ((BitVec.ofInt 32 (a : Int) ^^^ BitVec.ofInt 32 (b : Int)).toNat : Int) = _
  rw [BitVec.toNat_xor, ofInt32, ofInt32]
  exact wrap_u32 _ (Nat.xor_lt_two_pow (n := 32) (Nat.mod_lt _ (by decide)) (Nat.mod_lt _ (by decide)))
theorem bits_or (a b : Nat) : bits .or .u32 (a : Int) (b : Int) = ((ow a b : Nat) : Int) := by
  show IntKind.u32.wrap ((BitVec.ofInt 32 (a : Int) ||| BitVec.ofInt 32 (b : Int)).toNat : Int) = _
  rw [BitVec.toNat_or, ofInt32, ofInt32]
  exact wrap_u32 _ (Nat.or_lt_two_pow (n := 32) (Nat.mod_lt _ (by decide)) (Nat.mod_lt _ (by decide)))
theorem bits_and (a b : Nat) : bits .and .u32 (a : Int) (b : Int) = ((nw a b : Nat) : Int) := by
  show IntKind.u32.wrap ((BitVec.ofInt 32 (a : Int) &&& BitVec.ofInt 32 (b : Int)).toNat : Int) = _
  rw [BitVec.toNat_and, ofInt32, ofInt32]
  exact wrap_u32 _ (Nat.and_lt_two_pow (n := 32) _ (Nat.mod_lt _ (by decide)))
theorem add_u32 (a b : Nat) : IntKind.u32.wrap ((a : Int) + (b : Int)) = ((aw a b : Nat) : Int) := by
  rw [IntKind.wrap_u32]; unfold aw; omega
theorem add_u32' (a b : Nat) : ((a : Int) + (b : Int)) % 4294967296 = ((aw a b : Nat) : Int) := by
  unfold aw; omega

theorem spin_any (x n : Nat) (w : World) (h0 : 1 ≤ n) (h1 : n ≤ 31) :
    Calls Tryd.prog 66 #[.int .u32 x, .int .i64 n] w fun e w' => e = .returned (.int .u32 (rotw x n)) ∧ ∃ k, w' = w.drewN k := by
  have hr : bits .or .u32 ((x : Int) / 2 ^ n) ((x : Int) * 2 ^ ((32 : Int) - (n : Int)).toNat % 4294967296) = ((rotw x n : Nat) : Int) := by
    have e1 : (x : Int) / 2 ^ n = ((dw x n : Nat) : Int) := by unfold dw; simp
    have e2 : (x : Int) * 2 ^ ((32 : Int) - (n : Int)).toNat % 4294967296 = ((lw x (32 - n) : Nat) : Int) := by
      rw [show ((32 : Int) - (n : Int)).toNat = 32 - n from by omega]; unfold lw; simp
    rw [e1, e2, bits_or]; rfl
  have HR := hide hr
  clear hr
  go_enter Tryd.func66, Tryd.ntmps66
  go_wp2_with fail
  go_quiet (fail)
  go_wp2_with fail
  go_ret
  refine ⟨?_, nq, rfl⟩
  rw [← HR.out]
  simp

theorem spin_i (x : Nat) (m : Int) (w : World) (h0 : 1 ≤ m) (h1 : m ≤ 31) :
    Calls Tryd.prog 66 #[.int .u32 x, .int .i64 m] w fun e w' => e = .returned (.int .u32 (rotw x m.toNat)) ∧ ∃ k, w' = w.drewN k := by
  obtain ⟨n, rfl⟩ := Int.eq_ofNat_of_zero_le (a := m) (by omega)
  exact spin_any x n w (by omega) (by omega)

end Go.Proofs.YticcphppnmoogaaDoor
