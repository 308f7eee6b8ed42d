/-
  The contracts of package lexer's predicates on a byte.
-/
import Derived.Test.YtegekeeffpfpjaaRows
import Derived.WalkKit
import Derived.WalkSpells
import Derived.WalkLawsBesides
import Derived.Test.YtegekeeffpfpjaaWordsD
import Derived.Lib.Bytealg
import Derived.Shelf.Strings.Search1
namespace Go.Proofs.Ytegekeeffpfpjaa
open Go.RowKit

def isLet (c : Int) : Bool := decide (97 ≤ c ∧ c ≤ 122)
def isDig (c : Int) : Bool := decide (48 ≤ c ∧ c ≤ 57)
def isInn (c : Int) : Bool := isLet c || isDig c || c == 45 || c == 95
def isNam (c : Int) : Bool := isInn c || c == 46
def isPat (c : Int) : Bool := isNam c || c == 47 || c == 42
def isAlo (c : Int) : Bool := c == 40 || c == 41 || c == 44 || c == 59 || c == 61 || c == 60 || c == 62 || c == 42

theorem letter_any (c : Int) (w : World) : Calls Try.prog 24 #[.int .u8 c] w fun e w' => e = .returned (.bool (isLet c)) ∧ w = w' := by
  go_enter Try.func24, Try.ntmps24
  go_wp2
  all_goals go_ret
  all_goals exact ⟨ret_bool (by unfold isLet; simp; omega), rfl⟩
theorem digit_any (c : Int) (w : World) : Calls Try.prog 26 #[.int .u8 c] w fun e w' => e = .returned (.bool (isDig c)) ∧ w = w' := by
  go_enter Try.func26, Try.ntmps26
  go_wp2
  all_goals go_ret
  all_goals exact ⟨ret_bool (by unfold isDig; simp; omega), rfl⟩
theorem inner_any (c : Int) (w : World) : Calls Try.prog 31 #[.int .u8 c] w fun e w' => e = .returned (.bool (isInn c)) ∧ w = w' := by
  cases e1 : isLet c <;> cases e2 : isDig c
  all_goals
    go_enter Try.func31, Try.ntmps31
    go_wp2_with (first | (go_at_call 24; refine (letter_any _ _).mono ?_; rintro e w' ⟨rfl, rfl⟩) | (go_at_call 26; refine (digit_any _ _).mono ?_; rintro e w' ⟨rfl, rfl⟩))
    all_goals go_ret
    all_goals exact ⟨ret_bool (by unfold isInn; rw [e1, e2]; simp <;> omega), rfl⟩
theorem named_any (c : Int) (w : World) : Calls Try.prog 32 #[.int .u8 c] w fun e w' => e = .returned (.bool (isNam c)) ∧ w = w' := by
  cases e1 : isInn c
  all_goals
    go_enter Try.func32, Try.ntmps32
    go_wp2_with (first | (go_at_call 31; refine (inner_any _ _).mono ?_; rintro e w' ⟨rfl, rfl⟩))
    all_goals go_ret
    all_goals exact ⟨ret_bool (by unfold isNam; rw [e1]; simp <;> omega), rfl⟩
theorem pathed_any (c : Int) (w : World) : Calls Try.prog 28 #[.int .u8 c] w fun e w' => e = .returned (.bool (isPat c)) ∧ w = w' := by
  cases e1 : isNam c
  all_goals
    go_enter Try.func28, Try.ntmps28
    go_wp2_with (first | (go_at_call 32; refine (named_any _ _).mono ?_; rintro e w' ⟨rfl, rfl⟩))
    all_goals go_ret
    all_goals exact ⟨ret_bool (by unfold isPat; rw [e1]; simp <;> omega), rfl⟩
theorem slite_any (s : ByteArray) (c : Int) (w : World) :
    Calls Try.prog 34 #[.string s, .int .u8 c] w fun e w' => e = .returned (.int .i64 (Lib.indexByte s.data.toList c.toNat.toUInt8)) ∧ w = w' := by
  go_enter Try.func34, Try.ntmps34
  go_wp2
  rw [run_callFunc_extern Try.func35 (by kernel_rfl) (by kernel_rfl) (by kernel_rfl) (e := Extern.BytealgIndexByte.indexByte) (by kernel_rfl), Lib.run_indexByteString]
  simp only [Result.andThen]
  rw [Oper.upon_value]
  go_wp2
  go_ret
  exact ⟨rfl, rfl⟩
theorem sindex_any (s : ByteArray) (c : Int) (w : World) :
    Calls Try.prog 33 #[.string s, .int .u8 c] w fun e w' => e = .returned (.int .i64 (Lib.indexByte s.data.toList c.toNat.toUInt8)) ∧ w = w' := by
  go_enter Try.func33, Try.ntmps33
  go_wp2_with (go_at_call 34; refine (slite_any _ _ _).mono ?_; rintro e w' ⟨rfl, rfl⟩)
  go_ret
  exact ⟨rfl, rfl⟩
theorem alo_idx : ∀ a b : Fin 16, decide (0 ≤ Lib.indexByte [40, 41, 44, 59, 61, 60, 62, 42] ((16 * a.val + b.val : Nat) : Int).toNat.toUInt8) = isAlo ((16 * a.val + b.val : Nat) : Int) := by decide +kernel
theorem alone_any (c : Int) (w : World) (h0 : 0 ≤ c) (h1 : c ≤ 255) : Calls Try.prog 29 #[.int .u8 c] w fun e w' => e = .returned (.bool (isAlo c)) ∧ w = w' := by
  have hA : decide (0 ≤ Lib.indexByte [40, 41, 44, 59, 61, 60, 62, 42] c.toNat.toUInt8) = isAlo c := by
    obtain ⟨n, rfl⟩ := Int.eq_ofNat_of_zero_le h0
    have h := alo_idx ⟨n / 16, by omega⟩ ⟨n % 16, by omega⟩
    have e2 : 16 * (n / 16) + n % 16 = n := Nat.div_add_mod n 16
    simp only [e2] at h
    exact h
  have HA := hide hA
  clear hA
  go_enter Try.func29, Try.ntmps29
  go_wp2_with fail
  refine (sindex_any _ _ _).mono ?_
  rintro e w' ⟨rfl, rfl⟩
  go_wp2_with fail
  go_ret
  exact ⟨ret_bool HA.out, rfl⟩

end Go.Proofs.Ytegekeeffpfpjaa
