/-
  The contract of run: how many bytes of a kind stand from a place on.
-/
import Derived.Test.YtegekeeffpfpjaaLexA
import Derived.LoopTactic
namespace Go.Proofs.Ytegekeeffpfpjaa
open Go.RowKit

def runL (p : Int → Bool) : List UInt8 → Nat
  | [] => 0
  | b :: l => if p (b.toNat : Int) = true then runL p l + 1 else 0

theorem runL_le (p : Int → Bool) (l : List UInt8) : runL p l ≤ l.length := by
  induction l with
  | nil => exact Nat.le_refl _
  | cons b l ih => unfold runL; split <;> simp <;> omega

theorem drop_at (s : ByteArray) (i : Nat) (h : i < s.size) : s.data.toList.drop i = s[i] :: s.data.toList.drop (i + 1) := by
  have h2 : i < s.data.toList.length := by simpa using h
  rw [List.drop_eq_getElem_cons h2]; rfl
theorem run_more {p : Int → Bool} {s : ByteArray} {a k : Nat} (h : a + k < s.size) (hp : p (s[a + k].toNat : Int) = true) (hr : runL p (s.data.toList.drop a) = k + runL p (s.data.toList.drop (a + k))) :
    runL p (s.data.toList.drop a) = k + 1 + runL p (s.data.toList.drop (a + (k + 1))) := by
  rw [hr, drop_at s (a + k) h]
  show k + (if _ then _ else _) = _
  rw [if_pos hp, ← Nat.add_assoc a k 1]; omega
theorem run_stop {p : Int → Bool} {s : ByteArray} {a k : Nat} (h : a + k < s.size) (hp : p (s[a + k].toNat : Int) = false) (hr : runL p (s.data.toList.drop a) = k + runL p (s.data.toList.drop (a + k))) :
    runL p (s.data.toList.drop a) = k := by
  rw [hr, drop_at s (a + k) h]
  show k + (if _ then _ else _) = _
  rw [if_neg (by rw [hp]; simp)]; rfl
theorem run_end {p : Int → Bool} {s : ByteArray} {a k : Nat} (h : s.size ≤ a + k) (hr : runL p (s.data.toList.drop a) = k + runL p (s.data.toList.drop (a + k))) :
    runL p (s.data.toList.drop a) = k := by
  have : s.data.toList.drop (a + k) = [] := List.drop_eq_nil_of_le (by simpa using h)
  rw [hr, this]; rfl

set_option maxHeartbeats 1000000 in
theorem run_digit (g a : Nat) (s : ByteArray) (w : World) (ha : a ≤ s.size) (hm : s.size ≤ 9223372036854775807) (hc : w.cell? ⟨g, 0, none⟩ = some (.string s)) :
    Calls Try.prog 27 #[.pointer (some ⟨g, 0, none⟩), .int .i64 a, .func (.func 26) #[] #[]] w fun e w' => e = .returned (.int .i64 (runL isDig (s.data.toList.drop a))) ∧ w = w' := by
  go_enter Try.func27, Try.ntmps27
  go_wp2
  go_loop [7] (fun s7 => ∃ k : Nat, s7 = .int .i64 k ∧ a + k ≤ s.size ∧ Hid (runL isDig (s.data.toList.drop a) = k + runL isDig (s.data.toList.drop (a + k)))) (fun s7 => s.size - (intOf s7).toNat)
  case atStart => exact ⟨0, rfl, by omega, by simp [Hid]⟩
  case round =>
    obtain ⟨k, rfl, hk, HR⟩ := hrel
    by_cases hlt : a + k < s.size
    · cases hp : isDig (s[a + k].toNat : Int)
      · have HE := hide (run_stop hlt hp HR.out)
        go_wp2_with (go_at_call 26; refine (digit_any _ _).mono ?_; rintro e w' ⟨rfl, rfl⟩)
        go_ret
        exact ⟨ret_int (by rw [HE.out]), rfl⟩
      · have HE := hide (run_more hlt hp HR.out)
        go_wp2_with (go_at_call 26; refine (digit_any _ _).mono ?_; rintro e w' ⟨rfl, rfl⟩)
        go_round
        case rel => exact ⟨k + 1, by go_num, by omega, HE⟩
        case measure => simp [intOf]; omega
    · have HE := hide (run_end (by omega) HR.out)
      go_wp2_with fail
      go_ret
      exact ⟨ret_int (by rw [HE.out]), rfl⟩

set_option maxHeartbeats 1000000 in
theorem run_pathed (g a : Nat) (s : ByteArray) (w : World) (ha : a ≤ s.size) (hm : s.size ≤ 9223372036854775807) (hc : w.cell? ⟨g, 0, none⟩ = some (.string s)) :
    Calls Try.prog 27 #[.pointer (some ⟨g, 0, none⟩), .int .i64 a, .func (.func 28) #[] #[]] w fun e w' => e = .returned (.int .i64 (runL isPat (s.data.toList.drop a))) ∧ w = w' := by
  go_enter Try.func27, Try.ntmps27
  go_wp2
  go_loop [7] (fun s7 => ∃ k : Nat, s7 = .int .i64 k ∧ a + k ≤ s.size ∧ Hid (runL isPat (s.data.toList.drop a) = k + runL isPat (s.data.toList.drop (a + k)))) (fun s7 => s.size - (intOf s7).toNat)
  case atStart => exact ⟨0, rfl, by omega, by simp [Hid]⟩
  case round =>
    obtain ⟨k, rfl, hk, HR⟩ := hrel
    by_cases hlt : a + k < s.size
    · cases hp : isPat (s[a + k].toNat : Int)
      · have HE := hide (run_stop hlt hp HR.out)
        go_wp2_with (go_at_call 28; refine (pathed_any _ _).mono ?_; rintro e w' ⟨rfl, rfl⟩)
        go_ret
        exact ⟨ret_int (by rw [HE.out]), rfl⟩
      · have HE := hide (run_more hlt hp HR.out)
        go_wp2_with (go_at_call 28; refine (pathed_any _ _).mono ?_; rintro e w' ⟨rfl, rfl⟩)
        go_round
        case rel => exact ⟨k + 1, by go_num, by omega, HE⟩
        case measure => simp [intOf]; omega
    · have HE := hide (run_end (by omega) HR.out)
      go_wp2_with fail
      go_ret
      exact ⟨ret_int (by rw [HE.out]), rfl⟩

set_option maxHeartbeats 1000000 in
theorem run_inner (g a : Nat) (s : ByteArray) (w : World) (ha : a ≤ s.size) (hm : s.size ≤ 9223372036854775807) (hc : w.cell? ⟨g, 0, none⟩ = some (.string s)) :
    Calls Try.prog 27 #[.pointer (some ⟨g, 0, none⟩), .int .i64 a, .func (.func 31) #[] #[]] w fun e w' => e = .returned (.int .i64 (runL isInn (s.data.toList.drop a))) ∧ w = w' := by
  go_enter Try.func27, Try.ntmps27
  go_wp2
  go_loop [7] (fun s7 => ∃ k : Nat, s7 = .int .i64 k ∧ a + k ≤ s.size ∧ Hid (runL isInn (s.data.toList.drop a) = k + runL isInn (s.data.toList.drop (a + k)))) (fun s7 => s.size - (intOf s7).toNat)
  case atStart => exact ⟨0, rfl, by omega, by simp [Hid]⟩
  case round =>
    obtain ⟨k, rfl, hk, HR⟩ := hrel
    by_cases hlt : a + k < s.size
    · cases hp : isInn (s[a + k].toNat : Int)
      · have HE := hide (run_stop hlt hp HR.out)
        go_wp2_with (go_at_call 31; refine (inner_any _ _).mono ?_; rintro e w' ⟨rfl, rfl⟩)
        go_ret
        exact ⟨ret_int (by rw [HE.out]), rfl⟩
      · have HE := hide (run_more hlt hp HR.out)
        go_wp2_with (go_at_call 31; refine (inner_any _ _).mono ?_; rintro e w' ⟨rfl, rfl⟩)
        go_round
        case rel => exact ⟨k + 1, by go_num, by omega, HE⟩
        case measure => simp [intOf]; omega
    · have HE := hide (run_end (by omega) HR.out)
      go_wp2_with fail
      go_ret
      exact ⟨ret_int (by rw [HE.out]), rfl⟩

set_option maxHeartbeats 1000000 in
theorem run_named (g a : Nat) (s : ByteArray) (w : World) (ha : a ≤ s.size) (hm : s.size ≤ 9223372036854775807) (hc : w.cell? ⟨g, 0, none⟩ = some (.string s)) :
    Calls Try.prog 27 #[.pointer (some ⟨g, 0, none⟩), .int .i64 a, .func (.func 32) #[] #[]] w fun e w' => e = .returned (.int .i64 (runL isNam (s.data.toList.drop a))) ∧ w = w' := by
  go_enter Try.func27, Try.ntmps27
  go_wp2
  go_loop [7] (fun s7 => ∃ k : Nat, s7 = .int .i64 k ∧ a + k ≤ s.size ∧ Hid (runL isNam (s.data.toList.drop a) = k + runL isNam (s.data.toList.drop (a + k)))) (fun s7 => s.size - (intOf s7).toNat)
  case atStart => exact ⟨0, rfl, by omega, by simp [Hid]⟩
  case round =>
    obtain ⟨k, rfl, hk, HR⟩ := hrel
    by_cases hlt : a + k < s.size
    · cases hp : isNam (s[a + k].toNat : Int)
      · have HE := hide (run_stop hlt hp HR.out)
        go_wp2_with (go_at_call 32; refine (named_any _ _).mono ?_; rintro e w' ⟨rfl, rfl⟩)
        go_ret
        exact ⟨ret_int (by rw [HE.out]), rfl⟩
      · have HE := hide (run_more hlt hp HR.out)
        go_wp2_with (go_at_call 32; refine (named_any _ _).mono ?_; rintro e w' ⟨rfl, rfl⟩)
        go_round
        case rel => exact ⟨k + 1, by go_num, by omega, HE⟩
        case measure => simp [intOf]; omega
    · have HE := hide (run_end (by omega) HR.out)
      go_wp2_with fail
      go_ret
      exact ⟨ret_int (by rw [HE.out]), rfl⟩

end Go.Proofs.Ytegekeeffpfpjaa
