/-
  The contracts of path.sign and path.Name.
-/
import Derived.Test.YticcphppnmoogaaDoorRows
import Derived.WalkLawsBesides
import Derived.Test.YticcphppnmoogaaDoorWordsS
import Derived.WalkSpells
namespace Go.Proofs.YticcphppnmoogaaDoor
open Go.RowKit

def signB (c : Int) : Bool := decide (97 ≤ c ∧ c ≤ 122) || decide (48 ≤ c ∧ c ≤ 57) || c == 46 || c == 45 || c == 95
theorem psign_any (c : Int) (w : World) : Calls Tryd.prog 84 #[.int .u8 c] w fun e w' => e = .returned (.bool (signB c)) ∧ w = w' := by
  go_enter Tryd.func84, Tryd.ntmps84
  go_wp2
  all_goals go_ret
  all_goals exact ⟨ret_bool (by rw [Bool.eq_iff_iff]; simp [signB] <;> omega), rfl⟩

def nameB (s : ByteArray) : Bool := decide (1 ≤ s.size) && decide (s.size ≤ 24) && !(s.toList == [46]) && !(s.toList == [46, 46]) && s.data.toList.all fun c => signB (c.toNat : Nat)

theorem name_pre {s : ByteArray} (h1 : 1 ≤ s.size) (h2 : s.size ≤ 24) (h3 : (s.toList == [46]) = false) (h4 : (s.toList == [46, 46]) = false) : nameB s = s.data.toList.all fun c => signB (c.toNat : Nat) := by
  unfold nameB; rw [h3, h4]; simp [h1, h2]
theorem at_list {s : ByteArray} {i : Nat} (h : i < s.size) : s.data.toList[i]? = some s[i] := by
  have : i < s.data.toList.length := by simpa using h
  rw [List.getElem?_eq_getElem this]; rfl

theorem nm1 {s : ByteArray} (h : (s.size : Int) < 1) : nameB s = false := by unfold nameB; rw [show decide (1 ≤ s.size) = false from decide_eq_false (by omega)]; rfl
theorem nm2 {s : ByteArray} (h : 24 < (s.size : Int)) : nameB s = false := by unfold nameB; rw [show decide (s.size ≤ 24) = false from decide_eq_false (by omega)]; simp
theorem nm3 {s : ByteArray} (h : s.toList = [46]) : nameB s = false := by unfold nameB; rw [h]; simp
theorem nm4 {s : ByteArray} (h : s.toList = [46, 46]) : nameB s = false := by unfold nameB; rw [h]; simp
theorem nm5 {s : ByteArray} {i : Nat} (hi : i < s.size) (hc : signB ((s[i].toNat : Nat) : Int) = false) : nameB s = false := by
  unfold nameB
  rw [show (s.data.toList.all fun c => signB (c.toNat : Nat)) = false from List.all_eq_false.2 ⟨s[i], List.mem_of_getElem? (at_list hi), by rw [hc]; simp⟩]
  simp

set_option maxHeartbeats 1000000 in
theorem name_any (s : ByteArray) (w : World) (hs : s.size ≤ 9223372036854775807) : Calls Tryd.prog 74 #[.string s] w fun e w' => e = .returned (.bool (nameB s)) ∧ w = w' := by
  by_cases h1 : (s.size : Int) < 1
  · have HN := Sl.mk (nm1 h1)
    go_enter Tryd.func74, Tryd.ntmps74
    go_wp2
    go_step3
    go_wp2
    rw [Exit.noGoto_ret]
    go_ret
    exact ⟨by rw [HN.out]; rfl, rfl⟩
  by_cases h2 : 24 < (s.size : Int)
  · have HN := Sl.mk (nm2 h2)
    go_enter Tryd.func74, Tryd.ntmps74
    go_wp2
    go_step3
    go_wp2
    rw [Exit.noGoto_ret]
    go_ret
    exact ⟨by rw [HN.out]; rfl, rfl⟩
  by_cases h3 : s.toList = [46]
  · have HN := Sl.mk (nm3 h3)
    go_enter Tryd.func74, Tryd.ntmps74
    go_wp2
    go_step3
    go_wp2
    rw [Exit.noGoto_ret]
    go_ret
    exact ⟨by rw [HN.out]; rfl, rfl⟩
  have h3' : (s.toList == [46]) = false := by simpa using h3
  by_cases h4 : s.toList = [46, 46]
  · have HN := Sl.mk (nm4 h4)
    go_enter Tryd.func74, Tryd.ntmps74
    go_wp2
    go_step3
    go_wp2
    rw [Exit.noGoto_ret]
    go_ret
    exact ⟨by rw [HN.out]; rfl, rfl⟩
  have h4' : (s.toList == [46, 46]) = false := by simpa using h4
  have HN := Sl.mk (name_pre (s := s) (by omega) (by omega) h3' h4')
  go_enter Tryd.func74, Tryd.ntmps74
  go_wp2
  go_step3
  go_wp2
  go_step3
  go_wp2
  go_loopw [3, 22] (fun s3 s22 wr => ∃ i : Nat, i ≤ s.size ∧ s22 = .int .i64 i ∧ wr = w ∧ Hid (∀ j, j < i → ∃ c, s.data.toList[j]? = some c ∧ signB (c.toNat : Nat) = true)) (fun s3 s22 _ => s.size - (intOf s22).toNat)
  case atStart => exact ⟨0, Nat.zero_le _, rfl, rfl, fun j hj => absurd hj (Nat.not_lt_zero _)⟩
  case round =>
    obtain ⟨i, hi, rfl, rfl, HI⟩ := hrel
    by_cases hlt : i < s.size
    · have hib : (i : Int) < (s.size : Int) := by omega
      cases hc : signB ((s[i].toNat : Nat) : Int)
      · have H5 := Sl.mk (nm5 hlt hc)
        go_wp2_with fail
        refine (psign_any _ _).mono ?_
        rintro e w' ⟨rfl, rfl⟩
        rw [hc]
        go_wp2_with fail
        rw [Exit.noGoto_ret]
        go_ret
        exact ⟨by rw [H5.out]; rfl, rfl⟩
      · have HX := Sl.mk (show ∀ j, j < i + 1 → ∃ c, s.data.toList[j]? = some c ∧ signB (c.toNat : Nat) = true from fun j hj => by
          rcases Nat.lt_or_ge j i with h | h
          · exact HI j h
          · obtain rfl : j = i := by omega
            exact ⟨_, at_list hlt, hc⟩)
        go_wp2_with fail
        refine (psign_any _ _).mono ?_
        rintro e w' ⟨rfl, rfl⟩
        rw [hc]
        go_wp2_with fail
        exact ⟨⟨i + 1, by omega, by go_num, trivial, HX.out⟩, by simp [intOf]; omega⟩
    · obtain rfl : i = s.size := by omega
      have HA := Sl.mk (show (s.data.toList.all fun c => signB (c.toNat : Nat)) = true from List.all_eq_true.2 fun c hc => by
        obtain ⟨j, hj, e⟩ := List.mem_iff_getElem.1 hc
        obtain ⟨c', h1, h2⟩ := HI j (by simpa using hj)
        rw [List.getElem?_eq_getElem hj, e] at h1
        injection h1 with h1
        subst h1
        exact h2)
      go_wp2_with fail
      rw [Exit.noGoto_ret]
      go_ret
      exact ⟨by rw [HN.out, HA.out]; rfl, rfl⟩

end Go.Proofs.YticcphppnmoogaaDoor
