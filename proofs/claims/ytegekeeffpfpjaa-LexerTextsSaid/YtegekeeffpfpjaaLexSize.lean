/-
  The contract of size: how long the token is that stands here; its kind; 0: none.
-/
import Derived.Test.YtegekeeffpfpjaaLexWord
namespace Go.Proofs.Ytegekeeffpfpjaa
open Go.RowKit

def sizeL (l : List UInt8) : Nat × Nat :=
  if isLet ((l[0]?.getD 0).toNat : Int) = true then wordL l else if isDig ((l[0]?.getD 0).toNat : Int) = true then (runL isDig l, 1)
  else if (((l[0]?.getD 0).toNat : Int) == 47) = true then (runL isPat l, 2) else if isAlo ((l[0]?.getD 0).toNat : Int) = true then (1, 4) else (0, 0)

theorem drop_get0 {s : ByteArray} {a : Nat} (h : a < s.size) : (s.data.toList.drop a)[0]?.getD 0 = s[a] := drop_get (i := 0) h

set_option maxHeartbeats 2000000 in
theorem size_any (g : Nat) (s : ByteArray) (a ln : Nat) (w : World) (hR : Rd w g s a ln) (ha : a < s.size) (hm : s.size ≤ 1000000) :
    Calls Try.prog 22 #[.pointer (some ⟨g, 0, none⟩)] w (Still (.tuple #[.int .i64 (sizeL (s.data.toList.drop a)).1, .int .i64 (sizeL (s.data.toList.drop a)).2]) w g s a ln) := by
  have hs : s.size ≤ 9223372036854775807 := by omega
  have hai : (a : Int) < (s.size : Int) := by omega
  obtain ⟨c0, c1, c2⟩ := hR.c3
  have b0 : (0 : Int) ≤ (s[a].toNat : Int) := by omega
  have b1 : (s[a].toNat : Int) ≤ 255 := by have := s[a].toNat_lt; omega
  cases e1 : isLet (s[a].toNat : Int)
  · cases e2 : isDig (s[a].toNat : Int)
    · cases e3 : ((s[a].toNat : Int) == 47)
      · cases e4 : isAlo (s[a].toNat : Int)
        · have hw : sizeL (s.data.toList.drop a) = (0, 0) := by unfold sizeL; rw [drop_get0 ha, e1, e2, e3, e4]; rfl
          have HW := hide hw
          clear hw
          go_enter Try.func22, Try.ntmps22
          go_wp2_with fail
          go_quiet (fail)
          go_wp2_with (first | (go_at_call 24; refine (letter_any _ _).mono ?_; rintro e w' ⟨rfl, rfl⟩) | (go_at_call 26; refine (digit_any _ _).mono ?_; rintro e w' ⟨rfl, rfl⟩) | (go_at_call 29; refine (alone_any _ _ b0 b1).mono ?_; rintro e w' ⟨rfl, rfl⟩))
          go_ret2
          exact ⟨by rw [HW.out]; simp, hR.drN _, only_drewN (only_refl _ _) _⟩
        · have hw : sizeL (s.data.toList.drop a) = (1, 4) := by unfold sizeL; rw [drop_get0 ha, e1, e2, e3, e4]; rfl
          have HW := hide hw
          clear hw
          go_enter Try.func22, Try.ntmps22
          go_wp2_with fail
          go_quiet (fail)
          go_wp2_with (first | (go_at_call 24; refine (letter_any _ _).mono ?_; rintro e w' ⟨rfl, rfl⟩) | (go_at_call 26; refine (digit_any _ _).mono ?_; rintro e w' ⟨rfl, rfl⟩) | (go_at_call 29; refine (alone_any _ _ b0 b1).mono ?_; rintro e w' ⟨rfl, rfl⟩))
          go_ret2
          exact ⟨by rw [HW.out]; simp, hR.drN _, only_drewN (only_refl _ _) _⟩
      · have hw : sizeL (s.data.toList.drop a) = (runL isPat (s.data.toList.drop a), 2) := by unfold sizeL; rw [drop_get0 ha, e1, e2, e3]; rfl
        have HW := hide hw
        clear hw
        go_enter Try.func22, Try.ntmps22
        go_wp2_with fail
        go_quiet (fail)
        go_wp2_with (first | (go_at_call 24; refine (letter_any _ _).mono ?_; rintro e w' ⟨rfl, rfl⟩) | (go_at_call 26; refine (digit_any _ _).mono ?_; rintro e w' ⟨rfl, rfl⟩) | (go_at_call 29; refine (alone_any _ _ b0 b1).mono ?_; rintro e w' ⟨rfl, rfl⟩))
        go_quiet ((go_at_call 27; exact quiet_add_left (run_pathed g a s _ (by omega) hs c0)))
        go_wp2_with fail
        go_ret2
        exact ⟨by rw [HW.out]; rfl, (hR.drN _).drN _, only_drewN (only_drewN (only_refl _ _) _) _⟩
    · have hw : sizeL (s.data.toList.drop a) = (runL isDig (s.data.toList.drop a), 1) := by unfold sizeL; rw [drop_get0 ha, e1, e2]; rfl
      have HW := hide hw
      clear hw
      go_enter Try.func22, Try.ntmps22
      go_wp2_with fail
      go_quiet (fail)
      go_wp2_with (first | (go_at_call 24; refine (letter_any _ _).mono ?_; rintro e w' ⟨rfl, rfl⟩) | (go_at_call 26; refine (digit_any _ _).mono ?_; rintro e w' ⟨rfl, rfl⟩) | (go_at_call 29; refine (alone_any _ _ b0 b1).mono ?_; rintro e w' ⟨rfl, rfl⟩))
      go_quiet ((go_at_call 27; exact quiet_add_left (run_digit g a s _ (by omega) hs c0)))
      go_wp2_with fail
      go_ret2
      exact ⟨by rw [HW.out]; rfl, (hR.drN _).drN _, only_drewN (only_drewN (only_refl _ _) _) _⟩
  · have hw : sizeL (s.data.toList.drop a) = wordL (s.data.toList.drop a) := by unfold sizeL; rw [drop_get0 ha, e1]; rfl
    have HW := hide hw
    clear hw
    go_enter Try.func22, Try.ntmps22
    go_wp2_with fail
    go_quiet (fail)
    go_wp2_with (first | (go_at_call 24; refine (letter_any _ _).mono ?_; rintro e w' ⟨rfl, rfl⟩) | (go_at_call 26; refine (digit_any _ _).mono ?_; rintro e w' ⟨rfl, rfl⟩) | (go_at_call 29; refine (alone_any _ _ b0 b1).mono ?_; rintro e w' ⟨rfl, rfl⟩))
    refine (word_any g s a ln _ (hR.drN _) (by omega) hm).mono ?_
    rintro e w2 ⟨rfl, hR2, hG2⟩
    go_wp2_with fail
    go_ret2
    exact ⟨by rw [HW.out]; rfl, hR2, only_trans (only_drewN (only_refl _ _) _) hG2⟩

end Go.Proofs.Ytegekeeffpfpjaa
