/-
  The contract of word: how long a word, or a key, is that stands here; its kind.
-/
import Derived.Test.YtegekeeffpfpjaaLexSkip
namespace Go.Proofs.Ytegekeeffpfpjaa
open Go.RowKit

theorem quiet_left {P : Program} {f : FuncId} {args : Array Value} {w : World} {n : Nat} {v : Value}
    (h : Calls P f args (w.drewN n) fun e w' => e = .returned v ∧ w.drewN n = w') : Calls P f args (w.drewN n) fun e w' => e = .returned v ∧ ∃ m, w' = w.drewN m :=
  h.mono fun _ _ ⟨he, hm⟩ => ⟨he, n, hm.symm⟩
theorem quiet_add_left {P : Program} {f : FuncId} {args : Array Value} {w : World} {a n : Nat} {v : Value}
    (h : Calls P f args (w.drewN (a + n)) fun e w' => e = .returned v ∧ w.drewN (a + n) = w') :
    Calls P f args (w.drewN (a + n)) fun e w'' => e = .returned v ∧ ∃ m, w'' = w.drewN (a + m) :=
  h.mono fun _ _ ⟨he, hm⟩ => ⟨he, n, hm.symm⟩

def wordL (l : List UInt8) : Nat × Nat :=
  if runL isInn l + 1 < l.length ∧ (l[runL isInn l]?.getD 0).toNat = 46 then
    (if (l[runL isInn l + 1]?.getD 0).toNat = 42 then (runL isInn l + 2, 3)
     else if 0 < runL isNam (l.drop (runL isInn l + 1)) then (runL isInn l + 1 + runL isNam (l.drop (runL isInn l + 1)), 3) else (runL isInn l, 0))
  else (runL isInn l, 0)

theorem drop_get {s : ByteArray} {a i : Nat} (h : a + i < s.size) : (s.data.toList.drop a)[i]?.getD 0 = s[a + i] := by
  have h2 : a + i < s.data.toList.length := by simpa using h
  rw [List.getElem?_drop, List.getElem?_eq_getElem h2]; rfl
theorem len_drop (s : ByteArray) (a : Nat) : (s.data.toList.drop a).length = s.size - a := by simp

theorem word_no1 {s : ByteArray} {a n : Nat} (hn : runL isInn (s.data.toList.drop a) = n) (h : s.size ≤ a + n + 1) : wordL (s.data.toList.drop a) = (n, 0) := by
  unfold wordL; rw [hn, len_drop, if_neg (by omega)]
theorem word_no2 {s : ByteArray} {a n : Nat} (hn : runL isInn (s.data.toList.drop a) = n) (h : a + n < s.size) (hc : (((s[a + n].toNat : Nat) : Int) != 46) = true) : wordL (s.data.toList.drop a) = (n, 0) := by
  have h46 : ¬ s[a + n].toNat = 46 := by intro e; rw [e] at hc; exact absurd hc (by decide)
  unfold wordL; rw [hn, drop_get h, if_neg (fun x => h46 x.2)]
theorem word_st {s : ByteArray} {a n : Nat} (hn : runL isInn (s.data.toList.drop a) = n) (h : a + n + 1 < s.size) (hc : (((s[a + n].toNat : Nat) : Int) != 46) = false) (hd : (((s[a + n + 1].toNat : Nat) : Int) == 42) = true) :
    wordL (s.data.toList.drop a) = (n + 2, 3) := by
  have h46 : s[a + n].toNat = 46 := by simp at hc; omega
  have h42 : s[a + n + 1].toNat = 42 := by simp at hd; omega
  unfold wordL
  rw [hn, len_drop, drop_get (by omega), drop_get (i := n + 1) (by omega), if_pos ⟨by omega, h46⟩, if_pos (show s[a + (n + 1)].toNat = 42 from h42)]
theorem word_nm {s : ByteArray} {a n k : Nat} (hn : runL isInn (s.data.toList.drop a) = n) (h : a + n + 1 < s.size) (hc : (((s[a + n].toNat : Nat) : Int) != 46) = false) (hd : (((s[a + n + 1].toNat : Nat) : Int) == 42) = false)
    (hk : runL isNam (s.data.toList.drop (a + n + 1)) = k) : wordL (s.data.toList.drop a) = if 0 < k then (n + 1 + k, 3) else (n, 0) := by
  have h46 : s[a + n].toNat = 46 := by simp at hc; omega
  have h42 : ¬ s[a + n + 1].toNat = 42 := by simp at hd; omega
  unfold wordL
  rw [hn, len_drop, drop_get (by omega), drop_get (i := n + 1) (by omega), if_pos ⟨by omega, h46⟩, if_neg (show ¬ s[a + (n + 1)].toNat = 42 from h42), List.drop_drop, ← Nat.add_assoc a n 1, hk]

theorem run_named_x (g a : Nat) (s : ByteArray) (x : Int) (k : Nat) (w : World) (hk : runL isNam (s.data.toList.drop a) = k) (hx : x = a) (ha : a ≤ s.size) (hm : s.size ≤ 9223372036854775807) (hc : w.cell? ⟨g, 0, none⟩ = some (.string s)) :
    Calls Try.prog 27 #[.pointer (some ⟨g, 0, none⟩), .int .i64 x, .func (.func 32) #[] #[]] w fun e w' => e = .returned (.int .i64 k) ∧ w = w' := by
  subst hx; subst hk; exact run_named g a s w ha hm hc

set_option maxHeartbeats 2000000 in
theorem word_any (g : Nat) (s : ByteArray) (a ln : Nat) (w : World) (hR : Rd w g s a ln) (ha : a ≤ s.size) (hm : s.size ≤ 1000000) :
    Calls Try.prog 25 #[.pointer (some ⟨g, 0, none⟩)] w (Still (.tuple #[.int .i64 (wordL (s.data.toList.drop a)).1, .int .i64 (wordL (s.data.toList.drop a)).2]) w g s a ln) := by
  have hs : s.size ≤ 9223372036854775807 := by omega
  obtain ⟨c0, c1, c2⟩ := hR.c3
  obtain ⟨n, hn⟩ : ∃ n, runL isInn (s.data.toList.drop a) = n := ⟨_, rfl⟩
  have hnl : a + n ≤ s.size := by have := runL_le isInn (s.data.toList.drop a); rw [hn, len_drop] at this; omega
  have hrun := run_inner g a s
  rw [hn] at hrun
  have HRUN := hide hrun
  clear hrun
  by_cases h1 : a + n + 1 < s.size
  · cases hc : (((s[a + n].toNat : Nat) : Int) != 46)
    · cases hd : (((s[a + n + 1].toNat : Nat) : Int) == 42)
      · obtain ⟨k, hk⟩ : ∃ k, runL isNam (s.data.toList.drop (a + n + 1)) = k := ⟨_, rfl⟩
        have hkl : k ≤ s.size := by have := runL_le isNam (s.data.toList.drop (a + n + 1)); rw [hk, len_drop] at this; omega
        have HK := hide hk
        have hw := word_nm hn h1 hc hd hk
        by_cases hk0 : 0 < k
        · rw [if_pos hk0] at hw
          have HW := hide hw
          clear hw hn hk
          go_enter Try.func25, Try.ntmps25
          go_wp2_with fail
          go_quiet ((go_at_call 27; exact quiet_left (unhide HRUN _ ha hs c0)))
          go_wp2_with fail
          refine (run_named_x g (a + n + 1) s _ k _ (unhide HK) (by omega) (by omega) hs (by go_simp)).mono ?_
          rintro e w2 ⟨rfl, rfl⟩
          go_wp2_with fail
          go_ret2
          exact ⟨by rw [HW.out]; simp, hR.drN _, only_drewN (only_refl _ _) _⟩
        · rw [if_neg hk0] at hw
          have HW := hide hw
          clear hw hn hk
          go_enter Try.func25, Try.ntmps25
          go_wp2_with fail
          go_quiet ((go_at_call 27; exact quiet_left (unhide HRUN _ ha hs c0)))
          go_wp2_with fail
          refine (run_named_x g (a + n + 1) s _ k _ (unhide HK) (by omega) (by omega) hs (by go_simp)).mono ?_
          rintro e w2 ⟨rfl, rfl⟩
          go_wp2_with fail
          go_ret2
          exact ⟨by rw [HW.out]; simp, hR.drN _, only_drewN (only_refl _ _) _⟩
      · have HW := hide (word_st hn h1 hc hd)
        clear hn
        go_enter Try.func25, Try.ntmps25
        go_wp2_with fail
        go_quiet ((go_at_call 27; exact quiet_left (unhide HRUN _ ha hs c0)))
        go_wp2_with fail
        go_ret2
        exact ⟨by rw [HW.out]; simp, hR.drN _, only_drewN (only_refl _ _) _⟩
    · have HW := hide (word_no2 hn (by omega) hc)
      clear hn
      go_enter Try.func25, Try.ntmps25
      go_wp2_with fail
      go_quiet ((go_at_call 27; exact quiet_left (unhide HRUN _ ha hs c0)))
      go_wp2_with fail
      go_ret2
      exact ⟨by rw [HW.out]; simp, hR.drN _, only_drewN (only_refl _ _) _⟩
  · have HW := hide (word_no1 hn (by omega))
    clear hn
    go_enter Try.func25, Try.ntmps25
    go_wp2_with fail
    go_quiet ((go_at_call 27; exact quiet_left (unhide HRUN _ ha hs c0)))
    go_wp2_with fail
    go_ret2
    exact ⟨by rw [HW.out]; simp, hR.drN _, only_drewN (only_refl _ _) _⟩

end Go.Proofs.Ytegekeeffpfpjaa
