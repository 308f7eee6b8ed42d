/-
  The contracts of slices.Equal at strings, path.Same, slices.Clone at strings, bytes.Clone.
-/
import Derived.Test.YticcphppnmoogaaDoorPthB
import Derived.Test.YticcphppnmoogaaDoorU8
namespace Go.Proofs.YticcphppnmoogaaDoor
open Go.RowKit
attribute [local go_sem ↓] Go.wp_at_zero Go.wp_at_succ

theorem str_ne {s t : ByteArray} (h : s ≠ t) : (s.toList == t.toList) = false := by
  cases hb : s.toList == t.toList
  · rfl
  · exact absurd (toList_inj (by simpa using hb)) h
def eqP (p q : List ByteArray) : Bool := decide (p = q)
theorem eqP_take {p q : List ByteArray} {i : Nat} {s t : ByteArray} (hs : p[i]? = some s) (ht : q[i]? = some t) (h : s ≠ t) : eqP p q = false := by
  unfold eqP
  refine decide_eq_false fun e => h ?_
  rw [e, ht] at hs
  injection hs with hs
  exact hs.symm

set_option maxHeartbeats 1000000 in
theorem eqs_any (A1 A2 : Option Addr) (n c m d : Nat) (p q : List ByteArray) (w : World) (hn : n ≤ 1000000) (hm : m ≤ 1000000) (hR1 : Reads w w.heap.size 1 A1 n (strV p)) (hR2 : Reads w w.heap.size 1 A2 m (strV q)) :
    Calls Tryd.prog 37 #[.slice A1 n c, .slice A2 m d] w fun e w' => e = .returned (.bool (eqP p q)) ∧ ∃ k, w' = w.drewN k := by
  have HL1 := Sl.mk (strs_n hR1)
  have HL2 := Sl.mk (strs_n hR2)
  have HR1 := Sl.mk hR1
  have HR2 := Sl.mk hR2
  clear hR1 hR2
  by_cases hnm : n = m
  · subst hnm
    go_enter Tryd.func37, Tryd.ntmps37
    go_wp2_with fail
    go_loopw [5, 13] (fun _ s13 wr => ∃ i k : Nat, i ≤ n ∧ s13 = .int .i64 i ∧ Sl (p.take i = q.take i) ∧ wr = w.drewN k) (fun _ s13 _ => n - (intOf s13).toNat)
    case atStart => exact ⟨0, 0, Nat.zero_le _, rfl, ⟨rfl⟩, rfl⟩
    case round =>
      obtain ⟨i, k, hi, rfl, HT, rfl⟩ := hrel
      by_cases hil : i < n
      · obtain ⟨s, hs⟩ : ∃ s, p[i]? = some s := ⟨_, List.getElem?_eq_getElem (by rw [HL1.out]; exact hil)⟩
        obtain ⟨t, ht⟩ : ∃ t, q[i]? = some t := ⟨_, List.getElem?_eq_getElem (by rw [HL2.out]; exact hil)⟩
        obtain ⟨a1, rfl, hb1, hc1⟩ := strs_at HR1.out hs
        obtain ⟨a2, rfl, hb2, hc2⟩ := strs_at HR2.out ht
        by_cases hst : s = t
        · subst hst
          have HT2 := Sl.mk (show p.take (i + 1) = q.take (i + 1) by rw [take_snoc' hs, take_snoc' ht, HT.out])
          have hbb : (s.toList == s.toList) = true := by simp
          clear hs ht
          go_wp2_with fail
          go_quiet (fail)
          go_wp2_with fail
          go_roundw
          case rel => exact ⟨i + 1, _, by omega, by go_num, HT2, rfl⟩
          case measure => simp [intOf]; omega
        · have HF := Sl.mk (eqP_take hs ht hst)
          have hbb := str_ne hst
          clear hs ht hst
          go_wp2_with fail
          go_quiet (fail)
          go_wp2_with fail
          go_ret
          exact ⟨by rw [HF.out]; rfl, k + nq, by rw [World.drewN_drewN]⟩
      · obtain rfl : i = n := by omega
        have HF := Sl.mk (show eqP p q = true by
          have h := HT.out
          rw [List.take_of_length_le (by rw [HL1.out]; omega), List.take_of_length_le (by rw [HL2.out]; omega)] at h
          exact decide_eq_true h)
        go_wp2_with fail
        go_ret
        exact ⟨by rw [HF.out]; rfl, k, rfl⟩
  · have HF := Sl.mk (show eqP p q = false from decide_eq_false fun e => hnm (by rw [← HL1.out, ← HL2.out, e]))
    have h1 : ((n : Int) != (m : Int)) = true := by simp; omega
    have h2 : ((n : Int) == (m : Int)) = false := by simp; omega
    clear hnm
    go_enter Tryd.func37, Tryd.ntmps37
    go_wp2_with fail
    go_ret
    exact ⟨by rw [HF.out]; rfl, 0, rfl⟩

theorem same_any (A1 A2 : Option Addr) (n c m d : Nat) (p q : List ByteArray) (w : World) (hn : n ≤ 1000000) (hm : m ≤ 1000000) (hR1 : Reads w w.heap.size 1 A1 n (strV p)) (hR2 : Reads w w.heap.size 1 A2 m (strV q)) :
    Calls Tryd.prog 24 #[.slice A1 n c, .slice A2 m d] w fun e w' => e = .returned (.bool (eqP p q)) ∧ ∃ k, w' = w.drewN k := by
  have H := Sl.mk (eqs_any A1 A2 n c m d p q w hn hm hR1 hR2)
  clear hR1 hR2
  go_enter Tryd.func24, Tryd.ntmps24
  go_wp2_with fail
  refine H.out.mono ?_
  rintro e w' ⟨rfl, k, rfl⟩
  go_wp2_with fail
  go_ret
  exact ⟨rfl, k, rfl⟩

theorem strInfo : (Tryd.prog.info? 9).map (fun i => (i.zero, i.size, i.bytes)) = some (some (.string ByteArray.empty), 1, 16) := by kernel_rfl
theorem u8Info : (Tryd.prog.info? 5).map (fun i => (i.zero, i.size, i.bytes)) = some (some (.int .u8 0), 1, 1) := by kernel_rfl

theorem sclone_any (A : Option Addr) (n c : Nat) (p : List ByteArray) (w : World) (hn : n ≤ 1000000) (hR : Reads w w.heap.size 1 A n (strV p)) :
    Calls Tryd.prog 38 #[.slice A n c] w fun e w' => ∃ v', e = .returned v' ∧ w'.ownsRow w.heap.size 9 1 v' n (strV p) ∧ Below w.heap.size w w' := by
  have q : ∀ (w : World) (a : Option Addr) (n c n' c' : Nat), (binOp .eql 31 (.slice a n c) (.slice none n' c')).run Tryd.prog w = .ok (.bool a.isNone) w := fun w a n c n' c' => Lib.run_eql_slice_nil w _ _ a n c n' c' Tryd.underlying31
  obtain ⟨i0, hi0, hz0, hz1, hz2⟩ := info_parts strInfo
  have hl := strs_n hR
  cases A with
  | none =>
    have h0 : n = 0 := by
      rcases Nat.eq_zero_or_pos n with h | h
      · exact h
      · obtain ⟨ad, h, _⟩ := hR.2 h; cases h
    subst h0
    obtain rfl : p = [] := List.eq_nil_of_length_eq_zero hl
    clear hR
    go_enter Tryd.func38, Tryd.ntmps38
    go_wp2
    go_ret
    exact ⟨_, rfl, World.ownsRow_nil _ _ _ _, Below.refl _ _⟩
  | some ad =>
    have HR := Sl.mk (hR.alloc (Nat.le_refl _) (.cells #[] 9))
    clear hR hl
    go_enter Tryd.func38, Tryd.ntmps38
    go_wp2_with (at_builtin; refine wpList_append_anyG _ rfl (.tmp 5) (.tmp 6) 31 rfl w.heap.size 9 i0 (.string ByteArray.empty) 1 16 Tryd.underlying31 hi0 hz0 hz1 hz2 rfl (by decide) _ _ _ rfl (own_empty w _ 1) w.heap.size _ _ _ _ rfl HR.out (strV_one p) (by unfold maxLen; omega) (by omega) (by simp) ?_)
    intro v1 w1 hown hg hb
    go_wp2_with fail
    go_ret
    refine ⟨_, rfl, by simpa using hown, (below_al (Below.refl _ _) _).grown hg (by simp) (fun x hx => by simp [Value.ownBlock] at hx; omega)⟩

theorem u8s_app (a b : List Nat) : u8s (a ++ b) = u8s a ++ u8s b := by simp [u8s]
theorem bytes_n {w : World} {B n : Nat} {A : Option Addr} {l : List Nat} (h : Reads w B 1 A n (u8s l)) : l.length = n := by
  have := h.1
  rw [u8s_len] at this
  omega
theorem bclone_any (A : Option Addr) (n c : Nat) (l : List Nat) (w : World) (hn : n ≤ 1000000000) (hR : Reads w w.heap.size 1 A n (u8s l)) :
    Calls Tryd.prog 39 #[.slice A n c] w fun e w' => ∃ v', e = .returned v' ∧ w'.ownsRow w.heap.size 5 1 v' n (u8s l) ∧ Below w.heap.size w w' := by
  have q : ∀ (w : World) (a : Option Addr) (n c n' c' : Nat), (binOp .eql 32 (.slice a n c) (.slice none n' c')).run Tryd.prog w = .ok (.bool a.isNone) w := fun w a n c n' c' => Lib.run_eql_slice_nil w _ _ a n c n' c' Tryd.underlying32
  obtain ⟨i0, hi0, hz0, hz1, hz2⟩ := info_parts u8Info
  have hl := bytes_n hR
  cases A with
  | none =>
    have h0 : n = 0 := by
      rcases Nat.eq_zero_or_pos n with h | h
      · exact h
      · obtain ⟨ad, h, _⟩ := hR.2 h; cases h
    subst h0
    obtain rfl : l = [] := List.eq_nil_of_length_eq_zero hl
    clear hR
    go_enter Tryd.func39, Tryd.ntmps39
    go_wp2
    go_ret
    exact ⟨_, rfl, World.ownsRow_nil _ _ _ _, Below.refl _ _⟩
  | some ad =>
    have HR := Sl.mk (hR.alloc (Nat.le_refl _) (.cells #[] 5))
    clear hR hl
    go_enter Tryd.func39, Tryd.ntmps39
    go_wp2_with (at_builtin; refine wpList_append_anyG _ rfl (.tmp 5) (.tmp 6) 32 rfl w.heap.size 5 i0 (.int .u8 0) 1 1 Tryd.underlying32 hi0 hz0 hz1 hz2 rfl (by decide) _ _ _ rfl (own_empty w _ 1) w.heap.size _ _ _ _ rfl HR.out (u8s_one l) (by unfold maxLen; omega) (by omega) (by simp) ?_)
    intro v1 w1 hown hg hb
    go_wp2_with fail
    go_ret
    refine ⟨_, rfl, by simpa using hown, (below_al (Below.refl _ _) _).grown hg (by simp) (fun x hx => by simp [Value.ownBlock] at hx; omega)⟩

end Go.Proofs.YticcphppnmoogaaDoor
