/-
  The contracts of slices.Equal at strings, path.Same, slices.Clone at strings, bytes.Clone.
-/
import Derived.Test.YtbnmbncjefnpiaaDoorPthB
import Derived.Test.YtbnmbncjefnpiaaDoorU8
namespace Go.Proofs.YtbnmbncjefnpiaaDoor
open Go.RowKit
attribute [local go_sem ↓] Go.wp_at_zero Go.wp_at_succ

theorem str_ne {s t : ByteArray} (h : s ≠ t) : (s.toList == t.toList) = false := by
  cases hb : s.toList == t.toList
  · rfl
  · exact absurd (toList_inj (by simpa using hb)) h
def eqP (p q : List ByteArray) : Bool := decide (p = q)
theorem eqP_take {p q : List ByteArray} {i : Nat} {s t : ByteArray} (hs : p[i]? = some s) (ht : q[i]? = some t) (h : s ≠ t) : eqP p q = false := by
  unfold eqP
  refine decide_eq_false fun e => h ?_
  rw [e, ht] at hs
  injection hs with hs
  exact hs.symm



theorem strInfo : (Tryd.prog.info? 9).map (fun i => (i.zero, i.size, i.bytes)) = some (some (.string ByteArray.empty), 1, 16) := by kernel_rfl
theorem u8Info : (Tryd.prog.info? 5).map (fun i => (i.zero, i.size, i.bytes)) = some (some (.int .u8 0), 1, 1) := by kernel_rfl


theorem u8s_app (a b : List Nat) : u8s (a ++ b) = u8s a ++ u8s b := by simp [u8s]
theorem bytes_n {w : World} {B n : Nat} {A : Option Addr} {l : List Nat} (h : Reads w B 1 A n (u8s l)) : l.length = n := by
  have := h.1
  rw [u8s_len] at this
  omega
theorem bclone_any (A : Option Addr) (n c : Nat) (l : List Nat) (w : World) (hn : n ≤ 1000000000) (hR : Reads w w.heap.size 1 A n (u8s l)) :
    Calls Tryd.prog 24 #[.slice A n c] w fun e w' => ∃ v', e = .returned v' ∧ w'.ownsRow w.heap.size 5 1 v' n (u8s l) ∧ Below w.heap.size w w' := by
  have q : ∀ (w : World) (a : Option Addr) (n c n' c' : Nat), (binOp .eql 23 (.slice a n c) (.slice none n' c')).run Tryd.prog w = .ok (.bool a.isNone) w := fun w a n c n' c' => Lib.run_eql_slice_nil w _ _ a n c n' c' Tryd.underlying23
  obtain ⟨i0, hi0, hz0, hz1, hz2⟩ := info_parts u8Info
  have hl := bytes_n hR
  cases A with
  | none =>
    have h0 : n = 0 := by
      rcases Nat.eq_zero_or_pos n with h | h
      · exact h
      · obtain ⟨ad, h, _⟩ := hR.2 h; cases h
    subst h0
    obtain rfl : l = [] := List.eq_nil_of_length_eq_zero hl
    clear hR
    go_enter Tryd.func24, Tryd.ntmps24
    go_wp2
    go_ret
    exact ⟨_, rfl, World.ownsRow_nil _ _ _ _, Below.refl _ _⟩
  | some ad =>
    have HR := Sl.mk (hR.alloc (Nat.le_refl _) (.cells #[] 5))
    clear hR hl
    go_enter Tryd.func24, Tryd.ntmps24
    go_wp2_with (at_builtin; refine wpList_append_anyG _ rfl (.tmp 5) (.tmp 6) 23 rfl w.heap.size 5 i0 (.int .u8 0) 1 1 Tryd.underlying23 hi0 hz0 hz1 hz2 rfl (by decide) _ _ _ rfl (own_empty w _ 1) w.heap.size _ _ _ _ rfl HR.out (u8s_one l) (by unfold maxLen; omega) (by omega) (by simp) ?_)
    intro v1 w1 hown hg hb
    go_wp2_with fail
    go_ret
    refine ⟨_, rfl, by simpa using hown, (below_al (Below.refl _ _) _).grown hg (by simp) (fun x hx => by simp [Value.ownBlock] at hx; omega)⟩

end Go.Proofs.YtbnmbncjefnpiaaDoor
