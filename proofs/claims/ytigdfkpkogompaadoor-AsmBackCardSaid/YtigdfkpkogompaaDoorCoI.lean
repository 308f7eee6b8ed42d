/-
  The contract of asm's Check.
-/
import Derived.Test.YtigdfkpkogompaaDoorCoH
namespace Go.Proofs.YtigdfkpkogompaaDoor
open Go.RowKit
attribute [local go_sem ↓] Go.wp_at_zero Go.wp_at_succ

theorem find_first {α : Type} (p : α → Bool) : ∀ (l : List α) (i : Nat) (x : α), l[i]? = some x → p x = true → (∀ j y, j < i → l[j]? = some y → p y = false) → l.findIdx? p = some i
  | [], i, x, h, _, _ => by simp at h
  | a :: r, 0, x, h, hp, _ => by
    simp at h; subst h
    rw [List.findIdx?_cons, if_pos hp]
  | a :: r, i + 1, x, h, hp, hn => by
    rw [List.findIdx?_cons, if_neg (by rw [hn 0 a (by omega) rfl]; simp)]
    rw [find_first p r i x (by simpa using h) hp (fun j y hj hy => hn (j + 1) y (by omega) (by simpa using hy))]
    rfl
theorem find_no {α : Type} (p : α → Bool) : ∀ (l : List α), (∀ j y, j < l.length → l[j]? = some y → p y = false) → l.findIdx? p = none
  | [], _ => rfl
  | a :: r, hn => by
    rw [List.findIdx?_cons, if_neg (by rw [hn 0 a (by simp) rfl]; simp)]
    rw [find_no p r (fun j y hj hy => hn (j + 1) y (by simp; omega) (by simpa using hy))]
    rfl
theorem chk_bad {l : List Ci} {i : Nat} {x : Ci} (hl : l.length ≤ 200) (hi : l[i]? = some x) (hx : rightI x l.length = false) (hn : ∀ j y, j < i → l[j]? = some y → rightI y l.length = true) : chkF l = (((i : Nat) : Int), 3) := by
  unfold chkF
  rw [if_neg (by omega), find_first _ l i x hi (by simp [hx]) (fun j y hj hy => by simp [hn j y hj hy])]
theorem chk_good {l : List Ci} (hl : l.length ≤ 200) (hn : ∀ j y, j < l.length → l[j]? = some y → rightI y l.length = true) : chkF l = (((l.length : Nat) : Int), 0) := by
  unfold chkF
  rw [if_neg (by omega), find_no _ l (fun j y hj hy => by simp [hn j y hj hy])]
theorem chk_long {l : List Ci} (hl : 200 < l.length) : chkF l = (200, 2) := by unfold chkF; rw [if_pos hl]
def CkPost (w : World) (l : List Ci) (e : Ending) (w' : World) : Prop := e = .returned (.tuple #[.int .i64 (chkF l).1, .int .i64 (chkF l).2]) ∧ Below w.heap.size w w'

set_option maxRecDepth 100000 in
set_option maxHeartbeats 4000000 in
theorem check_any (A : Option Addr) (n c : Nat) (l : List Ci) (w : World) (hn : n ≤ 1000000) (hI : Is w A n l) (hP : Spw w w.heap.size) :
    Calls Tryd.prog 7 #[.slice A n c] w (CkPost w l) := by
  have HN := Sl.mk hI.n_
  have HI := Sl.mk hI
  have HP := Sl.mk hP
  have H0 := Sl.mk (Below.refl w.heap.size w)
  clear hI hP
  by_cases h200 : 200 < n
  · have HR := Sl.mk (chk_long (l := l) (by rw [HN.out]; exact h200))
    go_enter Tryd.func7, Tryd.ntmps7
    go_wp2_with fail
    go_ret2
    exact ⟨by rw [HR.out]; rfl, H0.out⟩
  · go_enter Tryd.func7, Tryd.ntmps7
    go_wp2_with fail
    go_loopw [11] (fun v11 wr => ∃ i : Nat, i ≤ n ∧ v11 = .int .i64 i ∧ Sl (∀ j y, j < i → l[j]? = some y → rightI y l.length = true) ∧ Below w.heap.size w wr) (fun v11 _ => n - (intOf v11).toNat)
    case atStart => exact ⟨0, Nat.zero_le _, rfl, ⟨fun j y hj => absurd hj (Nat.not_lt_zero _)⟩, H0.out⟩
    case round =>
      obtain ⟨i, hi, rfl, HG, hB⟩ := hrel
      by_cases hlt : i < n
      · obtain ⟨x, hx⟩ : ∃ x, l[i]? = some x := ⟨_, List.getElem?_eq_getElem (by rw [HN.out]; exact hlt)⟩
        obtain ⟨ab, ao, rfl, hbl, hld, hsl⟩ := (HI.out.be hB).lit hx
        have HX := Sl.mk hx
        obtain ⟨op, k, s⟩ := x
        have hwa := below_al (Below.refl wr.heap.size wr) (.cells #[.int .i64 op, .int .i64 k, .string (bsS s)] 41)
        have hE := below_tr hB hwa
        have HR := Sl.mk (right_i op k (n : Nat) s (wr.alloc (.cells #[.int .i64 op, .int .i64 k, .string (bsS s)] 41)) (by have : s.length ≤ 1000000 := hsl; omega) ((HP.out.be hE).mono hE.size))
        have HE := Sl.mk hE
        clear hx hsl hwa hE
        cases hr : rightI ⟨op, k, s⟩ (n : Nat)
        · have HC := Sl.mk (chk_bad (by rw [HN.out]; omega) HX.out (by rw [HN.out]; exact hr) HG.out)
          rw [hr] at HR
          clear hr
          go_wp2_with (first
            | (refine ld_i hld rfl (.tmp 14) rfl rfl ?_)
            | (go_at_call 16; refine HR.out.mono ?_; rintro e w1 ⟨rfl, hb1⟩; have HB1 := Sl.mk (below_tr HE.out hb1); clear hb1))
          go_ret2
          exact ⟨by rw [HC.out]; rfl, HB1.out⟩
        · have HG2 := Sl.mk (show ∀ j y, j < i + 1 → l[j]? = some y → rightI y l.length = true from fun j y hj hy => by
            rcases Nat.lt_succ_iff_lt_or_eq.1 hj with h | rfl
            · exact HG.out j y h hy
            · have := Option.some.inj (HX.out.symm.trans hy); subst this; rw [HN.out]; exact hr)
          rw [hr] at HR
          clear hr HG
          go_wp2_with (first
            | (refine ld_i hld rfl (.tmp 14) rfl rfl ?_)
            | (go_at_call 16; refine HR.out.mono ?_; rintro e w1 ⟨rfl, hb1⟩; have HB1 := Sl.mk (below_tr HE.out hb1); clear hb1))
          go_roundw
          case rel => exact ⟨i + 1, by omega, by go_num, HG2, HB1.out⟩
          case measure => simp [intOf]; omega
      · obtain rfl : i = n := by omega
        have HC := Sl.mk (chk_good (by rw [HN.out]; omega) (fun j y hj hy => HG.out j y (by rw [← HN.out]; exact hj) hy))
        go_wp2_with fail
        go_ret2
        exact ⟨by rw [HC.out, HN.out]; rfl, hB⟩
end Go.Proofs.YtigdfkpkogompaaDoor
