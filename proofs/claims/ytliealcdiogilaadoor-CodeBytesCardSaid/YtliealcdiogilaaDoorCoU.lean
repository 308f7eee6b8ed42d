/-
  Bytes: the contract of creelref01.Same; a program's bytes, plain.
-/
import Derived.Test.YtliealcdiogilaaDoorCoK
import Derived.Test.YtliealcdiogilaaDoorU8
import Derived.Lib.AppendStr
import Derived.Laws.BytesArg
namespace Go.Proofs.YtliealcdiogilaaDoor
open Go.RowKit
attribute [local go_sem ↓] Go.wp_at_zero Go.wp_at_succ

theorem u8s_app (a b : List Nat) : u8s (a ++ b) = u8s a ++ u8s b := by simp [u8s]
theorem bytes_n {w : World} {B n : Nat} {A : Option Addr} {l : List Nat} (h : Reads w B 1 A n (u8s l)) : l.length = n := by
  have := h.1
  rw [u8s_len] at this
  omega
theorem take_snoc' {α : Type} {l : List α} {i : Nat} {r : α} (h : l[i]? = some r) : l.take (i + 1) = l.take i ++ [r] := by rw [List.take_add_one, h]; rfl
def eqB (p q : List Nat) : Bool := decide (p = q)
theorem bytes_at {w : World} {B n : Nat} {A : Option Addr} {p : List Nat} (h : Reads w B 1 A n (u8s p)) {i : Nat} {s : Nat} (hi : p[i]? = some s) :
    ∃ ad, A = some ad ∧ ad.block < B ∧ w.cell? (ad.add i) = some (.int .u8 (s : Int)) := by
  have hl := bytes_n h
  have hil : i < p.length := (List.getElem?_eq_some_iff.1 hi).1
  obtain ⟨ad, e, hb, hc⟩ := h.2 (by omega)
  exact ⟨ad, e, hb, hc i _ (by simp [u8s, hi])⟩

set_option maxHeartbeats 1000000 in
theorem bsame_any (A1 A2 : Option Addr) (n c m d : Nat) (p q : List Nat) (w : World) (hn : n ≤ 1000000000) (hm : m ≤ 1000000000) (hR1 : Reads w w.heap.size 1 A1 n (u8s p)) (hR2 : Reads w w.heap.size 1 A2 m (u8s q)) :
    Calls Tryd.prog 20 #[.slice A1 n c, .slice A2 m d] w fun e w' => e = .returned (.bool (eqB p q)) ∧ ∃ k, w' = w.drewN k := by
  have HL1 := Sl.mk (bytes_n hR1)
  have HL2 := Sl.mk (bytes_n hR2)
  have HR1 := Sl.mk hR1
  have HR2 := Sl.mk hR2
  clear hR1 hR2
  by_cases hnm : n = m
  · subst hnm
    go_enter Tryd.func20, Tryd.ntmps20
    go_wp2_with fail
    go_loopw [5] (fun s5 wr => ∃ i k : Nat, i ≤ n ∧ s5 = .int .i64 i ∧ Sl (p.take i = q.take i) ∧ wr = w.drewN k) (fun s5 _ => n - (intOf s5).toNat)
    case atStart => exact ⟨0, 0, Nat.zero_le _, rfl, ⟨rfl⟩, rfl⟩
    case round =>
      obtain ⟨i, k, hi, rfl, HT, rfl⟩ := hrel
      by_cases hil : i < n
      · obtain ⟨s, hs⟩ : ∃ s, p[i]? = some s := ⟨_, List.getElem?_eq_getElem (by rw [HL1.out]; exact hil)⟩
        obtain ⟨t, ht⟩ : ∃ t, q[i]? = some t := ⟨_, List.getElem?_eq_getElem (by rw [HL2.out]; exact hil)⟩
        obtain ⟨a1, rfl, hb1, hc1⟩ := bytes_at HR1.out hs
        obtain ⟨a2, rfl, hb2, hc2⟩ := bytes_at HR2.out ht
        by_cases hst : s = t
        · subst hst
          have HT2 := Sl.mk (show p.take (i + 1) = q.take (i + 1) by rw [take_snoc' hs, take_snoc' ht, HT.out])
          clear hs ht
          go_wp2_with fail
          go_quiet (fail)
          go_wp2_with fail
          go_roundw
          case rel => exact ⟨i + 1, _, by omega, by go_num, HT2, rfl⟩
          case measure => simp [intOf]; omega
        · have HF := Sl.mk (show eqB p q = false from decide_eq_false fun e => hst (by rw [e, ht] at hs; injection hs with hs; exact hs.symm))
          have hbb : ((s : Int) == (t : Int)) = false := by simp; omega
          have hbn : ((s : Int) != (t : Int)) = true := by simp; omega
          clear hs ht hst
          go_wp2_with fail
          go_quiet (fail)
          go_wp2_with fail
          go_ret
          exact ⟨by rw [HF.out]; rfl, k + nq, by rw [World.drewN_drewN]⟩
      · obtain rfl : i = n := by omega
        have HF := Sl.mk (show eqB p q = true by
          have h := HT.out
          rw [List.take_of_length_le (by rw [HL1.out]; omega), List.take_of_length_le (by rw [HL2.out]; omega)] at h
          exact decide_eq_true h)
        go_wp2_with fail
        go_ret
        exact ⟨by rw [HF.out]; rfl, k, rfl⟩
  · have HF := Sl.mk (show eqB p q = false from decide_eq_false fun e => hnm (by rw [← HL1.out, ← HL2.out, e]))
    have h1 : ((n : Int) != (m : Int)) = true := by simp; omega
    have h2 : ((n : Int) == (m : Int)) = false := by simp; omega
    clear hnm
    go_enter Tryd.func20, Tryd.ntmps20
    go_wp2_with fail
    go_ret
    exact ⟨by rw [HF.out]; rfl, 0, rfl⟩

theorem u8Info : (Tryd.prog.info? 5).map (fun i => (i.zero, i.size, i.bytes)) = some (some (.int .u8 0), 1, 1) := by kernel_rfl
/-- A literal of the call's own, as a row. -/
theorem own_lit {w : World} {g n base : Nat} {l : List Nat} (h : Blk w g 5 (u8s l).toArray) (hn : n = l.length) (hb : base ≤ g) (hm : n ≤ 1000000) : w.ownsRow base 5 1 (.slice (some ⟨g, 0, none⟩) n n) n (u8s l) :=
  ⟨by rw [u8s_len]; omega, .inr ⟨g, n, _, rfl, hb, h, Nat.le_refl _, by unfold maxLen; omega, by simp [u8s_len, hn], by simp; exact List.take_of_length_le (by rw [u8s_len]; omega)⟩⟩

/-! ### A program's bytes -/
def numB (op : Int) : Bool := op == 1 || op == 11 || op == 12 || op == 21
def encI (x : Ci) : List Nat := x.op.toNat :: (if numB x.op = true then [x.n.toNat / 256, x.n.toNat % 256] else if x.op = 2 then x.s.length :: x.s.map UInt8.toNat else [])
def encB (l : List Ci) : List Nat := [72, 79, 79, 75, l.length] ++ l.flatMap encI

set_option maxHeartbeats 4000000 in
theorem number_any (op : Int) (w : World) :
    Calls Tryd.prog 17 #[.int .i64 op] w fun e w' => e = .returned (.bool (numB op)) ∧ w' = w := by
  by_cases h1 : op = 1
  · subst h1
    go_enter Tryd.func17, Tryd.ntmps17
    go_wp2_with fail
    go_ret
    exact ⟨rfl, rfl⟩
  · by_cases h2 : op = 11
    · subst h2
      go_enter Tryd.func17, Tryd.ntmps17
      go_wp2_with fail
      go_ret
      exact ⟨rfl, rfl⟩
    · by_cases h3 : op = 12
      · subst h3
        go_enter Tryd.func17, Tryd.ntmps17
        go_wp2_with fail
        go_ret
        exact ⟨rfl, rfl⟩
      · by_cases h4 : op = 21
        · subst h4
          go_enter Tryd.func17, Tryd.ntmps17
          go_wp2_with fail
          go_ret
          exact ⟨rfl, rfl⟩
        · have b1 : (op == 1) = false := beq_eq_false_iff_ne.2 h1
          have b2 : (op == 11) = false := beq_eq_false_iff_ne.2 h2
          have b3 : (op == 12) = false := beq_eq_false_iff_ne.2 h3
          have b4 : (op == 21) = false := beq_eq_false_iff_ne.2 h4
          have HR := Sl.mk (show numB op = false by unfold numB; rw [b1, b2, b3, b4]; rfl)
          clear h1 h2 h3 h4
          go_enter Tryd.func17, Tryd.ntmps17
          go_wp2_with fail
          go_ret
          exact ⟨by rw [HR.out]; rfl, rfl⟩
def EnPost (w : World) (l : List Ci) (e : Ending) (w' : World) : Prop :=
  Below w.heap.size w w' ∧ if (chkF l).2 ≠ 0 then e = .returned (.tuple #[.slice none 0 0, .int .i64 (chkF l).2]) else
    ∃ A c, e = .returned (.tuple #[.slice A (encB l).length c, .int .i64 0]) ∧ w'.ownsRow w.heap.size 5 1 (.slice A (encB l).length c) (encB l).length (u8s (encB l))
theorem right_word {op m n : Int} {q : List UInt8} (h : rightI ⟨op, m, q⟩ n = true) : 0 ≤ op ∧ op ≤ 21 := by
  unfold rightI at h
  by_cases h2 : op = 2
  · omega
  · by_cases h1 : op = 1
    · omega
    · by_cases h21 : op = 21
      · omega
      · by_cases h11 : op = 11 ∨ op = 12
        · omega
        · rw [if_neg h2, if_neg h1, if_neg h21, if_neg h11] at h
          simp only [Bool.and_eq_true, decide_eq_true_eq] at h
          exact ⟨h.1.1.1, h.1.1.2⟩
theorem right_num {op m n : Int} {q : List UInt8} (h : rightI ⟨op, m, q⟩ n = true) (hn : 0 ≤ n ∧ n ≤ 9999) : 0 ≤ m ∧ m ≤ 9999 := by
  unfold rightI at h
  by_cases h2 : op = 2
  · rw [if_pos h2] at h; simp at h; omega
  · by_cases h1 : op = 1
    · rw [if_neg h2, if_pos h1] at h; simp at h; omega
    · by_cases h21 : op = 21
      · rw [if_neg h2, if_neg h1, if_pos h21] at h; simp at h; omega
      · by_cases h11 : op = 11 ∨ op = 12
        · rw [if_neg h2, if_neg h1, if_neg h21, if_pos h11] at h; simp at h; omega
        · rw [if_neg h2, if_neg h1, if_neg h21, if_neg h11] at h; simp at h; omega
theorem right_text {op m n : Int} {q : List UInt8} (h : rightI ⟨op, m, q⟩ n = true) : q.length ≤ 60 := by
  unfold rightI at h
  by_cases h2 : op = 2
  · rw [if_pos h2] at h
    simp only [Bool.and_eq_true, decide_eq_true_eq, txS] at h
    exact h.2.1
  · have e : q = [] := by
      by_cases h1 : op = 1
      · rw [if_neg h2, if_pos h1] at h; simp at h; exact h.1.1
      · by_cases h21 : op = 21
        · rw [if_neg h2, if_neg h1, if_pos h21] at h; simp at h; exact h.1.1
        · by_cases h11 : op = 11 ∨ op = 12
          · rw [if_neg h2, if_neg h1, if_neg h21, if_pos h11] at h; simp at h; exact h.1.1
          · rw [if_neg h2, if_neg h1, if_neg h21, if_neg h11] at h; simp at h; exact h.1.2
    rw [e]; simp
theorem encI_len {x : Ci} {n : Int} (h : rightI x n = true) : (encI x).length ≤ 62 := by
  obtain ⟨op, m, q⟩ := x
  have := right_text h
  unfold encI
  simp only
  split
  · simp
  · split
    · simp; omega
    · simp
theorem encB_take {l : List Ci} {n : Int} (h : ∀ x ∈ l, rightI x n = true) (i : Nat) : ((l.take i).flatMap encI).length ≤ 62 * i := by
  induction i generalizing l with
  | zero => simp
  | succ i ih =>
    cases l with
    | nil => simp
    | cons a r =>
      rw [List.take_succ_cons, List.flatMap_cons, List.length_append]
      have h1 := encI_len (h a (List.mem_cons_self ..))
      have h2 := ih (l := r) (fun x hx => h x (List.mem_cons_of_mem _ hx))
      omega
end Go.Proofs.YtliealcdiogilaaDoor
