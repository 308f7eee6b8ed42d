/-
  Bytes: the contract of creelref01.Same; a program's bytes, plain.
-/
import Derived.Test.YtigdfkpkogompaaDoorCoK
import Derived.Test.YtigdfkpkogompaaDoorU8
import Derived.Lib.AppendStr
import Derived.Laws.BytesArg
namespace Go.Proofs.YtigdfkpkogompaaDoor
open Go.RowKit
attribute [local go_sem ↓] Go.wp_at_zero Go.wp_at_succ

theorem u8s_app (a b : List Nat) : u8s (a ++ b) = u8s a ++ u8s b := by simp [u8s]
theorem bytes_n {w : World} {B n : Nat} {A : Option Addr} {l : List Nat} (h : Reads w B 1 A n (u8s l)) : l.length = n := by
  have := h.1
  rw [u8s_len] at this
  omega
theorem take_snoc' {α : Type} {l : List α} {i : Nat} {r : α} (h : l[i]? = some r) : l.take (i + 1) = l.take i ++ [r] := by rw [List.take_add_one, h]; rfl
def eqB (p q : List Nat) : Bool := decide (p = q)
theorem bytes_at {w : World} {B n : Nat} {A : Option Addr} {p : List Nat} (h : Reads w B 1 A n (u8s p)) {i : Nat} {s : Nat} (hi : p[i]? = some s) :
    ∃ ad, A = some ad ∧ ad.block < B ∧ w.cell? (ad.add i) = some (.int .u8 (s : Int)) := by
  have hl := bytes_n h
  have hil : i < p.length := (List.getElem?_eq_some_iff.1 hi).1
  obtain ⟨ad, e, hb, hc⟩ := h.2 (by omega)
  exact ⟨ad, e, hb, hc i _ (by simp [u8s, hi])⟩


theorem u8Info : (Tryd.prog.info? 5).map (fun i => (i.zero, i.size, i.bytes)) = some (some (.int .u8 0), 1, 1) := by kernel_rfl
/-- A literal of the call's own, as a row. -/
theorem own_lit {w : World} {g n base : Nat} {l : List Nat} (h : Blk w g 5 (u8s l).toArray) (hn : n = l.length) (hb : base ≤ g) (hm : n ≤ 1000000) : w.ownsRow base 5 1 (.slice (some ⟨g, 0, none⟩) n n) n (u8s l) :=
  ⟨by rw [u8s_len]; omega, .inr ⟨g, n, _, rfl, hb, h, Nat.le_refl _, by unfold maxLen; omega, by simp [u8s_len, hn], by simp; exact List.take_of_length_le (by rw [u8s_len]; omega)⟩⟩

/-! ### A program's bytes -/
def numB (op : Int) : Bool := op == 1 || op == 11 || op == 12 || op == 21
def encI (x : Ci) : List Nat := x.op.toNat :: (if numB x.op = true then [x.n.toNat / 256, x.n.toNat % 256] else if x.op = 2 then x.s.length :: x.s.map UInt8.toNat else [])
def encB (l : List Ci) : List Nat := [72, 79, 79, 75, l.length] ++ l.flatMap encI


def EnPost (w : World) (l : List Ci) (e : Ending) (w' : World) : Prop :=
  Below w.heap.size w w' ∧ if (chkF l).2 ≠ 0 then e = .returned (.tuple #[.slice none 0 0, .int .i64 (chkF l).2]) else
    ∃ A c, e = .returned (.tuple #[.slice A (encB l).length c, .int .i64 0]) ∧ w'.ownsRow w.heap.size 5 1 (.slice A (encB l).length c) (encB l).length (u8s (encB l))
theorem right_word {op m n : Int} {q : List UInt8} (h : rightI ⟨op, m, q⟩ n = true) : 0 ≤ op ∧ op ≤ 21 := by
  unfold rightI at h
  by_cases h2 : op = 2
  · omega
  · by_cases h1 : op = 1
    · omega
    · by_cases h21 : op = 21
      · omega
      · by_cases h11 : op = 11 ∨ op = 12
        · omega
        · rw [if_neg h2, if_neg h1, if_neg h21, if_neg h11] at h
          simp only [Bool.and_eq_true, decide_eq_true_eq] at h
          exact ⟨h.1.1.1, h.1.1.2⟩
theorem right_num {op m n : Int} {q : List UInt8} (h : rightI ⟨op, m, q⟩ n = true) (hn : 0 ≤ n ∧ n ≤ 9999) : 0 ≤ m ∧ m ≤ 9999 := by
  unfold rightI at h
  by_cases h2 : op = 2
  · rw [if_pos h2] at h; simp at h; omega
  · by_cases h1 : op = 1
    · rw [if_neg h2, if_pos h1] at h; simp at h; omega
    · by_cases h21 : op = 21
      · rw [if_neg h2, if_neg h1, if_pos h21] at h; simp at h; omega
      · by_cases h11 : op = 11 ∨ op = 12
        · rw [if_neg h2, if_neg h1, if_neg h21, if_pos h11] at h; simp at h; omega
        · rw [if_neg h2, if_neg h1, if_neg h21, if_neg h11] at h; simp at h; omega
theorem right_text {op m n : Int} {q : List UInt8} (h : rightI ⟨op, m, q⟩ n = true) : q.length ≤ 60 := by
  unfold rightI at h
  by_cases h2 : op = 2
  · rw [if_pos h2] at h
    simp only [Bool.and_eq_true, decide_eq_true_eq, txS] at h
    exact h.2.1
  · have e : q = [] := by
      by_cases h1 : op = 1
      · rw [if_neg h2, if_pos h1] at h; simp at h; exact h.1.1
      · by_cases h21 : op = 21
        · rw [if_neg h2, if_neg h1, if_pos h21] at h; simp at h; exact h.1.1
        · by_cases h11 : op = 11 ∨ op = 12
          · rw [if_neg h2, if_neg h1, if_neg h21, if_pos h11] at h; simp at h; exact h.1.1
          · rw [if_neg h2, if_neg h1, if_neg h21, if_neg h11] at h; simp at h; exact h.1.2
    rw [e]; simp
theorem encI_len {x : Ci} {n : Int} (h : rightI x n = true) : (encI x).length ≤ 62 := by
  obtain ⟨op, m, q⟩ := x
  have := right_text h
  unfold encI
  simp only
  split
  · simp
  · split
    · simp; omega
    · simp
theorem encB_take {l : List Ci} {n : Int} (h : ∀ x ∈ l, rightI x n = true) (i : Nat) : ((l.take i).flatMap encI).length ≤ 62 * i := by
  induction i generalizing l with
  | zero => simp
  | succ i ih =>
    cases l with
    | nil => simp
    | cons a r =>
      rw [List.take_succ_cons, List.flatMap_cons, List.length_append]
      have h1 := encI_len (h a (List.mem_cons_self ..))
      have h2 := ih (l := r) (fun x hx => h x (List.mem_cons_of_mem _ hx))
      omega
end Go.Proofs.YtigdfkpkogompaaDoor
