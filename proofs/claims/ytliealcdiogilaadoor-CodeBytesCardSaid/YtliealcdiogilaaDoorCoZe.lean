/-
  What is still to be read of bytes: the contract of instr, for any right instruction.
-/
import Derived.Test.YtliealcdiogilaaDoorCoZd
namespace Go.Proofs.YtliealcdiogilaaDoor
open Go.RowKit

theorem instr_any (B rb : Nat) (x : Ci) (R : List Nat) (w : World) (c : Int) (hc : 0 ≤ c ∧ c ≤ 9999) (hr : rightI x c = true) (hSp : Spw w B) (h : Rst w B rb (encI x ++ R)) :
    Calls Tryd.prog 34 #[.pointer (some ⟨rb, 0, none⟩)] w (InPost w B rb x R) := by
  obtain ⟨op, m, q⟩ := x
  have hw := right_word hr
  have hn := right_num hr hc
  have ht := right_text hr
  by_cases h2 : op = 2
  · subst h2
    have hm : m = 0 := by unfold rightI at hr; simp at hr; exact hr.1
    exact instr_text B rb ⟨2, m, q⟩ R w rfl hm ht hSp h
  · have hq : q = [] := by
      unfold rightI at hr
      simp only [h2, if_false] at hr
      split at hr
      · simp at hr; exact hr.1.1
      · split at hr
        · simp at hr; exact hr.1.1
        · split at hr
          · simp at hr; exact hr.1.1
          · simp at hr; exact hr.1.2
    cases hN : numB op with
    | true => exact instr_num B rb ⟨op, m, q⟩ R w hw hn hq hN hSp h
    | false =>
      have hm : m = 0 := by
        unfold numB at hN
        simp only [Bool.or_eq_false_iff, beq_eq_false_iff_ne] at hN
        unfold rightI at hr
        simp only [h2, hN.1.1.1, hN.2, hN.1.1.2, hN.1.2, or_self, if_false] at hr
        simp at hr
        exact hr.2
      exact instr_word B rb ⟨op, m, q⟩ R w hw hm hq hN h2 hSp h
end Go.Proofs.YtliealcdiogilaaDoor
