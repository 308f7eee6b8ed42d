/-
  The contracts of code's reversed and turned.
-/
import Derived.Test.YtigdfkpkogompaaDoorCoB
import Derived.Test.YtigdfkpkogompaaDoorWordsV
import Derived.Test.YtigdfkpkogompaaDoorWordsW
namespace Go.Proofs.YtigdfkpkogompaaDoor
open Go.RowKit Go.Sort
attribute [local go_sem ↓] Go.wp_at_zero Go.wp_at_succ

theorem chars2 (a b : UInt8) : Lib.charsB (bsS [a, b]) = [bsS [a], bsS [b]] := by
  show [(bsS [a, b]).extract 0 1, (bsS [a, b]).extract 1 2] = _
  rw [bs_cut, bs_cut]; rfl
theorem ascii2 {a b : UInt8} (ha : a.toNat < 128) (hb : b.toNat < 128) : ∀ (j : Nat) c, (bsS [a, b]).data.toList[j]? = some c → c.toNat < 128 := fun j c h => by
  have := List.mem_of_getElem? h
  simp only [bsS, List.mem_cons, List.not_mem_nil, or_false] at this
  rcases this with rfl | rfl <;> assumption



theorem cells2 {w : World} {B : Nat} {x y : ByteArray} (h0 : w.cell? ⟨B, 0, none⟩ = some (.string x)) (h1 : w.cell? ⟨B, 1, none⟩ = some (.string y)) : ∀ (j : Nat) z, [x, y][j]? = some z → w.cell? ⟨B, 0 + j, none⟩ = some (.string z)
  | 0, z, hz => by simp at hz; subst hz; exact h0
  | 1, z, hz => by simp at hz; subst hz; exact h1
  | j + 2, z, hz => by simp at hz

/-- The two letters on the top. -/
theorem last_two {l : List UInt8} (h : 2 ≤ l.length) : ∃ a b, lastN l 2 = [a, b] := by
  have hl : (lastN l 2).length = 2 := by unfold lastN; simp; omega
  match hq : lastN l 2, hl with
  | [a, b], _ => exact ⟨a, b, rfl⟩
def TurnPost (w : World) (T : Option (List UInt8 × List UInt8)) (e : Ending) (w' : World) : Prop :=
  Below w.heap.size w w' ∧ match T with
    | none => ∃ a b : ByteArray, e = .returned (.tuple #[.agg #[.string a, .string b], .bool false])
    | some (t, r) => e = .returned (.tuple #[.agg #[.string (bsS t), .string (bsS r)], .bool true])



theorem nt_small {c : UInt8} (h : ntB c = true) : c.toNat < 128 := by
  simp only [ntB, Bool.or_eq_true, beq_iff_eq] at h
  rcases h with rfl | rfl <;> decide






end Go.Proofs.YtigdfkpkogompaaDoor
