/-
  The contract of code's Behind.
-/
import Derived.Test.YtigdfkpkogompaaDoorCoC
namespace Go.Proofs.YtigdfkpkogompaaDoor
open Go.RowKit
attribute [local go_sem ↓] Go.wp_at_zero Go.wp_at_succ


theorem effR_inv {v : Value} {ps : List MemPlace} {a b : List UInt8} (h : effR v = some (effD (a, b), ps)) : v = .agg #[.string (bsS a), .string (bsS b)] := by
  unfold effR at h
  split at h
  · rename_i cs
    split at h
    · rename_i x y hcs
      simp only [effD, Option.some.injEq, Prod.mk.injEq, DataW.agg.injEq, List.cons.injEq, DataW.lit.injEq, Lit.string.injEq] at h
      obtain ⟨⟨h1, h2, _⟩, _⟩ := h
      subst h1; subst h2
      rw [show cs = #[.string x, .string y] from Array.ext' hcs]
      rfl
    · cases h
  · cases h

theorem eff_fix : ∀ k : Nat, k < 22 → ∀ t l, fixT k = some (t, l) → effAll.atKey (.int .i64 (k : Nat)) (effD ([], [])) = effD (t, l) ∧ Go.Maps.has effAll (.int .i64 (k : Nat)) = true
  | 0, _, _, _, h => by cases h; exact ⟨by kernel_rfl, by kernel_rfl⟩
  | 1, _, _, _, h => by cases h; exact ⟨by kernel_rfl, by kernel_rfl⟩
  | 2, _, _, _, h => by cases h; exact ⟨by kernel_rfl, by kernel_rfl⟩
  | 3, _, _, _, h => by cases h
  | 4, _, _, _, h => by cases h
  | 5, _, _, _, h => by cases h
  | 6, _, _, _, h => by cases h; exact ⟨by kernel_rfl, by kernel_rfl⟩
  | 7, _, _, _, h => by cases h; exact ⟨by kernel_rfl, by kernel_rfl⟩
  | 8, _, _, _, h => by cases h; exact ⟨by kernel_rfl, by kernel_rfl⟩
  | 9, _, _, _, h => by cases h
  | 10, _, _, _, h => by cases h; exact ⟨by kernel_rfl, by kernel_rfl⟩
  | 11, _, _, _, h => by cases h; exact ⟨by kernel_rfl, by kernel_rfl⟩
  | 12, _, _, _, h => by cases h; exact ⟨by kernel_rfl, by kernel_rfl⟩
  | 13, _, _, _, h => by cases h; exact ⟨by kernel_rfl, by kernel_rfl⟩
  | 14, _, _, _, h => by cases h; exact ⟨by kernel_rfl, by kernel_rfl⟩
  | 15, _, _, _, h => by cases h; exact ⟨by kernel_rfl, by kernel_rfl⟩
  | 16, _, _, _, h => by cases h; exact ⟨by kernel_rfl, by kernel_rfl⟩
  | 17, _, _, _, h => by cases h; exact ⟨by kernel_rfl, by kernel_rfl⟩
  | 18, _, _, _, h => by cases h; exact ⟨by kernel_rfl, by kernel_rfl⟩
  | 19, _, _, _, h => by cases h; exact ⟨by kernel_rfl, by kernel_rfl⟩
  | 20, _, _, _, h => by cases h; exact ⟨by kernel_rfl, by kernel_rfl⟩
  | 21, _, _, _, h => by cases h; exact ⟨by kernel_rfl, by kernel_rfl⟩
  | k + 22, hk, _, _, _ => absurd hk (by omega)
theorem eff_turn : ∀ k : Nat, k = 3 ∨ k = 4 ∨ k = 5 ∨ k = 9 → effAll.atKey (.int .i64 (k : Nat)) (effD ([], [])) = effD ([], []) ∧ Go.Maps.has effAll (.int .i64 (k : Nat)) = false := by
  intro k hk
  rcases hk with rfl | rfl | rfl | rfl <;> exact ⟨by kernel_rfl, by kernel_rfl⟩

def BehPost (w : World) (r : List UInt8 × Int) (e : Ending) (w' : World) : Prop := e = .returned (.tuple #[.string (bsS r.1), .int .i64 r.2]) ∧ Below w.heap.size w w'
theorem trim_suf (s p : List UInt8) : (⟨(Lib.trimSuffix (bsS s).data.toList (bsS p).data.toList).toArray⟩ : ByteArray) = bsS (if p.isSuffixOf s then s.take (s.length - p.length) else s) := by
  show bsS (Lib.trimSuffix s p) = _
  unfold Lib.trimSuffix Lib.hasSuffix
  rfl
theorem word_empty (op : Int) : (bsS (wordF op)).toList.isEmpty = !(decide (0 ≤ op) && decide (op ≤ 21)) := by rw [bs_empty, wordF_ne]

theorem wf_small (k : Nat) (h : k ≤ 1000) : (Lit.int .i64 (k : Int)).wf = true := by
  have h1 : IntKind.i64.min = -9223372036854775808 := by decide
  have h2 : IntKind.i64.max = 9223372036854775807 := by decide
  simp [Lit.wf, h1, h2]; omega
theorem wrap_sum (a b : Nat) (h : a + b ≤ 1000000) : wrap64 ((a : Int) + b) = ((a + b : Nat) : Int) := by unfold wrap64; omega
theorem suf_len (t s : List UInt8) : t.isSuffixOf s = true → t.length ≤ s.length := fun h => (List.isSuffixOf_iff_suffix.1 h).length_le
theorem fix_len : ∀ k : Nat, k < 22 → ∀ t l, fixT k = some (t, l) → l.length ≤ 2
  | 0, _, _, _, h => by cases h; decide
  | 1, _, _, _, h => by cases h; decide
  | 2, _, _, _, h => by cases h; decide
  | 3, _, _, _, h => by cases h
  | 4, _, _, _, h => by cases h
  | 5, _, _, _, h => by cases h
  | 6, _, _, _, h => by cases h; decide
  | 7, _, _, _, h => by cases h; decide
  | 8, _, _, _, h => by cases h; decide
  | 9, _, _, _, h => by cases h
  | 10, _, _, _, h => by cases h; decide
  | 11, _, _, _, h => by cases h; decide
  | 12, _, _, _, h => by cases h; decide
  | 13, _, _, _, h => by cases h; decide
  | 14, _, _, _, h => by cases h; decide
  | 15, _, _, _, h => by cases h; decide
  | 16, _, _, _, h => by cases h; decide
  | 17, _, _, _, h => by cases h; decide
  | 18, _, _, _, h => by cases h; decide
  | 19, _, _, _, h => by cases h; decide
  | 20, _, _, _, h => by cases h; decide
  | 21, _, _, _, h => by cases h; decide
  | k + 22, hk, _, _, _ => absurd hk (by omega)
theorem cut_no (s t : List UInt8) (W : World) (hs : s.length ≤ 9223372036854775807) (h : t.isSuffixOf s = false) :
    Calls Tryd.prog 35 #[.string (bsS s), .string (bsS t)] W fun e w' => e = .returned (.tuple #[.string (bsS s), .bool false]) ∧ w' = W := by
  have H := strings_CutSuffix (bsS s) (bsS t) W (by rw [bs_size]; exact hs)
  rw [trim_suf, show Lib.hasSuffix (bsS s).data.toList (bsS t).data.toList = t.isSuffixOf s from rfl, h] at H
  exact H
theorem cut_yes (s t : List UInt8) (W : World) (hs : s.length ≤ 9223372036854775807) (h : t.isSuffixOf s = true) :
    Calls Tryd.prog 35 #[.string (bsS s), .string (bsS t)] W fun e w' => e = .returned (.tuple #[.string (bsS (s.take (s.length - t.length))), .bool true]) ∧ w' = W := by
  have H := strings_CutSuffix (bsS s) (bsS t) W (by rw [bs_size]; exact hs)
  rw [trim_suf, show Lib.hasSuffix (bsS s).data.toList (bsS t).data.toList = t.isSuffixOf s from rfl, h] at H
  exact H



theorem turn_none (k : Nat) (hk : k = 3 ∨ k = 4 ∨ k = 5 ∨ k = 9) : fixT k = none := by rcases hk with rfl | rfl | rfl | rfl <;> rfl
theorem turn_len (s : List UInt8) (k : Nat) (t l : List UInt8) (h : turnF s k = some (t, l)) : l.length ≤ 2 := by
  have h1 : ∀ n, n ≤ 2 → (lastN s n).length ≤ n := fun n _ => by unfold lastN; rw [List.length_drop]; omega
  have a1 := h1 1 (by omega)
  have a2 := h1 2 (by omega)
  unfold turnF at h
  split at h
  · split at h
    · cases h; simp
    · cases h
  · split at h
    · split at h
      · cases h; rw [List.length_append]; omega
      · cases h
    · split at h
      · split at h
        · cases h; rw [List.length_reverse]; omega
        · cases h
      · split at h
        · cases h; simp
        · cases h




end Go.Proofs.YtigdfkpkogompaaDoor
