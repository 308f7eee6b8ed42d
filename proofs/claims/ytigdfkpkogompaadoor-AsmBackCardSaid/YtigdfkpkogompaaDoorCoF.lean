/-
  The contract of the reference's Behind at a right state and a word.
-/
import Derived.Test.YtigdfkpkogompaaDoorCoE
namespace Go.Proofs.YtigdfkpkogompaaDoor
open Go.RowKit
attribute [local go_sem ↓] Go.wp_at_zero Go.wp_at_succ

def tkL : List (List UInt8) := [[], [], [], [63], [63], [63, 63], [110, 110], [110, 110], [110, 110], [63, 63], [110], [], [110], [116, 116], [116], [116], [116, 116], [116], [116], [116], [116, 116], []]
def lvL : List (List UInt8) := [[], [110], [116], [], [], [], [110], [110], [110], [110], [110], [], [], [116], [110], [116, 110], [110], [110], [110], [116, 110], [110], []]
theorem run_index_strs {P : Program} (w : World) (T e : TypeId) (len : Nat) (hT : P.underlying T = some (.array len e)) (hE : P.underlying e = some .string) (hi : (P.info? e).map (·.size) = some 1) (l : List Value) (i : Nat) (v : Value)
    (hl : l[i]? = some v) (hil : i < len) : (Instr.index T (.agg l.toArray) (.int .i64 (i : Int))).run P w = .ok v w := by
  cases hq : P.info? e with
  | none => simp [hq] at hi
  | some x =>
    have hs : x.size = 1 := by simpa [hq] using hi
    simp [Instr.index, asIntOf, Sem.run_bind, run_underlying hT, part, isAgg, run_underlying hE, sizeOf, typeInfo, hq, hs, hil, hl]
theorem infoStr : (Tryd.prog.info? 9).map (·.size) = some 1 := by kernel_rfl
theorem idx_tk (k : Nat) (hk : k < 22) (w : World) : (Instr.index 58 (.agg (tkL.map fun l => Value.string (bsS l)).toArray) (.int .i64 k)).run Tryd.prog w = .ok (.string (bsS (tkL.getD k []))) w :=
  run_index_strs w _ _ 22 Tryd.underlying58 Tryd.underlying9 infoStr _ k _ (by
    have : tkL.length = 22 := rfl
    rw [List.getElem?_map, List.getElem?_eq_getElem (by omega), List.getD_eq_getElem?_getD, List.getElem?_eq_getElem (by omega)]; rfl) hk
theorem idx_lv (k : Nat) (hk : k < 22) (w : World) : (Instr.index 58 (.agg (lvL.map fun l => Value.string (bsS l)).toArray) (.int .i64 k)).run Tryd.prog w = .ok (.string (bsS (lvL.getD k []))) w :=
  run_index_strs w _ _ 22 Tryd.underlying58 Tryd.underlying9 infoStr _ k _ (by
    have : lvL.length = 22 := rfl
    rw [List.getElem?_map, List.getElem?_eq_getElem (by omega), List.getD_eq_getElem?_getD, List.getElem?_eq_getElem (by omega)]; rfl) hk

/-! ### What the reference computes -/
/-- A letter that is asked for is there. -/
def mtB (t s : List UInt8) (at_ j : Nat) : Bool := t.getD j 0 == 63 || t.getD j 0 == s.getD (at_ + j) 0
def lvR (s : List UInt8) (k at_ : Nat) : List UInt8 := if k = 4 then s.drop at_ ++ s.drop at_ else if k = 5 then s.drop (at_ + 1) ++ (s.drop at_).take 1 else lvL.getD k []
def rbF (s : List UInt8) (k : Nat) : List UInt8 × Int :=
  let t := tkL.getD k []
  if s.length < t.length then ([], 16)
  else
    let a := s.length - t.length
    if ∃ j, j < t.length ∧ mtB t s a j = false then ([], 16)
    else if k = 9 ∧ s.getD a 0 ≠ s.getD (a + 1) 0 then ([], 16)
    else if a + (lvR s k a).length ≤ 16 then (s.take a ++ lvR s k a, 0) else ([], 6)

theorem suf_iff (t s : List UInt8) : t.isSuffixOf s = true ↔ t.length ≤ s.length ∧ ∀ j, j < t.length → t.getD j 0 = s.getD (s.length - t.length + j) 0 := by
  rw [List.isSuffixOf_iff_suffix, List.suffix_iff_eq_drop]
  constructor
  · intro h
    have hl : t.length ≤ s.length := by rw [h, List.length_drop]; omega
    refine ⟨hl, fun j hj => ?_⟩
    rw [List.getD_eq_getElem?_getD, List.getD_eq_getElem?_getD]
    conv => lhs; rw [h]
    rw [List.getElem?_drop]
  · rintro ⟨hl, h⟩
    refine List.ext_getElem (by rw [List.length_drop]; omega) fun j h1 h2 => ?_
    have := h j h1
    rw [List.getD_eq_getElem?_getD, List.getD_eq_getElem?_getD, List.getElem?_eq_getElem h1, List.getElem?_eq_getElem (by omega)] at this
    rw [List.getElem_drop]
    simpa using this
/-- A fixed word: no '?' among the letters. -/
theorem rb_fix (s : List UInt8) (k : Nat) (h9 : k ≠ 9) (t l : List UInt8) (ht : tkL.getD k [] = t) (hl : ∀ a, lvR s k a = l) (hf : fixT k = some (t, l)) (hq : ∀ j, j < t.length → t.getD j 0 ≠ 63) (hr : rightS s = true) (hk : k < 22) : behF s k = rbF s k := by
  unfold behF effF rbF
  rw [if_neg (by rw [hr]; simp; omega), Int.toNat_natCast, hf, ht]
  simp only [hl]
  by_cases hs : t.isSuffixOf s = true
  · have h2 := (suf_iff t s).1 hs
    have hne : ¬ ∃ j, j < t.length ∧ mtB t s (s.length - t.length) j = false := by
      rintro ⟨j, hj, hm⟩
      unfold mtB at hm
      rw [h2.2 j hj] at hm
      simp at hm
    rw [if_pos hs, if_neg (show ¬ s.length < t.length by omega), if_neg hne, if_neg (fun h : k = 9 ∧ s.getD (s.length - t.length) 0 ≠ s.getD (s.length - t.length + 1) 0 => h9 h.1)]
  · rw [if_neg hs]
    by_cases hlen : s.length < t.length
    · rw [if_pos hlen]
    · rw [if_neg hlen, if_pos]
      refine Decidable.byContradiction fun hc => hs ((suf_iff t s).2 ⟨by omega, fun j hj => ?_⟩)
      refine Decidable.byContradiction fun he => hc ⟨j, hj, ?_⟩
      unfold mtB
      rw [beq_eq_false_iff_ne.2 (hq j hj), beq_eq_false_iff_ne.2 he]
      rfl
theorem last_suf (s : List UInt8) (n : Nat) (h : n ≤ s.length) : (lastN s n).isSuffixOf s = true ∧ (lastN s n).length = n := by
  refine ⟨List.isSuffixOf_iff_suffix.2 (List.drop_suffix _ _), ?_⟩
  unfold lastN; rw [List.length_drop]; omega
theorem q1 : ∀ j, j < ([63] : List UInt8).length → ∀ s a, mtB [63] s a j = true := by
  intro j hj s a
  obtain rfl : j = 0 := by simp at hj; omega
  rfl
theorem q2 : ∀ j, j < ([63, 63] : List UInt8).length → ∀ s a, mtB [63, 63] s a j = true := by
  intro j hj s a
  have : j = 0 ∨ j = 1 := by simp at hj; omega
  rcases this with rfl | rfl <;> rfl
theorem rb_turn (s : List UInt8) (k : Nat) (hk : k = 3 ∨ k = 4 ∨ k = 5 ∨ k = 9) (hr : rightS s = true) : behF s k = rbF s k := by
  have hx : ∀ (n : Nat) (t l : List UInt8), tkL.getD k [] = t → t.length = n → (∀ j, j < t.length → ∀ s a, mtB t s a j = true) → (n ≤ s.length → (if k = 9 ∧ s.getD (s.length - n) 0 ≠ s.getD (s.length - n + 1) 0 then none else some (lastN s n, lvR s k (s.length - n))) = turnF s k) → (s.length < n → turnF s k = none) → behF s k = rbF s k := by
    intro n t _ ht hn hm h1 h2
    unfold behF effF rbF
    rw [if_neg (by rw [hr]; simp; omega), Int.toNat_natCast, turn_none k hk, ht]
    simp only [hn]
    by_cases hl : s.length < n
    · rw [h2 hl, if_pos hl]
    · have hne : ¬ ∃ j, j < n ∧ mtB t s (s.length - n) j = false := by
        rintro ⟨j, hj, h⟩
        rw [hm j (by omega)] at h
        cases h
      rw [← h1 (by omega), if_neg hl, if_neg hne]
      by_cases h9 : k = 9 ∧ s.getD (s.length - n) 0 ≠ s.getD (s.length - n + 1) 0
      · rw [if_pos h9, if_pos h9]
      · rw [if_neg h9, if_neg h9]
        simp only
        have := last_suf s n (by omega)
        rw [if_pos this.1, this.2]
  have hs9 : ¬ k = 9 → ∀ p : Prop, ¬ (k = 9 ∧ p) := fun h p c => h c.1
  rcases hk with rfl | rfl | rfl | rfl
  · exact hx 1 [63] [] rfl rfl q1 (fun h => by simp [turnF, lvR, h, lvL]) (fun h => by unfold turnF; rw [if_pos rfl, if_neg (by omega)])
  · exact hx 1 [63] [] rfl rfl q1 (fun h => by simp [turnF, lvR, h, lastN]) (fun h => by unfold turnF; rw [if_neg (by decide), if_pos rfl, if_neg (by omega)])
  · refine hx 2 [63, 63] [] rfl rfl q2 (fun h => ?_) (fun h => by simp [turnF]; omega)
    obtain ⟨a, b, hab⟩ := last_two h
    have h1 : s.drop (s.length - 2) = [a, b] := hab
    have h2 : s.drop (s.length - 2 + 1) = [b] := by rw [← List.drop_drop, h1]; rfl
    simp [turnF, lvR, h, hab, h1, h2]
  · refine hx 2 [63, 63] [] rfl rfl q2 (fun h => ?_) (fun h => by simp [turnF]; omega)
    obtain ⟨a, b, hab⟩ := last_two h
    have h1 : s.drop (s.length - 2) = [a, b] := hab
    have e0 : s.getD (s.length - 2) 0 = a := by
      have := congrArg (fun l => l[0]?) h1
      rw [List.getElem?_drop] at this
      rw [List.getD_eq_getElem?_getD, show s[s.length - 2]? = some a from this]; rfl
    have e1 : s.getD (s.length - 2 + 1) 0 = b := by
      have := congrArg (fun l => l[1]?) h1
      rw [List.getElem?_drop] at this
      rw [List.getD_eq_getElem?_getD, show s[s.length - 2 + 1]? = some b from this]; rfl
    rw [e0, e1, hab]
    by_cases e : a = b
    · simp [turnF, lvR, h, hab, e, lvL]
    · simp [turnF, hab, e]
theorem noq : ∀ t ∈ tkL, t ≠ [63] → t ≠ [63, 63] → ∀ j, j < t.length → t.getD j 0 ≠ 63 := by decide
theorem fixs : ∀ k, k < 22 → ¬ (k = 3 ∨ k = 4 ∨ k = 5 ∨ k = 9) → fixT k = some (tkL.getD k [], lvL.getD k []) ∧ (tkL.getD k []) ∈ tkL ∧ tkL.getD k [] ≠ [63] ∧ tkL.getD k [] ≠ [63, 63] := by
  have h1 : ∀ k, k < 22 → (k = 3 ∨ k = 4 ∨ k = 5 ∨ k = 9) ∨ fixT k = some (tkL.getD k [], lvL.getD k []) := by decide
  have h2 : ∀ k, k < 22 → (k = 3 ∨ k = 4 ∨ k = 5 ∨ k = 9) ∨ (tkL.getD k [] ∈ tkL ∧ tkL.getD k [] ≠ [63] ∧ tkL.getD k [] ≠ [63, 63]) := by decide
  intro k hk h
  exact ⟨(h1 k hk).resolve_left h, (h2 k hk).resolve_left h⟩
theorem rb_eq (s : List UInt8) (k : Nat) (hk : k < 22) (hr : rightS s = true) : behF s k = rbF s k := by
  by_cases h : k = 3 ∨ k = 4 ∨ k = 5 ∨ k = 9
  · exact rb_turn s k h hr
  · obtain ⟨h1, h2, h3, h4⟩ := fixs k hk h
    exact rb_fix s k (fun e => h (.inr (.inr (.inr e)))) _ _ rfl (fun a => by unfold lvR; rw [if_neg (fun e => h (.inr (.inl e))), if_neg (fun e => h (.inr (.inr (.inl e))))]) h1 (noq _ h2 h3 h4) hr hk
theorem idx_tkL (k : Nat) (hk : k < 22) (w : World) : (Instr.index 58 (.agg #[.string { data := #[] }, .string { data := #[] }, .string { data := #[] }, .string { data := #[63] }, .string { data := #[63] }, .string { data := #[63, 63] }, .string { data := #[110, 110] }, .string { data := #[110, 110] }, .string { data := #[110, 110] }, .string { data := #[63, 63] }, .string { data := #[110] }, .string { data := #[] }, .string { data := #[110] }, .string { data := #[116, 116] }, .string { data := #[116] }, .string { data := #[116] }, .string { data := #[116, 116] }, .string { data := #[116] }, .string { data := #[116] }, .string { data := #[116] }, .string { data := #[116, 116] }, .string { data := #[] }]) (.int .i64 k)).run Tryd.prog w = .ok (.string (bsS (tkL.getD k []))) w := idx_tk k hk w
theorem idx_lvL (k : Nat) (hk : k < 22) (w : World) : (Instr.index 58 (.agg #[.string { data := #[] }, .string { data := #[110] }, .string { data := #[116] }, .string { data := #[] }, .string { data := #[] }, .string { data := #[] }, .string { data := #[110] }, .string { data := #[110] }, .string { data := #[110] }, .string { data := #[110] }, .string { data := #[110] }, .string { data := #[] }, .string { data := #[] }, .string { data := #[116] }, .string { data := #[110] }, .string { data := #[116, 110] }, .string { data := #[110] }, .string { data := #[110] }, .string { data := #[110] }, .string { data := #[116, 110] }, .string { data := #[110] }, .string { data := #[] }]) (.int .i64 k)).run Tryd.prog w = .ok (.string (bsS (lvL.getD k []))) w := idx_lv k hk w
theorem tk_len : ∀ k, k < 22 → (tkL.getD k []).length ≤ 2 ∧ (lvL.getD k []).length ≤ 2 := by decide
theorem bne8 (a b : UInt8) : ((a.toNat : Int) != (b.toNat : Int)) = !(a == b) := congrArg not (u8_beq a b)
theorem getD_nt {s : List UInt8} (h : s.all ntB = true) {j : Nat} (hj : j < s.length) : ntB (s.getD j 0) = true := by
  rw [List.all_eq_true] at h
  rw [List.getD_eq_getElem?_getD, List.getElem?_eq_getElem hj]
  exact h _ (List.getElem_mem hj)


end Go.Proofs.YtigdfkpkogompaaDoor
