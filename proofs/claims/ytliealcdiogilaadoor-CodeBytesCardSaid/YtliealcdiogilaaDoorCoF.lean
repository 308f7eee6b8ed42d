/-
  The contract of the reference's Behind at a right state and a word.
-/
import Derived.Test.YtliealcdiogilaaDoorCoE
namespace Go.Proofs.YtliealcdiogilaaDoor
open Go.RowKit
attribute [local go_sem ↓] Go.wp_at_zero Go.wp_at_succ

def tkL : List (List UInt8) := [[], [], [], [63], [63], [63, 63], [110, 110], [110, 110], [110, 110], [63, 63], [110], [], [110], [116, 116], [116], [116], [116, 116], [116], [116], [116], [116, 116], []]
def lvL : List (List UInt8) := [[], [110], [116], [], [], [], [110], [110], [110], [110], [110], [], [], [116], [110], [116, 110], [110], [110], [110], [116, 110], [110], []]
theorem run_index_strs {P : Program} (w : World) (T e : TypeId) (len : Nat) (hT : P.underlying T = some (.array len e)) (hE : P.underlying e = some .string) (hi : (P.info? e).map (·.size) = some 1) (l : List Value) (i : Nat) (v : Value)
    (hl : l[i]? = some v) (hil : i < len) : (Instr.index T (.agg l.toArray) (.int .i64 (i : Int))).run P w = .ok v w := by
  cases hq : P.info? e with
  | none => simp [hq] at hi
  | some x =>
    have hs : x.size = 1 := by simpa [hq] using hi
    simp [Instr.index, asIntOf, Sem.run_bind, run_underlying hT, part, isAgg, run_underlying hE, sizeOf, typeInfo, hq, hs, hil, hl]
theorem infoStr : (Tryd.prog.info? 9).map (·.size) = some 1 := by kernel_rfl
theorem idx_tk (k : Nat) (hk : k < 22) (w : World) : (Instr.index 67 (.agg (tkL.map fun l => Value.string (bsS l)).toArray) (.int .i64 k)).run Tryd.prog w = .ok (.string (bsS (tkL.getD k []))) w :=
  run_index_strs w _ _ 22 Tryd.underlying67 Tryd.underlying9 infoStr _ k _ (by
    have : tkL.length = 22 := rfl
    rw [List.getElem?_map, List.getElem?_eq_getElem (by omega), List.getD_eq_getElem?_getD, List.getElem?_eq_getElem (by omega)]; rfl) hk
theorem idx_lv (k : Nat) (hk : k < 22) (w : World) : (Instr.index 67 (.agg (lvL.map fun l => Value.string (bsS l)).toArray) (.int .i64 k)).run Tryd.prog w = .ok (.string (bsS (lvL.getD k []))) w :=
  run_index_strs w _ _ 22 Tryd.underlying67 Tryd.underlying9 infoStr _ k _ (by
    have : lvL.length = 22 := rfl
    rw [List.getElem?_map, List.getElem?_eq_getElem (by omega), List.getD_eq_getElem?_getD, List.getElem?_eq_getElem (by omega)]; rfl) hk

/-! ### What the reference computes -/
/-- A letter that is asked for is there. -/
def mtB (t s : List UInt8) (at_ j : Nat) : Bool := t.getD j 0 == 63 || t.getD j 0 == s.getD (at_ + j) 0
def lvR (s : List UInt8) (k at_ : Nat) : List UInt8 := if k = 4 then s.drop at_ ++ s.drop at_ else if k = 5 then s.drop (at_ + 1) ++ (s.drop at_).take 1 else lvL.getD k []
def rbF (s : List UInt8) (k : Nat) : List UInt8 × Int :=
  let t := tkL.getD k []
  if s.length < t.length then ([], 16)
  else
    let a := s.length - t.length
    if ∃ j, j < t.length ∧ mtB t s a j = false then ([], 16)
    else if k = 9 ∧ s.getD a 0 ≠ s.getD (a + 1) 0 then ([], 16)
    else if a + (lvR s k a).length ≤ 16 then (s.take a ++ lvR s k a, 0) else ([], 6)

theorem suf_iff (t s : List UInt8) : t.isSuffixOf s = true ↔ t.length ≤ s.length ∧ ∀ j, j < t.length → t.getD j 0 = s.getD (s.length - t.length + j) 0 := by
  rw [List.isSuffixOf_iff_suffix, List.suffix_iff_eq_drop]
  constructor
  · intro h
    have hl : t.length ≤ s.length := by rw [h, List.length_drop]; omega
    refine ⟨hl, fun j hj => ?_⟩
    rw [List.getD_eq_getElem?_getD, List.getD_eq_getElem?_getD]
    conv => lhs; rw [h]
    rw [List.getElem?_drop]
  · rintro ⟨hl, h⟩
    refine List.ext_getElem (by rw [List.length_drop]; omega) fun j h1 h2 => ?_
    have := h j h1
    rw [List.getD_eq_getElem?_getD, List.getD_eq_getElem?_getD, List.getElem?_eq_getElem h1, List.getElem?_eq_getElem (by omega)] at this
    rw [List.getElem_drop]
    simpa using this
/-- A fixed word: no '?' among the letters. -/
theorem rb_fix (s : List UInt8) (k : Nat) (h9 : k ≠ 9) (t l : List UInt8) (ht : tkL.getD k [] = t) (hl : ∀ a, lvR s k a = l) (hf : fixT k = some (t, l)) (hq : ∀ j, j < t.length → t.getD j 0 ≠ 63) (hr : rightS s = true) (hk : k < 22) : behF s k = rbF s k := by
  unfold behF effF rbF
  rw [if_neg (by rw [hr]; simp; omega), Int.toNat_natCast, hf, ht]
  simp only [hl]
  by_cases hs : t.isSuffixOf s = true
  · have h2 := (suf_iff t s).1 hs
    have hne : ¬ ∃ j, j < t.length ∧ mtB t s (s.length - t.length) j = false := by
      rintro ⟨j, hj, hm⟩
      unfold mtB at hm
      rw [h2.2 j hj] at hm
      simp at hm
    rw [if_pos hs, if_neg (show ¬ s.length < t.length by omega), if_neg hne, if_neg (fun h : k = 9 ∧ s.getD (s.length - t.length) 0 ≠ s.getD (s.length - t.length + 1) 0 => h9 h.1)]
  · rw [if_neg hs]
    by_cases hlen : s.length < t.length
    · rw [if_pos hlen]
    · rw [if_neg hlen, if_pos]
      refine Decidable.byContradiction fun hc => hs ((suf_iff t s).2 ⟨by omega, fun j hj => ?_⟩)
      refine Decidable.byContradiction fun he => hc ⟨j, hj, ?_⟩
      unfold mtB
      rw [beq_eq_false_iff_ne.2 (hq j hj), beq_eq_false_iff_ne.2 he]
      rfl
theorem last_suf (s : List UInt8) (n : Nat) (h : n ≤ s.length) : (lastN s n).isSuffixOf s = true ∧ (lastN s n).length = n := by
  refine ⟨List.isSuffixOf_iff_suffix.2 (List.drop_suffix _ _), ?_⟩
  unfold lastN; rw [List.length_drop]; omega
theorem q1 : ∀ j, j < ([63] : List UInt8).length → ∀ s a, mtB [63] s a j = true := by
  intro j hj s a
  obtain rfl : j = 0 := by simp at hj; omega
  rfl
theorem q2 : ∀ j, j < ([63, 63] : List UInt8).length → ∀ s a, mtB [63, 63] s a j = true := by
  intro j hj s a
  have : j = 0 ∨ j = 1 := by simp at hj; omega
  rcases this with rfl | rfl <;> rfl
theorem rb_turn (s : List UInt8) (k : Nat) (hk : k = 3 ∨ k = 4 ∨ k = 5 ∨ k = 9) (hr : rightS s = true) : behF s k = rbF s k := by
  have hx : ∀ (n : Nat) (t l : List UInt8), tkL.getD k [] = t → t.length = n → (∀ j, j < t.length → ∀ s a, mtB t s a j = true) → (n ≤ s.length → (if k = 9 ∧ s.getD (s.length - n) 0 ≠ s.getD (s.length - n + 1) 0 then none else some (lastN s n, lvR s k (s.length - n))) = turnF s k) → (s.length < n → turnF s k = none) → behF s k = rbF s k := by
    intro n t _ ht hn hm h1 h2
    unfold behF effF rbF
    rw [if_neg (by rw [hr]; simp; omega), Int.toNat_natCast, turn_none k hk, ht]
    simp only [hn]
    by_cases hl : s.length < n
    · rw [h2 hl, if_pos hl]
    · have hne : ¬ ∃ j, j < n ∧ mtB t s (s.length - n) j = false := by
        rintro ⟨j, hj, h⟩
        rw [hm j (by omega)] at h
        cases h
      rw [← h1 (by omega), if_neg hl, if_neg hne]
      by_cases h9 : k = 9 ∧ s.getD (s.length - n) 0 ≠ s.getD (s.length - n + 1) 0
      · rw [if_pos h9, if_pos h9]
      · rw [if_neg h9, if_neg h9]
        simp only
        have := last_suf s n (by omega)
        rw [if_pos this.1, this.2]
  have hs9 : ¬ k = 9 → ∀ p : Prop, ¬ (k = 9 ∧ p) := fun h p c => h c.1
  rcases hk with rfl | rfl | rfl | rfl
  · exact hx 1 [63] [] rfl rfl q1 (fun h => by simp [turnF, lvR, h, lvL]) (fun h => by unfold turnF; rw [if_pos rfl, if_neg (by omega)])
  · exact hx 1 [63] [] rfl rfl q1 (fun h => by simp [turnF, lvR, h, lastN]) (fun h => by unfold turnF; rw [if_neg (by decide), if_pos rfl, if_neg (by omega)])
  · refine hx 2 [63, 63] [] rfl rfl q2 (fun h => ?_) (fun h => by simp [turnF]; omega)
    obtain ⟨a, b, hab⟩ := last_two h
    have h1 : s.drop (s.length - 2) = [a, b] := hab
    have h2 : s.drop (s.length - 2 + 1) = [b] := by rw [← List.drop_drop, h1]; rfl
    simp [turnF, lvR, h, hab, h1, h2]
  · refine hx 2 [63, 63] [] rfl rfl q2 (fun h => ?_) (fun h => by simp [turnF]; omega)
    obtain ⟨a, b, hab⟩ := last_two h
    have h1 : s.drop (s.length - 2) = [a, b] := hab
    have e0 : s.getD (s.length - 2) 0 = a := by
      have := congrArg (fun l => l[0]?) h1
      rw [List.getElem?_drop] at this
      rw [List.getD_eq_getElem?_getD, show s[s.length - 2]? = some a from this]; rfl
    have e1 : s.getD (s.length - 2 + 1) 0 = b := by
      have := congrArg (fun l => l[1]?) h1
      rw [List.getElem?_drop] at this
      rw [List.getD_eq_getElem?_getD, show s[s.length - 2 + 1]? = some b from this]; rfl
    rw [e0, e1, hab]
    by_cases e : a = b
    · simp [turnF, lvR, h, hab, e, lvL]
    · simp [turnF, hab, e]
theorem noq : ∀ t ∈ tkL, t ≠ [63] → t ≠ [63, 63] → ∀ j, j < t.length → t.getD j 0 ≠ 63 := by decide
theorem fixs : ∀ k, k < 22 → ¬ (k = 3 ∨ k = 4 ∨ k = 5 ∨ k = 9) → fixT k = some (tkL.getD k [], lvL.getD k []) ∧ (tkL.getD k []) ∈ tkL ∧ tkL.getD k [] ≠ [63] ∧ tkL.getD k [] ≠ [63, 63] := by
  have h1 : ∀ k, k < 22 → (k = 3 ∨ k = 4 ∨ k = 5 ∨ k = 9) ∨ fixT k = some (tkL.getD k [], lvL.getD k []) := by decide
  have h2 : ∀ k, k < 22 → (k = 3 ∨ k = 4 ∨ k = 5 ∨ k = 9) ∨ (tkL.getD k [] ∈ tkL ∧ tkL.getD k [] ≠ [63] ∧ tkL.getD k [] ≠ [63, 63]) := by decide
  intro k hk h
  exact ⟨(h1 k hk).resolve_left h, (h2 k hk).resolve_left h⟩
theorem rb_eq (s : List UInt8) (k : Nat) (hk : k < 22) (hr : rightS s = true) : behF s k = rbF s k := by
  by_cases h : k = 3 ∨ k = 4 ∨ k = 5 ∨ k = 9
  · exact rb_turn s k h hr
  · obtain ⟨h1, h2, h3, h4⟩ := fixs k hk h
    exact rb_fix s k (fun e => h (.inr (.inr (.inr e)))) _ _ rfl (fun a => by unfold lvR; rw [if_neg (fun e => h (.inr (.inl e))), if_neg (fun e => h (.inr (.inr (.inl e))))]) h1 (noq _ h2 h3 h4) hr hk
theorem idx_tkL (k : Nat) (hk : k < 22) (w : World) : (Instr.index 67 (.agg #[.string { data := #[] }, .string { data := #[] }, .string { data := #[] }, .string { data := #[63] }, .string { data := #[63] }, .string { data := #[63, 63] }, .string { data := #[110, 110] }, .string { data := #[110, 110] }, .string { data := #[110, 110] }, .string { data := #[63, 63] }, .string { data := #[110] }, .string { data := #[] }, .string { data := #[110] }, .string { data := #[116, 116] }, .string { data := #[116] }, .string { data := #[116] }, .string { data := #[116, 116] }, .string { data := #[116] }, .string { data := #[116] }, .string { data := #[116] }, .string { data := #[116, 116] }, .string { data := #[] }]) (.int .i64 k)).run Tryd.prog w = .ok (.string (bsS (tkL.getD k []))) w := idx_tk k hk w
theorem idx_lvL (k : Nat) (hk : k < 22) (w : World) : (Instr.index 67 (.agg #[.string { data := #[] }, .string { data := #[110] }, .string { data := #[116] }, .string { data := #[] }, .string { data := #[] }, .string { data := #[] }, .string { data := #[110] }, .string { data := #[110] }, .string { data := #[110] }, .string { data := #[110] }, .string { data := #[110] }, .string { data := #[] }, .string { data := #[] }, .string { data := #[116] }, .string { data := #[110] }, .string { data := #[116, 110] }, .string { data := #[110] }, .string { data := #[110] }, .string { data := #[110] }, .string { data := #[116, 110] }, .string { data := #[110] }, .string { data := #[] }]) (.int .i64 k)).run Tryd.prog w = .ok (.string (bsS (lvL.getD k []))) w := idx_lv k hk w
theorem tk_len : ∀ k, k < 22 → (tkL.getD k []).length ≤ 2 ∧ (lvL.getD k []).length ≤ 2 := by decide
theorem bne8 (a b : UInt8) : ((a.toNat : Int) != (b.toNat : Int)) = !(a == b) := congrArg not (u8_beq a b)
theorem getD_nt {s : List UInt8} (h : s.all ntB = true) {j : Nat} (hj : j < s.length) : ntB (s.getD j 0) = true := by
  rw [List.all_eq_true] at h
  rw [List.getD_eq_getElem?_getD, List.getElem?_eq_getElem hj]
  exact h _ (List.getElem_mem hj)
set_option maxRecDepth 100000 in
set_option maxHeartbeats 8000000 in
theorem rbeh_ok (s : List UInt8) (k : Nat) (hk : k < 22) (hr : rightS s = true) (w : World) :
    Calls Tryd.prog 8 #[.string (bsS s), .int .i64 k] w fun e w' => e = .returned (.tuple #[.string (bsS (behF s k).1), .int .i64 (behF s k).2]) ∧ ∃ q, w' = w.drewN q := by
  rw [rb_eq s k hk hr]
  have hs : s.length ≤ 16 := by unfold rightS at hr; exact of_decide_eq_true (Bool.and_eq_true _ _ ▸ hr).1
  have HA := Sl.mk (show s.all ntB = true by unfold rightS at hr; exact (Bool.and_eq_true _ _ ▸ hr).2)
  have htk := idx_tkL k hk
  have hlv := idx_lvL k hk
  have hlen := tk_len k hk
  have hz := bs_size s
  obtain ⟨t, ht⟩ : ∃ t, tkL.getD k [] = t := ⟨_, rfl⟩
  obtain ⟨l, hl⟩ : ∃ l, lvL.getD k [] = l := ⟨_, rfl⟩
  rw [ht] at htk hlen
  rw [hl] at hlv hlen
  have HT := Sl.mk ht
  have HL := Sl.mk hl
  have hzt := bs_size t
  have hzl := bs_size l
  clear ht hl hr
  go_enter Tryd.func8, Tryd.ntmps8
  go_wp2_with fail
  go_loopw [6] (fun s6 wr => ∃ i q : Nat, i ≤ s.length ∧ s6 = .int .i64 i ∧ wr = w.drewN q) (fun s6 _ => s.length - (intOf s6).toNat)
  case atStart => exact ⟨0, 0, Nat.zero_le _, rfl, rfl⟩
  case round =>
    obtain ⟨i, q, hi, rfl, rfl⟩ := hrel
    by_cases hlt : i < s.length
    · have hlt2 : i < (bsS s).size := by rw [hz]; exact hlt
      have HN := Sl.mk (getD_nt HA.out hlt)
      have HC := Sl.mk (bs_at hlt2)
      have hc0 : ((((bsS s)[i]).toNat : Int) != 110) = !(s.getD i 0 == 110) := by rw [HC.out]; exact bne8 _ 110
      have hc1 : ((((bsS s)[i]).toNat : Int) != 116) = !(s.getD i 0 == 116) := by rw [HC.out]; exact bne8 _ 116
      cases h0 : (s.getD i 0 == 110)
      · have h1 : (s.getD i 0 == 116) = true := by have := HN.out; unfold ntB at this; rw [h0] at this; simpa using this
        rw [h0, Bool.not_false] at hc0
        rw [h1, Bool.not_true] at hc1
        clear h0 h1
        go_wp2_with fail
        go_roundw
        case rel => exact ⟨i + 1, q, by omega, by go_num, rfl⟩
        case measure => simp [intOf]; omega
      · rw [h0, Bool.not_true] at hc0
        clear h0 hc1
        go_wp2_with fail
        go_roundw
        case rel => exact ⟨i + 1, q, by omega, by go_num, rfl⟩
        case measure => simp [intOf]; omega
    · obtain rfl : i = s.length := by omega
      have hd0 : ¬ ((k : Int) < 0) := by omega
      have hd1 : ¬ (21 < (k : Int)) := by omega
      have hd2 : ¬ (16 < (s.length : Int)) := by omega
      by_cases hl2 : s.length < t.length
      · have HR := Sl.mk (show rbF s k = ([], 16) by unfold rbF; rw [HT.out]; simp only; rw [if_pos hl2])
        have hl2i : ((s.length : Int) < t.length) := by omega
        go_wp2_with fail
        go_ret2
        exact ⟨by rw [HR.out]; rfl, q, rfl⟩
      · obtain ⟨a, ha⟩ : ∃ a, s.length - t.length = a := ⟨_, rfl⟩
        have hW : IntKind.i64.wrap ((s.length : Int) - t.length) = (a : Int) := by rw [← ha, show ((s.length : Int) - t.length) = ((s.length - t.length : Nat) : Int) by omega]; exact IntWalk.i64_in _ (by omega)
        have HSL := Sl.mk (show s.length = t.length + a by omega)
        have HF := Sl.mk (show rbF s k = if ∃ j, j < t.length ∧ mtB t s a j = false then ([], 16) else if k = 9 ∧ s.getD a 0 ≠ s.getD (a + 1) 0 then ([], 16) else if a + (lvR s k a).length ≤ 16 then (s.take a ++ lvR s k a, 0) else ([], 6) by
          unfold rbF; rw [HT.out]; simp only; rw [if_neg hl2, ha])
        have hab : a ≤ 16 := by omega
        have hl2i : ¬ ((s.length : Int) < t.length) := by omega
        clear ha hl2 hlt hi
        go_wp2_with fail
        go_loopw [10] (fun s10 wr => ∃ j q : Nat, j ≤ t.length ∧ s10 = .int .i64 j ∧ wr = w.drewN q ∧ Sl (∀ i, i < j → mtB t s a i = true)) (fun s10 _ => t.length - (intOf s10).toNat)
        case atStart => exact ⟨0, q, Nat.zero_le _, rfl, rfl, ⟨fun j hj => absurd hj (Nat.not_lt_zero _)⟩⟩
        case round =>
          obtain ⟨j, q, hj, rfl, rfl, HI⟩ := hrel
          by_cases hlt : j < t.length
          · have hlt2 : j < (bsS t).size := by rw [hzt]; exact hlt
            obtain ⟨m, hm⟩ : ∃ m, a + j = m := ⟨_, rfl⟩
            have HM := Sl.mk hm
            have hmi : (a : Int) + j = m := by omega
            have hlt4 : m < s.length := by have := HSL.out; omega
            have hlt3 : m < (bsS s).size := by rw [hz]; exact hlt4
            have hm32 : IntKind.i64.wrap (m : Int) = m := IntWalk.i64_in _ (by omega)
            clear hm
            have HC := Sl.mk (bs_at hlt2)
            have HC3 := Sl.mk (bs_at hlt3)
            have hc0 : ((((bsS t)[j]).toNat : Int) != 63) = !(t.getD j 0 == 63) := by rw [HC.out]; exact bne8 _ 63
            have hc1 : ((((bsS t)[j]).toNat : Int) != (((bsS s)[m]).toNat : Int)) = !(t.getD j 0 == s.getD m 0) := by rw [HC.out, HC3.out]; exact bne8 _ _
            cases h0 : (t.getD j 0 == 63)
            · rw [h0, Bool.not_false] at hc0
              cases h1 : (t.getD j 0 == s.getD m 0)
              · have HN := Sl.mk (show mtB t s a j = false by unfold mtB; rw [HM.out, h0, h1]; rfl)
                rw [h1, Bool.not_false] at hc1
                clear h0 h1
                go_wp2_with fail
                go_quiet (fail)
                go_wp2_with fail
                go_ret2
                exact ⟨by rw [HF.out, if_pos ⟨j, hlt, HN.out⟩]; rfl, _, World.drewN_drewN _ _ _⟩
              · have HN := Sl.mk (show mtB t s a j = true by unfold mtB; rw [HM.out, h1]; simp)
                rw [h1, Bool.not_true] at hc1
                clear h0 h1
                go_wp2_with fail
                go_quiet (fail)
                go_wp2_with fail
                go_roundw
                case rel => exact ⟨j + 1, _, by omega, by go_num, rfl, ⟨fun i hi => by rcases Nat.lt_succ_iff_lt_or_eq.1 hi with h | rfl; exact HI.out i h; exact HN.out⟩⟩
                case measure => simp [intOf]; omega
            · have HN := Sl.mk (show mtB t s a j = true by unfold mtB; rw [h0]; simp)
              rw [h0, Bool.not_true] at hc0
              clear h0 hc1 hmi
              go_wp2_with fail
              go_quiet (fail)
              go_wp2_with fail
              go_roundw
              case rel => exact ⟨j + 1, _, by omega, by go_num, rfl, ⟨fun i hi => by rcases Nat.lt_succ_iff_lt_or_eq.1 hi with h | rfl; exact HI.out i h; exact HN.out⟩⟩
              case measure => simp [intOf]; omega
          · obtain rfl : j = t.length := by omega
            rw [if_neg (by rintro ⟨i, hi, h⟩; rw [HI.out i hi] at h; cases h)] at HF
            clear hlt hj
            have hc4 : ∀ c : Nat, k ≠ c → ((k : Int) == (c : Nat)) = false := fun c h => by simp; omega
            by_cases h4 : k = 4
            · subst h4
              have ht1 : t.length = 1 := by rw [← HT.out]; rfl
              have has : a ≤ s.length ∧ s.length ≤ a + 2 := by have := HSL.out; omega
              have hl4 := (show lvR s 4 a = s.drop a ++ s.drop a by unfold lvR; rw [if_pos rfl])
              obtain ⟨L, hL⟩ : ∃ L, s.drop a ++ s.drop a = L := ⟨_, rfl⟩
              rw [hl4, hL, if_neg (fun c => absurd c.1 (by decide))] at HF
              have hC : (bsS s).extract a s.length = bsS (s.drop a) := by rw [bs_cut, List.take_of_length_le (by simp)]
              have hC2 : bsS (s.drop a) ++ bsS (s.drop a) = bsS L := by rw [bs_app, hL]
              have hq : (9223372036854775807 < (bsS (s.drop a)).size + (bsS (s.drop a)).size) = False := eq_false (by rw [bs_size, List.length_drop]; omega)
              have hzL := bs_size L
              have hll : L.length ≤ 4 := by rw [← hL, List.length_append, List.length_drop]; omega
              clear hl4 hL ht1
              by_cases h16 : a + L.length ≤ 16
              · have hd : ¬ (16 < (a : Int) + L.length) := by omega
                have HR := Sl.mk (show rbF s 4 = (s.take a ++ L, 0) by rw [HF.out, if_pos h16])
                have hT : (bsS s).extract 0 a = bsS (s.take a) := by rw [bs_cut]; rfl
                have hA : bsS (s.take a) ++ bsS L = bsS (s.take a ++ L) := bs_app _ _
                have hza : (bsS (s.take a)).size = a := by rw [bs_size, List.length_take]; omega
                have hq2 : (9223372036854775807 < a + L.length) = False := eq_false (by omega)
                clear h16
                go_wp2_with fail
                all_goals (try (go_quiet (fail); go_wp2_with fail))
                go_ret2
                exact ⟨by rw [HR.out]; rfl, _, rfl⟩
              · have hd : (16 < (a : Int) + L.length) := by omega
                have HR := Sl.mk (show rbF s 4 = ([], 6) by rw [HF.out, if_neg h16])
                clear h16
                go_wp2_with fail
                all_goals (try (go_quiet (fail); go_wp2_with fail))
                go_ret2
                exact ⟨by rw [HR.out]; rfl, _, rfl⟩
            · by_cases h5 : k = 5
              · subst h5
                have ht1 : t.length = 2 := by rw [← HT.out]; rfl
                have has : a + 2 = s.length := by have := HSL.out; omega
                have hl4 := (show lvR s 5 a = s.drop (a + 1) ++ (s.drop a).take 1 by unfold lvR; rw [if_neg (by decide), if_pos rfl])
                obtain ⟨L, hL⟩ : ∃ L, s.drop (a + 1) ++ (s.drop a).take 1 = L := ⟨_, rfl⟩
                rw [hl4, hL, if_neg (fun c => absurd c.1 (by decide))] at HF
                have hC : (bsS s).extract (a + 1) s.length = bsS (s.drop (a + 1)) := by rw [bs_cut, List.take_of_length_le (by simp)]
                have hC3 : (bsS s).extract a (a + 1) = bsS ((s.drop a).take 1) := by rw [bs_cut, Nat.add_sub_cancel_left]
                have hC2 : bsS (s.drop (a + 1)) ++ bsS ((s.drop a).take 1) = bsS L := by rw [bs_app, hL]
                have hq : (9223372036854775807 < (bsS (s.drop (a + 1))).size + (bsS ((s.drop a).take 1)).size) = False := eq_false (by rw [bs_size, bs_size, List.length_drop, List.length_take]; omega)
                have hzL := bs_size L
                have hll : L.length ≤ 4 := by rw [← hL, List.length_append, List.length_drop, List.length_take]; omega
                have hab1 : a + 1 ≤ s.length := by omega
                have HAS := Sl.mk has
                clear hl4 hL ht1 has
                by_cases h16 : a + L.length ≤ 16
                · have hd : ¬ (16 < (a : Int) + L.length) := by omega
                  have HR := Sl.mk (show rbF s 5 = (s.take a ++ L, 0) by rw [HF.out, if_pos h16])
                  have hT : (bsS s).extract 0 a = bsS (s.take a) := by rw [bs_cut]; rfl
                  have hA : bsS (s.take a) ++ bsS L = bsS (s.take a ++ L) := bs_app _ _
                  have hza : (bsS (s.take a)).size = a := by rw [bs_size, List.length_take]; omega
                  have hq2 : (9223372036854775807 < a + L.length) = False := eq_false (by omega)
                  clear h16
                  go_wp2_with fail
                  all_goals (try (go_quiet (fail); go_wp2_with fail))
                  go_ret2
                  exact ⟨by rw [HR.out]; rfl, _, rfl⟩
                · have hd : (16 < (a : Int) + L.length) := by omega
                  have HR := Sl.mk (show rbF s 5 = ([], 6) by rw [HF.out, if_neg h16])
                  clear h16
                  go_wp2_with fail
                  all_goals (try (go_quiet (fail); go_wp2_with fail))
                  go_ret2
                  exact ⟨by rw [HR.out]; rfl, _, rfl⟩
              · have h4' : ((k : Int) == 4) = false := hc4 4 h4
                have h5' : ((k : Int) == 5) = false := hc4 5 h5
                have has : a ≤ s.length := by have := HSL.out; omega
                rw [show lvR s k a = l by unfold lvR; rw [if_neg h4, if_neg h5]; exact HL.out] at HF
                by_cases h9 : k = 9
                · subst h9
                  have ht1 : t.length = 2 := by rw [← HT.out]; rfl
                  have hab0 : a < s.length := by have := HSL.out; omega
                  have hab1 : a + 1 < s.length := by have := HSL.out; omega
                  have hlt0 : a < (bsS s).size := by rw [hz]; exact hab0
                  obtain ⟨m, hm⟩ : ∃ m, a + 1 = m := ⟨_, rfl⟩
                  rw [hm] at HF hab1
                  have hmi : (a : Int) + 1 = m := by omega
                  have hm32 : IntKind.i64.wrap (m : Int) = m := IntWalk.i64_in _ (by omega)
                  clear hm
                  have hlt1 : m < (bsS s).size := by rw [hz]; exact hab1
                  have hC0 := Sl.mk (bs_at hlt0)
                  have hC1 := Sl.mk (bs_at hlt1)
                  have hc0 : ((((bsS s)[a]).toNat : Int) != (((bsS s)[m]).toNat : Int)) = !(s.getD a 0 == s.getD m 0) := by rw [hC0.out, hC1.out]; exact bne8 _ _
                  by_cases he : s.getD a 0 = s.getD m 0
                  · rw [if_neg (fun c => c.2 he)] at HF
                    rw [show (s.getD a 0 == s.getD m 0) = true from beq_iff_eq.2 he, Bool.not_true] at hc0
                    obtain ⟨L, hL⟩ : ∃ L, L = l := ⟨_, rfl⟩
                    subst hL
                    clear ht1 he
                    by_cases h16 : a + L.length ≤ 16
                    · have hd : ¬ (16 < (a : Int) + L.length) := by omega
                      have HR := Sl.mk (show rbF s 9 = (s.take a ++ L, 0) by rw [HF.out, if_pos h16])
                      have hT : (bsS s).extract 0 a = bsS (s.take a) := by rw [bs_cut]; rfl
                      have hA : bsS (s.take a) ++ bsS L = bsS (s.take a ++ L) := bs_app _ _
                      have hza : (bsS (s.take a)).size = a := by rw [bs_size, List.length_take]; omega
                      have hq2 : (9223372036854775807 < a + L.length) = False := eq_false (by omega)
                      clear h16
                      go_wp2_with fail
                      all_goals (try (go_quiet (fail); go_wp2_with fail))
                      go_ret2
                      exact ⟨by rw [HR.out]; rfl, _, rfl⟩
                    · have hd : (16 < (a : Int) + L.length) := by omega
                      have HR := Sl.mk (show rbF s 9 = ([], 6) by rw [HF.out, if_neg h16])
                      clear h16
                      go_wp2_with fail
                      all_goals (try (go_quiet (fail); go_wp2_with fail))
                      go_ret2
                      exact ⟨by rw [HR.out]; rfl, _, rfl⟩
                  · rw [if_pos ⟨rfl, he⟩] at HF
                    rw [show (s.getD a 0 == s.getD m 0) = false from beq_eq_false_iff_ne.2 he, Bool.not_false] at hc0
                    clear ht1 he
                    go_wp2_with fail
                    all_goals (try (go_quiet (fail); go_wp2_with fail))
                    go_ret2
                    exact ⟨by rw [HF.out]; rfl, _, World.drewN_drewN _ _ _⟩
                · have h9' : ((k : Int) == 9) = false := hc4 9 h9
                  rw [if_neg (fun c => h9 c.1)] at HF
                  obtain ⟨L, hL⟩ : ∃ L, L = l := ⟨_, rfl⟩
                  subst hL
                  by_cases h16 : a + L.length ≤ 16
                  · have hd : ¬ (16 < (a : Int) + L.length) := by omega
                    have HR := Sl.mk (show rbF s k = (s.take a ++ L, 0) by rw [HF.out, if_pos h16])
                    have hT : (bsS s).extract 0 a = bsS (s.take a) := by rw [bs_cut]; rfl
                    have hA : bsS (s.take a) ++ bsS L = bsS (s.take a ++ L) := bs_app _ _
                    have hza : (bsS (s.take a)).size = a := by rw [bs_size, List.length_take]; omega
                    have hq2 : (9223372036854775807 < a + L.length) = False := eq_false (by omega)
                    clear h16
                    go_wp2_with fail
                    all_goals (try (go_quiet (fail); go_wp2_with fail))
                    go_ret2
                    exact ⟨by rw [HR.out]; rfl, _, rfl⟩
                  · have hd : (16 < (a : Int) + L.length) := by omega
                    have HR := Sl.mk (show rbF s k = ([], 6) by rw [HF.out, if_neg h16])
                    clear h16
                    go_wp2_with fail
                    all_goals (try (go_quiet (fail); go_wp2_with fail))
                    go_ret2
                    exact ⟨by rw [HR.out]; rfl, _, rfl⟩

theorem rbeh_any (s : List UInt8) (op : Int) (w : World) (hs : s.length ≤ 1000000) :
    Calls Tryd.prog 8 #[.string (bsS s), .int .i64 op] w fun e w' => e = .returned (.tuple #[.string (bsS (behF s op).1), .int .i64 (behF s op).2]) ∧ ∃ k, w' = w.drewN k := by
  by_cases hb : rightS s = false ∨ ¬ (0 ≤ op ∧ op ≤ 21)
  · exact rbeh_wrong s op w hs hb
  · have hr : rightS s = true := by cases e : rightS s; exact absurd (Or.inl e) hb; rfl
    have ho : 0 ≤ op ∧ op ≤ 21 := Decidable.byContradiction fun e => hb (Or.inr e)
    obtain ⟨k, rfl⟩ : ∃ k : Nat, op = k := ⟨op.toNat, by omega⟩
    exact rbeh_ok s k (by omega) hr w
end Go.Proofs.YtliealcdiogilaaDoor
