/-
  The contracts of asm's text and right, of the reference's in, text, Word.
-/
import Derived.Test.YtigdfkpkogompaaDoorCoF
namespace Go.Proofs.YtigdfkpkogompaaDoor
open Go.RowKit
attribute [local go_sem ↓] Go.wp_at_zero Go.wp_at_succ

theorem all_of {p : UInt8 → Bool} {s : List UInt8} (h : ∀ j, j < s.length → p (s.getD j 0) = true) : s.all p = true := by
  rw [List.all_eq_true]
  intro x hx
  obtain ⟨j, hj, rfl⟩ := List.mem_iff_getElem.1 hx
  have := h j hj
  rwa [List.getD_eq_getElem?_getD, List.getElem?_eq_getElem hj] at this
theorem all_not {p : UInt8 → Bool} {s : List UInt8} {j : Nat} (hj : j < s.length) (h : p (s.getD j 0) = false) : s.all p = false := by
  cases he : s.all p
  · rfl
  · rw [List.all_eq_true] at he
    rw [List.getD_eq_getElem?_getD, List.getElem?_eq_getElem hj] at h
    have := he _ (List.getElem_mem hj)
    simp at h
    rw [h] at this; cases this
/-- A byte from one to another one, but for two. -/
def inB (lo hi a b : Nat) (c : UInt8) : Bool := !(decide (c.toNat < lo) || decide (hi < c.toNat) || decide (c.toNat = a) || decide (c.toNat = b))
theorem txB_in (c : UInt8) : txB c = inB 33 126 34 35 c := by
  unfold txB inB
  have h1 : (c == 34) = decide (c.toNat = 34) := by
    rw [Bool.eq_iff_iff, beq_iff_eq, decide_eq_true_iff]
    exact ⟨fun h => by rw [h]; rfl, fun h => UInt8.toNat_inj.1 (by rw [h]; rfl)⟩
  have h2 : (c == 35) = decide (c.toNat = 35) := by
    rw [Bool.eq_iff_iff, beq_iff_eq, decide_eq_true_iff]
    exact ⟨fun h => by rw [h]; rfl, fun h => UInt8.toNat_inj.1 (by rw [h]; rfl)⟩
  rw [h1, h2]
  have h3 : decide (33 ≤ c.toNat) = !decide (c.toNat < 33) := by rw [Bool.eq_iff_iff]; simp
  have h4 : decide (c.toNat ≤ 126) = !decide (126 < c.toNat) := by rw [Bool.eq_iff_iff]; simp
  rw [h3, h4]
  cases decide (c.toNat < 33) <;> cases decide (126 < c.toNat) <;> cases decide (c.toNat = 34) <;> cases decide (c.toNat = 35) <;> rfl

set_option maxHeartbeats 4000000 in
theorem text_any (s : List UInt8) (w : World) (hs : s.length ≤ 9223372036854775807) :
    Calls Tryd.prog 26 #[.string (bsS s)] w fun e w' => e = .returned (.bool (txS s)) ∧ w' = w := by
  have hz := bs_size s
  by_cases h60 : 60 < s.length
  · have HR := Sl.mk (show txS s = false by unfold txS; rw [decide_eq_false (by omega)]; rfl)
    go_enter Tryd.func26, Tryd.ntmps26
    go_wp2_with fail
    go_ret
    exact ⟨ret_bool HR.out.symm, rfl⟩
  · have h60' : s.length ≤ 60 := by omega
    have HR := Sl.mk (show txS s = s.all txB by unfold txS; rw [decide_eq_true h60']; rfl)
    go_enter Tryd.func26, Tryd.ntmps26
    go_wp2_with fail
    go_loopw [9] (fun s9 wr => ∃ i : Nat, i ≤ s.length ∧ s9 = .int .i64 i ∧ wr = w ∧ Sl (∀ j, j < i → txB (s.getD j 0) = true)) (fun s9 _ => s.length - (intOf s9).toNat)
    case atStart => exact ⟨0, Nat.zero_le _, rfl, rfl, ⟨fun j hj => absurd hj (Nat.not_lt_zero _)⟩⟩
    case round =>
      obtain ⟨i, hi, rfl, rfl, HI⟩ := hrel
      by_cases hlt : i < s.length
      · have hlt2 : i < (bsS s).size := by rw [hz]; exact hlt
        have HA := Sl.mk (bs_at hlt2)
        obtain ⟨c, hc⟩ : ∃ c : Nat, ((bsS s)[i]).toNat = c := ⟨_, rfl⟩
        have HC := Sl.mk (show txB (s.getD i 0) = !(decide (c < 33) || decide (126 < c) || decide (c = 34) || decide (c = 35)) by
          rw [txB_in, ← HA.out]; unfold inB; rw [hc])
        have HT : Sl (∀ b, b = (!(decide (c < 33) || decide (126 < c) || decide (c = 34) || decide (c = 35))) → txB (s.getD i 0) = b) := Sl.mk (fun b hb => by rw [HC.out, hb])
        by_cases h1 : c < 33
        · have hh := Sl.mk (all_not hlt (HT.out false (by simp [h1])))
          go_wp2_with fail
          go_ret
          exact ⟨ret_bool (by rw [HR.out, hh.out]), rfl⟩
        · by_cases h2 : 126 < c
          · have hh := Sl.mk (all_not hlt (HT.out false (by simp [h2])))
            go_wp2_with fail
            go_ret
            exact ⟨ret_bool (by rw [HR.out, hh.out]), rfl⟩
          · by_cases h3 : c = 34
            · have hh := Sl.mk (all_not hlt (HT.out false (by simp [h3])))
              have h3' : ((c : Int) == 34) = true := by simp; omega
              go_wp2_with fail
              go_ret
              exact ⟨ret_bool (by rw [HR.out, hh.out]), rfl⟩
            · have h3' : ((c : Int) == 34) = false := by simp; omega
              by_cases h4 : c = 35
              · have hh := Sl.mk (all_not hlt (HT.out false (by simp [h4])))
                have h4' : ((c : Int) == 35) = true := by simp; omega
                go_wp2_with fail
                go_ret
                exact ⟨ret_bool (by rw [HR.out, hh.out]), rfl⟩
              · have h4' : ((c : Int) == 35) = false := by simp; omega
                have hh := Sl.mk (HT.out true (by simp [h3, h4]; omega))
                clear h3 h4
                go_wp2_with fail
                go_roundw
                case rel => exact ⟨i + 1, by omega, by go_num, trivial, ⟨fun j hj => by rcases Nat.lt_succ_iff_lt_or_eq.1 hj with h | rfl; exact HI.out j h; exact hh.out⟩⟩
                case measure => simp [intOf]; omega
      · obtain rfl : i = s.length := by omega
        have HA := Sl.mk (all_of HI.out)
        go_wp2_with fail
        go_ret
        exact ⟨ret_bool (by rw [HR.out, HA.out]), rfl⟩

set_option maxHeartbeats 4000000 in
theorem in_any (s : List UInt8) (lo hi a b : Nat) (w : World) (hs : s.length ≤ 9223372036854775807) :
    Calls Tryd.prog 27 #[.string (bsS s), .int .u8 lo, .int .u8 hi, .int .u8 a, .int .u8 b] w fun e w' => e = .returned (.bool (s.all (inB lo hi a b))) ∧ w' = w := by
  have hz := bs_size s
  go_enter Tryd.func27, Tryd.ntmps27
  go_wp2_with fail
  go_loopw [11] (fun s9 wr => ∃ i : Nat, i ≤ s.length ∧ s9 = .int .i64 i ∧ wr = w ∧ Sl (∀ j, j < i → inB lo hi a b (s.getD j 0) = true)) (fun s9 _ => s.length - (intOf s9).toNat)
  case atStart => exact ⟨0, Nat.zero_le _, rfl, rfl, ⟨fun j hj => absurd hj (Nat.not_lt_zero _)⟩⟩
  case round =>
    obtain ⟨i, hi2, rfl, rfl, HI⟩ := hrel
    by_cases hlt : i < s.length
    · have hlt2 : i < (bsS s).size := by rw [hz]; exact hlt
      have HA := Sl.mk (bs_at hlt2)
      obtain ⟨c, hc⟩ : ∃ c : Nat, ((bsS s)[i]).toNat = c := ⟨_, rfl⟩
      have HC := Sl.mk (show inB lo hi a b (s.getD i 0) = !(decide (c < lo) || decide (hi < c) || decide (c = a) || decide (c = b)) by
        rw [← HA.out]; unfold inB; rw [hc])
      have HT : Sl (∀ q, q = (!(decide (c < lo) || decide (hi < c) || decide (c = a) || decide (c = b))) → inB lo hi a b (s.getD i 0) = q) := Sl.mk (fun b hb => by rw [HC.out, hb])
      by_cases h1 : c < lo
      · have hh := Sl.mk (all_not hlt (HT.out false (by simp [h1])))
        go_wp2_with fail
        go_ret
        exact ⟨ret_bool hh.out.symm, rfl⟩
      · by_cases h2 : hi < c
        · have hh := Sl.mk (all_not hlt (HT.out false (by simp [h2])))
          go_wp2_with fail
          go_ret
          exact ⟨ret_bool hh.out.symm, rfl⟩
        · by_cases h3 : c = a
          · have hh := Sl.mk (all_not hlt (HT.out false (by simp [h3])))
            have h3' : ((c : Int) == a) = true := by simp; omega
            clear h3
            go_wp2_with fail
            go_ret
            exact ⟨ret_bool hh.out.symm, rfl⟩
          · have h3' : ((c : Int) == a) = false := by simp; omega
            by_cases h4 : c = b
            · have hh := Sl.mk (all_not hlt (HT.out false (by simp [h4])))
              have h4' : ((c : Int) == b) = true := by simp; omega
              clear h4
              go_wp2_with fail
              go_ret
              exact ⟨ret_bool hh.out.symm, rfl⟩
            · have h4' : ((c : Int) == b) = false := by simp; omega
              have hh := Sl.mk (HT.out true (by simp [h3, h4]; omega))
              clear h3 h4
              go_wp2_with fail
              go_roundw
              case rel => exact ⟨i + 1, by omega, by go_num, trivial, ⟨fun j hj => by rcases Nat.lt_succ_iff_lt_or_eq.1 hj with h | rfl; exact HI.out j h; exact hh.out⟩⟩
              case measure => simp [intOf]; omega
    · obtain rfl : i = s.length := by omega
      have HA := Sl.mk (all_of HI.out)
      go_wp2_with fail
      go_ret
      exact ⟨ret_bool HA.out.symm, rfl⟩
theorem rtext_any (s : List UInt8) (w : World) (hs : s.length ≤ 9223372036854775807) :
    Calls Tryd.prog 17 #[.string (bsS s)] w fun e w' => e = .returned (.bool (txS s)) ∧ w' = w := by
  have hz := bs_size s
  have HI := Sl.mk (in_any s 33 126 34 35 w hs)
  rw [← show txB = inB 33 126 34 35 from funext txB_in] at HI
  by_cases h60 : s.length ≤ 60
  · have HR := Sl.mk (show txS s = s.all txB by unfold txS; rw [decide_eq_true h60]; rfl)
    go_enter Tryd.func17, Tryd.ntmps17
    go_wp2_with (go_at_call 27; refine HI.out.mono ?_; rintro e w1 ⟨rfl, rfl⟩)
    go_ret
    exact ⟨ret_bool HR.out.symm, rfl⟩
  · have HR := Sl.mk (show txS s = false by unfold txS; rw [decide_eq_false h60]; rfl)
    go_enter Tryd.func17, Tryd.ntmps17
    go_wp2_with fail
    go_ret
    exact ⟨ret_bool HR.out.symm, rfl⟩
theorem wd_at (k : Nat) (h : k < (wordsL.map fun l => Value.string (bsS l)).length) : (wordsL.map fun l => Value.string (bsS l))[k] = .string (bsS (wordsL.getD k [])) := by
  have h' : k < wordsL.length := by simpa using h
  rw [List.getElem_map, List.getD_eq_getElem?_getD, List.getElem?_eq_getElem h']; rfl
theorem wd_one : ∀ v ∈ wordsL.map (fun l => Value.string (bsS l)), v.oneCell' = true := fun v hv => by
  obtain ⟨x, _, rfl⟩ := List.mem_map.1 hv; rfl
theorem wd_cell {w : World} {g : Nat} {t : TypeId} (h : Blk w g t (wordsL.map fun l => Value.string (bsS l)).toArray) (k : Nat) (hk : k < 22) : w.cell? ⟨g, k, none⟩ = some (.string (bsS (wordsL.getD k []))) := by
  have hl : k < (wordsL.map fun l => Value.string (bsS l)).length := by rw [List.length_map]; exact hk
  rw [h.cell k, List.getElem?_toArray, List.getElem?_eq_getElem hl, wd_at k hl]
theorem wdSize : (Tryd.prog.info? 58).map (·.size) = some (wordsL.map fun l => Value.string (bsS l)).length := by kernel_rfl
def WPost (w : World) (op : Int) (e : Ending) (w' : World) : Prop := e = .returned (.string (bsS (wordF op))) ∧ Below w.heap.size w w'
set_option maxRecDepth 100000 in
set_option maxHeartbeats 1000000 in
theorem rword_any (op : Int) (w : World) :
    Calls Tryd.prog 11 #[.int .i64 op] w (WPost w op) := by
  by_cases h0 : op < 0
  · have hd : decide (op < 0) = true := decide_eq_true h0
    have HW := Sl.mk (show wordF op = [] by unfold wordF; rw [if_neg (by omega)])
    clear h0
    go_enter Tryd.func11, Tryd.ntmps11
    go_wp2_with (refine wpList_store_fresh rfl 58 (.tmp 3) (.tmp 4) rfl 58 (List.replicate 22 (.string ⟨#[]⟩)) (wordsL.map fun l => Value.string (bsS l)) _ rfl rfl rfl rfl wdSize wd_one ?_; intro w1 hb hbl hsz; have HB := Sl.mk hbl; have HC := Sl.mk hb; clear hb hbl hsz)
    go_ret
    exact ⟨by rw [HW.out]; rfl, HB.out⟩
  · have hd : decide (op < 0) = false := decide_eq_false h0
    by_cases h1 : 21 < op
    · have HW := Sl.mk (show wordF op = [] by unfold wordF; rw [if_neg (by omega)])
      clear h0
      go_enter Tryd.func11, Tryd.ntmps11
      go_wp2_with (refine wpList_store_fresh rfl 58 (.tmp 3) (.tmp 4) rfl 58 (List.replicate 22 (.string ⟨#[]⟩)) (wordsL.map fun l => Value.string (bsS l)) _ rfl rfl rfl rfl wdSize wd_one ?_; intro w1 hb hbl hsz; have HB := Sl.mk hbl; have HC := Sl.mk hb; clear hb hbl hsz)
      go_ret
      exact ⟨by rw [HW.out]; rfl, HB.out⟩
    · obtain ⟨k, rfl⟩ : ∃ k : Nat, op = k := ⟨op.toNat, by omega⟩
      have hk : k < 22 := by omega
      have HW := Sl.mk (show wordF k = wordsL.getD k [] by unfold wordF; rw [if_pos (by omega)]; simp)
      clear h0 h1
      go_enter Tryd.func11, Tryd.ntmps11
      go_wp2_with (refine wpList_store_fresh rfl 58 (.tmp 3) (.tmp 4) rfl 58 (List.replicate 22 (.string ⟨#[]⟩)) (wordsL.map fun l => Value.string (bsS l)) _ rfl rfl rfl rfl wdSize wd_one ?_; intro w1 hb hbl hsz; have HB := Sl.mk hbl; have hC := wd_cell hb k hk; clear hb hbl hsz)
      go_ret
      exact ⟨by rw [HW.out]; rfl, HB.out⟩
end Go.Proofs.YtigdfkpkogompaaDoor
