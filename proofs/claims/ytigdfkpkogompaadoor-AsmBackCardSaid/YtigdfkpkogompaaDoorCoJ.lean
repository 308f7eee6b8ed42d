/-
  The contract of the reference's Check.
-/
import Derived.Test.YtigdfkpkogompaaDoorCoI
namespace Go.Proofs.YtigdfkpkogompaaDoor
open Go.RowKit
attribute [local go_sem ↓] Go.wp_at_zero Go.wp_at_succ

set_option maxRecDepth 100000 in
set_option maxHeartbeats 16000000 in
theorem rcheck_any (A : Option Addr) (n c : Nat) (l : List Ci) (w : World) (hn : n ≤ 1000000) (hI : Is w A n l) :
    Calls Tryd.prog 8 #[.slice A n c] w (CkPost w l) := by
  have HN := Sl.mk hI.n_
  have HI := Sl.mk hI
  have H0 := Sl.mk (Below.refl w.heap.size w)
  clear hI
  by_cases h200 : 200 < n
  · have HR := Sl.mk (chk_long (l := l) (by rw [HN.out]; exact h200))
    go_enter Tryd.func8, Tryd.ntmps8
    go_wp2_with fail
    go_ret2
    exact ⟨by rw [HR.out]; rfl, H0.out⟩
  · go_enter Tryd.func8, Tryd.ntmps8
    go_wp2_with fail
    go_loopw [4] (fun v4 wr => ∃ i : Nat, i ≤ n ∧ v4 = .int .i64 i ∧ Sl (∀ j y, j < i → l[j]? = some y → rightI y l.length = true) ∧ Below w.heap.size w wr) (fun v4 _ => n - (intOf v4).toNat)
    case atStart => exact ⟨0, Nat.zero_le _, rfl, ⟨fun j y hj => absurd hj (Nat.not_lt_zero _)⟩, H0.out⟩
    case round =>
      obtain ⟨i, hi, rfl, HG, hB⟩ := hrel
      by_cases hlt : i < n
      · obtain ⟨x, hx⟩ : ∃ x, l[i]? = some x := ⟨_, List.getElem?_eq_getElem (by rw [HN.out]; exact hlt)⟩
        obtain ⟨ab, ao, rfl, hbl, hld, hsl⟩ := (HI.out.be hB).lit hx
        have HX := Sl.mk hx
        obtain ⟨op, k, s⟩ := x
        have hsl' : s.length ≤ 1000000 := hsl
        have HSL := Sl.mk hsl'
        have hwa := below_al (Below.refl wr.heap.size wr) (.cells #[.int .i64 op, .int .i64 k, .string (bsS s)] 43)
        have hB0 := Sl.mk (Blk.new wr 43 #[.int .i64 op, .int .i64 k, .string (bsS s)])
        have HE := Sl.mk (below_tr hB hwa)
        have HW := Sl.mk (rword_any op (wr.alloc (.cells #[.int .i64 op, .int .i64 k, .string (bsS s)] 43)))
        unfold WPost at HW
        have HBAD : Sl (rightI ⟨op, k, s⟩ (n : Nat) = false → chkF l = (((i : Nat) : Int), 3)) := Sl.mk (fun hr => chk_bad (by rw [HN.out]; omega) HX.out (by rw [HN.out]; exact hr) HG.out)
        have HGOOD : Sl (rightI ⟨op, k, s⟩ (n : Nat) = true → ∀ j y, j < i + 1 → l[j]? = some y → rightI y l.length = true) := Sl.mk (fun hr j y hj hy => by
          rcases Nat.lt_succ_iff_lt_or_eq.1 hj with h | rfl
          · exact HG.out j y h hy
          · have := Option.some.inj (HX.out.symm.trans hy); subst this; rw [HN.out]; exact hr)
        have hwl := bs_size (wordF op)
        have hpos : (0 < (wordF op).length) = (0 ≤ op ∧ op ≤ 21) := by
          have h := wordF_ne op
          by_cases h0 : 0 ≤ op ∧ op ≤ 21
          · rw [decide_eq_true h0.1, decide_eq_true h0.2] at h
            have : wordF op ≠ [] := beq_eq_false_iff_ne.1 h
            rw [eq_true h0]
            exact eq_true (List.length_pos_iff.2 this)
          · have h1 : wordF op = [] := by unfold wordF; rw [if_neg h0]
            rw [h1, eq_false h0]; simp
        obtain ⟨W, hW⟩ : ∃ W, wordF op = W := ⟨_, rfl⟩
        rw [hW] at HW hwl hpos
        obtain ⟨E, hE⟩ : ∃ E, s.isEmpty = E := ⟨_, rfl⟩
        have hEm : (bsS s).toList.isEmpty = E := by rw [emp_list, hE]
        clear hx hsl hsl' hwa HG hB hW
        by_cases hwp : 0 ≤ op ∧ op ≤ 21
        · rw [eq_true hwp] at hpos
          have hpos : 0 < W.length := of_eq_true hpos
          by_cases q1 : op = 1
          · subst q1
            cases E
            · have hr : rightI ⟨1, k, s⟩ (n : Nat) = false := by unfold rightI; simp [hE]
              have HC := Sl.mk (HBAD.out hr)
              clear hr HGOOD HBAD
              go_wp2_with (first
                | (refine ld_r hld rfl (.tmp 18) rfl rfl ?_)
                | (go_at_call 11; refine HW.out.mono ?_; rintro e w1 ⟨rfl, hb1⟩; have HB1 := Sl.mk (below_tr HE.out hb1); have HX1 := Sl.mk (hB0.out.be hb1); have c0 := HX1.out.cell 0; have c1 := HX1.out.cell 1; have c2 := HX1.out.cell 2; clear hb1)
                | (go_at_call 17; refine (HT.out _).mono ?_; rintro e w2 ⟨rfl, rfl⟩))
              go_ret2
              exact ⟨by rw [HC.out]; rfl, HB1.out⟩
            · by_cases h0 : 0 ≤ k
              · have r0 : 0 ≤ k := by omega
                by_cases h9 : k ≤ 9999
                · have r9 : k ≤ 9999 := by omega
                  have hr : rightI ⟨1, k, s⟩ (n : Nat) = true := by unfold rightI; simp [hE, r0, r9]
                  have HG2 := Sl.mk (HGOOD.out hr)
                  clear hr HGOOD HBAD
                  go_wp2_with (first
                    | (refine ld_r hld rfl (.tmp 18) rfl rfl ?_)
                    | (go_at_call 11; refine HW.out.mono ?_; rintro e w1 ⟨rfl, hb1⟩; have HB1 := Sl.mk (below_tr HE.out hb1); have HX1 := Sl.mk (hB0.out.be hb1); have c0 := HX1.out.cell 0; have c1 := HX1.out.cell 1; have c2 := HX1.out.cell 2; clear hb1)
                    | (go_at_call 17; refine (HT.out _).mono ?_; rintro e w2 ⟨rfl, rfl⟩))
                  go_roundw
                  case rel => exact ⟨i + 1, by omega, by go_num, HG2, HB1.out⟩
                  case measure => simp [intOf]; omega
                · have r9 : ¬ k ≤ 9999 := by omega
                  have h9e := eq_false h9
                  have hr : rightI ⟨1, k, s⟩ (n : Nat) = false := by unfold rightI; simp [hE, r0, r9]
                  have HC := Sl.mk (HBAD.out hr)
                  clear hr HGOOD HBAD h9 r9
                  go_wp2_with (first
                    | (refine ld_r hld rfl (.tmp 18) rfl rfl ?_)
                    | (go_at_call 11; refine HW.out.mono ?_; rintro e w1 ⟨rfl, hb1⟩; have HB1 := Sl.mk (below_tr HE.out hb1); have HX1 := Sl.mk (hB0.out.be hb1); have c0 := HX1.out.cell 0; have c1 := HX1.out.cell 1; have c2 := HX1.out.cell 2; clear hb1)
                    | (go_at_call 17; refine (HT.out _).mono ?_; rintro e w2 ⟨rfl, rfl⟩))
                  go_ret2
                  exact ⟨by rw [HC.out]; rfl, HB1.out⟩
              · have r0 : ¬ 0 ≤ k := by omega
                have h0e := eq_false h0
                have hr : rightI ⟨1, k, s⟩ (n : Nat) = false := by unfold rightI; simp [hE, r0]
                have HC := Sl.mk (HBAD.out hr)
                clear hr HGOOD HBAD h0 r0
                go_wp2_with (first
                  | (refine ld_r hld rfl (.tmp 18) rfl rfl ?_)
                  | (go_at_call 11; refine HW.out.mono ?_; rintro e w1 ⟨rfl, hb1⟩; have HB1 := Sl.mk (below_tr HE.out hb1); have HX1 := Sl.mk (hB0.out.be hb1); have c0 := HX1.out.cell 0; have c1 := HX1.out.cell 1; have c2 := HX1.out.cell 2; clear hb1)
                  | (go_at_call 17; refine (HT.out _).mono ?_; rintro e w2 ⟨rfl, rfl⟩))
                go_ret2
                exact ⟨by rw [HC.out]; rfl, HB1.out⟩
          by_cases q21 : op = 21
          · subst q21
            cases E
            · have hr : rightI ⟨21, k, s⟩ (n : Nat) = false := by unfold rightI; simp [hE]
              have HC := Sl.mk (HBAD.out hr)
              clear hr HGOOD HBAD
              go_wp2_with (first
                | (refine ld_r hld rfl (.tmp 18) rfl rfl ?_)
                | (go_at_call 11; refine HW.out.mono ?_; rintro e w1 ⟨rfl, hb1⟩; have HB1 := Sl.mk (below_tr HE.out hb1); have HX1 := Sl.mk (hB0.out.be hb1); have c0 := HX1.out.cell 0; have c1 := HX1.out.cell 1; have c2 := HX1.out.cell 2; clear hb1)
                | (go_at_call 17; refine (HT.out _).mono ?_; rintro e w2 ⟨rfl, rfl⟩))
              go_ret2
              exact ⟨by rw [HC.out]; rfl, HB1.out⟩
            · by_cases h0 : 0 < k
              · have r0 : 1 ≤ k := by omega
                by_cases h9 : k < 100
                · have r9 : k ≤ 99 := by omega
                  have hr : rightI ⟨21, k, s⟩ (n : Nat) = true := by unfold rightI; simp [hE, r0, r9]
                  have HG2 := Sl.mk (HGOOD.out hr)
                  clear hr HGOOD HBAD
                  go_wp2_with (first
                    | (refine ld_r hld rfl (.tmp 18) rfl rfl ?_)
                    | (go_at_call 11; refine HW.out.mono ?_; rintro e w1 ⟨rfl, hb1⟩; have HB1 := Sl.mk (below_tr HE.out hb1); have HX1 := Sl.mk (hB0.out.be hb1); have c0 := HX1.out.cell 0; have c1 := HX1.out.cell 1; have c2 := HX1.out.cell 2; clear hb1)
                    | (go_at_call 17; refine (HT.out _).mono ?_; rintro e w2 ⟨rfl, rfl⟩))
                  go_roundw
                  case rel => exact ⟨i + 1, by omega, by go_num, HG2, HB1.out⟩
                  case measure => simp [intOf]; omega
                · have r9 : ¬ k ≤ 99 := by omega
                  have h9e := eq_false h9
                  have hr : rightI ⟨21, k, s⟩ (n : Nat) = false := by unfold rightI; simp [hE, r0, r9]
                  have HC := Sl.mk (HBAD.out hr)
                  clear hr HGOOD HBAD h9 r9
                  go_wp2_with (first
                    | (refine ld_r hld rfl (.tmp 18) rfl rfl ?_)
                    | (go_at_call 11; refine HW.out.mono ?_; rintro e w1 ⟨rfl, hb1⟩; have HB1 := Sl.mk (below_tr HE.out hb1); have HX1 := Sl.mk (hB0.out.be hb1); have c0 := HX1.out.cell 0; have c1 := HX1.out.cell 1; have c2 := HX1.out.cell 2; clear hb1)
                    | (go_at_call 17; refine (HT.out _).mono ?_; rintro e w2 ⟨rfl, rfl⟩))
                  go_ret2
                  exact ⟨by rw [HC.out]; rfl, HB1.out⟩
              · have r0 : ¬ 1 ≤ k := by omega
                have h0e := eq_false h0
                have hr : rightI ⟨21, k, s⟩ (n : Nat) = false := by unfold rightI; simp [hE, r0]
                have HC := Sl.mk (HBAD.out hr)
                clear hr HGOOD HBAD h0 r0
                go_wp2_with (first
                  | (refine ld_r hld rfl (.tmp 18) rfl rfl ?_)
                  | (go_at_call 11; refine HW.out.mono ?_; rintro e w1 ⟨rfl, hb1⟩; have HB1 := Sl.mk (below_tr HE.out hb1); have HX1 := Sl.mk (hB0.out.be hb1); have c0 := HX1.out.cell 0; have c1 := HX1.out.cell 1; have c2 := HX1.out.cell 2; clear hb1)
                  | (go_at_call 17; refine (HT.out _).mono ?_; rintro e w2 ⟨rfl, rfl⟩))
                go_ret2
                exact ⟨by rw [HC.out]; rfl, HB1.out⟩
          by_cases q11 : op = 11
          · subst q11
            cases E
            · have hr : rightI ⟨11, k, s⟩ (n : Nat) = false := by unfold rightI; simp [hE]
              have HC := Sl.mk (HBAD.out hr)
              clear hr HGOOD HBAD
              go_wp2_with (first
                | (refine ld_r hld rfl (.tmp 18) rfl rfl ?_)
                | (go_at_call 11; refine HW.out.mono ?_; rintro e w1 ⟨rfl, hb1⟩; have HB1 := Sl.mk (below_tr HE.out hb1); have HX1 := Sl.mk (hB0.out.be hb1); have c0 := HX1.out.cell 0; have c1 := HX1.out.cell 1; have c2 := HX1.out.cell 2; clear hb1)
                | (go_at_call 17; refine (HT.out _).mono ?_; rintro e w2 ⟨rfl, rfl⟩))
              go_ret2
              exact ⟨by rw [HC.out]; rfl, HB1.out⟩
            · by_cases h0 : 0 ≤ k
              · have r0 : 0 ≤ k := by omega
                by_cases h9 : k ≤ (n : Nat)
                · have r9 : k ≤ (n : Nat) := by omega
                  have hr : rightI ⟨11, k, s⟩ (n : Nat) = true := by unfold rightI; simp [hE, r0, r9]
                  have HG2 := Sl.mk (HGOOD.out hr)
                  clear hr HGOOD HBAD
                  go_wp2_with (first
                    | (refine ld_r hld rfl (.tmp 18) rfl rfl ?_)
                    | (go_at_call 11; refine HW.out.mono ?_; rintro e w1 ⟨rfl, hb1⟩; have HB1 := Sl.mk (below_tr HE.out hb1); have HX1 := Sl.mk (hB0.out.be hb1); have c0 := HX1.out.cell 0; have c1 := HX1.out.cell 1; have c2 := HX1.out.cell 2; clear hb1)
                    | (go_at_call 17; refine (HT.out _).mono ?_; rintro e w2 ⟨rfl, rfl⟩))
                  go_roundw
                  case rel => exact ⟨i + 1, by omega, by go_num, HG2, HB1.out⟩
                  case measure => simp [intOf]; omega
                · have r9 : ¬ k ≤ (n : Nat) := by omega
                  have h9e := eq_false h9
                  have hr : rightI ⟨11, k, s⟩ (n : Nat) = false := by unfold rightI; simp [hE, r0, r9]
                  have HC := Sl.mk (HBAD.out hr)
                  clear hr HGOOD HBAD h9 r9
                  go_wp2_with (first
                    | (refine ld_r hld rfl (.tmp 18) rfl rfl ?_)
                    | (go_at_call 11; refine HW.out.mono ?_; rintro e w1 ⟨rfl, hb1⟩; have HB1 := Sl.mk (below_tr HE.out hb1); have HX1 := Sl.mk (hB0.out.be hb1); have c0 := HX1.out.cell 0; have c1 := HX1.out.cell 1; have c2 := HX1.out.cell 2; clear hb1)
                    | (go_at_call 17; refine (HT.out _).mono ?_; rintro e w2 ⟨rfl, rfl⟩))
                  go_ret2
                  exact ⟨by rw [HC.out]; rfl, HB1.out⟩
              · have r0 : ¬ 0 ≤ k := by omega
                have h0e := eq_false h0
                have hr : rightI ⟨11, k, s⟩ (n : Nat) = false := by unfold rightI; simp [hE, r0]
                have HC := Sl.mk (HBAD.out hr)
                clear hr HGOOD HBAD h0 r0
                go_wp2_with (first
                  | (refine ld_r hld rfl (.tmp 18) rfl rfl ?_)
                  | (go_at_call 11; refine HW.out.mono ?_; rintro e w1 ⟨rfl, hb1⟩; have HB1 := Sl.mk (below_tr HE.out hb1); have HX1 := Sl.mk (hB0.out.be hb1); have c0 := HX1.out.cell 0; have c1 := HX1.out.cell 1; have c2 := HX1.out.cell 2; clear hb1)
                  | (go_at_call 17; refine (HT.out _).mono ?_; rintro e w2 ⟨rfl, rfl⟩))
                go_ret2
                exact ⟨by rw [HC.out]; rfl, HB1.out⟩
          by_cases q12 : op = 12
          · subst q12
            cases E
            · have hr : rightI ⟨12, k, s⟩ (n : Nat) = false := by unfold rightI; simp [hE]
              have HC := Sl.mk (HBAD.out hr)
              clear hr HGOOD HBAD
              go_wp2_with (first
                | (refine ld_r hld rfl (.tmp 18) rfl rfl ?_)
                | (go_at_call 11; refine HW.out.mono ?_; rintro e w1 ⟨rfl, hb1⟩; have HB1 := Sl.mk (below_tr HE.out hb1); have HX1 := Sl.mk (hB0.out.be hb1); have c0 := HX1.out.cell 0; have c1 := HX1.out.cell 1; have c2 := HX1.out.cell 2; clear hb1)
                | (go_at_call 17; refine (HT.out _).mono ?_; rintro e w2 ⟨rfl, rfl⟩))
              go_ret2
              exact ⟨by rw [HC.out]; rfl, HB1.out⟩
            · by_cases h0 : 0 ≤ k
              · have r0 : 0 ≤ k := by omega
                by_cases h9 : k ≤ (n : Nat)
                · have r9 : k ≤ (n : Nat) := by omega
                  have hr : rightI ⟨12, k, s⟩ (n : Nat) = true := by unfold rightI; simp [hE, r0, r9]
                  have HG2 := Sl.mk (HGOOD.out hr)
                  clear hr HGOOD HBAD
                  go_wp2_with (first
                    | (refine ld_r hld rfl (.tmp 18) rfl rfl ?_)
                    | (go_at_call 11; refine HW.out.mono ?_; rintro e w1 ⟨rfl, hb1⟩; have HB1 := Sl.mk (below_tr HE.out hb1); have HX1 := Sl.mk (hB0.out.be hb1); have c0 := HX1.out.cell 0; have c1 := HX1.out.cell 1; have c2 := HX1.out.cell 2; clear hb1)
                    | (go_at_call 17; refine (HT.out _).mono ?_; rintro e w2 ⟨rfl, rfl⟩))
                  go_roundw
                  case rel => exact ⟨i + 1, by omega, by go_num, HG2, HB1.out⟩
                  case measure => simp [intOf]; omega
                · have r9 : ¬ k ≤ (n : Nat) := by omega
                  have h9e := eq_false h9
                  have hr : rightI ⟨12, k, s⟩ (n : Nat) = false := by unfold rightI; simp [hE, r0, r9]
                  have HC := Sl.mk (HBAD.out hr)
                  clear hr HGOOD HBAD h9 r9
                  go_wp2_with (first
                    | (refine ld_r hld rfl (.tmp 18) rfl rfl ?_)
                    | (go_at_call 11; refine HW.out.mono ?_; rintro e w1 ⟨rfl, hb1⟩; have HB1 := Sl.mk (below_tr HE.out hb1); have HX1 := Sl.mk (hB0.out.be hb1); have c0 := HX1.out.cell 0; have c1 := HX1.out.cell 1; have c2 := HX1.out.cell 2; clear hb1)
                    | (go_at_call 17; refine (HT.out _).mono ?_; rintro e w2 ⟨rfl, rfl⟩))
                  go_ret2
                  exact ⟨by rw [HC.out]; rfl, HB1.out⟩
              · have r0 : ¬ 0 ≤ k := by omega
                have h0e := eq_false h0
                have hr : rightI ⟨12, k, s⟩ (n : Nat) = false := by unfold rightI; simp [hE, r0]
                have HC := Sl.mk (HBAD.out hr)
                clear hr HGOOD HBAD h0 r0
                go_wp2_with (first
                  | (refine ld_r hld rfl (.tmp 18) rfl rfl ?_)
                  | (go_at_call 11; refine HW.out.mono ?_; rintro e w1 ⟨rfl, hb1⟩; have HB1 := Sl.mk (below_tr HE.out hb1); have HX1 := Sl.mk (hB0.out.be hb1); have c0 := HX1.out.cell 0; have c1 := HX1.out.cell 1; have c2 := HX1.out.cell 2; clear hb1)
                  | (go_at_call 17; refine (HT.out _).mono ?_; rintro e w2 ⟨rfl, rfl⟩))
                go_ret2
                exact ⟨by rw [HC.out]; rfl, HB1.out⟩
          by_cases q2 : op = 2
          · subst q2
            have HT := Sl.mk (fun W => rtext_any s W (by have := HSL.out; omega))
            by_cases h0 : k = 0
            · subst h0
              cases hT : txS s
              · have hr : rightI ⟨2, 0, s⟩ (n : Nat) = false := by unfold rightI; simp [hT]
                have HC := Sl.mk (HBAD.out hr)
                rw [hT] at HT; clear hr HGOOD HBAD hT
                go_wp2_with (first
                  | (refine ld_r hld rfl (.tmp 18) rfl rfl ?_)
                  | (go_at_call 11; refine HW.out.mono ?_; rintro e w1 ⟨rfl, hb1⟩; have HB1 := Sl.mk (below_tr HE.out hb1); have HX1 := Sl.mk (hB0.out.be hb1); have c0 := HX1.out.cell 0; have c1 := HX1.out.cell 1; have c2 := HX1.out.cell 2; clear hb1)
                  | (go_at_call 17; refine (HT.out _).mono ?_; rintro e w2 ⟨rfl, rfl⟩))
                go_ret2
                exact ⟨by rw [HC.out]; rfl, HB1.out⟩
              · have hr : rightI ⟨2, 0, s⟩ (n : Nat) = true := by unfold rightI; simp [hT]
                have HG2 := Sl.mk (HGOOD.out hr)
                rw [hT] at HT; clear hr HGOOD HBAD hT
                go_wp2_with (first
                  | (refine ld_r hld rfl (.tmp 18) rfl rfl ?_)
                  | (go_at_call 11; refine HW.out.mono ?_; rintro e w1 ⟨rfl, hb1⟩; have HB1 := Sl.mk (below_tr HE.out hb1); have HX1 := Sl.mk (hB0.out.be hb1); have c0 := HX1.out.cell 0; have c1 := HX1.out.cell 1; have c2 := HX1.out.cell 2; clear hb1)
                  | (go_at_call 17; refine (HT.out _).mono ?_; rintro e w2 ⟨rfl, rfl⟩))
                go_roundw
                case rel => exact ⟨i + 1, by omega, by go_num, HG2, HB1.out⟩
                case measure => simp [intOf]; omega
            · have h0b : (k == 0) = false := beq_eq_false_iff_ne.2 h0
              have hr : rightI ⟨2, k, s⟩ (n : Nat) = false := by unfold rightI; simp [h0]
              have HC := Sl.mk (HBAD.out hr)
              clear hr HGOOD HBAD h0
              go_wp2_with (first
                | (refine ld_r hld rfl (.tmp 18) rfl rfl ?_)
                | (go_at_call 11; refine HW.out.mono ?_; rintro e w1 ⟨rfl, hb1⟩; have HB1 := Sl.mk (below_tr HE.out hb1); have HX1 := Sl.mk (hB0.out.be hb1); have c0 := HX1.out.cell 0; have c1 := HX1.out.cell 1; have c2 := HX1.out.cell 2; clear hb1)
                | (go_at_call 17; refine (HT.out _).mono ?_; rintro e w2 ⟨rfl, rfl⟩))
              go_ret2
              exact ⟨by rw [HC.out]; rfl, HB1.out⟩
          have b1 : (op == 1) = false := beq_eq_false_iff_ne.2 q1
          have b21 : (op == 21) = false := beq_eq_false_iff_ne.2 q21
          have b11 : (op == 11) = false := beq_eq_false_iff_ne.2 q11
          have b12 : (op == 12) = false := beq_eq_false_iff_ne.2 q12
          have b2 : (op == 2) = false := beq_eq_false_iff_ne.2 q2
          have hw1 := hwp.1
          have hw2 := hwp.2
          cases E
          · have hr : rightI ⟨op, k, s⟩ (n : Nat) = false := by unfold rightI; simp [hE, q1, q2, q11, q12, q21, hw1, hw2]
            have HC := Sl.mk (HBAD.out hr)
            clear hr HGOOD HBAD q1 q2 q11 q12 q21 hwp
            go_wp2_with (first
              | (refine ld_r hld rfl (.tmp 18) rfl rfl ?_)
              | (go_at_call 11; refine HW.out.mono ?_; rintro e w1 ⟨rfl, hb1⟩; have HB1 := Sl.mk (below_tr HE.out hb1); have HX1 := Sl.mk (hB0.out.be hb1); have c0 := HX1.out.cell 0; have c1 := HX1.out.cell 1; have c2 := HX1.out.cell 2; clear hb1)
              | (go_at_call 17; refine (HT.out _).mono ?_; rintro e w2 ⟨rfl, rfl⟩))
            go_ret2
            exact ⟨by rw [HC.out]; rfl, HB1.out⟩
          · by_cases h0 : k = 0
            · subst h0
              have hr : rightI ⟨op, 0, s⟩ (n : Nat) = true := by unfold rightI; simp [hE, q1, q2, q11, q12, q21, hw1, hw2]
              have HG2 := Sl.mk (HGOOD.out hr)
              clear hr HGOOD HBAD q1 q2 q11 q12 q21 hwp
              go_wp2_with (first
                | (refine ld_r hld rfl (.tmp 18) rfl rfl ?_)
                | (go_at_call 11; refine HW.out.mono ?_; rintro e w1 ⟨rfl, hb1⟩; have HB1 := Sl.mk (below_tr HE.out hb1); have HX1 := Sl.mk (hB0.out.be hb1); have c0 := HX1.out.cell 0; have c1 := HX1.out.cell 1; have c2 := HX1.out.cell 2; clear hb1)
                | (go_at_call 17; refine (HT.out _).mono ?_; rintro e w2 ⟨rfl, rfl⟩))
              go_roundw
              case rel => exact ⟨i + 1, by omega, by go_num, HG2, HB1.out⟩
              case measure => simp [intOf]; omega
            · have h0b : (k == 0) = false := beq_eq_false_iff_ne.2 h0
              have hr : rightI ⟨op, k, s⟩ (n : Nat) = false := by unfold rightI; simp [hE, q1, q2, q11, q12, q21, hw1, hw2, h0]
              have HC := Sl.mk (HBAD.out hr)
              clear hr HGOOD HBAD q1 q2 q11 q12 q21 hwp h0
              go_wp2_with (first
                | (refine ld_r hld rfl (.tmp 18) rfl rfl ?_)
                | (go_at_call 11; refine HW.out.mono ?_; rintro e w1 ⟨rfl, hb1⟩; have HB1 := Sl.mk (below_tr HE.out hb1); have HX1 := Sl.mk (hB0.out.be hb1); have c0 := HX1.out.cell 0; have c1 := HX1.out.cell 1; have c2 := HX1.out.cell 2; clear hb1)
                | (go_at_call 17; refine (HT.out _).mono ?_; rintro e w2 ⟨rfl, rfl⟩))
              go_ret2
              exact ⟨by rw [HC.out]; rfl, HB1.out⟩
        · have hlen0 : W.length = 0 := by
            rw [eq_false hwp] at hpos
            have := of_eq_false hpos; omega
          clear hpos
          have q1 : ¬ op = 1 := fun e => hwp (by subst e; decide)
          have b1 : (op == 1) = false := beq_eq_false_iff_ne.2 q1
          have q21 : ¬ op = 21 := fun e => hwp (by subst e; decide)
          have b21 : (op == 21) = false := beq_eq_false_iff_ne.2 q21
          have q11 : ¬ op = 11 := fun e => hwp (by subst e; decide)
          have b11 : (op == 11) = false := beq_eq_false_iff_ne.2 q11
          have q12 : ¬ op = 12 := fun e => hwp (by subst e; decide)
          have b12 : (op == 12) = false := beq_eq_false_iff_ne.2 q12
          have q2 : ¬ op = 2 := fun e => hwp (by subst e; decide)
          have b2 : (op == 2) = false := beq_eq_false_iff_ne.2 q2
          have hwq : (decide (0 ≤ op) && decide (op ≤ 21)) = false := by
            rw [Bool.and_eq_false_iff, decide_eq_false_iff_not, decide_eq_false_iff_not]; omega
          have hr : rightI ⟨op, k, s⟩ (n : Nat) = false := by
            unfold rightI; rw [if_neg q2, if_neg q1, if_neg q21, if_neg (by rintro (h | h); exact q11 h; exact q12 h)]; simp only [hwq, Bool.false_and]
          clear q1 q2 q11 q12 q21 hwp hwq
          have HC := Sl.mk (HBAD.out hr)
          clear hr HGOOD HBAD
          go_wp2_with (first
            | (refine ld_r hld rfl (.tmp 18) rfl rfl ?_)
            | (go_at_call 11; refine HW.out.mono ?_; rintro e w1 ⟨rfl, hb1⟩; have HB1 := Sl.mk (below_tr HE.out hb1); have HX1 := Sl.mk (hB0.out.be hb1); have c0 := HX1.out.cell 0; have c1 := HX1.out.cell 1; have c2 := HX1.out.cell 2; clear hb1)
            | (go_at_call 17; refine (HT.out _).mono ?_; rintro e w2 ⟨rfl, rfl⟩))
          go_ret2
          exact ⟨by rw [HC.out]; rfl, HB1.out⟩
      · obtain rfl : i = n := by omega
        have HC := Sl.mk (chk_good (by rw [HN.out]; omega) (fun j y hj hy => HG.out j y (by rw [← HN.out]; exact hj) hy))
        go_wp2_with fail
        go_ret2
        exact ⟨by rw [HC.out, HN.out]; rfl, hB⟩
end Go.Proofs.YtigdfkpkogompaaDoor
