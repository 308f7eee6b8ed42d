/-
  The contract of the document's Parse.
-/
import Derived.Test.YtmgblbkmbiiofaaGreatDoorMb18

namespace Go.Proofs.YtmgblbkmbiiofaaGreatDoor
open Go.RowKit
attribute [local go_sem ↓] Go.wp_at_zero Go.wp_at_succ
set_option linter.unusedVariables false
set_option linter.unusedSimpArgs false

set_option maxRecDepth 100000 in
set_option maxHeartbeats 200000000 in
theorem rparseM_any (s : Bs) (w : World) (hs : s.length ≤ 1000000) : Calls Tryz.prog 7 #[.string (bsS s)] w (ParsePostM w (parseM s)) := by
  obtain ⟨R, hR⟩ : ∃ R, parseM s = R := ⟨_, rfl⟩
  rw [hR]
  have HRR := Sl.mk hR
  have hz := bs_size s
  obtain ⟨i0, hi0, hz0, hz1, hz2⟩ := info_ri
  obtain ⟨wz, hwz⟩ : ∃ wz, w.alloc (.cells #[.string ⟨#[]⟩, .string ⟨#[]⟩, .int .i64 0, .slice none 0 0, .slice none 0 0, .slice none 0 0, .slice none 0 0] 31) = wz := ⟨_, rfl⟩
  have HB0 := Sl.mk (show Below w.heap.size w wz by rw [← hwz]; exact below_al (Below.refl w.heap.size w) _)
  have HZ := Sl.mk (show Blk wz w.heap.size 31 #[.string ⟨#[]⟩, .string ⟨#[]⟩, .int .i64 0, .slice none 0 0, .slice none 0 0, .slice none 0 0, .slice none 0 0] by rw [← hwz]; exact Blk.new w _ _)
  have HWZ := Sl.mk (show wz.heap.size = w.heap.size + 1 by rw [← hwz]; simp)
  clear hR
  by_cases hl : 4096 < s.length
  · have HC := Sl.mk (show R = (mf0, 0, 2) by rw [← HRR.out]; unfold parseM; rw [if_pos hl])
    have hl' : (4096 : Int) < (s.length : Int) := by omega
    go_enter Tryz.func7, Tryz.ntmps7
    go_upto_region 1 with fail
    clear hwz
    go_wp2_with (refine st_rm rfl (.tmp 2) (.tmp 17) rfl w.heap.size [.string ⟨#[]⟩, .string ⟨#[]⟩, .int .i64 0, .slice none 0 0, .slice none 0 0, .slice none 0 0, .slice none 0 0] [.string ⟨#[]⟩, .string ⟨#[]⟩, .int .i64 0, .slice none 0 0, .slice none 0 0, .slice none 0 0, .slice none 0 0] HZ.out rfl rfl rfl rfl zM_one ?_; intro w5 hb5 hg5 hs5)
    have HB5 := Sl.mk (show Below w.heap.size w w5 from HB0.out.trans ((Below.refl w.heap.size _).grown hg5 HB0.out.size (fun g hg => by injection hg with hg; omega)))
    refine bodyPost_ret (v := .tuple #[.agg #[.string ⟨#[]⟩, .string ⟨#[]⟩, .int .i64 0, .slice none 0 0, .slice none 0 0, .slice none 0 0, .slice none 0 0], .int .i64 0, .int .i64 2]) (results_cell2 Tryz.results7 _ _ _ rfl hb5 Tryz.underlying31 rmSize rfl rfl) rfl ?_
    rw [HC.out]
    exact ⟨HB5.out, ⟨none, 0, 0⟩, ⟨none, 0, 0⟩, ⟨none, 0, 0⟩, ⟨none, 0, 0⟩, rfl, mfr_zero _⟩
  have hl' : ¬ (4096 : Int) < (s.length : Int) := by omega
  have hl4 : s.length ≤ 4096 := by omega
  have HPF := Sl.mk (parse_fin hl)
  clear hl
  obtain ⟨B, hBd⟩ : ∃ B, bodyM s = B := ⟨_, rfl⟩
  obtain ⟨wh, hwh⟩ : ∃ b, whB s = b := ⟨_, rfl⟩
  obtain ⟨L, hL⟩ : ∃ L, Lib.split B [10] = L := ⟨_, rfl⟩
  obtain ⟨N, hN⟩ : ∃ N, L.length = N := ⟨_, rfl⟩
  have hbl : B.length ≤ s.length := by rw [← hBd]; unfold bodyM; split <;> simp
  have HLL := Sl.mk (show N ≤ 4097 ∧ (∀ x ∈ L, x.length ≤ 4096) ∧ 1 ≤ N by
    have h1 := split_le B 10
    have h2 := split_pos B 10
    rw [hL] at h1 h2
    exact ⟨by omega, fun x hx => by have := h1.2 x hx; omega, by omega⟩)
  have hN1 : N ≤ 4097 := HLL.out.1
  have HFIN := Sl.mk (show R = finM wh N (scanM L) by
    rw [← HRR.out, HPF.out, hwh]
    unfold linesM
    rw [hBd, hL, hN])
  have HNN := Sl.mk hN
  have HBD := Sl.mk (show B = if wh = true then s.dropLast else s by rw [← hBd, ← hwh]; rfl)
  have HWH := Sl.mk hwh
  have HCU := Sl.mk (show Calls Tryz.prog 26 #[.string (bsS B), .int .u8 10] wz (CutPost wz L) by rw [← hL]; exact rcut_ten B wz (by omega))
  clear hBd hwh hL hN HRR HPF
  go_enter Tryz.func7, Tryz.ntmps7
  go_upto_region 3 with fail
  clear hwz
  go_cut [5] (fun v5 wx => v5 = .bool wh ∧ wx = wz)
  case first =>
    rcases Nat.eq_zero_or_pos s.length with h0 | h0
    · have hs0 : s = [] := List.eq_nil_of_length_eq_zero h0
      have HW := Sl.mk (show wh = false by rw [← HWH.out, hs0]; exact wh_nil)
      have h1 : ¬ (0 : Int) < (s.length : Int) := by omega
      clear h0 hs0
      go_wp2_with fail
      go_meet
      exact ⟨by rw [HW.out], rfl⟩
    · obtain ⟨n, hn⟩ : ∃ n, s.length = n + 1 := ⟨s.length - 1, by omega⟩
      have HW := Sl.mk (show wh = (s.getD n 0 == 10) by rw [← HWH.out]; exact wh_of hn)
      have h1 : (0 : Int) < (s.length : Int) := by omega
      have h2 : (s.length : Int) - 1 = (n : Nat) := by omega
      have hlt2 : n < (bsS s).size := by rw [hz]; omega
      have HA := Sl.mk (bs_at hlt2)
      obtain ⟨b, hb⟩ : ∃ b : Nat, ((bsS s)[n]).toNat = b := ⟨_, rfl⟩
      have HX := Sl.mk (show (s.getD n 0).toNat = b by rw [← HA.out, hb])
      have hlt3 : n < s.length := by omega
      clear hn h0
      by_cases h10 : b = 10
      · have he : ((b : Int) == 10) = true := by simp; omega
        have HW2 := Sl.mk (show wh = true by rw [HW.out, beq_iff_eq]; exact UInt8.toNat_inj.1 (by rw [HX.out, h10]; rfl))
        clear h10
        go_wp2_with fail
        go_meet
        exact ⟨by rw [HW2.out], rfl⟩
      · have he : ((b : Int) == 10) = false := by simp; omega
        have HW2 := Sl.mk (show wh = false by rw [HW.out]; exact beq_eq_false_iff_ne.2 (fun e => h10 (by rw [← HX.out, e]; rfl)))
        clear h10
        go_wp2_with fail
        go_meet
        exact ⟨by rw [HW2.out], rfl⟩
  case rest =>
  obtain ⟨rfl, hwc⟩ := hcut
  subst hwc
  go_upto_if 29 with fail
  go_cut [0] (fun v0 wx => v0 = .string (bsS B) ∧ wx = wc)
  case first =>
    cases wh
    · have HB2 := Sl.mk (show B = s from HBD.out)
      go_wp2_with fail
      go_meet
      exact ⟨by rw [HB2.out], rfl⟩
    · have HB2 := Sl.mk (show B = s.dropLast from HBD.out)
      obtain ⟨n, hn⟩ : ∃ n, s.length = n + 1 := ⟨s.length - 1, by
        have h1 := HWH.out
        have : s ≠ [] := fun e => by rw [e, wh_nil] at h1; cases h1
        have := List.length_pos_iff.2 this
        omega⟩
      have h2 : (s.length : Int) - 1 = (n : Nat) := by omega
      have hlt3 : n ≤ s.length := by omega
      have ex : (bsS s).extract 0 n = bsS B := by
        rw [bs_cut, List.drop_zero, Nat.sub_zero, HB2.out, List.dropLast_eq_take, hn]; rfl
      clear hn
      go_wp2_with fail
      go_meet
      exact ⟨rfl, rfl⟩
  case rest =>
  obtain ⟨rfl, hwc⟩ := hcut
  subst hwc
  clear hl' hz
  go_wp2_with fail
  refine HCU.out.mono ?_
  rintro e w2 ⟨hb2, A, c, rfl, ho2⟩
  rw [HNN.out] at ho2 ⊢
  have HB2 := Sl.mk (HB0.out.trans (hb2.mono HB0.out.size))
  have HO2 := Sl.mk (show w2.ownsRow (w.heap.size + 1) 9 1 (.slice A N c) N (strsA L) by rw [← HWZ.out]; exact ho2)
  have HZ2 := Sl.mk (HZ.out.be hb2)
  have HS2 := Sl.mk (show w.heap.size < w2.heap.size by have h1 := hb2.size; have h2 := HWZ.out; omega)
  clear hb2 ho2
  obtain ⟨w3, hw3⟩ : ∃ w3, w2.alloc (.cells #[.string ⟨#[]⟩, .string ⟨#[]⟩, .int .i64 0, .slice none 0 0, .slice none 0 0, .slice none 0 0, .slice none 0 0] 31) = w3 := ⟨_, rfl⟩
  have HST0 := Sl.mk (show RpSt w w2.heap.size A N c L mf0 hd0 w3 by
    have hb := below_al (Below.refl w2.heap.size w2) (.cells #[.string ⟨#[]⟩, .string ⟨#[]⟩, .int .i64 0, .slice none 0 0, .slice none 0 0, .slice none 0 0, .slice none 0 0] 31)
    rw [hw3] at hb
    exact ⟨HB2.out.trans (hb.mono HB2.out.size), HZ2.out.be hb, own_below HO2.out hb, by rw [← hw3]; exact Blk.new w2 _ _, by
      have e : mf0.at = fun _ => [] := by funext j; match j with | 0 => rfl | 1 => rfl | 2 => rfl | _ + 3 => rfl
      rw [e]; exact lsR_zero _ _, HS2.out⟩)
  obtain ⟨mb, hmb⟩ : ∃ mb, w2.heap.size = mb := ⟨_, rfl⟩
  have HMB := Sl.mk hmb
  rw [hmb] at HST0
  go_upto_region 8 with fail
  clear hw3 hmb HB2 HO2 HZ2 HS2
  go_wp2_with fail
  go_loopg [9, 8] (N + 3) (fun q v9 v8 wr => ∃ (i lst : Nat) (m : Mf) (hd : Nat → Hd), q = N + 3 - i ∧ i ≤ N ∧ lst ≤ 3 ∧ v9 = .int .i64 i ∧ v8 = .int .i64 lst ∧ Sl (RpSt w mb A N c L m hd wr) ∧ Sl (PhM L i m lst) ∧ Sl (PhS i m hd))
  case atStart => exact ⟨0, 0, mf0, hd0, rfl, Nat.zero_le _, Nat.zero_le _, rfl, rfl, HST0, ⟨⟨rfl, rfl⟩⟩, ⟨⟨⟨Nat.zero_le _, Nat.zero_le _⟩, fun k hk x hx => by (match k, hk with | 0, _ => cases hx | 1, _ => cases hx | 2, _ => cases hx | 3, _ => cases hx), fun k hk => Nat.zero_le _⟩⟩⟩
  case round =>
    obtain ⟨i, lst, m, hd, hq, hi, hlst, rfl, rfl, HST, HPH, HPS⟩ := hrel
    clear HB0 HZ HWZ HCU HST0 HBD HWH
    match i, hi with
    | 0, hi =>
      as_aux_lemma =>
      obtain rfl : lst = 0 := HPH.out.2
      by_cases hlt : 0 < N
      · have hlz : (0 : Int) < (N : Int) := by omega
        have hgz : ¬ (N : Int) ≤ (0 : Int) := by omega
        obtain ⟨x, hx⟩ : ∃ x, L[0]? = some x := ⟨_, List.getElem?_eq_getElem (by rw [HNN.out]; exact hlt)⟩
        obtain ⟨ab, ao, hAe, hbl, g0⟩ := strs_lit (Reads.of_own HST.out.ro) hx
        have HCT := Sl.mk (fun W => rcut_sp x W (by have := HLL.out.2.1 x (List.mem_of_getElem? hx); omega))
        have HSL := Sl.mk (split_le x 32)
        have HXL := Sl.mk (HLL.out.2.1 x (List.mem_of_getElem? hx))
        have HHR := Sl.mk (headR_lt (w := hw0) hx)
        obtain ⟨W, hW⟩ : ∃ W, Lib.split x [32] = W := ⟨_, rfl⟩
        rw [hW] at HCT HSL
        have HW := Sl.mk hW
        subst hAe
        simp only [Nat.add_zero] at g0
        clear hx hW hbl
        go_wp2_with fail
        refine (HCT.out _).mono ?_
        rintro e w3 ⟨hb3, A2, c2, rfl, ho3⟩
        have HS3 := Sl.mk (HST.out.be_ hb3)
        have HR3 := Sl.mk (Reads.of_own ho3)
        clear hb3 ho3 g0
        by_cases h2 : W.length = 2
        · obtain ⟨a, b, rfl⟩ : ∃ a b, W = [a, b] := by
            match W, h2 with
            | [a, b], _ => exact ⟨a, b, rfl⟩
          obtain ⟨wb, wo, hA2, hwb, k0⟩ := strs_lit HR3.out (i := 0) rfl
          obtain ⟨wb', wo', hA3, hwb', k1⟩ := strs_lit HR3.out (i := 1) rfl
          subst hA2
          injection hA3 with hA3
          injection hA3 with hA4 hA5
          subst hA4; subst hA5
          have HBL := Sl.mk (HSL.out.2 b (by simp))
          have hix : ∀ W, (Instr.index 65 (.agg #[.string ⟨#[112, 97, 99, 107, 97, 103, 101]⟩, .string ⟨#[112, 117, 98, 108, 105, 115, 104, 101, 114]⟩, .string ⟨#[114, 101, 118, 105, 115, 105, 111, 110]⟩]) (.int .i64 0)).run Tryz.prog W = .ok (.string (bsS hw0)) W := fun W => idx_hw 0 (by decide) W
          have he := bs_beq a hw0
          have HHM := Sl.mk (HHR.out.trans (hdM_two HW.out))
          simp only [List.length_cons, List.length_nil, Nat.zero_add, Nat.reduceAdd, Nat.add_zero] at k0 k1 ⊢
          clear h2 hwb hwb'
          by_cases ha : a = hw0
          · rw [decide_eq_true ha] at he
            have HHB := Sl.mk (show headR L 0 hw0 = some b by rw [HHM.out, if_pos ha])
            clear ha
            go_wp2_with fail
            refine wp_region_quiet_tail 11 (by kernel_rfl) (by kernel_rfl) ?_
            simp only [List.take_succ_cons, List.take_zero, List.drop_succ_cons, List.drop_zero]
            repeat (any_goals (first | go_big_quiet_step (fail) | quiet_step (fail)))
            refine wpQuiet_nil ?_
            intro _ hw'
            obtain ⟨nq, hw''⟩ := hw'
            subst hw''
            have HS4 := Sl.mk (HS3.out.be_ (below_drN (Below.refl _ _) nq))
            have c1 : (w3.drewN nq).cell? ⟨wb, wo + 1, none⟩ = some (.string (bsS b)) := by rw [World.cell?_drewN]; exact k1
            obtain ⟨w4, hw4⟩ : ∃ w4, w3.drewN nq = w4 := ⟨_, rfl⟩
            rw [hw4] at HS4 c1 ⊢
            clear hw4 k0 k1 hix he
            have f1 := HS4.out.ou.frozen 0
            have d1 := HS4.out.ou.cell 0
            have HS5 := Sl.mk (HS4.out.put (m' := ⟨b, [], 0, [], [], [], []⟩) 0 (.string (bsS b)) (by rw [HPH.out.1]; rfl) (by rw [HPH.out.1]; rfl))
            have HP5 := Sl.mk (show PhS 1 ⟨b, [], 0, [], [], [], []⟩ hd from ⟨⟨by have := HBL.out; have := HXL.out; show b.length ≤ _; omega, Nat.zero_le _⟩, fun k hk y hy => by (match k, hk with | 0, _ => cases hy | 1, _ => cases hy | 2, _ => cases hy | 3, _ => cases hy), fun k hk => by have := HPS.out.nn k hk; omega⟩)
            go_wp2_with fail
            go_roundg (N + 3 - 1)
            case measure => omega
            case rel => exact ⟨1, 0, ⟨b, [], 0, [], [], [], []⟩, hd, rfl, by omega, by omega, rfl, rfl, HS5, ⟨⟨HHB.out, rfl, rfl⟩⟩, ⟨⟨HP5.out.pk, HP5.out.it, fun k hk => by have := HPS.out.nn k hk; omega⟩⟩⟩
          · rw [decide_eq_false ha] at he
            have HC := Sl.mk (show R = (mf0, 1, 3) by rw [HFIN.out, scan_f0 (by rw [HHM.out, if_neg ha]), fin_bad hlt]; rfl)
            clear ha
            go_wp2_with fail
            refine wp_region_quiet_tail 11 (by kernel_rfl) (by kernel_rfl) ?_
            simp only [List.take_succ_cons, List.take_zero, List.drop_succ_cons, List.drop_zero]
            repeat (any_goals (first | go_big_quiet_step (fail) | quiet_step (fail)))
            refine wpQuiet_nil ?_
            intro _ hw'
            obtain ⟨nq, hw''⟩ := hw'
            subst hw''
            have HS4 := Sl.mk (HS3.out.be_ (below_drN (Below.refl _ _) nq))
            obtain ⟨w4, hw4⟩ : ∃ w4, w3.drewN nq = w4 := ⟨_, rfl⟩
            rw [hw4] at HS4 ⊢
            clear hw4 k0 k1 hix he
            go_wp2_with (refine st_rm rfl (.tmp 2) (.tmp 85) rfl w.heap.size [.string ⟨#[]⟩, .string ⟨#[]⟩, .int .i64 0, .slice none 0 0, .slice none 0 0, .slice none 0 0, .slice none 0 0] [.string ⟨#[]⟩, .string ⟨#[]⟩, .int .i64 0, .slice none 0 0, .slice none 0 0, .slice none 0 0, .slice none 0 0] HS4.out.zr rfl rfl rfl rfl zM_one ?_; intro w5 hb5 hg5 hs5)
            have HB5 := Sl.mk (show Below w.heap.size w w5 from HS4.out.be.trans ((Below.refl w.heap.size _).grown hg5 HS4.out.be.size (fun g hg => by injection hg with hg; omega)))
            refine bodyPost_ret (v := .tuple #[.agg #[.string ⟨#[]⟩, .string ⟨#[]⟩, .int .i64 0, .slice none 0 0, .slice none 0 0, .slice none 0 0, .slice none 0 0], .int .i64 1, .int .i64 3]) (results_cell2 Tryz.results7 _ _ _ rfl hb5 Tryz.underlying31 rmSize rfl rfl) rfl ?_
            rw [HC.out]
            exact ⟨HB5.out, ⟨none, 0, 0⟩, ⟨none, 0, 0⟩, ⟨none, 0, 0⟩, ⟨none, 0, 0⟩, rfl, mfr_zero _⟩
        · have HC := Sl.mk (show R = (mf0, 1, 3) by rw [HFIN.out, scan_f0 (by rw [HHR.out]; exact headM_not (by rw [HW.out]; exact h2)), fin_bad hlt]; rfl)
          obtain ⟨nw, hnw⟩ : ∃ nw, W.length = nw := ⟨_, rfl⟩
          rw [hnw] at h2 ⊢
          have hne : ((nw : Int) != 2) = true := by simp; omega
          clear h2 hnw
          go_wp2_with fail
          refine wp_region_quiet_tail 11 (by kernel_rfl) (by kernel_rfl) ?_
          simp only [List.take_succ_cons, List.take_zero, List.drop_succ_cons, List.drop_zero]
          repeat (any_goals (first | go_big_quiet_step (fail) | quiet_step (fail)))
          refine wpQuiet_nil ?_
          intro _ hw'
          obtain ⟨nq, hw''⟩ := hw'
          subst hw''
          have HS4 := Sl.mk (HS3.out.be_ (below_drN (Below.refl _ _) nq))
          obtain ⟨w4, hw4⟩ : ∃ w4, w3.drewN nq = w4 := ⟨_, rfl⟩
          rw [hw4] at HS4 ⊢
          clear hw4
          go_wp2_with (refine st_rm rfl (.tmp 2) (.tmp 85) rfl w.heap.size [.string ⟨#[]⟩, .string ⟨#[]⟩, .int .i64 0, .slice none 0 0, .slice none 0 0, .slice none 0 0, .slice none 0 0] [.string ⟨#[]⟩, .string ⟨#[]⟩, .int .i64 0, .slice none 0 0, .slice none 0 0, .slice none 0 0, .slice none 0 0] HS4.out.zr rfl rfl rfl rfl zM_one ?_; intro w5 hb5 hg5 hs5)
          have HB5 := Sl.mk (show Below w.heap.size w w5 from HS4.out.be.trans ((Below.refl w.heap.size _).grown hg5 HS4.out.be.size (fun g hg => by injection hg with hg; omega)))
          refine bodyPost_ret (v := .tuple #[.agg #[.string ⟨#[]⟩, .string ⟨#[]⟩, .int .i64 0, .slice none 0 0, .slice none 0 0, .slice none 0 0, .slice none 0 0], .int .i64 1, .int .i64 3]) (results_cell2 Tryz.results7 _ _ _ rfl hb5 Tryz.underlying31 rmSize rfl rfl) rfl ?_
          rw [HC.out]
          exact ⟨HB5.out, ⟨none, 0, 0⟩, ⟨none, 0, 0⟩, ⟨none, 0, 0⟩, ⟨none, 0, 0⟩, rfl, mfr_zero _⟩
      · obtain rfl : N = 0 := by omega
        have HSC := Sl.mk (scan_f0 (headR_ge (w := hw0) (by rw [HNN.out]; exact Nat.le_refl _)))
        cases wh
        · have HC := Sl.mk (show R = (mf0, 0, 3) by rw [HFIN.out, HSC.out]; exact fin_end_f)
          go_wp2_with (refine st_rm rfl (.tmp 2) (.tmp 55) rfl w.heap.size [.string ⟨#[]⟩, .string ⟨#[]⟩, .int .i64 0, .slice none 0 0, .slice none 0 0, .slice none 0 0, .slice none 0 0] [.string ⟨#[]⟩, .string ⟨#[]⟩, .int .i64 0, .slice none 0 0, .slice none 0 0, .slice none 0 0, .slice none 0 0] HST.out.zr rfl rfl rfl rfl zM_one ?_; intro w5 hb5 hg5 hs5)
          have HB5 := Sl.mk (show Below w.heap.size w w5 from HST.out.be.trans ((Below.refl w.heap.size _).grown hg5 HST.out.be.size (fun g hg => by injection hg with hg; omega)))
          refine bodyPost_ret (v := .tuple #[.agg #[.string ⟨#[]⟩, .string ⟨#[]⟩, .int .i64 0, .slice none 0 0, .slice none 0 0, .slice none 0 0, .slice none 0 0], .int .i64 0, .int .i64 3]) (results_cell2 Tryz.results7 _ _ _ rfl hb5 Tryz.underlying31 rmSize rfl rfl) rfl ?_
          rw [HC.out]
          exact ⟨HB5.out, ⟨none, 0, 0⟩, ⟨none, 0, 0⟩, ⟨none, 0, 0⟩, ⟨none, 0, 0⟩, rfl, mfr_zero _⟩
        · have HC := Sl.mk (show R = (mf0, 1, 3) by rw [HFIN.out, HSC.out]; exact fin_end_t)
          go_wp2_with (refine st_rm rfl (.tmp 2) (.tmp 62) rfl w.heap.size [.string ⟨#[]⟩, .string ⟨#[]⟩, .int .i64 0, .slice none 0 0, .slice none 0 0, .slice none 0 0, .slice none 0 0] [.string ⟨#[]⟩, .string ⟨#[]⟩, .int .i64 0, .slice none 0 0, .slice none 0 0, .slice none 0 0, .slice none 0 0] HST.out.zr rfl rfl rfl rfl zM_one ?_; intro w5 hb5 hg5 hs5)
          have HB5 := Sl.mk (show Below w.heap.size w w5 from HST.out.be.trans ((Below.refl w.heap.size _).grown hg5 HST.out.be.size (fun g hg => by injection hg with hg; omega)))
          refine bodyPost_ret (v := .tuple #[.agg #[.string ⟨#[]⟩, .string ⟨#[]⟩, .int .i64 0, .slice none 0 0, .slice none 0 0, .slice none 0 0, .slice none 0 0], .int .i64 1, .int .i64 3]) (results_cell2 Tryz.results7 _ _ _ rfl hb5 Tryz.underlying31 rmSize rfl rfl) rfl ?_
          rw [HC.out]
          exact ⟨HB5.out, ⟨none, 0, 0⟩, ⟨none, 0, 0⟩, ⟨none, 0, 0⟩, ⟨none, 0, 0⟩, rfl, mfr_zero _⟩
    | 1, hi =>
      as_aux_lemma =>
      obtain rfl : lst = 0 := HPH.out.2.2
      by_cases hlt : 1 < N
      · have hlz : (1 : Int) < (N : Int) := by omega
        have hgz : ¬ (N : Int) ≤ (1 : Int) := by omega
        obtain ⟨x, hx⟩ : ∃ x, L[1]? = some x := ⟨_, List.getElem?_eq_getElem (by rw [HNN.out]; exact hlt)⟩
        obtain ⟨ab, ao, hAe, hbl, g0⟩ := strs_lit (Reads.of_own HST.out.ro) hx
        have HCT := Sl.mk (fun W => rcut_sp x W (by have := HLL.out.2.1 x (List.mem_of_getElem? hx); omega))
        have HSL := Sl.mk (split_le x 32)
        have HXL := Sl.mk (HLL.out.2.1 x (List.mem_of_getElem? hx))
        have HHR := Sl.mk (headR_lt (w := hw1) hx)
        obtain ⟨W, hW⟩ : ∃ W, Lib.split x [32] = W := ⟨_, rfl⟩
        rw [hW] at HCT HSL
        have HW := Sl.mk hW
        subst hAe
        skip
        clear hx hW hbl
        go_wp2_with fail
        refine (HCT.out _).mono ?_
        rintro e w3 ⟨hb3, A2, c2, rfl, ho3⟩
        have HS3 := Sl.mk (HST.out.be_ hb3)
        have HR3 := Sl.mk (Reads.of_own ho3)
        clear hb3 ho3 g0
        by_cases h2 : W.length = 2
        · obtain ⟨a, b, rfl⟩ : ∃ a b, W = [a, b] := by
            match W, h2 with
            | [a, b], _ => exact ⟨a, b, rfl⟩
          obtain ⟨wb, wo, hA2, hwb, k0⟩ := strs_lit HR3.out (i := 0) rfl
          obtain ⟨wb', wo', hA3, hwb', k1⟩ := strs_lit HR3.out (i := 1) rfl
          subst hA2
          injection hA3 with hA3
          injection hA3 with hA4 hA5
          subst hA4; subst hA5
          have HBL := Sl.mk (HSL.out.2 b (by simp))
          have hix : ∀ W, (Instr.index 65 (.agg #[.string ⟨#[112, 97, 99, 107, 97, 103, 101]⟩, .string ⟨#[112, 117, 98, 108, 105, 115, 104, 101, 114]⟩, .string ⟨#[114, 101, 118, 105, 115, 105, 111, 110]⟩]) (.int .i64 1)).run Tryz.prog W = .ok (.string (bsS hw1)) W := fun W => idx_hw 1 (by decide) W
          have he := bs_beq a hw1
          have HHM := Sl.mk (HHR.out.trans (hdM_two HW.out))
          simp only [List.length_cons, List.length_nil, Nat.zero_add, Nat.reduceAdd, Nat.add_zero] at k0 k1 ⊢
          clear h2 hwb hwb'
          by_cases ha : a = hw1
          · rw [decide_eq_true ha] at he
            have HHB := Sl.mk (show headR L 1 hw1 = some b by rw [HHM.out, if_pos ha])
            clear ha
            go_wp2_with fail
            refine wp_region_quiet_tail 11 (by kernel_rfl) (by kernel_rfl) ?_
            simp only [List.take_succ_cons, List.take_zero, List.drop_succ_cons, List.drop_zero]
            repeat (any_goals (first | go_big_quiet_step (fail) | quiet_step (fail)))
            refine wpQuiet_nil ?_
            intro _ hw'
            obtain ⟨nq, hw''⟩ := hw'
            subst hw''
            have HS4 := Sl.mk (HS3.out.be_ (below_drN (Below.refl _ _) nq))
            have c1 : (w3.drewN nq).cell? ⟨wb, wo + 1, none⟩ = some (.string (bsS b)) := by rw [World.cell?_drewN]; exact k1
            obtain ⟨w4, hw4⟩ : ∃ w4, w3.drewN nq = w4 := ⟨_, rfl⟩
            rw [hw4] at HS4 c1 ⊢
            clear hw4 k0 k1 hix he
            have f1 := HS4.out.ou.frozen 1
            have d1 := HS4.out.ou.cell 1
            have HS5 := Sl.mk (HS4.out.put (m' := ⟨m.pkg, b, 0, [], [], [], []⟩) 1 (.string (bsS b)) (by rw [HPH.out.2.1]; rfl) (by rw [HPH.out.2.1]; rfl))
            have HP5 := Sl.mk (show PhS 1 ⟨m.pkg, b, 0, [], [], [], []⟩ hd from ⟨⟨HPS.out.pk.1, by have := HBL.out; have := HXL.out; show b.length ≤ _; omega⟩, fun k hk y hy => by (match k, hk with | 0, _ => cases hy | 1, _ => cases hy | 2, _ => cases hy | 3, _ => cases hy), fun k hk => by have := HPS.out.nn k hk; omega⟩)
            go_wp2_with fail
            go_roundg (N + 3 - 2)
            case measure => omega
            case rel => exact ⟨2, 0, ⟨m.pkg, b, 0, [], [], [], []⟩, hd, rfl, by omega, by omega, rfl, rfl, HS5, ⟨⟨HPH.out.1, HHB.out, rfl, rfl⟩⟩, ⟨⟨HP5.out.pk, HP5.out.it, fun k hk => by have := HPS.out.nn k hk; omega⟩⟩⟩
          · rw [decide_eq_false ha] at he
            have HC := Sl.mk (show R = (mf0, 2, 3) by rw [HFIN.out, scan_f1 HPH.out.1 (by rw [HHM.out, if_neg ha]), fin_bad hlt]; rfl)
            clear ha
            go_wp2_with fail
            refine wp_region_quiet_tail 11 (by kernel_rfl) (by kernel_rfl) ?_
            simp only [List.take_succ_cons, List.take_zero, List.drop_succ_cons, List.drop_zero]
            repeat (any_goals (first | go_big_quiet_step (fail) | quiet_step (fail)))
            refine wpQuiet_nil ?_
            intro _ hw'
            obtain ⟨nq, hw''⟩ := hw'
            subst hw''
            have HS4 := Sl.mk (HS3.out.be_ (below_drN (Below.refl _ _) nq))
            obtain ⟨w4, hw4⟩ : ∃ w4, w3.drewN nq = w4 := ⟨_, rfl⟩
            rw [hw4] at HS4 ⊢
            clear hw4 k0 k1 hix he
            go_wp2_with (refine st_rm rfl (.tmp 2) (.tmp 85) rfl w.heap.size [.string ⟨#[]⟩, .string ⟨#[]⟩, .int .i64 0, .slice none 0 0, .slice none 0 0, .slice none 0 0, .slice none 0 0] [.string ⟨#[]⟩, .string ⟨#[]⟩, .int .i64 0, .slice none 0 0, .slice none 0 0, .slice none 0 0, .slice none 0 0] HS4.out.zr rfl rfl rfl rfl zM_one ?_; intro w5 hb5 hg5 hs5)
            have HB5 := Sl.mk (show Below w.heap.size w w5 from HS4.out.be.trans ((Below.refl w.heap.size _).grown hg5 HS4.out.be.size (fun g hg => by injection hg with hg; omega)))
            refine bodyPost_ret (v := .tuple #[.agg #[.string ⟨#[]⟩, .string ⟨#[]⟩, .int .i64 0, .slice none 0 0, .slice none 0 0, .slice none 0 0, .slice none 0 0], .int .i64 2, .int .i64 3]) (results_cell2 Tryz.results7 _ _ _ rfl hb5 Tryz.underlying31 rmSize rfl rfl) rfl ?_
            rw [HC.out]
            exact ⟨HB5.out, ⟨none, 0, 0⟩, ⟨none, 0, 0⟩, ⟨none, 0, 0⟩, ⟨none, 0, 0⟩, rfl, mfr_zero _⟩
        · have HC := Sl.mk (show R = (mf0, 2, 3) by rw [HFIN.out, scan_f1 HPH.out.1 (by rw [HHR.out]; exact headM_not (by rw [HW.out]; exact h2)), fin_bad hlt]; rfl)
          obtain ⟨nw, hnw⟩ : ∃ nw, W.length = nw := ⟨_, rfl⟩
          rw [hnw] at h2 ⊢
          have hne : ((nw : Int) != 2) = true := by simp; omega
          clear h2 hnw
          go_wp2_with fail
          refine wp_region_quiet_tail 11 (by kernel_rfl) (by kernel_rfl) ?_
          simp only [List.take_succ_cons, List.take_zero, List.drop_succ_cons, List.drop_zero]
          repeat (any_goals (first | go_big_quiet_step (fail) | quiet_step (fail)))
          refine wpQuiet_nil ?_
          intro _ hw'
          obtain ⟨nq, hw''⟩ := hw'
          subst hw''
          have HS4 := Sl.mk (HS3.out.be_ (below_drN (Below.refl _ _) nq))
          obtain ⟨w4, hw4⟩ : ∃ w4, w3.drewN nq = w4 := ⟨_, rfl⟩
          rw [hw4] at HS4 ⊢
          clear hw4
          go_wp2_with (refine st_rm rfl (.tmp 2) (.tmp 85) rfl w.heap.size [.string ⟨#[]⟩, .string ⟨#[]⟩, .int .i64 0, .slice none 0 0, .slice none 0 0, .slice none 0 0, .slice none 0 0] [.string ⟨#[]⟩, .string ⟨#[]⟩, .int .i64 0, .slice none 0 0, .slice none 0 0, .slice none 0 0, .slice none 0 0] HS4.out.zr rfl rfl rfl rfl zM_one ?_; intro w5 hb5 hg5 hs5)
          have HB5 := Sl.mk (show Below w.heap.size w w5 from HS4.out.be.trans ((Below.refl w.heap.size _).grown hg5 HS4.out.be.size (fun g hg => by injection hg with hg; omega)))
          refine bodyPost_ret (v := .tuple #[.agg #[.string ⟨#[]⟩, .string ⟨#[]⟩, .int .i64 0, .slice none 0 0, .slice none 0 0, .slice none 0 0, .slice none 0 0], .int .i64 2, .int .i64 3]) (results_cell2 Tryz.results7 _ _ _ rfl hb5 Tryz.underlying31 rmSize rfl rfl) rfl ?_
          rw [HC.out]
          exact ⟨HB5.out, ⟨none, 0, 0⟩, ⟨none, 0, 0⟩, ⟨none, 0, 0⟩, ⟨none, 0, 0⟩, rfl, mfr_zero _⟩
      · obtain rfl : N = 1 := by omega
        have HSC := Sl.mk (scan_f1 HPH.out.1 (headR_ge (w := hw1) (by rw [HNN.out]; exact Nat.le_refl _)))
        cases wh
        · have HC := Sl.mk (show R = (mf0, 1, 3) by rw [HFIN.out, HSC.out]; exact fin_end_f)
          go_wp2_with (refine st_rm rfl (.tmp 2) (.tmp 55) rfl w.heap.size [.string ⟨#[]⟩, .string ⟨#[]⟩, .int .i64 0, .slice none 0 0, .slice none 0 0, .slice none 0 0, .slice none 0 0] [.string ⟨#[]⟩, .string ⟨#[]⟩, .int .i64 0, .slice none 0 0, .slice none 0 0, .slice none 0 0, .slice none 0 0] HST.out.zr rfl rfl rfl rfl zM_one ?_; intro w5 hb5 hg5 hs5)
          have HB5 := Sl.mk (show Below w.heap.size w w5 from HST.out.be.trans ((Below.refl w.heap.size _).grown hg5 HST.out.be.size (fun g hg => by injection hg with hg; omega)))
          refine bodyPost_ret (v := .tuple #[.agg #[.string ⟨#[]⟩, .string ⟨#[]⟩, .int .i64 0, .slice none 0 0, .slice none 0 0, .slice none 0 0, .slice none 0 0], .int .i64 1, .int .i64 3]) (results_cell2 Tryz.results7 _ _ _ rfl hb5 Tryz.underlying31 rmSize rfl rfl) rfl ?_
          rw [HC.out]
          exact ⟨HB5.out, ⟨none, 0, 0⟩, ⟨none, 0, 0⟩, ⟨none, 0, 0⟩, ⟨none, 0, 0⟩, rfl, mfr_zero _⟩
        · have HC := Sl.mk (show R = (mf0, 2, 3) by rw [HFIN.out, HSC.out]; exact fin_end_t)
          go_wp2_with (refine st_rm rfl (.tmp 2) (.tmp 62) rfl w.heap.size [.string ⟨#[]⟩, .string ⟨#[]⟩, .int .i64 0, .slice none 0 0, .slice none 0 0, .slice none 0 0, .slice none 0 0] [.string ⟨#[]⟩, .string ⟨#[]⟩, .int .i64 0, .slice none 0 0, .slice none 0 0, .slice none 0 0, .slice none 0 0] HST.out.zr rfl rfl rfl rfl zM_one ?_; intro w5 hb5 hg5 hs5)
          have HB5 := Sl.mk (show Below w.heap.size w w5 from HST.out.be.trans ((Below.refl w.heap.size _).grown hg5 HST.out.be.size (fun g hg => by injection hg with hg; omega)))
          refine bodyPost_ret (v := .tuple #[.agg #[.string ⟨#[]⟩, .string ⟨#[]⟩, .int .i64 0, .slice none 0 0, .slice none 0 0, .slice none 0 0, .slice none 0 0], .int .i64 2, .int .i64 3]) (results_cell2 Tryz.results7 _ _ _ rfl hb5 Tryz.underlying31 rmSize rfl rfl) rfl ?_
          rw [HC.out]
          exact ⟨HB5.out, ⟨none, 0, 0⟩, ⟨none, 0, 0⟩, ⟨none, 0, 0⟩, ⟨none, 0, 0⟩, rfl, mfr_zero _⟩
    | 2, hi =>
      as_aux_lemma =>
      obtain rfl : lst = 0 := HPH.out.2.2.2
      by_cases hlt : 2 < N
      · have hlz : (2 : Int) < (N : Int) := by omega
        have hgz : ¬ (N : Int) ≤ (2 : Int) := by omega
        obtain ⟨x, hx⟩ : ∃ x, L[2]? = some x := ⟨_, List.getElem?_eq_getElem (by rw [HNN.out]; exact hlt)⟩
        obtain ⟨ab, ao, hAe, hbl, g0⟩ := strs_lit (Reads.of_own HST.out.ro) hx
        have HCT := Sl.mk (fun W => rcut_sp x W (by have := HLL.out.2.1 x (List.mem_of_getElem? hx); omega))
        have HSL := Sl.mk (split_le x 32)
        have HXL := Sl.mk (HLL.out.2.1 x (List.mem_of_getElem? hx))
        have HHR := Sl.mk (headR_lt (w := hw2) hx)
        obtain ⟨W, hW⟩ : ∃ W, Lib.split x [32] = W := ⟨_, rfl⟩
        rw [hW] at HCT HSL
        have HW := Sl.mk hW
        subst hAe
        skip
        clear hx hW hbl
        go_wp2_with fail
        refine (HCT.out _).mono ?_
        rintro e w3 ⟨hb3, A2, c2, rfl, ho3⟩
        have HS3 := Sl.mk (HST.out.be_ hb3)
        have HR3 := Sl.mk (Reads.of_own ho3)
        clear hb3 ho3 g0
        by_cases h2 : W.length = 2
        · obtain ⟨a, b, rfl⟩ : ∃ a b, W = [a, b] := by
            match W, h2 with
            | [a, b], _ => exact ⟨a, b, rfl⟩
          obtain ⟨wb, wo, hA2, hwb, k0⟩ := strs_lit HR3.out (i := 0) rfl
          obtain ⟨wb', wo', hA3, hwb', k1⟩ := strs_lit HR3.out (i := 1) rfl
          subst hA2
          injection hA3 with hA3
          injection hA3 with hA4 hA5
          subst hA4; subst hA5
          have HBL := Sl.mk (HSL.out.2 b (by simp))
          have hix : ∀ W, (Instr.index 65 (.agg #[.string ⟨#[112, 97, 99, 107, 97, 103, 101]⟩, .string ⟨#[112, 117, 98, 108, 105, 115, 104, 101, 114]⟩, .string ⟨#[114, 101, 118, 105, 115, 105, 111, 110]⟩]) (.int .i64 2)).run Tryz.prog W = .ok (.string (bsS hw2)) W := fun W => idx_hw 2 (by decide) W
          have he := bs_beq a hw2
          have HHM := Sl.mk (HHR.out.trans (hdM_two HW.out))
          simp only [List.length_cons, List.length_nil, Nat.zero_add, Nat.reduceAdd, Nat.add_zero] at k0 k1 ⊢
          clear h2 hwb hwb'
          by_cases ha : a = hw2
          · rw [decide_eq_true ha] at he
            have HHB := Sl.mk (show headR L 2 hw2 = some b by rw [HHM.out, if_pos ha])
            clear ha
            go_wp2_with fail
            refine wp_region_quiet_tail 11 (by kernel_rfl) (by kernel_rfl) ?_
            simp only [List.take_succ_cons, List.take_zero, List.drop_succ_cons, List.drop_zero]
            repeat (any_goals (first | go_big_quiet_step (fail) | quiet_step (fail)))
            refine wpQuiet_nil ?_
            intro _ hw'
            obtain ⟨nq, hw''⟩ := hw'
            subst hw''
            have HS4 := Sl.mk (HS3.out.be_ (below_drN (Below.refl _ _) nq))
            have c1 : (w3.drewN nq).cell? ⟨wb, wo + 1, none⟩ = some (.string (bsS b)) := by rw [World.cell?_drewN]; exact k1
            obtain ⟨w4, hw4⟩ : ∃ w4, w3.drewN nq = w4 := ⟨_, rfl⟩
            rw [hw4] at HS4 c1 ⊢
            clear hw4 k0 k1 hix he
            have HBL4 := Sl.mk (show b.length ≤ 4096 by have := HBL.out; have := HXL.out; omega)
            have hzb := bs_size b
            have hbb : b.length ≤ 1000000 := by have := HBL4.out; omega
            go_wp2_with fail
            go_loopg [11, 12] b.length (fun q v11 v12 wx => ∃ k : Nat, q = b.length - k ∧ k ≤ b.length ∧ k ≤ 6 ∧ v12 = .int .i64 k ∧ v11 = .int .i64 (dcF (b.take k) : Nat) ∧ wx = w4 ∧ dcF (b.take k) < 10 ^ k ∧ Sl (∀ j, j < k → dgB (b.getD j 0) = true))
            case atStart => exact ⟨0, rfl, Nat.zero_le _, by omega, rfl, rfl, rfl, by simp [dcF], ⟨fun j hj => absurd hj (Nat.not_lt_zero _)⟩⟩
            case round =>
              as_aux_lemma =>
              obtain ⟨k, hqk, hk, hk6, rfl, rfl, hwk, hA, HI⟩ := hrel
              subst hwk
              by_cases hkl : k < b.length
              · have hlt2 : k < (bsS b).size := by rw [hzb]; exact hkl
                have HBA := Sl.mk (bs_at hlt2)
                obtain ⟨d, hd_⟩ : ∃ d : Nat, ((bsS b)[k]).toNat = d := ⟨_, rfl⟩
                have hx : (b.getD k 0).toNat = d := by rw [← HBA.out, hd_]
                have HX := Sl.mk hx
                have HSN := Sl.mk (dcF_snoc b k hkl)
                rw [hx] at HSN
                have HDG := Sl.mk (show dgB (b.getD k 0) = (decide (48 ≤ d) && decide (d ≤ 57)) by unfold dgB; rw [hx])
                have HQ := Sl.mk (show b.length - (k + 1) < gk ∧ k + 1 ≤ b.length by omega)
                have hkz : (k : Int) < (b.length : Int) := by omega
                have HDL := Sl.mk (show d < 256 by rw [← hd_]; exact UInt8.toNat_lt _)
                clear hx
                by_cases hbad : d < 48 ∨ 57 < d ∨ 5 < k
                · have HC := Sl.mk (show R = (mf0, 3, 3) by
                    have hnu : nuOk b = false := by
                      rcases hbad with h | h | h
                      · exact nuOk_dig hkl (by rw [HDG.out, decide_eq_false (show ¬ 48 ≤ d by omega)]; rfl)
                      · exact nuOk_dig hkl (by rw [HDG.out, decide_eq_false (show ¬ d ≤ 57 by omega)]; simp)
                      · exact nuOk_len (.inr (by omega))
                    rw [HFIN.out, scan_f3 HPH.out.1 HPH.out.2.1 HHB.out hnu, fin_bad hlt]; rfl)
                  clear hqk HQ
                  by_cases h1 : d < 48
                  · clear hbad
                    go_wp2_with (refine st_rm rfl (.tmp 2) (.tmp 115) rfl w.heap.size [.string ⟨#[]⟩, .string ⟨#[]⟩, .int .i64 0, .slice none 0 0, .slice none 0 0, .slice none 0 0, .slice none 0 0] [.string ⟨#[]⟩, .string ⟨#[]⟩, .int .i64 0, .slice none 0 0, .slice none 0 0, .slice none 0 0, .slice none 0 0] HS4.out.zr rfl rfl rfl rfl zM_one ?_; intro w5 hb5 hg5 hs5)
                    have HB5 := Sl.mk (show Below w.heap.size w w5 from HS4.out.be.trans ((Below.refl w.heap.size _).grown hg5 HS4.out.be.size (fun g hg => by injection hg with hg; omega)))
                    refine bodyPost_ret (v := .tuple #[.agg #[.string ⟨#[]⟩, .string ⟨#[]⟩, .int .i64 0, .slice none 0 0, .slice none 0 0, .slice none 0 0, .slice none 0 0], .int .i64 3, .int .i64 3]) (results_cell2 Tryz.results7 _ _ _ rfl hb5 Tryz.underlying31 rmSize rfl rfl) rfl ?_
                    rw [HC.out]
                    exact ⟨HB5.out, ⟨none, 0, 0⟩, ⟨none, 0, 0⟩, ⟨none, 0, 0⟩, ⟨none, 0, 0⟩, rfl, mfr_zero _⟩
                  · by_cases h2 : 57 < d
                    · clear hbad
                      go_wp2_with (refine st_rm rfl (.tmp 2) (.tmp 115) rfl w.heap.size [.string ⟨#[]⟩, .string ⟨#[]⟩, .int .i64 0, .slice none 0 0, .slice none 0 0, .slice none 0 0, .slice none 0 0] [.string ⟨#[]⟩, .string ⟨#[]⟩, .int .i64 0, .slice none 0 0, .slice none 0 0, .slice none 0 0, .slice none 0 0] HS4.out.zr rfl rfl rfl rfl zM_one ?_; intro w5 hb5 hg5 hs5)
                      have HB5 := Sl.mk (show Below w.heap.size w w5 from HS4.out.be.trans ((Below.refl w.heap.size _).grown hg5 HS4.out.be.size (fun g hg => by injection hg with hg; omega)))
                      refine bodyPost_ret (v := .tuple #[.agg #[.string ⟨#[]⟩, .string ⟨#[]⟩, .int .i64 0, .slice none 0 0, .slice none 0 0, .slice none 0 0, .slice none 0 0], .int .i64 3, .int .i64 3]) (results_cell2 Tryz.results7 _ _ _ rfl hb5 Tryz.underlying31 rmSize rfl rfl) rfl ?_
                      rw [HC.out]
                      exact ⟨HB5.out, ⟨none, 0, 0⟩, ⟨none, 0, 0⟩, ⟨none, 0, 0⟩, ⟨none, 0, 0⟩, rfl, mfr_zero _⟩
                    · have h3 : (5 : Int) < (k : Int) := by omega
                      clear hbad
                      go_wp2_with (refine st_rm rfl (.tmp 2) (.tmp 115) rfl w.heap.size [.string ⟨#[]⟩, .string ⟨#[]⟩, .int .i64 0, .slice none 0 0, .slice none 0 0, .slice none 0 0, .slice none 0 0] [.string ⟨#[]⟩, .string ⟨#[]⟩, .int .i64 0, .slice none 0 0, .slice none 0 0, .slice none 0 0, .slice none 0 0] HS4.out.zr rfl rfl rfl rfl zM_one ?_; intro w5 hb5 hg5 hs5)
                      have HB5 := Sl.mk (show Below w.heap.size w w5 from HS4.out.be.trans ((Below.refl w.heap.size _).grown hg5 HS4.out.be.size (fun g hg => by injection hg with hg; omega)))
                      refine bodyPost_ret (v := .tuple #[.agg #[.string ⟨#[]⟩, .string ⟨#[]⟩, .int .i64 0, .slice none 0 0, .slice none 0 0, .slice none 0 0, .slice none 0 0], .int .i64 3, .int .i64 3]) (results_cell2 Tryz.results7 _ _ _ rfl hb5 Tryz.underlying31 rmSize rfl rfl) rfl ?_
                      rw [HC.out]
                      exact ⟨HB5.out, ⟨none, 0, 0⟩, ⟨none, 0, 0⟩, ⟨none, 0, 0⟩, ⟨none, 0, 0⟩, rfl, mfr_zero _⟩
                · have h1 : ¬ d < 48 := by omega
                  have h2 : ¬ 57 < d := by omega
                  have h3 : ¬ (5 : Int) < (k : Int) := by omega
                  have hdd : dgB (b.getD k 0) = true := by rw [HDG.out, decide_eq_true (show 48 ≤ d by omega), decide_eq_true (show d ≤ 57 by omega)]; rfl
                  have HI2 := Sl.mk (show ∀ j, j < k + 1 → dgB (b.getD j 0) = true from fun j hj => by
                    rcases Nat.lt_succ_iff_lt_or_eq.1 hj with h | rfl
                    · exact HI.out j h
                    · exact hdd)
                  obtain ⟨acc, hacc⟩ : ∃ acc, dcF (b.take k) = acc := ⟨_, rfl⟩
                  have hA3 : acc ≤ 999999 := by
                    rw [← hacc]
                    have : k ≤ 5 := by omega
                    have h10 : 10 ^ k ≤ 10 ^ 5 := Nat.pow_le_pow_right (by decide) this
                    have : (10 : Nat) ^ 5 = 100000 := by decide
                    omega
                  rw [hacc] at HSN hA ⊢
                  have HND := Sl.mk (show dcF (b.take (k + 1)) < 10 ^ (k + 1) by rw [HSN.out, Nat.pow_succ]; omega)
                  have hd256 := HDL.out
                  have hw64 : IntKind.i64.wrap (d : Int) = (d : Int) := Go.IntWalk.i64_in _ (by omega)
                  clear hdd HI hacc hbad hqk
                  go_wp2_with fail
                  go_roundg (b.length - (k + 1))
                  case measure => exact HQ.out.1
                  case rel => exact ⟨k + 1, rfl, HQ.out.2, by omega, by go_num, by rw [HSN.out]; congr 1; omega, rfl, HND.out, HI2⟩
              · obtain rfl : k = b.length := by omega
                have hkz : ¬ ((b.length : Nat) : Int) < (b.length : Int) := by omega
                rw [List.take_length] at hA ⊢
                clear hqk
                by_cases hl0 : b.length = 0
                · have HC := Sl.mk (show R = (mf0, 3, 3) by
                    rw [HFIN.out, scan_f3 HPH.out.1 HPH.out.2.1 HHB.out (nuOk_len (.inl (by omega))), fin_bad hlt]; rfl)
                  have hb0 : b = [] := List.eq_nil_of_length_eq_zero hl0
                  subst hb0
                  simp only [List.length_nil] at *
                  go_wp2_with (refine st_rm rfl (.tmp 2) (.tmp 147) rfl w.heap.size [.string ⟨#[]⟩, .string ⟨#[]⟩, .int .i64 0, .slice none 0 0, .slice none 0 0, .slice none 0 0, .slice none 0 0] [.string ⟨#[]⟩, .string ⟨#[]⟩, .int .i64 0, .slice none 0 0, .slice none 0 0, .slice none 0 0, .slice none 0 0] HS4.out.zr rfl rfl rfl rfl zM_one ?_; intro w5 hb5 hg5 hs5)
                  have HB5 := Sl.mk (show Below w.heap.size w w5 from HS4.out.be.trans ((Below.refl w.heap.size _).grown hg5 HS4.out.be.size (fun g hg => by injection hg with hg; omega)))
                  refine bodyPost_ret (v := .tuple #[.agg #[.string ⟨#[]⟩, .string ⟨#[]⟩, .int .i64 0, .slice none 0 0, .slice none 0 0, .slice none 0 0, .slice none 0 0], .int .i64 3, .int .i64 3]) (results_cell2 Tryz.results7 _ _ _ rfl hb5 Tryz.underlying31 rmSize rfl rfl) rfl ?_
                  rw [HC.out]
                  exact ⟨HB5.out, ⟨none, 0, 0⟩, ⟨none, 0, 0⟩, ⟨none, 0, 0⟩, ⟨none, 0, 0⟩, rfl, mfr_zero _⟩
                · have hlt2 : 0 < (bsS b).size := by rw [hzb]; omega
                  have HBA := Sl.mk (bs_at hlt2)
                  obtain ⟨d, hd_⟩ : ∃ d : Nat, ((bsS b)[0]).toNat = d := ⟨_, rfl⟩
                  have HX := Sl.mk (show (b.getD 0 0).toNat = d by rw [← HBA.out, hd_])
                  have hne : ((b.length : Int) == 0) = false := beq_eq_false_iff_ne.2 (by omega)
                  by_cases hbad : d = 48 ∧ 1 < b.length
                  · obtain ⟨hb1, hb2⟩ := hbad
                    have HC := Sl.mk (show R = (mf0, 3, 3) by
                      rw [HFIN.out, scan_f3 HPH.out.1 HPH.out.2.1 HHB.out (nuOk_zero (UInt8.toNat_inj.1 (by rw [HX.out, hb1]; rfl)) hb2), fin_bad hlt]; rfl)
                    have he1 : ((d : Int) == 48) = true := by simp; omega
                    have he2 : (1 : Int) < (b.length : Int) := by omega
                    clear hb1 hb2
                    go_wp2_with (refine st_rm rfl (.tmp 2) (.tmp 147) rfl w.heap.size [.string ⟨#[]⟩, .string ⟨#[]⟩, .int .i64 0, .slice none 0 0, .slice none 0 0, .slice none 0 0, .slice none 0 0] [.string ⟨#[]⟩, .string ⟨#[]⟩, .int .i64 0, .slice none 0 0, .slice none 0 0, .slice none 0 0, .slice none 0 0] HS4.out.zr rfl rfl rfl rfl zM_one ?_; intro w5 hb5 hg5 hs5)
                    have HB5 := Sl.mk (show Below w.heap.size w w5 from HS4.out.be.trans ((Below.refl w.heap.size _).grown hg5 HS4.out.be.size (fun g hg => by injection hg with hg; omega)))
                    refine bodyPost_ret (v := .tuple #[.agg #[.string ⟨#[]⟩, .string ⟨#[]⟩, .int .i64 0, .slice none 0 0, .slice none 0 0, .slice none 0 0, .slice none 0 0], .int .i64 3, .int .i64 3]) (results_cell2 Tryz.results7 _ _ _ rfl hb5 Tryz.underlying31 rmSize rfl rfl) rfl ?_
                    rw [HC.out]
                    exact ⟨HB5.out, ⟨none, 0, 0⟩, ⟨none, 0, 0⟩, ⟨none, 0, 0⟩, ⟨none, 0, 0⟩, rfl, mfr_zero _⟩
                  · have HOK := Sl.mk (show nuOk b = true from nuOk_ok (by omega) hk6 (fun h => hbad ⟨by rw [← HX.out, h.1]; rfl, h.2⟩) HI.out)
                    have HSC := Sl.mk (scan_f4 HPH.out.1 HPH.out.2.1 HHB.out HOK.out)
                    obtain ⟨acc, hacc⟩ : ∃ acc, dcF b = acc := ⟨_, rfl⟩
                    rw [hacc] at HSC hA ⊢
                    clear hacc
                    have f1 := HS4.out.ou.frozen 2
                    have d1 := HS4.out.ou.cell 2
                    have HS5 := Sl.mk (HS4.out.put (m' := ⟨m.pkg, m.pub, (acc : Nat), [], [], [], []⟩) 2 (.int .i64 (acc : Nat)) (by rw [HPH.out.2.2.1]; rfl) (by rw [HPH.out.2.2.1]; rfl))
                    have HP5 := Sl.mk (show PhS 3 ⟨m.pkg, m.pub, (acc : Nat), [], [], [], []⟩ hd from ⟨HPS.out.pk, fun k hk y hy => by (match k, hk with | 0, _ => cases hy | 1, _ => cases hy | 2, _ => cases hy | 3, _ => cases hy), fun k hk => by have := HPS.out.nn k hk; omega⟩)
                    by_cases hb1 : d = 48
                    · have he1 : ((d : Int) == 48) = true := by simp; omega
                      have he2 : ¬ (1 : Int) < (b.length : Int) := by omega
                      clear hbad hb1
                      go_wp2_with fail
                      go_roundg (N + 3 - 3)
                      case measure => omega
                      case rel => exact ⟨3, 0, ⟨m.pkg, m.pub, (acc : Nat), [], [], [], []⟩, hd, rfl, by omega, by omega, rfl, rfl, HS5, ⟨HSC.out⟩, HP5⟩
                    · have he1 : ((d : Int) == 48) = false := by simp; omega
                      clear hbad hb1
                      go_wp2_with fail
                      go_roundg (N + 3 - 3)
                      case measure => omega
                      case rel => exact ⟨3, 0, ⟨m.pkg, m.pub, (acc : Nat), [], [], [], []⟩, hd, rfl, by omega, by omega, rfl, rfl, HS5, ⟨HSC.out⟩, HP5⟩
          · rw [decide_eq_false ha] at he
            have HC := Sl.mk (show R = (mf0, 3, 3) by rw [HFIN.out, scan_f2 HPH.out.1 HPH.out.2.1 (by rw [HHM.out, if_neg ha]), fin_bad hlt]; rfl)
            clear ha
            go_wp2_with fail
            refine wp_region_quiet_tail 11 (by kernel_rfl) (by kernel_rfl) ?_
            simp only [List.take_succ_cons, List.take_zero, List.drop_succ_cons, List.drop_zero]
            repeat (any_goals (first | go_big_quiet_step (fail) | quiet_step (fail)))
            refine wpQuiet_nil ?_
            intro _ hw'
            obtain ⟨nq, hw''⟩ := hw'
            subst hw''
            have HS4 := Sl.mk (HS3.out.be_ (below_drN (Below.refl _ _) nq))
            obtain ⟨w4, hw4⟩ : ∃ w4, w3.drewN nq = w4 := ⟨_, rfl⟩
            rw [hw4] at HS4 ⊢
            clear hw4 k0 k1 hix he
            go_wp2_with (refine st_rm rfl (.tmp 2) (.tmp 85) rfl w.heap.size [.string ⟨#[]⟩, .string ⟨#[]⟩, .int .i64 0, .slice none 0 0, .slice none 0 0, .slice none 0 0, .slice none 0 0] [.string ⟨#[]⟩, .string ⟨#[]⟩, .int .i64 0, .slice none 0 0, .slice none 0 0, .slice none 0 0, .slice none 0 0] HS4.out.zr rfl rfl rfl rfl zM_one ?_; intro w5 hb5 hg5 hs5)
            have HB5 := Sl.mk (show Below w.heap.size w w5 from HS4.out.be.trans ((Below.refl w.heap.size _).grown hg5 HS4.out.be.size (fun g hg => by injection hg with hg; omega)))
            refine bodyPost_ret (v := .tuple #[.agg #[.string ⟨#[]⟩, .string ⟨#[]⟩, .int .i64 0, .slice none 0 0, .slice none 0 0, .slice none 0 0, .slice none 0 0], .int .i64 3, .int .i64 3]) (results_cell2 Tryz.results7 _ _ _ rfl hb5 Tryz.underlying31 rmSize rfl rfl) rfl ?_
            rw [HC.out]
            exact ⟨HB5.out, ⟨none, 0, 0⟩, ⟨none, 0, 0⟩, ⟨none, 0, 0⟩, ⟨none, 0, 0⟩, rfl, mfr_zero _⟩
        · have HC := Sl.mk (show R = (mf0, 3, 3) by rw [HFIN.out, scan_f2 HPH.out.1 HPH.out.2.1 (by rw [HHR.out]; exact headM_not (by rw [HW.out]; exact h2)), fin_bad hlt]; rfl)
          obtain ⟨nw, hnw⟩ : ∃ nw, W.length = nw := ⟨_, rfl⟩
          rw [hnw] at h2 ⊢
          have hne : ((nw : Int) != 2) = true := by simp; omega
          clear h2 hnw
          go_wp2_with fail
          refine wp_region_quiet_tail 11 (by kernel_rfl) (by kernel_rfl) ?_
          simp only [List.take_succ_cons, List.take_zero, List.drop_succ_cons, List.drop_zero]
          repeat (any_goals (first | go_big_quiet_step (fail) | quiet_step (fail)))
          refine wpQuiet_nil ?_
          intro _ hw'
          obtain ⟨nq, hw''⟩ := hw'
          subst hw''
          have HS4 := Sl.mk (HS3.out.be_ (below_drN (Below.refl _ _) nq))
          obtain ⟨w4, hw4⟩ : ∃ w4, w3.drewN nq = w4 := ⟨_, rfl⟩
          rw [hw4] at HS4 ⊢
          clear hw4
          go_wp2_with (refine st_rm rfl (.tmp 2) (.tmp 85) rfl w.heap.size [.string ⟨#[]⟩, .string ⟨#[]⟩, .int .i64 0, .slice none 0 0, .slice none 0 0, .slice none 0 0, .slice none 0 0] [.string ⟨#[]⟩, .string ⟨#[]⟩, .int .i64 0, .slice none 0 0, .slice none 0 0, .slice none 0 0, .slice none 0 0] HS4.out.zr rfl rfl rfl rfl zM_one ?_; intro w5 hb5 hg5 hs5)
          have HB5 := Sl.mk (show Below w.heap.size w w5 from HS4.out.be.trans ((Below.refl w.heap.size _).grown hg5 HS4.out.be.size (fun g hg => by injection hg with hg; omega)))
          refine bodyPost_ret (v := .tuple #[.agg #[.string ⟨#[]⟩, .string ⟨#[]⟩, .int .i64 0, .slice none 0 0, .slice none 0 0, .slice none 0 0, .slice none 0 0], .int .i64 3, .int .i64 3]) (results_cell2 Tryz.results7 _ _ _ rfl hb5 Tryz.underlying31 rmSize rfl rfl) rfl ?_
          rw [HC.out]
          exact ⟨HB5.out, ⟨none, 0, 0⟩, ⟨none, 0, 0⟩, ⟨none, 0, 0⟩, ⟨none, 0, 0⟩, rfl, mfr_zero _⟩
      · obtain rfl : N = 2 := by omega
        have HSC := Sl.mk (scan_f2 HPH.out.1 HPH.out.2.1 (headR_ge (w := hw2) (by rw [HNN.out]; exact Nat.le_refl _)))
        cases wh
        · have HC := Sl.mk (show R = (mf0, 2, 3) by rw [HFIN.out, HSC.out]; exact fin_end_f)
          go_wp2_with (refine st_rm rfl (.tmp 2) (.tmp 55) rfl w.heap.size [.string ⟨#[]⟩, .string ⟨#[]⟩, .int .i64 0, .slice none 0 0, .slice none 0 0, .slice none 0 0, .slice none 0 0] [.string ⟨#[]⟩, .string ⟨#[]⟩, .int .i64 0, .slice none 0 0, .slice none 0 0, .slice none 0 0, .slice none 0 0] HST.out.zr rfl rfl rfl rfl zM_one ?_; intro w5 hb5 hg5 hs5)
          have HB5 := Sl.mk (show Below w.heap.size w w5 from HST.out.be.trans ((Below.refl w.heap.size _).grown hg5 HST.out.be.size (fun g hg => by injection hg with hg; omega)))
          refine bodyPost_ret (v := .tuple #[.agg #[.string ⟨#[]⟩, .string ⟨#[]⟩, .int .i64 0, .slice none 0 0, .slice none 0 0, .slice none 0 0, .slice none 0 0], .int .i64 2, .int .i64 3]) (results_cell2 Tryz.results7 _ _ _ rfl hb5 Tryz.underlying31 rmSize rfl rfl) rfl ?_
          rw [HC.out]
          exact ⟨HB5.out, ⟨none, 0, 0⟩, ⟨none, 0, 0⟩, ⟨none, 0, 0⟩, ⟨none, 0, 0⟩, rfl, mfr_zero _⟩
        · have HC := Sl.mk (show R = (mf0, 3, 3) by rw [HFIN.out, HSC.out]; exact fin_end_t)
          go_wp2_with (refine st_rm rfl (.tmp 2) (.tmp 62) rfl w.heap.size [.string ⟨#[]⟩, .string ⟨#[]⟩, .int .i64 0, .slice none 0 0, .slice none 0 0, .slice none 0 0, .slice none 0 0] [.string ⟨#[]⟩, .string ⟨#[]⟩, .int .i64 0, .slice none 0 0, .slice none 0 0, .slice none 0 0, .slice none 0 0] HST.out.zr rfl rfl rfl rfl zM_one ?_; intro w5 hb5 hg5 hs5)
          have HB5 := Sl.mk (show Below w.heap.size w w5 from HST.out.be.trans ((Below.refl w.heap.size _).grown hg5 HST.out.be.size (fun g hg => by injection hg with hg; omega)))
          refine bodyPost_ret (v := .tuple #[.agg #[.string ⟨#[]⟩, .string ⟨#[]⟩, .int .i64 0, .slice none 0 0, .slice none 0 0, .slice none 0 0, .slice none 0 0], .int .i64 3, .int .i64 3]) (results_cell2 Tryz.results7 _ _ _ rfl hb5 Tryz.underlying31 rmSize rfl rfl) rfl ?_
          rw [HC.out]
          exact ⟨HB5.out, ⟨none, 0, 0⟩, ⟨none, 0, 0⟩, ⟨none, 0, 0⟩, ⟨none, 0, 0⟩, rfl, mfr_zero _⟩
    | i + 3, hi =>
      as_aux_lemma =>
      have HPM := Sl.mk (show scanM L = restsM m lst (L.drop (i + 3)) (i + 3) from HPH.out)
      obtain ⟨I, hI⟩ : ∃ I, i + 3 = I := ⟨_, rfl⟩
      have hI3 : 3 ≤ I := by omega
      rw [hI] at hi hq HPM HPS ⊢
      clear HPH hI
      have h33 : ¬ (I : Int) < 3 := by omega
      by_cases hlt : I < N
      · have hlz : (I : Int) < (N : Int) := by omega
        have hgz : ¬ (N : Int) ≤ (I : Int) := by omega
        obtain ⟨x, hx⟩ : ∃ x, L[I]? = some x := ⟨_, List.getElem?_eq_getElem (by rw [HNN.out]; exact hlt)⟩
        obtain ⟨ab, ao, hAe, hbl, g0⟩ := strs_lit (Reads.of_own HST.out.ro) hx
        have HCT := Sl.mk (fun W => rcut_sp x W (by have := HLL.out.2.1 x (List.mem_of_getElem? hx); omega))
        have HSL := Sl.mk (split_le x 32)
        have HXL := Sl.mk (HLL.out.2.1 x (List.mem_of_getElem? hx))
        have HRA := Sl.mk (HPM.out.trans (restsM_at (m := m) (lst := lst) hx))
        obtain ⟨W, hW⟩ : ∃ W, Lib.split x [32] = W := ⟨_, rfl⟩
        rw [hW] at HCT HSL
        have HW := Sl.mk hW
        subst hAe
        clear hx hW hbl
        go_wp2_with fail
        refine (HCT.out _).mono ?_
        rintro e w3 ⟨hb3, A2, c2, rfl, ho3⟩
        have HS3 := Sl.mk (HST.out.be_ hb3)
        have HR3 := Sl.mk (Reads.of_own ho3)
        clear hb3 ho3 g0
        by_cases h3 : W.length = 3
        · as_aux_lemma =>
          obtain ⟨a, b, d, rfl⟩ : ∃ a b d, W = [a, b, d] := by
            match W, h3 with
            | [a, b, d], _ => exact ⟨a, b, d, rfl⟩
          obtain ⟨wb, wo, hA2, hwb, k0⟩ := strs_lit HR3.out (i := 0) rfl
          obtain ⟨wb', wo', hA3, hwb', k1⟩ := strs_lit HR3.out (i := 1) rfl
          obtain ⟨wb2, wo2, hA6, hwb2, k2⟩ := strs_lit HR3.out (i := 2) rfl
          subst hA2
          injection hA3 with hA3
          injection hA3 with hA4 hA5
          subst hA4; subst hA5
          injection hA6 with hA6
          injection hA6 with hA7 hA8
          subst hA7; subst hA8
          have HBL := Sl.mk (show b.length ≤ 4096 ∧ d.length ≤ 4096 by
            have h1 := HSL.out.2 b (by simp)
            have h2 := HSL.out.2 d (by simp)
            have h3 := HXL.out
            omega)
          have HRM := Sl.mk (restM_3w (m := m) (lst := lst) HW.out)
          simp only [List.length_cons, List.length_nil, Nat.zero_add, Nat.reduceAdd, Nat.add_zero] at k0 k1 k2 ⊢
          have HK := Sl.mk (And.intro k0 (And.intro k1 k2))
          have HWB := Sl.mk hwb
          clear h3 hwb hwb' hwb2 k0 k1 k2
          go_wp2_with fail
          go_loopg [8] (4 - lst) (fun q v8 wx => ∃ (g nd : Nat), q = 4 - g ∧ lst ≤ g ∧ g ≤ 4 ∧ v8 = .int .i64 g ∧ wx = w3.drewN nd ∧ Sl (∀ j, lst ≤ j → j < g → wl[j]? ≠ some a))
          case atStart => exact ⟨lst, 0, rfl, Nat.le_refl _, by omega, rfl, rfl, ⟨fun j h1 h2 => by omega⟩⟩
          case round =>
            as_aux_lemma =>
            obtain ⟨g, nd, hqg, hg1, hg4, rfl, hwx, HG⟩ := hrel
            have HS4 := Sl.mk (show RpSt w mb (some ⟨ab, ao, none⟩) N c L m hd wr by rw [hwx]; exact HS3.out.be_ (below_drN (Below.refl _ _) nd))
            have HK4 := Sl.mk (show wr.cell? ⟨wb, wo, none⟩ = some (.string (bsS a)) ∧ wr.cell? ⟨wb, wo + 1, none⟩ = some (.string (bsS b)) ∧ wr.cell? ⟨wb, wo + 2, none⟩ = some (.string (bsS d)) by
              rw [hwx, World.cell?_drewN, World.cell?_drewN, World.cell?_drewN]; exact HK.out)
            have HWB4 := Sl.mk (show wb < wr.heap.size by rw [hwx]; simp; exact HWB.out)
            have HWX := Sl.mk hwx
            clear hwx
            have k0 := HK4.out.1
            by_cases hg : g < 4
            · have hgz4 : (g : Int) < 4 := by omega
              have HWD := Sl.mk (fun W => rword_any g hg W)
              obtain ⟨wd_, hwd_⟩ : ∃ x, wl[g]? = some x := ⟨_, List.getElem?_eq_getElem (by rw [wl_len]; exact hg)⟩
              have e1 : wl.getD g [] = wd_ := by rw [List.getD_eq_getElem?_getD, hwd_]; rfl
              rw [e1] at HWD
              have he := bs_beq wd_ a
              have HWG := Sl.mk hwd_
              clear e1 hwd_
              by_cases hwa : wd_ = a
              · subst hwa
                rw [decide_eq_true rfl] at he
                have HFW := Sl.mk (show findW lst wd_ = some g from findW_hit HWG.out hg1)
                have HSR := Sl.mk (show scanM L = restsM (m.add g ⟨b, d⟩) g (L.drop (I + 1)) (I + 1) by
                  rw [HRA.out, HRM.out, HFW.out])
                have hgne : ((g : Int) == 4) = false := by simp; omega
                clear HG hqg
                go_wp2_with fail
                refine wp_region_quiet_tail 8 (by kernel_rfl) (by kernel_rfl) ?_
                simp only [List.take_succ_cons, List.take_zero, List.drop_succ_cons, List.drop_zero]
                repeat (any_goals (first | go_big_quiet_step ((go_at_call 27; first | exact quiet_lf (HWD.out _) | exact quiet_add_lf (HWD.out _))) | quiet_step ((go_at_call 27; first | exact quiet_lf (HWD.out _) | exact quiet_add_lf (HWD.out _)))))
                refine wpQuiet_nil ?_
                intro _ hw'
                obtain ⟨nq, hw''⟩ := hw'
                subst hw''
                go_wp2_with fail
                obtain ⟨wd, hwd⟩ : ∃ wd, (wr.drewN nq).drew = wd := ⟨_, rfl⟩
                have hbd : Below wr.heap.size wr wd := by rw [← hwd]; exact (below_drN (Below.refl _ _) nq).drew
                have HSd := Sl.mk (HS4.out.be_ hbd)
                have HKd := Sl.mk (show wd.cell? ⟨wb, wo, none⟩ = some (.string (bsS wd_)) ∧ wd.cell? ⟨wb, wo + 1, none⟩ = some (.string (bsS b)) ∧ wd.cell? ⟨wb, wo + 2, none⟩ = some (.string (bsS d)) from ⟨(hbd.cell (p := ⟨wb, wo, none⟩) HWB4.out).trans HK4.out.1, (hbd.cell (p := ⟨wb, wo + 1, none⟩) HWB4.out).trans HK4.out.2.1, (hbd.cell (p := ⟨wb, wo + 2, none⟩) HWB4.out).trans HK4.out.2.2⟩)
                have HWBd := Sl.mk (show wb < wd.heap.size by have := HWB4.out; have := hbd.size; omega)
                obtain ⟨hg0, hhg⟩ : ∃ z, hd g = z := ⟨_, rfl⟩
                have HOg := Sl.mk (show OwnR wd (mb + 1) hg0 (m.at g) by rw [← hhg]; exact HSd.out.ls.own g hg)
                have HCg := Sl.mk (show wd.cell? ⟨mb, 3 + g, none⟩ = some hg0.v by
                  rw [← hhg]
                  match g, hg with
                  | 0, _ => exact HSd.out.ou.cell 3
                  | 1, _ => exact HSd.out.ou.cell 4
                  | 2, _ => exact HSd.out.ou.cell 5
                  | 3, _ => exact HSd.out.ou.cell 6)
                have HNg := Sl.mk (show hg0.n ≤ I by rw [← hhg]; exact HPS.out.nn g hg)
                obtain ⟨gA, gn, gc⟩ := hg0
                unfold OwnR Hd.v at HOg
                unfold Hd.v at HCg
                have hgn : gn ≤ 5000 := by have h1 : gn ≤ I := HNg.out; omega
                have HRg := Sl.mk (show Reads wd wd.heap.size 2 gA gn (itsC (m.at g)) from Reads.of_own HOg.out)
                have HMBd := Sl.mk HSd.out.ou.lt
                have HSF : Sl (∀ W : World, Below wd.heap.size wd W → W.cell? ⟨wb, wo + 1, none⟩ = some (.string (bsS b)) ∧ (W.cell? ⟨wb, wo + 2, none⟩ = some (.string (bsS d)) ∧ W.cell? ⟨mb, 3 + g, none⟩ = some (.slice gA gn gc))) :=
                  Sl.mk (fun W hW => ⟨(hW.cell (p := ⟨wb, wo + 1, none⟩) HWBd.out).trans HKd.out.2.1, (hW.cell (p := ⟨wb, wo + 2, none⟩) HWBd.out).trans HKd.out.2.2, (hW.cell (p := ⟨mb, 3 + g, none⟩) HMBd.out).trans HCg.out⟩)
                have HRd := Sl.mk (fun (W : World) (hW : Below wd.heap.size wd W) => (HRg.out.below hW).more hW.size)
                clear hbd hhg k0 he
                refine wp_region_X (fun W => Below wd.heap.size wd W) [0, 15, 16, 17, 18] (by kernel_rfl) (by rw [hwd]; exact Below.refl _ _) (fun hS => ?_)
                rw [hwd] at hS ⊢
                clear hwd
                refine wpAnyX_P (i := 0) (v := ?_) rfl (by kernel_rfl) (by kernel_rfl) (by kernel_rfl) (by kernel_rfl) (fun _ _ _ h => h) (Or.inl ⟨by rfl, ?_⟩) ?_
                rotate_left 1
                · (intro w' hw'; (first | rw [hw'] | (have hw2 := HSF.out w' hw'; (try obtain ⟨hw2, hw3⟩ := hw2)) | skip); go_simp; (try with_reducible rfl))
                simp only [Act.put, List.setIfInBounds_toArray, List.set_cons_zero, List.set_cons_succ]
                refine wpAnyX_P (i := 16) (v := ?_) rfl (by kernel_rfl) (by kernel_rfl) (by kernel_rfl) (by kernel_rfl) (fun _ _ _ h => h) (Or.inl ⟨by rfl, ?_⟩) ?_
                rotate_left 1
                · (intro w' hw'; (first | rw [hw'] | (have hw2 := HSF.out w' hw'; (try obtain ⟨hw2, hw3⟩ := hw2)) | skip); go_simp; (try with_reducible rfl))
                simp only [Act.put, List.setIfInBounds_toArray, List.set_cons_zero, List.set_cons_succ]
                refine wpAnyX_S (i := 2) (v := ?_) rfl (by kernel_rfl) (by kernel_rfl) (by kernel_rfl) (by kernel_rfl) (fun _ _ _ h => h) (Or.inl ⟨by rfl, ?_⟩) hS ?_
                rotate_left 1
                · (intro w' hw'; (first | rw [hw'] | (have hw2 := HSF.out w' hw'; (try obtain ⟨hw2, hw3⟩ := hw2)) | skip); go_simp; (try with_reducible rfl))
                simp only [Act.put, List.setIfInBounds_toArray, List.set_cons_zero, List.set_cons_succ]
                refine wpAnyX_S (i := 3) (v := ?_) rfl (by kernel_rfl) (by kernel_rfl) (by kernel_rfl) (by kernel_rfl) (fun _ _ _ h => h) (Or.inl ⟨by rfl, ?_⟩) hS ?_
                rotate_left 1
                · (intro w' hw'; (first | rw [hw'] | (have hw2 := HSF.out w' hw'; (try obtain ⟨hw2, hw3⟩ := hw2)) | skip); go_simp; (try with_reducible rfl))
                simp only [Act.put, List.setIfInBounds_toArray, List.set_cons_zero, List.set_cons_succ]
                refine wpAnyX_S (i := 4) (v := ?_) rfl (by kernel_rfl) (by kernel_rfl) (by kernel_rfl) (by kernel_rfl) (fun _ _ _ h => h) (Or.inl ⟨by rfl, ?_⟩) hS ?_
                rotate_left 1
                · (intro w' hw'; (first | rw [hw'] | (have hw2 := HSF.out w' hw'; (try obtain ⟨hw2, hw3⟩ := hw2)) | skip); go_simp; (try with_reducible rfl))
                simp only [Act.put, List.setIfInBounds_toArray, List.set_cons_zero, List.set_cons_succ]
                refine wpAnyX_S (i := 5) (v := ?_) rfl (by kernel_rfl) (by kernel_rfl) (by kernel_rfl) (by kernel_rfl) (fun _ _ _ h => h) (Or.inl ⟨by rfl, ?_⟩) hS ?_
                rotate_left 1
                · (intro w' hw'; (first | rw [hw'] | (have hw2 := HSF.out w' hw'; (try obtain ⟨hw2, hw3⟩ := hw2)) | skip); go_simp; (try with_reducible rfl))
                simp only [Act.put, List.setIfInBounds_toArray, List.set_cons_zero, List.set_cons_succ]
                refine wpAnyX_S (i := 7) (v := ?_) rfl (by kernel_rfl) (by kernel_rfl) (by kernel_rfl) (by kernel_rfl) (fun _ _ _ h => h) (Or.inl ⟨by rfl, ?_⟩) hS ?_
                rotate_left 1
                · (intro w' hw'; (first | rw [hw'] | (have hw2 := HSF.out w' hw'; (try obtain ⟨hw2, hw3⟩ := hw2)) | skip); go_simp; (try with_reducible rfl))
                simp only [Act.put, List.setIfInBounds_toArray, List.set_cons_zero, List.set_cons_succ]
                refine wpAnyX_S (i := 8) (v := ?_) rfl (by kernel_rfl) (by kernel_rfl) (by kernel_rfl) (by kernel_rfl) (fun _ _ _ h => h) (Or.inl ⟨by rfl, ?_⟩) hS ?_
                rotate_left 1
                · (intro w' hw'; (first | rw [hw'] | (have hw2 := HSF.out w' hw'; (try obtain ⟨hw2, hw3⟩ := hw2)) | skip); go_simp; (try with_reducible rfl))
                simp only [Act.put, List.setIfInBounds_toArray, List.set_cons_zero, List.set_cons_succ]
                refine wpAnyX_S (i := 9) (v := ?_) rfl (by kernel_rfl) (by kernel_rfl) (by kernel_rfl) (by kernel_rfl) (fun _ _ _ h => h) (Or.inl ⟨by rfl, ?_⟩) hS ?_
                rotate_left 1
                · (intro w' hw'; (first | rw [hw'] | (have hw2 := HSF.out w' hw'; (try obtain ⟨hw2, hw3⟩ := hw2)) | skip); go_simp; (try with_reducible rfl))
                simp only [Act.put, List.setIfInBounds_toArray, List.set_cons_zero, List.set_cons_succ]
                refine wpAnyX_S (i := 10) (v := ?_) rfl (by kernel_rfl) (by kernel_rfl) (by kernel_rfl) (by kernel_rfl) (fun _ _ _ h => h) (Or.inl ⟨by rfl, ?_⟩) hS ?_
                rotate_left 1
                · (intro w' hw'; (first | rw [hw'] | (have hw2 := HSF.out w' hw'; (try obtain ⟨hw2, hw3⟩ := hw2)) | skip); go_simp; (try with_reducible rfl))
                simp only [Act.put, List.setIfInBounds_toArray, List.set_cons_zero, List.set_cons_succ]
                refine wpAnyX_S (i := 11) (v := ?_) rfl (by kernel_rfl) (by kernel_rfl) (by kernel_rfl) (by kernel_rfl) (fun _ _ _ h => h) (Or.inl ⟨by rfl, ?_⟩) hS ?_
                rotate_left 1
                · (intro w' hw'; (first | rw [hw'] | (have hw2 := HSF.out w' hw'; (try obtain ⟨hw2, hw3⟩ := hw2)) | skip); go_simp; (try with_reducible rfl))
                simp only [Act.put, List.setIfInBounds_toArray, List.set_cons_zero, List.set_cons_succ]
                refine wpAnyX_S (i := 12) (v := ?_) rfl (by kernel_rfl) (by kernel_rfl) (by kernel_rfl) (by kernel_rfl) (fun _ _ _ h => h) (Or.inl ⟨by rfl, ?_⟩) hS ?_
                rotate_left 1
                · (intro w' hw'; (first | rw [hw'] | (have hw2 := HSF.out w' hw'; (try obtain ⟨hw2, hw3⟩ := hw2)) | skip); go_simp; (try with_reducible rfl))
                simp only [Act.put, List.setIfInBounds_toArray, List.set_cons_zero, List.set_cons_succ]
                refine wpAnyX_S (i := 13) (v := ?_) rfl (by kernel_rfl) (by kernel_rfl) (by kernel_rfl) (by kernel_rfl) (fun _ _ _ h => h) (Or.inl ⟨by rfl, ?_⟩) hS ?_
                rotate_left 1
                · (intro w' hw'; (first | rw [hw'] | (have hw2 := HSF.out w' hw'; (try obtain ⟨hw2, hw3⟩ := hw2)) | skip); go_simp; (try with_reducible rfl))
                simp only [Act.put, List.setIfInBounds_toArray, List.set_cons_zero, List.set_cons_succ]
                refine wpAnyX_web [1, 6, 14] (fun k => k + 187) (fun k => if k = 6 then [1] else []) (ItemP wd.heap.size gn (m.at g) ⟨b, d⟩) _ _ 217 3 (by kernel_rfl) (by decide) (by decide) (by kernel_rfl) (by rfl) (by decide) ?_ ?_ ?_ _ hS
                · intro k hk v W W' _ hP hb
                  simp only [List.mem_cons, List.not_mem_nil, or_false] at hk
                  rcases hk with rfl | rfl | rfl
                  · obtain ⟨g, rfl, hg, h⟩ := hP
                    exact ⟨g, rfl, hg, h.below hb h.lt⟩
                  · obtain ⟨A', c', rfl, h⟩ := hP
                    exact ⟨A', c', rfl, own_below h hb⟩
                  · obtain ⟨g, rfl, h⟩ := hP
                    exact ⟨g, rfl, (h.below hb).more hb.size⟩
                · intro k hk a W σ hW hag hdep
                  simp only [List.mem_cons, List.not_mem_nil, or_false] at hk
                  have e192 : a.tmps[192]?.getD undef = .slice gA gn gc := ev_at ((hag 192 (by decide)).trans rfl)
                  have e200 : a.tmps[200]?.getD undef = .agg #[.string (bsS b), .string (bsS d)] := ev_at ((hag 200 (by decide)).trans rfl)
                  rcases hk with rfl | rfl | rfl
                  all_goals simp only [List.getElem?_cons_succ, List.getElem?_cons_zero, Option.getD_some]
                  · exact wp_of_run (v := .slice (some ⟨W.heap.size, 0, none⟩) 0 0) (w' := W.alloc (.cells #[] 67)) (by go_simp) ⟨_, rfl, below_al (Below.refl _ _) _, _, rfl, hW.size, Blk.new _ _ _⟩
                  · obtain ⟨e36, g, h36, hg, hBk⟩ := hdep 1 (by decide)
                    have e36 := ev_at (e36.trans h36)
                    obtain ⟨A', c', w', hrun, ho, hb⟩ := app_empty (P := Tryz.prog) W 28 28 67 i0 (.agg #[.string ⟨#[]⟩, .string ⟨#[]⟩]) 2 32 Tryz.underlying28 hi0 hz0 hz1 hz2 rfl (by decide) wd.heap.size g hg hBk W.heap.size gn gc gA (itsC (m.at _)) (HRd.out W hW) (by unfold maxLen; omega) (by omega)
                    exact wp_app (s := .tmp 188) (x := .tmp 192) rfl (by simpa [Act.eval] using e36) (by simpa [Act.eval] using e192) hrun ⟨_, rfl, hb, A', c', rfl, ho⟩
                  · exact wp_of_run (v := .slice (some ⟨W.heap.size, 0, none⟩) 1 1) (w' := W.alloc (.cells #[.string (bsS b), .string (bsS d)] 67)) (by go_simp) ⟨_, rfl, below_al (Below.refl _ _) _, _, rfl, reads_row2 W _ _ _ (by simp)⟩
                · intro σ W hW hP
                  obtain ⟨g0, h0, -, -⟩ := hP 1 (by decide)
                  obtain ⟨A2, c2, h2, ho2⟩ := hP 6 (by decide)
                  obtain ⟨g7, h7, hr7⟩ := hP 14 (by decide)
                  simp only [putL, List.foldl]
                  rw [h0, h2, h7]
                  simp only [Nat.reduceAdd]
                  simp only [Act.put, List.setIfInBounds_toArray, List.set_cons_zero, List.set_cons_succ]
                  refine wpAnyX_tailF [15, 17, 18] (by kernel_rfl) (by rfl) (by rfl) (by rfl) ?_
                  simp only [List.filterMap_cons, List.filterMap_nil, List.getElem?_cons_succ, List.getElem?_cons_zero]
                  refine wpList_append_anyG _ rfl (.tmp 193) (.tmp 201) 28 rfl wd.heap.size 67 i0 (.agg #[.string ⟨#[]⟩, .string ⟨#[]⟩]) 2 32 Tryz.underlying28 hi0 hz0 hz1 hz2 rfl (by decide) (.slice A2 gn c2) gn (itsC (m.at g)) rfl ho2 W.heap.size (some ⟨g7, 0, none⟩) 1 1 (itC ⟨b, d⟩) rfl hr7 (itC_one _) (by unfold maxLen; omega) (by omega) hW.size ?_
                  intro v9 w9 ho9 hg9 hb9
                  have hE9 : Below wd.heap.size wd w9 := hW.grown hg9 hW.size (fun g hg => ownGe ho2 hg)
                  have ho91 : w9.ownsRow wd.heap.size 67 2 v9 (gn + 1) (itsC (m.at g ++ [⟨b, d⟩])) := by rw [itsC_app, itsC_sing]; exact ho9
                  obtain ⟨A9, c9, rfl⟩ := ownForm ho91
                  have HS9 := Sl.mk (HSd.out.add (y := ⟨A9, gn + 1, c9⟩) hg hE9 ho91)
                  have HSz := Sl.mk (HSd.out.be_ hE9)
                  have HP9 := Sl.mk (show PhS (I + 1) (m.add g ⟨b, d⟩) (updH hd g ⟨A9, gn + 1, c9⟩) from ⟨by
                    have h1 : (m.add g ⟨b, d⟩).pkg = m.pkg ∧ (m.add g ⟨b, d⟩).pub = m.pub := by
                      match g with
                      | 0 => exact ⟨rfl, rfl⟩
                      | 1 => exact ⟨rfl, rfl⟩
                      | 2 => exact ⟨rfl, rfl⟩
                      | _ + 3 => exact ⟨rfl, rfl⟩
                    rw [h1.1, h1.2]; exact HPS.out.pk, fun k hk y hy => by
                    rw [at_add m g k _ hg hk] at hy
                    by_cases hkg : k = g
                    · rw [if_pos hkg] at hy
                      rcases List.mem_append.1 hy with hy | hy
                      · exact HPS.out.it g hg y hy
                      · rw [List.mem_singleton.1 hy]
                        have := HBL.out
                        exact ⟨by show b.length ≤ _; omega, by show d.length ≤ _; omega⟩
                    · rw [if_neg hkg] at hy
                      exact HPS.out.it k hk y hy, fun k hk => by
                    unfold updH
                    by_cases hkg : k = g
                    · rw [if_pos hkg]; have h1 : gn ≤ I := HNg.out; show gn + 1 ≤ _; omega
                    · rw [if_neg hkg]; have := HPS.out.nn k hk; omega⟩)
                  have HPN := Sl.mk (show PhM L (I + 1) (m.add g ⟨b, d⟩) g by
                    obtain ⟨q, rfl⟩ : ∃ q, I = q + 3 := ⟨I - 3, by omega⟩
                    rw [show q + 3 + 1 = (q + 1) + 3 by omega]
                    show scanM L = restsM _ g (L.drop (q + 1 + 3)) (q + 1 + 3)
                    rw [show q + 1 + 3 = q + 3 + 1 by omega]
                    exact HSR.out)
                  have f9 : w9.frozen? ⟨mb, 3 + g, none⟩ = false := HSz.out.ou.frozen (3 + g)
                  have c9' : w9.cell? ⟨mb, 3 + g, none⟩ = some (.slice gA gn gc) := (hE9.cell (p := ⟨mb, 3 + g, none⟩) HMBd.out).trans HCg.out
                  unfold Hd.v at HS9
                  clear hP h0 h2 h7 ho2 hr7 ho9 hg9 hb9 ho91 hE9 HSF HRd hW
                  go_wp2_with fail
                  refine NoPanic.normal ?_
                  go_wp2_with fail
                  go_roundg (N + 3 - (I + 1))
                  case measure => omega
                  case rel => exact ⟨I + 1, g, m.add g ⟨b, d⟩, updH hd g ⟨A9, gn + 1, c9⟩, rfl, by omega, by omega, by go_num, rfl, HS9, HPN, HP9⟩
              · rw [decide_eq_false hwa] at he
                have HG2 := Sl.mk (show ∀ j, lst ≤ j → j < g + 1 → wl[j]? ≠ some a from fun j h1 h2 => by
                  rcases Nat.lt_succ_iff_lt_or_eq.1 h2 with h | rfl
                  · exact HG.out j h1 h
                  · rw [HWG.out]; exact fun e => hwa (Option.some.inj e))
                clear hwa
                go_wp2_with fail
                refine wp_region_quiet_tail 8 (by kernel_rfl) (by kernel_rfl) ?_
                simp only [List.take_succ_cons, List.take_zero, List.drop_succ_cons, List.drop_zero]
                repeat (any_goals (first | go_big_quiet_step ((go_at_call 27; first | exact quiet_lf (HWD.out _) | exact quiet_add_lf (HWD.out _))) | quiet_step ((go_at_call 27; first | exact quiet_lf (HWD.out _) | exact quiet_add_lf (HWD.out _)))))
                refine wpQuiet_nil ?_
                intro _ hw'
                obtain ⟨nq, hw''⟩ := hw'
                subst hw''
                go_wp2_with fail
                go_roundg (4 - (g + 1))
                case measure => omega
                case rel => exact ⟨g + 1, nd + nq, rfl, by omega, by omega, by go_num, by rw [HWX.out]; simp [World.drewN_drewN], HG2⟩
            · obtain rfl : g = 4 := by omega
              have HFW := Sl.mk (show findW lst a = none from findW_miss (fun k h1 h2 => HG.out k h1 h2))
              have HC := Sl.mk (show R = (mf0, (I : Int) + 1, 3) by rw [HFIN.out, HRA.out, HRM.out, HFW.out]; exact fin_bad hlt)
              clear hqg
              go_wp2_with fail
              refine wp_region_quiet_tail 8 (by kernel_rfl) (by kernel_rfl) ?_
              simp only [List.take_succ_cons, List.take_zero, List.drop_succ_cons, List.drop_zero]
              repeat (any_goals (first | go_big_quiet_step (fail) | quiet_step (fail)))
              refine wpQuiet_nil ?_
              intro _ hw'
              obtain ⟨nq, hw''⟩ := hw'
              subst hw''
              have HS5 := Sl.mk (HS4.out.be_ (below_drN (Below.refl _ _) nq))
              obtain ⟨w4, hw4⟩ : ∃ w4, wr.drewN nq = w4 := ⟨_, rfl⟩
              rw [hw4] at HS5 ⊢
              clear hw4 k0
              go_wp2_with (refine st_rm rfl (.tmp 2) (.tmp 184) rfl w.heap.size [.string ⟨#[]⟩, .string ⟨#[]⟩, .int .i64 0, .slice none 0 0, .slice none 0 0, .slice none 0 0, .slice none 0 0] [.string ⟨#[]⟩, .string ⟨#[]⟩, .int .i64 0, .slice none 0 0, .slice none 0 0, .slice none 0 0, .slice none 0 0] HS5.out.zr rfl rfl rfl rfl zM_one ?_; intro w5 hb5 hg5 hs5)
              have HB5 := Sl.mk (show Below w.heap.size w w5 from HS5.out.be.trans ((Below.refl w.heap.size _).grown hg5 HS5.out.be.size (fun g hg => by injection hg with hg; omega)))
              refine bodyPost_ret (v := .tuple #[.agg #[.string ⟨#[]⟩, .string ⟨#[]⟩, .int .i64 0, .slice none 0 0, .slice none 0 0, .slice none 0 0, .slice none 0 0], .int .i64 ((I : Int) + 1), .int .i64 3]) (results_cell2 Tryz.results7 _ _ _ rfl hb5 Tryz.underlying31 rmSize rfl rfl) rfl ?_
              rw [HC.out]
              exact ⟨HB5.out, ⟨none, 0, 0⟩, ⟨none, 0, 0⟩, ⟨none, 0, 0⟩, ⟨none, 0, 0⟩, rfl, mfr_zero _⟩
        · have HC := Sl.mk (show R = (mf0, (I : Int) + 1, 3) by rw [HFIN.out, HRA.out, restM_n3 (by rw [HW.out]; exact h3)]; exact fin_bad hlt)
          obtain ⟨nw, hnw⟩ : ∃ nw, W.length = nw := ⟨_, rfl⟩
          rw [hnw] at h3 ⊢
          have hne : ((nw : Int) != 3) = true := by simp; omega
          clear h3 hnw
          go_wp2_with (refine st_rm rfl (.tmp 2) (.tmp 167) rfl w.heap.size [.string ⟨#[]⟩, .string ⟨#[]⟩, .int .i64 0, .slice none 0 0, .slice none 0 0, .slice none 0 0, .slice none 0 0] [.string ⟨#[]⟩, .string ⟨#[]⟩, .int .i64 0, .slice none 0 0, .slice none 0 0, .slice none 0 0, .slice none 0 0] HS3.out.zr rfl rfl rfl rfl zM_one ?_; intro w5 hb5 hg5 hs5)
          have HB5 := Sl.mk (show Below w.heap.size w w5 from HS3.out.be.trans ((Below.refl w.heap.size _).grown hg5 HS3.out.be.size (fun g hg => by injection hg with hg; omega)))
          refine bodyPost_ret (v := .tuple #[.agg #[.string ⟨#[]⟩, .string ⟨#[]⟩, .int .i64 0, .slice none 0 0, .slice none 0 0, .slice none 0 0, .slice none 0 0], .int .i64 ((I : Int) + 1), .int .i64 3]) (results_cell2 Tryz.results7 _ _ _ rfl hb5 Tryz.underlying31 rmSize rfl rfl) rfl ?_
          rw [HC.out]
          exact ⟨HB5.out, ⟨none, 0, 0⟩, ⟨none, 0, 0⟩, ⟨none, 0, 0⟩, ⟨none, 0, 0⟩, rfl, mfr_zero _⟩
      · obtain rfl : I = N := by omega
        have hlz : ¬ ((I : Nat) : Int) < (I : Int) := by omega
        have HSC := Sl.mk (HPM.out.trans (rests_end (by rw [HNN.out]; exact Nat.le_refl _)))
        cases wh
        · have HC := Sl.mk (show R = (mf0, (I : Int), 3) by rw [HFIN.out, HSC.out]; exact fin_end_f)
          go_wp2_with (refine st_rm rfl (.tmp 2) (.tmp 207) rfl w.heap.size [.string ⟨#[]⟩, .string ⟨#[]⟩, .int .i64 0, .slice none 0 0, .slice none 0 0, .slice none 0 0, .slice none 0 0] [.string ⟨#[]⟩, .string ⟨#[]⟩, .int .i64 0, .slice none 0 0, .slice none 0 0, .slice none 0 0, .slice none 0 0] HST.out.zr rfl rfl rfl rfl zM_one ?_; intro w5 hb5 hg5 hs5)
          have HB5 := Sl.mk (show Below w.heap.size w w5 from HST.out.be.trans ((Below.refl w.heap.size _).grown hg5 HST.out.be.size (fun g hg => by injection hg with hg; omega)))
          refine bodyPost_ret (v := .tuple #[.agg #[.string ⟨#[]⟩, .string ⟨#[]⟩, .int .i64 0, .slice none 0 0, .slice none 0 0, .slice none 0 0, .slice none 0 0], .int .i64 (I : Nat), .int .i64 3]) (results_cell2 Tryz.results7 _ _ _ rfl hb5 Tryz.underlying31 rmSize rfl rfl) rfl ?_
          rw [HC.out]
          exact ⟨HB5.out, ⟨none, 0, 0⟩, ⟨none, 0, 0⟩, ⟨none, 0, 0⟩, ⟨none, 0, 0⟩, rfl, mfr_zero _⟩
        · have HMR := Sl.mk (mfr_ofR HST.out.ls (fun j hj => by have := HPS.out.nn j hj; omega) HPS.out.it HPS.out.pk)
          have hl0 : ∀ (j : Nat) v, (mfC m (hd 0) (hd 1) (hd 2) (hd 3))[j]? = some v → wr.cell? ((⟨mb, 0, none⟩ : Addr).add j) = some v := fun j v hj => by
            rw [Addr.add_lit, Nat.zero_add, HST.out.ou.cell j, ← hj, show ofA m hd = (mfC m (hd 0) (hd 1) (hd 2) (hd 3)).toArray from rfl, List.getElem?_toArray]
          have HCK := Sl.mk (rcheckM_any m (hd 0) (hd 1) (hd 2) (hd 3) wr HMR.out)
          unfold CkPost at HCK
          obtain ⟨E, hE⟩ : ∃ E, checkM m = E := ⟨_, rfl⟩
          rw [hE] at HCK
          have HEE := Sl.mk hE
          clear hE
          go_wp2_with (refine ld_rm hl0 rfl (.tmp 7) rfl rfl ?_)
          refine HCK.out.mono ?_
          rintro e w4 ⟨rfl, hb4⟩
          have HS4 := Sl.mk (HST.out.be_ hb4)
          have hl4 : ∀ (j : Nat) v, (mfC m (hd 0) (hd 1) (hd 2) (hd 3))[j]? = some v → w4.cell? ((⟨mb, 0, none⟩ : Addr).add j) = some v := fun j v hj => by
            rw [Addr.add_lit, Nat.zero_add, HS4.out.ou.cell j, ← hj, show ofA m hd = (mfC m (hd 0) (hd 1) (hd 2) (hd 3)).toArray from rfl, List.getElem?_toArray]
          clear hb4 hl0
          by_cases hE0 : E = 0
          · have HC := Sl.mk (show R = (m, 0, 0) by rw [HFIN.out, HSC.out]; exact fin_ok (by rw [HEE.out]; exact hE0))
            subst hE0
            go_wp2_with (first
              | (refine ld_rm hl4 rfl (.tmp 7) rfl rfl ?_)
              | (refine st_rm rfl (.tmp 2) (.tmp 216) rfl w.heap.size [.string ⟨#[]⟩, .string ⟨#[]⟩, .int .i64 0, .slice none 0 0, .slice none 0 0, .slice none 0 0, .slice none 0 0] (mfC m (hd 0) (hd 1) (hd 2) (hd 3)) HS4.out.zr rfl rfl rfl rfl (mfC_one _ _ _ _ _) ?_; intro w5 hb5 hg5 hs5))
            have HB5 := Sl.mk (show Below w.heap.size w w5 from HS4.out.be.trans ((Below.refl w.heap.size _).grown hg5 HS4.out.be.size (fun g hg => by injection hg with hg; omega)))
            have HM5 := Sl.mk (mfr_ofR (HS4.out.ls.only hg5 (by have := HS4.out.lt; omega)) (fun j hj => by have := HPS.out.nn j hj; omega) HPS.out.it HPS.out.pk)
            refine bodyPost_ret (v := .tuple #[.agg (mfC m (hd 0) (hd 1) (hd 2) (hd 3)).toArray, .int .i64 0, .int .i64 0]) (results_cell2 Tryz.results7 _ _ _ rfl hb5 Tryz.underlying31 rmSize rfl rfl) rfl ?_
            rw [HC.out]
            exact ⟨HB5.out, hd 0, hd 1, hd 2, hd 3, rfl, HM5.out⟩
          · have HC := Sl.mk (show R = (mf0, 0, E) by rw [HFIN.out, HSC.out, ← HEE.out]; exact fin_ck (by rw [HEE.out]; exact hE0))
            have hE0' : (E != 0) = true := by simpa using hE0
            clear hE0
            go_wp2_with (refine st_rm rfl (.tmp 2) (.tmp 214) rfl w.heap.size [.string ⟨#[]⟩, .string ⟨#[]⟩, .int .i64 0, .slice none 0 0, .slice none 0 0, .slice none 0 0, .slice none 0 0] [.string ⟨#[]⟩, .string ⟨#[]⟩, .int .i64 0, .slice none 0 0, .slice none 0 0, .slice none 0 0, .slice none 0 0] HS4.out.zr rfl rfl rfl rfl zM_one ?_; intro w5 hb5 hg5 hs5)
            have HB5 := Sl.mk (show Below w.heap.size w w5 from HS4.out.be.trans ((Below.refl w.heap.size _).grown hg5 HS4.out.be.size (fun g hg => by injection hg with hg; omega)))
            refine bodyPost_ret (v := .tuple #[.agg #[.string ⟨#[]⟩, .string ⟨#[]⟩, .int .i64 0, .slice none 0 0, .slice none 0 0, .slice none 0 0, .slice none 0 0], .int .i64 0, .int .i64 E]) (results_cell2 Tryz.results7 _ _ _ rfl hb5 Tryz.underlying31 rmSize rfl rfl) rfl ?_
            rw [HC.out]
            exact ⟨HB5.out, ⟨none, 0, 0⟩, ⟨none, 0, 0⟩, ⟨none, 0, 0⟩, ⟨none, 0, 0⟩, rfl, mfr_zero _⟩
end Go.Proofs.YtmgblbkmbiiofaaGreatDoor
