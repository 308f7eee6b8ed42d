/-
  The contract of the document's Check.
  The document's Parse under way: what lies in memory.
-/
import Derived.Test.YtmgblbkmbiiofaaGreatDoorMb17
import Derived.Test.YtmgblbkmbiiofaaGreatDoorMb12
import Derived.Test.YtmgblbkmbiiofaaGreatDoorMb16
import Derived.Test.YtmgblbkmbiiofaaGreatDoorMb9
import Derived.Test.YtmgblbkmbiiofaaGreatDoorMb8

namespace Go.Proofs.YtmgblbkmbiiofaaGreatDoor
open Go.RowKit
attribute [local go_sem ↓] Go.wp_at_zero Go.wp_at_succ
set_option linter.unusedVariables false
set_option linter.unusedSimpArgs false

set_option maxRecDepth 100000 in
set_option maxHeartbeats 32000000 in
theorem rcheckM_any (m : Mf) (p s h k : Hd) (w : World) (H : MfR w m p s h k) :
    Calls Tryz.prog 13 #[mfV m p s h k] w (CkPost w (checkM m)) := by
  obtain ⟨R, hR⟩ : ∃ R, checkM m = R := ⟨_, rfl⟩
  rw [hR]
  have HRR := Sl.mk hR
  clear hR
  obtain ⟨np, hnp⟩ : ∃ b, nmL m.pkg = b := ⟨_, rfl⟩
  obtain ⟨nq, hnq⟩ : ∃ b, nmL m.pub = b := ⟨_, rfl⟩
  have HNP := Sl.mk hnp
  have HNQ := Sl.mk hnq
  have HA := Sl.mk (fun W => rnm_any m.pkg W H.pkg)
  have HB := Sl.mk (fun W => rnm_any m.pub W H.pub)
  rw [hnp] at HA
  rw [hnq] at HB
  clear hnp hnq
  have HH := Sl.mk H
  have hpn := H.pl.1
  have hsn := H.sl.1
  have hhn := H.hl.1
  have hkn := H.wl.1
  have HLN := Sl.mk (show m.p.length = p.n ∧ m.s.length = s.n ∧ m.h.length = h.n ∧ m.w.length = k.n from ⟨H.ip.n_, H.iq.n_, H.ir.n_, H.iw.n_⟩)
  clear H
  obtain ⟨w0, hw0⟩ : ∃ w0, w.alloc (.cells (mfC m p s h k).toArray 31) = w0 := ⟨_, rfl⟩
  have HB0 := Sl.mk (show Below w.heap.size w w0 by rw [← hw0]; exact below_al (Below.refl _ _) _)
  have HK0 := Sl.mk (show Blk w0 w.heap.size 31 (mfC m p s h k).toArray by rw [← hw0]; exact Blk.new _ _ _)
  have HS0 := Sl.mk (show w0.heap.size = w.heap.size + 1 by rw [← hw0]; simp)
  have HCELL := Sl.mk (fun (W : World) (hW : Below (w.heap.size + 1) w0 W) (i : Nat) (hi : i < 4) => (hW.cell (p := ⟨w.heap.size, 3 + i, none⟩) (Nat.lt_succ_self _)).trans (hd4_cell HK0.out hi))
  have HBW := Sl.mk (fun (W : World) (hW : Below (w.heap.size + 1) w0 W) => HB0.out.trans (hW.mono (Nat.le_succ _)))
  have HITS := Sl.mk (fun (W : World) (hW : Below (w.heap.size + 1) w0 W) (i : Nat) (hi : i < 4) => (HH.out.be (HBW.out W hW)).its hi)
  have e0 : w0.cell? ⟨w.heap.size, 0, none⟩ = some (.string (bsS m.pkg)) := HK0.out.cell 0
  have b0 := Sl.mk (Below.refl (w.heap.size + 1) w0)
  obtain ⟨HDF, hHDF⟩ : ∃ f, hd4 p s h k = f := ⟨_, rfl⟩
  rw [hHDF] at HCELL HITS
  have HC3 := Sl.mk (show HDF 0 = p ∧ HDF 1 = s ∧ HDF 2 = h ∧ HDF 3 = k by rw [← hHDF]; exact ⟨rfl, rfl, rfl, rfl⟩)
  clear hHDF
  obtain ⟨pA, pn, pc⟩ := p
  obtain ⟨sA, sn, sc⟩ := s
  obtain ⟨hA, hn, hc⟩ := h
  obtain ⟨kA, kn, kc⟩ := k
  unfold mfV
  simp only [Hd.v, mfC] at hpn hsn hhn hkn hw0 ⊢
  go_enter Tryz.func13, Tryz.ntmps13
  go_upto_region 1 with fail
  clear hw0
  cases np
  · have HC := Sl.mk (show R = 10 by rw [← HRR.out]; exact ck_name (fun h => by rw [HNP.out] at h; cases h.1))
    go_wp2_with fail
    refine (HA.out _).mono ?_
    rintro e w1 ⟨rfl, k1, rfl⟩
    go_wp2_with fail
    go_ret
    exact ⟨by rw [HC.out]; rfl, below_drN HB0.out _⟩
  go_wp2_with fail
  refine (HA.out _).mono ?_
  rintro e w1 ⟨rfl, k1, hw1⟩
  have b1 := Sl.mk (show Below (w.heap.size + 1) w0 w1 by rw [hw1]; exact below_drN b0.out _)
  have e1 : w1.cell? ⟨w.heap.size, 1, none⟩ = some (.string (bsS m.pub)) := (b1.out.cell (p := ⟨w.heap.size, 1, none⟩) (Nat.lt_succ_self _)).trans (HK0.out.cell 1)
  clear hw1 e0
  cases nq
  · have HC := Sl.mk (show R = 10 by rw [← HRR.out]; exact ck_name (fun h => by rw [HNQ.out] at h; cases h.2))
    go_wp2_with fail
    refine (HB.out _).mono ?_
    rintro e w2 ⟨rfl, k2, rfl⟩
    go_wp2_with fail
    go_ret
    exact ⟨by rw [HC.out]; rfl, below_drN (HBW.out _ b1.out) _⟩
  have HNM := Sl.mk (show nmL m.pkg = true ∧ nmL m.pub = true from ⟨HNP.out, HNQ.out⟩)
  go_wp2_with fail
  refine (HB.out _).mono ?_
  rintro e w2 ⟨rfl, k2, hw2⟩
  have b2 := Sl.mk (show Below (w.heap.size + 1) w0 w2 by rw [hw2]; exact below_drN b1.out _)
  have f2 : w2.cell? ⟨w.heap.size, 2, none⟩ = some (.int .i64 m.rev) := (b2.out.cell (p := ⟨w.heap.size, 2, none⟩) (Nat.lt_succ_self _)).trans (HK0.out.cell 2)
  clear hw2 e1
  by_cases hr1 : m.rev < 1
  · have HC := Sl.mk (show R = 1 by rw [← HRR.out]; exact ck_rev HNM.out (.inl hr1))
    go_wp2_with fail
    go_ret
    exact ⟨by rw [HC.out]; rfl, HBW.out _ b2.out⟩
  by_cases hr2 : 999999 < m.rev
  · have HC := Sl.mk (show R = 1 by rw [← HRR.out]; exact ck_rev HNM.out (.inr hr2))
    go_wp2_with fail
    go_ret
    exact ⟨by rw [HC.out]; rfl, HBW.out _ b2.out⟩
  have HRV := Sl.mk (show ¬ (m.rev < 1 ∨ 999999 < m.rev) by omega)
  have f3 : w2.cell? ⟨w.heap.size, 3, none⟩ = some (.slice pA pn pc) := (HCELL.out w2 b2.out 0 (by decide)).trans (by rw [HC3.out.1]; rfl)
  have f4 : w2.cell? ⟨w.heap.size, 4, none⟩ = some (.slice sA sn sc) := (HCELL.out w2 b2.out 1 (by decide)).trans (by rw [HC3.out.2.1]; rfl)
  have f5 : w2.cell? ⟨w.heap.size, 5, none⟩ = some (.slice hA hn hc) := (HCELL.out w2 b2.out 2 (by decide)).trans (by rw [HC3.out.2.2.1]; rfl)
  have f6 : w2.cell? ⟨w.heap.size, 6, none⟩ = some (.slice kA kn kc) := (HCELL.out w2 b2.out 3 (by decide)).trans (by rw [HC3.out.2.2.2]; rfl)
  by_cases ht : (20 : Int) < (pn : Int) + (sn : Int) + (hn : Int) + (kn : Int)
  · have HC := Sl.mk (show R = 2 by
      rw [← HRR.out]
      exact ck_len HNM.out HRV.out (by have := HLN.out; omega))
    go_wp2_with fail
    go_ret
    exact ⟨by rw [HC.out]; rfl, HBW.out _ b2.out⟩
  have HLE := Sl.mk (show ¬ 20 < m.p.length + m.s.length + m.h.length + m.w.length by have := HLN.out; omega)
  go_wp2_with fail
  clear f2 f3 f4 f5 f6 hr1 hr2 ht
  go_loopg [3] 4 (fun q v3 wr => ∃ i : Nat, q = 4 - i ∧ i ≤ 4 ∧ v3 = .int .i64 i ∧ Sl (Below (w.heap.size + 1) w0 wr) ∧ Sl (∀ j, j < i → eachG j none (m.at j) = 0))
  case atStart => exact ⟨0, rfl, by omega, rfl, b2, ⟨fun j hj => absurd hj (Nat.not_lt_zero _)⟩⟩
  case round =>
    obtain ⟨i, hq, hi, rfl, HBr, HEZ⟩ := hrel
    by_cases hi4 : i < 4
    · have c0 := HCELL.out wr HBr.out i hi4
      have HIT := Sl.mk (fun (W : World) (hW : Below (w.heap.size + 1) w0 W) => HITS.out W hW i hi4)
      have HCL := Sl.mk (fun (W : World) (hW : Below (w.heap.size + 1) w0 W) => HCELL.out W hW i hi4)
      obtain ⟨z, hz⟩ : ∃ z, HDF i = z := ⟨_, rfl⟩
      obtain ⟨l, hl⟩ : ∃ l, m.at i = l := ⟨_, rfl⟩
      rw [hz] at c0 HIT HCL
      rw [hl] at HIT
      have HL := Sl.mk hl
      clear hz hl
      obtain ⟨A, n, c⟩ := z
      simp only [Hd.v] at c0 HIT HCL
      have hnb : n ≤ 1000000 := (HIT.out wr HBr.out).2
      have HN := Sl.mk (show l.length = n from (HIT.out wr HBr.out).1.n_)
      have hilt : (i : Int) < 4 := by omega
      have HCK := Sl.mk (show eachG i none l ≠ 0 → R = eachG i none l from fun hne => by
        rw [← HRR.out, ← HL.out]
        exact ck_each HNM.out HRV.out HLE.out hi4 HEZ.out (by rw [HL.out]; exact hne))
      go_wp2_with fail
      clear c0
      go_loopg [4] n (fun q v4 wx => ∃ j : Nat, q = n - j ∧ j ≤ n ∧ v4 = .int .i64 j ∧ Sl (Below (w.heap.size + 1) w0 wx) ∧ Sl (eachG i none l = eachG i (befM l j) (l.drop j)))
      case atStart => exact ⟨0, rfl, Nat.zero_le _, rfl, HBr, ⟨rfl⟩⟩
      case round =>
        obtain ⟨j, hqj, hj, rfl, HBx, HD⟩ := hrel
        have c0 := HCL.out wr HBx.out
        by_cases hlt : j < n
        · obtain ⟨x, hx⟩ : ∃ x, l[j]? = some x := ⟨_, List.getElem?_eq_getElem (by rw [HN.out]; exact hlt)⟩
          obtain ⟨ab, ao, hAe, hbl, g0, g1, hsa, hsb⟩ := its_two (HIT.out wr HBx.out).1 hx
          have HX := Sl.mk hx
          have hdrop := drop_cons1 hx
          have HD2 := Sl.mk (show eachG i none l = eachG i (befM l j) (x :: l.drop (j + 1)) by rw [HD.out, hdrop])
          have HR := Sl.mk (fun W => rrightM_any i hi4 x W hsa hsb)
          obtain ⟨xa, xb⟩ := x
          subst hAe
          clear hx hdrop hsa hsb
          unfold RPost at HR
          have hlz : (j : Int) < (n : Int) := by omega
          cases hr : rightM i ⟨xa, xb⟩
          · have HC := Sl.mk (show R = 3 by
              have e : eachG i none l = 3 := by
                rw [HD2.out]
                cases befM l j with
                | none => rw [each_none, if_neg (by rw [hr]; decide)]
                | some q => rw [each_some, if_neg (by rw [hr]; decide)]
              rw [HCK.out (by rw [e]; decide), e])
            rw [hr] at HR
            clear hr
            go_wp2_with fail
            refine (HR.out _).mono ?_
            rintro e w3 ⟨rfl, hb3⟩
            go_wp2_with fail
            go_ret
            exact ⟨by rw [HC.out]; rfl, below_tr (HBW.out _ HBx.out) hb3⟩
          · rw [hr] at HR
            have HRI := Sl.mk hr
            clear hr
            go_wp2_with fail
            refine (HR.out _).mono ?_
            rintro e w3 ⟨rfl, hb3⟩
            have HB3 := Sl.mk (show Below (w.heap.size + 1) w0 w3 from HBx.out.trans (hb3.mono (by have h1 := HBx.out.size; have h2 := HS0.out; omega)))
            have c3 := HCL.out w3 HB3.out
            clear c0 g0 g1 hb3 hbl
            match j, hj with
            | 0, _ =>
              have HN1 := Sl.mk (show eachG i none l = eachG i (befM l 1) (l.drop 1) by rw [HD2.out, show befM l 1 = some _ from HX.out]; show eachG i none _ = _; rw [each_none, if_pos HRI.out])
              go_wp2_with fail
              refine wp_region_quiet_tail 18 (by kernel_rfl) (by kernel_rfl) ?_
              simp only [List.take_succ_cons, List.take_zero, List.drop_succ_cons, List.drop_zero]
              repeat (any_goals (first | go_big_quiet_step (fail) | quiet_step (fail)))
              refine wpQuiet_nil ?_
              intro _ hw'
              obtain ⟨nq, hw''⟩ := hw'
              subst hw''
              go_wp2_with fail
              go_roundg (n - 1)
              case measure => omega
              case rel => exact ⟨1, rfl, by omega, by go_num, ⟨below_drN HB3.out _⟩, HN1⟩
            | j + 1, _ =>
              obtain ⟨y, hy⟩ : ∃ y, l[j]? = some y := ⟨_, List.getElem?_eq_getElem (by rw [HN.out]; omega)⟩
              obtain ⟨ab', ao', he, hbl', hld', _, _⟩ := (HIT.out w3 HB3.out).1.lit hy
              obtain ⟨ab2, ao2, he4, _, hldx, _, _⟩ := (HIT.out w3 HB3.out).1.lit HX.out
              injection he with he
              injection he with he1 he2
              subst he1; subst he2
              injection he4 with he4
              injection he4 with he5 he6
              subst he5; subst he6
              have HLp := Sl.mk (show ∀ w' : World, (∃ q, w' = w3.drewN q) → (loadVar 67 ⟨ab, ao + j * 2, none⟩).run Tryz.prog w' = .ok (.agg #[.string (bsS y.a), .string (bsS y.b)]) w' from fun w' hw' => by
                obtain ⟨q, rfl⟩ := hw'
                exact run_loadRi (w3.drewN q) (x := y) (ad := ⟨ab, ao + j * 2, none⟩) (fun j v hv => by rw [World.cell?_drewN]; exact hld' j v hv))
              have HLx := Sl.mk (show ∀ w' : World, (∃ q, w' = w3.drewN q) → (loadVar 67 ⟨ab, ao + (j + 1) * 2, none⟩).run Tryz.prog w' = .ok (.agg #[.string (bsS xa), .string (bsS xb)]) w' from fun w' hw' => by
                obtain ⟨q, rfl⟩ := hw'
                exact run_loadRi (w3.drewN q) (x := ⟨xa, xb⟩) (ad := ⟨ab, ao + (j + 1) * 2, none⟩) (fun j v hv => by rw [World.cell?_drewN]; exact hldx j v hv))
              have HO := Sl.mk (fun W => rbelow_any y ⟨xa, xb⟩ W)
              unfold RPost at HO
              have hbe : befM l (j + 1) = some y := hy
              rw [hbe, each_some, if_pos HRI.out] at HD2
              have HBN := Sl.mk (show befM l (j + 1 + 1) = some ⟨xa, xb⟩ from HX.out)
              clear hld' hldx hy hbe hbl'
              have hkk : ((j + 1 : Nat) : Int) - 1 = (j : Nat) := by omega
              have hk0 : (0 : Int) < ((j + 1 : Nat) : Int) := by omega
              have hkn2 : (j : Int) < (n : Int) := by omega
              obtain ⟨lb, hlb⟩ : ∃ lb, lessI y ⟨xa, xb⟩ = lb := ⟨_, rfl⟩
              rw [hlb] at HO HD2
              clear hlb
              go_wp2_with fail
              refine wp_region_quiet_tail 18 (by kernel_rfl) (by kernel_rfl) ?_
              simp only [List.take_succ_cons, List.take_zero, List.drop_succ_cons, List.drop_zero]
              repeat (any_goals (first | (first | refine wpQuiet_loadW (by rfl) 67 (.tmp 80) rfl ⟨ab, ao + j * 2, none⟩ _ rfl HLp.out ?_ | refine wpQuiet_loadW (by rfl) 67 (.tmp 87) rfl ⟨ab, ao + (j + 1) * 2, none⟩ _ rfl HLx.out ?_) | go_big_quiet_step (fail) | quiet_step (fail)))
              refine wpQuiet_nil ?_
              intro _ hw'
              obtain ⟨nq, hw''⟩ := hw'
              subst hw''
              go_wp2_with fail
              refine (HO.out _).mono ?_
              rintro e w4 ⟨rfl, hb4⟩
              have HB4 := Sl.mk (show Below (w.heap.size + 1) w0 w4 from (below_drN HB3.out nq).trans (hb4.mono (by have h1 := HB3.out.size; have h2 := HS0.out; simp; omega)))
              clear hb4 c3
              cases lb
              · have HC := Sl.mk (show R = 8 by
                  have e : eachG i none l = 8 := by rw [HD2.out, if_neg (by decide)]
                  rw [HCK.out (by rw [e]; decide), e])
                go_wp2_with fail
                go_ret
                exact ⟨by rw [HC.out]; rfl, HBW.out _ HB4.out⟩
              · have HC := Sl.mk (show eachG i none l = eachG i (befM l (j + 1 + 1)) (l.drop (j + 1 + 1)) by rw [HD2.out, if_pos rfl, HBN.out])
                go_wp2_with fail
                go_roundg (n - (j + 1 + 1))
                case measure => omega
                case rel => exact ⟨j + 1 + 1, rfl, by omega, by go_num, HB4, HC⟩
        · obtain rfl : j = n := by omega
          have HC := Sl.mk (show ∀ q, q < i + 1 → eachG q none (m.at q) = 0 from fun q hq => by
            rcases Nat.lt_succ_iff_lt_or_eq.1 hq with h | rfl
            · exact HEZ.out q h
            · rw [HL.out, HD.out, List.drop_eq_nil_of_le (by rw [HN.out]; exact Nat.le_refl _), each_nil])
          have hlz : ¬ (j : Int) < (j : Int) := by omega
          go_wp2_with fail
          go_roundg (4 - (i + 1))
          case measure => omega
          case rel => exact ⟨i + 1, rfl, by omega, by go_num, HBx, HC⟩
    · obtain rfl : i = 4 := by omega
      have HCE := Sl.mk (ck_end HNM.out HRV.out HLE.out HEZ.out)
      rw [HRR.out] at HCE
      obtain ⟨i0, hi0, hz0, hz1, hz2⟩ := info_st
      have HBE := Sl.mk (show ∀ b : Bool, b = true → dupM (m.p ++ m.s) = true ∨ dupM m.h = true → R = 8 from fun _ _ h => by rw [HCE.out, if_pos h])
      have HBN := Sl.mk (show ¬ (dupM (m.p ++ m.s) = true ∨ dupM m.h = true) → R = 0 from fun h => by rw [HCE.out, if_neg h])
      clear HCE hq hi hi4
      go_wp2_with fail
      go_loopg [7, 5, 6] 3 (fun q v7 v5 v6 wx => ∃ (i : Nat) (A1 : Option Addr) (n1 c1 : Nat) (A2 : Option Addr) (n2 c2 : Nat), q = 3 - i ∧ i ≤ 3 ∧ v7 = .int .i64 i ∧ v5 = .slice A1 n1 c1 ∧ v6 = .slice A2 n2 c2 ∧ n1 ≤ 2000000 ∧
        Sl (Below (w.heap.size + 1) w0 wx) ∧ Sl (i ≤ 2 → A2 = none ∧ n2 = 0 ∧ c2 = 0) ∧ Sl (i ≤ 2 → wx.ownsRow (w.heap.size + 1) 9 1 (.slice A1 n1 c1) n1 (strsA (nmsF m i 0))) ∧ Sl ((nmsF m i 0).Nodup) ∧ Sl (i = 3 → (m.h.map (·.a)).Nodup))
      case atStart => exact ⟨0, none, 0, 0, none, 0, 0, rfl, by omega, rfl, rfl, rfl, by omega, HBr, ⟨fun _ => ⟨rfl, rfl, rfl⟩⟩, ⟨fun _ => World.ownsRow_nil _ _ _ _⟩, ⟨by simp [nmsF]⟩, ⟨fun h => by cases h⟩⟩
      case round =>
        obtain ⟨i, A1, n1, c1, A2, n2, c2, hq, hi, rfl, rfl, rfl, hn1, HBx, HEV, HNR, HND, HNE⟩ := hrel
        by_cases hi3 : i < 3
        · have c0 := HCELL.out wr HBx.out i (by omega)
          have HIT := Sl.mk (fun (W : World) (hW : Below (w.heap.size + 1) w0 W) => HITS.out W hW i (by omega))
          have HCL := Sl.mk (fun (W : World) (hW : Below (w.heap.size + 1) w0 W) => HCELL.out W hW i (by omega))
          obtain ⟨z, hz⟩ : ∃ z, HDF i = z := ⟨_, rfl⟩
          obtain ⟨l, hl⟩ : ∃ l, m.at i = l := ⟨_, rfl⟩
          rw [hz] at c0 HIT HCL
          rw [hl] at HIT
          have HL := Sl.mk hl
          clear hz hl
          obtain ⟨A, n, c⟩ := z
          simp only [Hd.v] at c0 HIT HCL
          have hnb : n ≤ 1000000 := (HIT.out wr HBx.out).2
          have HN := Sl.mk (show l.length = n from (HIT.out wr HBx.out).1.n_)
          have hilt : (i : Int) < 3 := by omega
          obtain ⟨rfl, rfl, rfl⟩ := HEV.out (by omega)
          have HNR0 := Sl.mk (HNR.out (by omega))
          clear HNR HEV HNE
          by_cases hi2 : i < 2
          · have hilt2 : (i : Int) < 2 := by omega
            have hie : ((i : Int) == 2) = false := by simp; omega
            go_wp2_with fail
            clear c0
            go_loopg [8, 5, 6] n (fun q v8 v5 v6 wx => ∃ (j : Nat) (A1 : Option Addr) (n1 c1 : Nat), q = n - j ∧ j ≤ n ∧ v8 = .int .i64 j ∧ v5 = .slice A1 n1 c1 ∧ v6 = .slice none 0 0 ∧ n1 ≤ 2000000 ∧ Sl (Below (w.heap.size + 1) w0 wx) ∧ Sl (wx.ownsRow (w.heap.size + 1) 9 1 (.slice A1 n1 c1) n1 (strsA (nmsF m i j))) ∧ Sl ((nmsF m i j).Nodup))
            case atStart => exact ⟨0, _, _, _, rfl, Nat.zero_le _, rfl, rfl, rfl, hn1, HBx, HNR0, HND⟩
            case round =>
              obtain ⟨j, A1, n1, c1, hqj, hj, rfl, rfl, rfl, hn1, HBy, HOW, HNY⟩ := hrel
              have c0 := HCL.out wr HBy.out
              by_cases hlt : j < n
              · obtain ⟨x, hx⟩ : ∃ x, l[j]? = some x := ⟨_, List.getElem?_eq_getElem (by rw [HN.out]; exact hlt)⟩
                obtain ⟨ab, ao, hAe, hbl, g0, g1, hsa, hsb⟩ := its_two (HIT.out wr HBy.out).1 hx
                have HNX := Sl.mk (nms_next hi2 (show (m.at i)[j]? = some x by rw [HL.out]; exact hx))
                have HPR := Sl.mk (nms_pre m (k := j + 1) hi2)
                have hlen := nms_len m i j
                have HLE2 := Sl.mk (show n1 ≤ 21 by
                  have h1 : (strsA (nmsF m i j)).length = n1 * 1 := HOW.out.1
                  rw [strsA_len] at h1
                  have := HLE.out
                  omega)
                obtain ⟨D, hD⟩ : ∃ D, nmsF m i j = D := ⟨_, rfl⟩
                rw [hD] at HOW HNY HNX
                obtain ⟨xa, xb⟩ := x
                subst hAe
                have HRI := Sl.mk (fun W => ris_row A1 n1 c1 D xa W)
                have hn1s : n1 ≤ 1000000 := by have := HLE2.out; omega
                have HR := Sl.mk (ris_row A1 n1 c1 D xa wr wr.heap.size hn1s (Reads.of_own HOW.out))
                unfold RPost at HR
                clear hx hsa hsb hD hlen HRI
                have hlz : (j : Int) < (n : Int) := by omega
                obtain ⟨db, hdb⟩ : ∃ db, D.contains xa = db := ⟨_, rfl⟩
                rw [hdb] at HR
                have HDB := Sl.mk hdb
                clear hdb
                cases db
                · have HND2 := Sl.mk (show (nmsF m i (j + 1)).Nodup by
                    rw [HNX.out, List.nodup_append]
                    refine ⟨HNY.out, by simp, fun a ha b hb e => ?_⟩
                    simp only [List.mem_singleton] at hb
                    subst hb; subst e
                    have := HDB.out
                    rw [List.contains_iff_mem.2 ha] at this
                    cases this)
                  go_wp2_with fail
                  refine HR.out.mono ?_
                  rintro e w3 ⟨rfl, hb3⟩
                  have HB3 := Sl.mk (show Below (w.heap.size + 1) w0 w3 from HBy.out.trans (hb3.mono (by have h1 := HBy.out.size; have h2 := HS0.out; omega)))
                  have hO3 := own_below HOW.out hb3
                  have hbd : w.heap.size + 1 ≤ w3.heap.size := by have h1 := HB3.out.size; have h2 := HS0.out; omega
                  clear hb3 c0 g0 g1 hbl
                  go_wp2_with (at_builtin; refine wpList_append_any _ rfl (.tmp 131) (.tmp 133) 50 rfl (w.heap.size + 1) 9 i0 (.string ByteArray.empty) 1 16 Tryz.underlying50 hi0 hz0 hz1 hz2 rfl (by decide) _ _ _ rfl (World.ownsRow.alloc hO3 _) (w3.heap.size + 1) _ 1 1 [.string (bsS xa)] rfl (reads_new1 _ _ _ (Nat.lt_succ_self _)) (by intro u hu; simp at hu; subst hu; rfl) (by unfold maxLen; omega) (by omega) (by simp; omega) ?_)
                  intro v9 w9 ho9 hg9 _
                  obtain ⟨A9, c9, hv9⟩ := ownForm ho9
                  subst hv9
                  have HO9 := Sl.mk (show w9.ownsRow (w.heap.size + 1) 9 1 (.slice A9 (n1 + 1) c9) (n1 + 1) (strsA (nmsF m i (j + 1))) by rw [HNX.out, strsA_snoc]; exact ho9)
                  have HB9 := Sl.mk (show Below (w.heap.size + 1) w0 w9 from (HB3.out.alloc (by have := HS0.out; omega) _).trans ((Below.refl _ _).grown hg9 (by have := HS0.out; simp; omega) (fun g hg => by have := ownGe hO3 hg; have := HS0.out; omega)))
                  clear ho9 hg9 hO3
                  go_wp2_with fail
                  go_roundg (n - (j + 1))
                  case measure => omega
                  case rel => exact ⟨j + 1, A9, n1 + 1, c9, rfl, by omega, by go_num, rfl, rfl, by have := HLE2.out; omega, HB9, HO9, HND2⟩
                · have HC := Sl.mk (show R = 8 from HBE.out true rfl (.inl (dup_of_pre (by rw [← HNX.out]; exact HPR.out) (by have := HDB.out; rwa [List.contains_iff_mem] at this))))
                  go_wp2_with fail
                  refine HR.out.mono ?_
                  rintro e w3 ⟨rfl, hb3⟩
                  go_wp2_with fail
                  go_ret
                  exact ⟨by rw [HC.out]; rfl, below_tr (HBW.out _ HBy.out) hb3⟩
              · obtain rfl : j = n := by omega
                have hlz : ¬ (j : Int) < (j : Int) := by omega
                have HE1 := Sl.mk (show nmsF m (i + 1) 0 = nmsF m i j by rw [nms_zero, HL.out, HN.out])
                go_wp2_with fail
                go_roundg (3 - (i + 1))
                case measure => omega
                case rel => exact ⟨i + 1, A1, n1, c1, none, 0, 0, rfl, by omega, by go_num, rfl, rfl, hn1, HBy, ⟨fun _ => ⟨rfl, rfl, rfl⟩⟩, ⟨fun _ => by rw [HE1.out]; exact HOW.out⟩, ⟨by rw [HE1.out]; exact HNY.out⟩, ⟨fun h => by omega⟩⟩
          · obtain rfl : i = 2 := by omega
            have HLH := Sl.mk (show m.h = l from HL.out)
            go_wp2_with fail
            clear c0
            go_loopg [8, 6, 5] n (fun q v8 v6 v5 wx => ∃ (j : Nat) (A2 : Option Addr) (c2 : Nat), q = n - j ∧ j ≤ n ∧ v8 = .int .i64 j ∧ v6 = .slice A2 j c2 ∧ v5 = .slice A1 n1 c1 ∧ Sl (Below (w.heap.size + 1) w0 wx) ∧ Sl (wx.ownsRow (w.heap.size + 1) 9 1 (.slice A2 j c2) j (strsA ((l.take j).map (·.a)))) ∧ Sl (((l.take j).map (·.a)).Nodup))
            case atStart => exact ⟨0, none, 0, rfl, Nat.zero_le _, rfl, rfl, rfl, HBx, ⟨World.ownsRow_nil _ _ _ _⟩, ⟨by simp⟩⟩
            case round =>
              obtain ⟨j, A2, c2, hqj, hj, rfl, rfl, rfl, HBy, HOW, HNY⟩ := hrel
              have c0 := HCL.out wr HBy.out
              by_cases hlt : j < n
              · obtain ⟨x, hx⟩ : ∃ x, l[j]? = some x := ⟨_, List.getElem?_eq_getElem (by rw [HN.out]; exact hlt)⟩
                obtain ⟨ab, ao, hAe, hbl, g0, g1, hsa, hsb⟩ := its_two (HIT.out wr HBy.out).1 hx
                have HNX := Sl.mk (show (l.take (j + 1)).map (·.a) = (l.take j).map (·.a) ++ [x.a] by rw [take_snoc' hx]; simp)
                have HPR := Sl.mk (show (l.take (j + 1)).map (·.a) <+: l.map (·.a) from (List.take_prefix _ _).map _)
                obtain ⟨D, hD⟩ : ∃ D, (l.take j).map (·.a) = D := ⟨_, rfl⟩
                rw [hD] at HOW HNY HNX
                obtain ⟨xa, xb⟩ := x
                subst hAe
                have HR := Sl.mk (ris_row A2 j c2 D xa wr wr.heap.size (by omega) (Reads.of_own HOW.out))
                unfold RPost at HR
                clear hx hsa hsb hD
                have hlz : (j : Int) < (n : Int) := by omega
                obtain ⟨db, hdb⟩ : ∃ db, D.contains xa = db := ⟨_, rfl⟩
                rw [hdb] at HR
                have HDB := Sl.mk hdb
                clear hdb
                cases db
                · have HND2 := Sl.mk (show ((l.take (j + 1)).map (·.a)).Nodup by
                    rw [HNX.out, List.nodup_append]
                    refine ⟨HNY.out, by simp, fun a ha b hb e => ?_⟩
                    simp only [List.mem_singleton] at hb
                    subst hb; subst e
                    have := HDB.out
                    rw [List.contains_iff_mem.2 ha] at this
                    cases this)
                  go_wp2_with fail
                  refine HR.out.mono ?_
                  rintro e w3 ⟨rfl, hb3⟩
                  have HB3 := Sl.mk (show Below (w.heap.size + 1) w0 w3 from HBy.out.trans (hb3.mono (by have h1 := HBy.out.size; have h2 := HS0.out; omega)))
                  have hO3 := own_below HOW.out hb3
                  have hbd : w.heap.size + 1 ≤ w3.heap.size := by have h1 := HB3.out.size; have h2 := HS0.out; omega
                  clear hb3 c0 g0 g1 hbl
                  go_wp2_with (at_builtin; refine wpList_append_any _ rfl (.tmp 135) (.tmp 137) 50 rfl (w.heap.size + 1) 9 i0 (.string ByteArray.empty) 1 16 Tryz.underlying50 hi0 hz0 hz1 hz2 rfl (by decide) _ _ _ rfl (World.ownsRow.alloc hO3 _) (w3.heap.size + 1) _ 1 1 [.string (bsS xa)] rfl (reads_new1 _ _ _ (Nat.lt_succ_self _)) (by intro u hu; simp at hu; subst hu; rfl) (by unfold maxLen; omega) (by omega) (by simp; omega) ?_)
                  intro v9 w9 ho9 hg9 _
                  obtain ⟨A9, c9, hv9⟩ := ownForm ho9
                  subst hv9
                  have HO9 := Sl.mk (show w9.ownsRow (w.heap.size + 1) 9 1 (.slice A9 (j + 1) c9) (j + 1) (strsA ((l.take (j + 1)).map (·.a))) by rw [HNX.out, strsA_snoc]; exact ho9)
                  have HB9 := Sl.mk (show Below (w.heap.size + 1) w0 w9 from (HB3.out.alloc (by have := HS0.out; omega) _).trans ((Below.refl _ _).grown hg9 (by have := HS0.out; simp; omega) (fun g hg => by have := ownGe hO3 hg; have := HS0.out; omega)))
                  clear ho9 hg9 hO3
                  go_wp2_with fail
                  go_roundg (n - (j + 1))
                  case measure => omega
                  case rel => exact ⟨j + 1, A9, c9, rfl, by omega, by go_num, rfl, rfl, HB9, HO9, HND2⟩
                · have HC := Sl.mk (show R = 8 from HBE.out true rfl (.inr (by rw [HLH.out]; exact dup_of_pre (by rw [← HNX.out]; exact HPR.out) (by have := HDB.out; rwa [List.contains_iff_mem] at this))))
                  go_wp2_with fail
                  refine HR.out.mono ?_
                  rintro e w3 ⟨rfl, hb3⟩
                  go_wp2_with fail
                  go_ret
                  exact ⟨by rw [HC.out]; rfl, below_tr (HBW.out _ HBy.out) hb3⟩
              · obtain rfl : j = n := by omega
                have hlz : ¬ (j : Int) < (j : Int) := by omega
                have HE1 := Sl.mk (show (m.h.map (·.a)).Nodup by
                  have h1 := HNY.out
                  rw [List.take_of_length_le (by rw [HN.out]; exact Nat.le_refl _), ← HLH.out] at h1
                  exact h1)
                have HE2 := Sl.mk (show nmsF m 3 0 = nmsF m 2 0 by rw [nms_two]; simp [nmsF])
                go_wp2_with fail
                go_roundg (3 - (2 + 1))
                case measure => omega
                case rel => exact ⟨3, A1, n1, c1, A2, j, c2, rfl, by omega, rfl, rfl, rfl, hn1, HBy, ⟨fun h => by omega⟩, ⟨fun h => by omega⟩, ⟨by rw [HE2.out]; exact HND.out⟩, ⟨fun _ => HE1.out⟩⟩
        · obtain rfl : i = 3 := by omega
          have HC := Sl.mk (show R = 0 from HBN.out (fun h => by
            have h1 := HND.out
            rw [show nmsF m 3 0 = (m.p ++ m.s).map (·.a) by simp [nmsF]] at h1
            have h2 := HNE.out rfl
            unfold dupM at h
            rw [decide_eq_true h1, decide_eq_true h2] at h
            rcases h with h | h <;> cases h))
          go_wp2_with fail
          go_ret
          exact ⟨by rw [HC.out]; rfl, HBW.out _ HBx.out⟩
end Go.Proofs.YtmgblbkmbiiofaaGreatDoor

namespace Go.Proofs.YtmgblbkmbiiofaaGreatDoor
open Go.RowKit
attribute [local go_sem ↓] Go.wp_at_zero Go.wp_at_succ
set_option linter.unusedVariables false
set_option linter.unusedSimpArgs false

theorem split_le (s : Bs) (c : UInt8) : (Lib.split s [c]).length ≤ s.length + 1 ∧ ∀ x ∈ Lib.split s [c], x.length ≤ s.length := by
  have h1 := join_split c s
  have h3 : ∀ (p : List Bs) (y : Bs), y ∈ p → y.length ≤ (Lib.join p [c]).length := by
    intro p
    induction p with
    | nil => intro y hy; cases hy
    | cons a p ih =>
      intro y hy
      cases p with
      | nil => rw [List.mem_singleton.1 hy, Lib.join_one]; exact Nat.le_refl _
      | cons b p =>
        have e : Lib.join (a :: b :: p) [c] = a ++ c :: Lib.join (b :: p) [c] := by
          rw [Lib.join_cons, Lib.join_cons]; simp [Lib.joinTail]
        rw [e, List.length_append, List.length_cons]
        rcases List.mem_cons.1 hy with rfl | hy
        · omega
        · have := ih y hy; omega
  have h4 : ∀ (p : List Bs), p.length ≤ (Lib.join p [c]).length + 1 := by
    intro p
    induction p with
    | nil => simp
    | cons a p ih =>
      cases p with
      | nil => simp
      | cons b p =>
        have e : Lib.join (a :: b :: p) [c] = a ++ c :: Lib.join (b :: p) [c] := by
          rw [Lib.join_cons, Lib.join_cons]; simp [Lib.joinTail]
        rw [e, List.length_append, List.length_cons, List.length_cons]
        simp only [List.length_cons] at ih ⊢
        omega
  refine ⟨?_, fun y hy => ?_⟩
  · have := h4 (Lib.split s [c])
    rw [h1] at this
    exact this
  · have := h3 _ y hy
    rw [h1] at this
    exact this
theorem split_pos (s : Bs) (c : UInt8) : 1 ≤ (Lib.split s [c]).length := by
  obtain ⟨x, t, h⟩ := split_cons c s
  rw [h]; simp
theorem wh_nil : whB [] = false := by decide
theorem wh_of {s : Bs} {n : Nat} (h : s.length = n + 1) : whB s = (s.getD n 0 == 10) := by
  obtain ⟨t, b, rfl⟩ : ∃ t b, s = t ++ [b] := by
    have hne : s ≠ [] := fun e => by rw [e] at h; cases h
    exact ⟨s.dropLast, s.getLast hne, (List.dropLast_concat_getLast hne).symm⟩
  have hn : t.length = n := by simpa using h
  unfold whB
  rw [List.getD_eq_getElem?_getD, ← hn, List.getElem?_append_right (Nat.le_refl _)]
  simp only [Nat.sub_self, List.getElem?_cons_zero, Option.getD_some]
  rw [Bool.eq_iff_iff, List.isSuffixOf_iff_suffix, beq_iff_eq]
  constructor
  · rintro ⟨u, hu⟩
    have := List.append_inj' hu rfl
    injection this.2 with h
    exact h.symm
  · rintro rfl
    exact ⟨t, rfl⟩
theorem rcut_ten (s : Bs) (w : World) (hs : s.length ≤ 1000000) : Calls Tryz.prog 26 #[.string (bsS s), .int .u8 10] w (CutPost w (Lib.split s [10])) := rcut_any s 10 w hs
theorem rcut_sp (s : Bs) (w : World) (hs : s.length ≤ 1000000) : Calls Tryz.prog 26 #[.string (bsS s), .int .u8 32] w (CutPost w (Lib.split s [32])) := rcut_any s 32 w hs
theorem run_idxM {P : Program} (w : World) (T e : TypeId) (len : Nat) (hT : P.underlying T = some (.array len e)) (hE : P.underlying e = some .string) (hi : (P.info? e).map (·.size) = some 1) (l : List Value) (i : Nat) (v : Value)
    (hl : l[i]? = some v) (hil : i < len) : (Instr.index T (.agg l.toArray) (.int .i64 (i : Int))).run P w = .ok v w := by
  cases hq : P.info? e with
  | none => simp [hq] at hi
  | some x =>
    have hs : x.size = 1 := by simpa [hq] using hi
    simp [Instr.index, asIntOf, Sem.run_bind, run_underlying hT, part, isAgg, run_underlying hE, sizeOf, typeInfo, hq, hs, hil, hl]
theorem infoStrM : (Tryz.prog.info? 9).map (·.size) = some 1 := by kernel_rfl
theorem idx_wl (k : Nat) (hk : k < 4) (W : World) : (Instr.index 111 (.agg #[.string ⟨#[112, 108, 117, 103]⟩, .string ⟨#[115, 108, 111, 116]⟩, .string ⟨#[104, 111, 111, 107]⟩, .string ⟨#[119, 97, 110, 116]⟩]) (.int .i64 k)).run Tryz.prog W = .ok (.string (bsS (wl.getD k []))) W :=
  run_idxM W _ _ 4 Tryz.underlying111 Tryz.underlying9 infoStrM [.string ⟨#[112, 108, 117, 103]⟩, .string ⟨#[115, 108, 111, 116]⟩, .string ⟨#[104, 111, 111, 107]⟩, .string ⟨#[119, 97, 110, 116]⟩] k _ (by
    match k, hk with
    | 0, _ => rfl
    | 1, _ => rfl
    | 2, _ => rfl
    | 3, _ => rfl) hk
def hwL : List Bs := [hw0, hw1, hw2]
theorem idx_hw (k : Nat) (hk : k < 3) (W : World) : (Instr.index 65 (.agg #[.string ⟨#[112, 97, 99, 107, 97, 103, 101]⟩, .string ⟨#[112, 117, 98, 108, 105, 115, 104, 101, 114]⟩, .string ⟨#[114, 101, 118, 105, 115, 105, 111, 110]⟩]) (.int .i64 k)).run Tryz.prog W = .ok (.string (bsS (hwL.getD k []))) W :=
  run_idxM W _ _ 3 Tryz.underlying65 Tryz.underlying9 infoStrM [.string ⟨#[112, 97, 99, 107, 97, 103, 101]⟩, .string ⟨#[112, 117, 98, 108, 105, 115, 104, 101, 114]⟩, .string ⟨#[114, 101, 118, 105, 115, 105, 111, 110]⟩] k _ (by
    match k, hk with
    | 0, _ => rfl
    | 1, _ => rfl
    | 2, _ => rfl) hk
set_option maxRecDepth 100000 in
theorem rword_any (k : Nat) (hk : k < 4) (w : World) : Calls Tryz.prog 27 #[.int .i64 k] w fun e w' => e = .returned (.string (bsS (wl.getD k []))) ∧ w = w' := by
  have h := idx_wl k hk
  obtain ⟨s, hs⟩ : ∃ s, wl.getD k [] = s := ⟨_, rfl⟩
  rw [hs] at h ⊢
  clear hs
  go_enter Tryz.func27, Tryz.ntmps27
  go_wp2_with fail
  go_ret
  exact ⟨rfl, rfl⟩
theorem own_monoM {w : World} {base base' size n : Nat} {e : TypeId} {v : Value} {xs : List Value} (h : w.ownsRow base e size v n xs) (hb : base' ≤ base) : w.ownsRow base' e size v n xs :=
  ⟨h.1, h.2.imp id (fun ⟨g, c, cur, h1, h2, h3⟩ => ⟨g, c, cur, h1, Nat.le_trans hb h2, h3⟩)⟩
theorem LsR.fresh {w w9 : World} {base : Nat} {f f' : Nat → List It} {hd : Nat → Hd} {k : Nat} {y : Hd} (h : LsR w base f hd) (hbs : base ≤ w.heap.size)
    (ho : OwnR w9 w.heap.size y (f' k)) (hf : ∀ j, j < 4 → j ≠ k → f' j = f j) (hg : Below w.heap.size w w9) : LsR w9 base f' (updH hd k y) := by
  have hlt : ∀ j, j < 4 → ∀ g, (hd j).b = some g → g < w.heap.size := fun j hj g hg => (World.ownsRow.lt (h.own j hj) _ hg).2
  have hge : ∀ g, y.b = some g → w.heap.size ≤ g := fun g hg => ownGe ho hg
  refine ⟨fun j hj => ?_, fun i j hi hj hij g h1 h2 => ?_⟩
  · unfold updH
    by_cases hjk : j = k
    · subst hjk
      rw [if_pos rfl]
      exact own_monoM ho hbs
    · rw [if_neg hjk, hf j hj hjk]
      exact own_below (h.own j hj) hg
  · unfold updH at h1 h2
    by_cases hik : i = k
    · rw [if_pos hik] at h1
      by_cases hjk : j = k
      · exact hij (hik.trans hjk.symm)
      · rw [if_neg hjk] at h2
        have := hlt j hj g h2
        have := hge g h1
        omega
    · rw [if_neg hik] at h1
      by_cases hjk : j = k
      · rw [if_pos hjk] at h2
        have := hlt i hi g h1
        have := hge g h2
        omega
      · rw [if_neg hjk] at h2
        exact h.apart i j hi hj hij g h1 h2
theorem ofA_add (m : Mf) (hd : Nat → Hd) (k : Nat) (x : It) : ofA (m.add k x) hd = ofA m hd := by
  match k with
  | 0 => rfl
  | 1 => rfl
  | 2 => rfl
  | _ + 3 => rfl
/-- The document's Parse under way. -/
structure RpSt (w : World) (mb : Nat) (A : Option Addr) (N c : Nat) (L : List Bs) (m : Mf) (hd : Nat → Hd) (wr : World) : Prop where
  be : Below w.heap.size w wr
  zr : Blk wr w.heap.size 31 #[.string ⟨#[]⟩, .string ⟨#[]⟩, .int .i64 0, .slice none 0 0, .slice none 0 0, .slice none 0 0, .slice none 0 0]
  ro : wr.ownsRow (w.heap.size + 1) 9 1 (.slice A N c) N (strsA L)
  ou : Blk wr mb 31 (ofA m hd)
  ls : LsR wr (mb + 1) m.at hd
  lt : w.heap.size < mb
theorem RpSt.be_ {w wr w' : World} {mb N c : Nat} {A : Option Addr} {L : List Bs} {m : Mf} {hd : Nat → Hd} (H : RpSt w mb A N c L m hd wr) (hb : Below wr.heap.size wr w') : RpSt w mb A N c L m hd w' :=
  ⟨H.be.trans (hb.mono H.be.size), H.zr.be hb, own_below H.ro hb, H.ou.be hb, H.ls.be hb, H.lt⟩
theorem RpSt.put_ {w wr : World} {mb N c : Nat} {A : Option Addr} {L : List Bs} {m m' : Mf} {hd hd' : Nat → Hd} (H : RpSt w mb A N c L m hd wr) (j : Nat) (v : Value)
    (he : (ofA m hd).setIfInBounds j v = ofA m' hd') (hl : ∀ w', wr.grownBy w' (some mb) → LsR w' (mb + 1) m'.at hd') : RpSt w mb A N c L m' hd' (wr.setCell ⟨mb, j, none⟩ v) := by
  have hs := only_setCell (only_refl wr (some mb)) j v
  have hlt := H.lt
  refine ⟨H.be.trans ((Below.refl _ wr).grown hs H.be.size (fun g hg => by injection hg with hg; omega)), H.zr.far (by show w.heap.size ≠ mb; omega) _, World.ownsRow.kept H.ro hs (.inr (own_blk_ne H.ro H.ou (by decide))), blk_set _ _ _ _ j _ _ H.ou he, hl _ hs, H.lt⟩
theorem RpSt.put {w wr : World} {mb N c : Nat} {A : Option Addr} {L : List Bs} {m m' : Mf} {hd : Nat → Hd} (H : RpSt w mb A N c L m hd wr) (j : Nat) (v : Value)
    (he : (ofA m hd).setIfInBounds j v = ofA m' hd) (ha : m'.at = m.at) : RpSt w mb A N c L m' hd (wr.setCell ⟨mb, j, none⟩ v) :=
  H.put_ j v he (fun w' hg => by rw [ha]; exact H.ls.only hg (Nat.lt_succ_self mb))
theorem RpSt.add {w wd w9 : World} {mb N c k : Nat} {A : Option Addr} {L : List Bs} {m : Mf} {hd : Nat → Hd} {x : It} {y : Hd} (H : RpSt w mb A N c L m hd wd) (hk : k < 4)
    (hb : Below wd.heap.size wd w9) (ho : OwnR w9 wd.heap.size y (m.at k ++ [x])) : RpSt w mb A N c L (m.add k x) (updH hd k y) (w9.setCell ⟨mb, 3 + k, none⟩ y.v) :=
  (H.be_ hb).put_ (3 + k) y.v (by rw [ofA_upd m hd k y hk, ofA_add]) (fun w' hg => by
    have h1 : LsR w9 (mb + 1) (m.add k x).at (updH hd k y) := H.ls.fresh (Nat.succ_le_of_lt H.ou.lt) (by rw [at_add m k k x hk hk, if_pos rfl]; exact ho) (fun j hj hjk => by rw [at_add m k j x hk hj, if_neg hjk]) hb
    exact h1.only hg (Nat.lt_succ_self mb))
/-- Which line is read, and what came so far. -/
def PhM (L : List Bs) : Nat → Mf → Nat → Prop
  | 0, m, lst => m = mf0 ∧ lst = 0
  | 1, m, lst => headR L 0 hw0 = some m.pkg ∧ m = ⟨m.pkg, [], 0, [], [], [], []⟩ ∧ lst = 0
  | 2, m, lst => headR L 0 hw0 = some m.pkg ∧ headR L 1 hw1 = some m.pub ∧ m = ⟨m.pkg, m.pub, 0, [], [], [], []⟩ ∧ lst = 0
  | i + 3, m, lst => scanM L = restsM m lst (L.drop (i + 3)) (i + 3)
/-- Words' sizes, and how many items there are. -/
structure PhS (i : Nat) (m : Mf) (hd : Nat → Hd) : Prop where
  pk : m.pkg.length ≤ 1000000 ∧ m.pub.length ≤ 1000000
  it : ∀ k, k < 4 → ∀ x ∈ m.at k, x.a.length ≤ 1000000 ∧ x.b.length ≤ 1000000
  nn : ∀ k, k < 4 → (hd k).n ≤ i
theorem mfr_ofR {w : World} {base : Nat} {m : Mf} {hd : Nat → Hd} (h : LsR w base m.at hd) (hn : ∀ j, j < 4 → (hd j).n ≤ 1000000) (ht : ∀ j, j < 4 → ∀ x ∈ m.at j, x.a.length ≤ 1000000 ∧ x.b.length ≤ 1000000) (hp : m.pkg.length ≤ 1000000 ∧ m.pub.length ≤ 1000000) :
    MfR w m (hd 0) (hd 1) (hd 2) (hd 3) := by
  have key : ∀ j, j < 4 → Its w (hd j).A (hd j).n (m.at j) ∧ ((hd j).n ≤ 1000000 ∧ (hd j).n ≤ (hd j).c) := fun j hj => by
    have ho := h.own j hj
    unfold OwnR Hd.v at ho
    exact ⟨⟨Reads.of_own ho, ht j hj⟩, hn j hj, (rowCap ho).1⟩
  have k0 := key 0 (by decide)
  have k1 := key 1 (by decide)
  have k2 := key 2 (by decide)
  have k3 := key 3 (by decide)
  exact ⟨k0.1, k1.1, k2.1, k3.1, k0.2, k1.2, k2.2, k3.2, hp.1, hp.2⟩
/-- What the operations of one more item leave. -/
def ItemP (B n : Nat) (l : List It) (x : It) (k : Nat) (v : Value) (w : World) : Prop := match k with
  | 1 => ∃ g, v = .slice (some ⟨g, 0, none⟩) 0 0 ∧ B ≤ g ∧ Blk w g 67 #[]
  | 6 => ∃ A c, v = .slice A n c ∧ w.ownsRow B 67 2 (.slice A n c) n (itsC l)
  | 14 => ∃ g, v = .slice (some ⟨g, 0, none⟩) 1 1 ∧ Reads w w.heap.size 2 (some ⟨g, 0, none⟩) 1 (itC x)
  | _ => False
end Go.Proofs.YtmgblbkmbiiofaaGreatDoor
