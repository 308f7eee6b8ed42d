/-
  ManifestTexts at any input.
  The card of the law 'ManifestTexts': it returns true at every input, and each argument reads behind the call as it read before; the listed variables are tied to the program's text. Conditions: none.
-/
import Derived.Test.YtmgblbkmbiiofaaGreatDoorMt1
import Derived.Test.YtmgblbkmbiiofaaGreatDoorMb21
import Derived.ProofKit
import Derived.OpenShut
import Derived.Test.YtmgblbkmbiiofaaGreatDoorCards
import Derived.Test.YtmgblbkmbiiofaaGreatDoorTie
import Derived.ShutString
import Derived.ChangeOld
import Derived.Below
import Derived.Deep.DeepHandedRow
import Derived.Deep.DeepWitnessRowRef
import Derived.Lay

namespace Go.Proofs.YtmgblbkmbiiofaaGreatDoor
open Go.ChangeShapes Go.WideShapes Go.ChangeAt Go.RowKit Go.ChangeMaps
attribute [local go_sem ↓] Go.wp_at_zero Go.wp_at_succ
set_option linter.unusedVariables false
set_option linter.unusedSimpArgs false

theorem MfI.be {w w' : World} {m : Mf} {p s h k : Hd} (H : MfI w m p s h k) (hb : Below w.heap.size w w') : MfI w' m p s h k :=
  ⟨(H.ip.below hb).more hb.size, (H.iq.below hb).more hb.size, (H.ir.below hb).more hb.size, (H.iw.below hb).more hb.size, H.pn, H.tx, H.pk⟩
set_option maxRecDepth 100000 in
set_option maxHeartbeats 32000000 in
theorem texts_walk (m0 : Mf) (p0 s0 h0 k0 : Hd) (w : World) (H : MfI w m0 p0 s0 h0 k0) (hE : Em w w.heap.size) : Calls Tryz.prog 4 #[mfV m0 p0 s0 h0 k0] w (RPost w true) := by
  have HE := Sl.mk hE
  have HK := Sl.mk (fun (W : World) (hb : Below w.heap.size w W) => known_any W (hE.all hb))
  unfold RPost at HK
  have HT0 := Sl.mk (fun (W : World) (hb : Below w.heap.size w W) => to_any m0 p0 s0 h0 k0 W (H.be hb))
  have HSM := Sl.mk (toM_small m0)
  obtain ⟨m, hm⟩ : ∃ m, toM m0 = m := ⟨_, rfl⟩
  unfold ToPost at HT0
  rw [hm] at HT0 HSM
  have HRT := Sl.mk (fun (h : checkM m = 0) => (check_zero m).1 h)
  have HLN := Sl.mk (fun (h : checkM m = 0) => text_small (HRT.out h) HSM.out)
  obtain ⟨E, hEE⟩ : ∃ E, checkM m = E := ⟨_, rfl⟩
  have HEE := Sl.mk hEE
  obtain ⟨w0, hw0⟩ : ∃ w0, w.alloc (.cells (mfC m0 p0 s0 h0 k0).toArray 31) = w0 := ⟨_, rfl⟩
  have HB0 := Sl.mk (show Below w.heap.size w w0 by rw [← hw0]; exact below_al (Below.refl _ _) _)
  have HK0 := Sl.mk (show Blk w0 w.heap.size 31 (mfC m0 p0 s0 h0 k0).toArray by rw [← hw0]; exact Blk.new _ _ _)
  clear hE H hm hEE
  unfold mfV
  simp only [mfC] at hw0 ⊢
  go_enter Tryz.func4, Tryz.ntmps4
  go_upto_region 1 with fail
  clear hw0
  have hl0 := blk_at HK0.out
  go_wp2_with (refine ld_rm hl0 rfl (.tmp 1) rfl rfl ?_)
  refine (HT0.out _ HB0.out).mono ?_
  rintro e w1 ⟨hb1, p, s, h, k, rfl, hm1⟩
  have HB1 := Sl.mk (HB0.out.trans (hb1.mono HB0.out.size))
  have HM1 := Sl.mk hm1
  clear hb1 hm1 hl0
  go_wp2_with (first | (refine ld_mf hl2 rfl (.tmp 3) rfl rfl ?_) | (refine wpList_store_fresh rfl 24 (.tmp 3) (.tmp 12) rfl 24 [.string ⟨#[]⟩, .string ⟨#[]⟩, .int .i64 0, .slice none 0 0, .slice none 0 0, .slice none 0 0, .slice none 0 0] (mfC m p s h k) _ rfl rfl rfl rfl (by rw [mfSize]; rfl) (mfC_one _ _ _ _ _) ?_; intro w2 hB2 hb2 hs2; have HB2 := Sl.mk (HB1.out.trans (hb2.mono HB1.out.size)); have HK2 := Sl.mk hB2; have HM2 := Sl.mk (HM1.out.be hb2); have hl2 := blk_at hB2; clear hB2 hb2 hs2))
  obtain ⟨g1, hg1⟩ : ∃ g, w1.heap.size = g := ⟨_, rfl⟩
  rw [hg1] at HK2 ⊢
  clear hg1 hl2
  refine (of_any m p s h k w2 HM2.out).mono ?_
  rintro e w3 ⟨hb3, hd, rfl, hL⟩
  have HB3 := Sl.mk (HB2.out.trans (hb3.mono HB2.out.size))
  have HK3 := Sl.mk (HK2.out.be hb3)
  have HM3 := Sl.mk (HM2.out.be hb3)
  have HN3 := Sl.mk (of_mfr HM2.out hL)
  clear hb3 hL
  go_wp2_with (first | (refine ld_mf hl4 rfl (.tmp 3) rfl rfl ?_) | (refine wpList_store_fresh rfl 31 (.tmp 4) (.tmp 14) rfl 31 [.string ⟨#[]⟩, .string ⟨#[]⟩, .int .i64 0, .slice none 0 0, .slice none 0 0, .slice none 0 0, .slice none 0 0] (mfC m (hd 0) (hd 1) (hd 2) (hd 3)) _ rfl rfl rfl rfl (by rw [rmSize]; rfl) (mfC_one _ _ _ _ _) ?_; intro w4 hB4 hb4 hs4; have HB4 := Sl.mk (HB3.out.trans (hb4.mono HB3.out.size)); have HK4 := Sl.mk (HK3.out.be hb4); have HJ4 := Sl.mk hB4; have HM4 := Sl.mk (HM3.out.be hb4); have HN4 := Sl.mk (HN3.out.be hb4); have hl4 := blk_at HK4.out; clear hB4 hb4 hs4))
  obtain ⟨g2, hg2⟩ : ∃ g, w3.heap.size = g := ⟨_, rfl⟩
  rw [hg2] at HJ4 ⊢
  have HT := Sl.mk (text_any m p s h k w4 (HE.out.at_ HB4.out HB4.out.size) HM4.out)
  unfold TextPost at HT
  rw [HEE.out] at HT
  obtain ⟨TX, hTX⟩ : ∃ TX, (if E = 0 then textM m else []) = TX := ⟨_, rfl⟩
  rw [hTX] at HT
  have HTX := Sl.mk hTX
  clear hg2 hTX hl4 HB1 HB2 HB3 HK2 HK3 HM1 HM2 HM3 HN3
  refine HT.out.mono ?_
  rintro e w5 ⟨rfl, hb5⟩
  have HB5 := Sl.mk (HB4.out.trans (hb5.mono HB4.out.size))
  have HK5 := Sl.mk (HK4.out.be hb5)
  have HJ5 := Sl.mk (HJ4.out.be hb5)
  have HM5 := Sl.mk (HM4.out.be hb5)
  have HN5 := Sl.mk (HN4.out.be hb5)
  have hl5 := blk_at HJ5.out
  have HRC := Sl.mk (rcheckM_any m (hd 0) (hd 1) (hd 2) (hd 3) w5 HN5.out)
  unfold CkPost at HRC
  rw [HEE.out] at HRC
  clear hb5 HT
  go_wp2_with (refine ld_rm hl5 rfl (.tmp 4) rfl rfl ?_)
  refine HRC.out.mono ?_
  rintro e w6 ⟨rfl, hb6⟩
  have HB6 := Sl.mk (HB5.out.trans (hb6.mono HB5.out.size))
  have HK6 := Sl.mk (HK5.out.be hb6)
  have HJ6 := Sl.mk (HJ5.out.be hb6)
  have HM6 := Sl.mk (HM5.out.be hb6)
  have HN6 := Sl.mk (HN5.out.be hb6)
  have c60 : w6.cell? ⟨g1, 0, none⟩ = some (.string (bsS m.pkg)) := HK6.out.cell 0
  have c61 : w6.cell? ⟨g1, 1, none⟩ = some (.string (bsS m.pub)) := HK6.out.cell 1
  have c62 : w6.cell? ⟨g1, 2, none⟩ = some (.int .i64 m.rev) := HK6.out.cell 2
  have c63 : w6.cell? ⟨g1, 3, none⟩ = some p.v := HK6.out.cell 3
  have c64 : w6.cell? ⟨g1, 4, none⟩ = some s.v := HK6.out.cell 4
  have c65 : w6.cell? ⟨g1, 5, none⟩ = some h.v := HK6.out.cell 5
  have c66 : w6.cell? ⟨g1, 6, none⟩ = some k.v := HK6.out.cell 6
  have HCK := Sl.mk (check_any m p s h k w6 (HE.out.at_ HB6.out HB6.out.size) HM6.out)
  unfold CkPost at HCK
  rw [HEE.out] at HCK
  clear hb6 hl5 HRC HB4 HK4 HJ4 HM4 HN4 HB5 HK5 HJ5 HM5 HN5
  go_wp2_with fail
  refine HCK.out.mono ?_
  rintro e w7 ⟨rfl, hb7⟩
  have HB7 := Sl.mk (HB6.out.trans (hb7.mono HB6.out.size))
  have HK7 := Sl.mk (HK6.out.be hb7)
  have HJ7 := Sl.mk (HJ6.out.be hb7)
  have HM7 := Sl.mk (HM6.out.be hb7)
  have HN7 := Sl.mk (HN6.out.be hb7)
  clear hb7 c60 c61 c62 c63 c64 c65 c66 HCK HB6 HK6 HJ6 HM6 HN6
  by_cases hE0 : E = 0
  · subst hE0
    have HX := Sl.mk (show textM m = TX by rw [← HTX.out, if_pos rfl])
    have hlx : TX.length ≤ 4096 := by rw [← HX.out]; exact HLN.out HEE.out
    have hzx := bs_size TX
    have hlt : ¬ (4096 : Int) < (TX.length : Int) := by omega
    have HP := Sl.mk (parse_m TX w7 (by omega) (HE.out.at_ HB7.out HB7.out.size))
    have hpp : parseM TX = (m, 0, 0) := by rw [← HX.out]; exact text_parse HEE.out (by rw [HX.out]; exact hlx)
    rw [hpp] at HP
    have HRTX := Sl.mk (fun W (hN : MfR W m (hd 0) (hd 1) (hd 2) (hd 3)) => rtextM_any m (hd 0) (hd 1) (hd 2) (hd 3) W hN (by obtain ⟨n, h1, h2, _⟩ := (HRT.out HEE.out).rev; exact ⟨n, h1, h2⟩) (by rw [HX.out]; omega))
    rw [HX.out] at HRTX
    clear hpp
    go_wp2_with fail
    refine HP.out.mono ?_
    rintro e w8 ⟨hb8, p8, s8, h8, k8, rfl, hm8⟩
    have HB8 := Sl.mk (HB7.out.trans (hb8.mono HB7.out.size))
    have HK8 := Sl.mk (HK7.out.be hb8)
    have HJ8 := Sl.mk (HJ7.out.be hb8)
    have HM8 := Sl.mk (HM7.out.be hb8)
    have HN8 := Sl.mk (HN7.out.be hb8)
    have HZ8 := Sl.mk hm8
    clear hb8 hm8
    go_wp2_with (refine wpList_store_fresh rfl 24 (.tmp 8) (.tmp 41) rfl 24 [.string ⟨#[]⟩, .string ⟨#[]⟩, .int .i64 0, .slice none 0 0, .slice none 0 0, .slice none 0 0, .slice none 0 0] (mfC m p8 s8 h8 k8) _ rfl rfl rfl rfl (by rw [mfSize]; rfl) (mfC_one _ _ _ _ _) ?_; intro w9 hB9 hb9 hs9; have HB9 := Sl.mk (HB8.out.trans (hb9.mono HB8.out.size)); have HK9 := Sl.mk (HK8.out.be hb9); have HJ9 := Sl.mk (HJ8.out.be hb9); have HG9 := Sl.mk hB9; have HM9 := Sl.mk (HM8.out.be hb9); have HN9 := Sl.mk (HN8.out.be hb9); have HZ9 := Sl.mk (HZ8.out.be hb9); clear hB9 hb9 hs9)
    obtain ⟨g3, hg3⟩ : ∃ g, w8.heap.size = g := ⟨_, rfl⟩
    rw [hg3] at HG9 ⊢
    obtain ⟨wd, hwd⟩ : ∃ wd, w9.drew = wd := ⟨_, rfl⟩
    have HBd := Sl.mk (show Below w.heap.size w wd by rw [← hwd]; exact HB9.out.drew)
    have hdw : Below w9.heap.size w9 wd := by rw [← hwd]; exact (Below.refl _ _).drew
    have HKd := Sl.mk (HK9.out.be hdw)
    have HJd := Sl.mk (HJ9.out.be hdw)
    have HGd := Sl.mk (HG9.out.be hdw)
    have HMd := Sl.mk (HM9.out.be hdw)
    have HNd := Sl.mk (HN9.out.be hdw)
    have HZd := Sl.mk (HZ9.out.be hdw)
    clear hg3 hdw HB9 HK9 HJ9 HG9 HM9 HN9 HZ9 HB8 HK8 HJ8 HM8 HN8 HZ8 HB7 HK7 HJ7 HM7 HN7 HP
    refine wp_region_X (fun W => Below wd.heap.size wd W) [25, 26] (by kernel_rfl) (by rw [hwd]; exact Below.refl _ _) (fun hS => ?_)
    rw [hwd] at hS ⊢
    clear hwd
    refine wpAnyX_oneL (k := 0) rfl (by kernel_rfl) rfl ?_
    refine wp_of_callZ (f := 10) (args := #[]) (by go_simp) (HK.out wd HBd.out) (fun e v1 hq => ?_)
    obtain ⟨rfl, x1⟩ := hq
    have hS1 : Below wd.heap.size wd v1 := x1
    refine ⟨_, rfl, fun _ => hS1, ?_⟩
    clear hS x1
    have hS := hS1
    simp only [Act.put, List.setIfInBounds_toArray, List.set_cons_zero, List.set_cons_succ]
    refine wpAnyX_S (i := 1) (v := ?_) rfl (by kernel_rfl) (by kernel_rfl) (by kernel_rfl) (by kernel_rfl) (fun _ _ _ h => h) (Or.inl ⟨by rfl, ?_⟩) hS ?_
    rotate_left 1
    · (intro w' hw'; (first | rw [hw'] | (have hw2 := HSF.out w' hw'; (try obtain ⟨hw2, hw3⟩ := hw2)) | skip); go_simp; (try with_reducible rfl))
    simp only [Act.put, List.setIfInBounds_toArray, List.set_cons_zero, List.set_cons_succ]
    refine wpAnyX_S (i := 2) (v := ?_) rfl (by kernel_rfl) (by kernel_rfl) (by kernel_rfl) (by kernel_rfl) (fun _ _ _ h => h) (Or.inl ⟨by rfl, ?_⟩) hS ?_
    rotate_left 1
    · (intro w' hw'; (first | rw [hw'] | (have hw2 := HSF.out w' hw'; (try obtain ⟨hw2, hw3⟩ := hw2)) | skip); go_simp; (try with_reducible rfl))
    simp only [Act.put, List.setIfInBounds_toArray, List.set_cons_zero, List.set_cons_succ]
    refine wpAnyX_S (i := 3) (v := mfV m (hd 0) (hd 1) (hd 2) (hd 3)) rfl (by kernel_rfl) (by kernel_rfl) (by kernel_rfl) (by kernel_rfl) (fun _ _ _ h => h) (yieldsIf_loadM (by rfl) 31 (.tmp 4) rfl ⟨g2, 0, none⟩ _ rfl (fun W hW => run_loadR (HJd.out.be hW))) hS ?_
    simp only [Act.put, List.setIfInBounds_toArray, List.set_cons_zero, List.set_cons_succ]
    refine wpAnyX_oneGM (k := 4) rfl (by kernel_rfl) (by rfl) ?_
    refine wp_of_callZ (f := 15) (args := #[mfV m (hd 0) (hd 1) (hd 2) (hd 3)]) (by go_simp) (HRTX.out v1 (HNd.out.be hS)) (fun e v2 hq => ?_)
    obtain ⟨rfl, x2⟩ := hq
    have hS2 : Below wd.heap.size wd v2 := below_tr hS x2
    refine ⟨_, rfl, fun _ => hS2, ?_⟩
    clear hS hS1 x2
    have hS := hS2
    simp only [Act.put, List.setIfInBounds_toArray, List.set_cons_zero, List.set_cons_succ]
    refine wpAnyX_S (i := 5) (v := ?_) rfl (by kernel_rfl) (by kernel_rfl) (by kernel_rfl) (by kernel_rfl) (fun _ _ _ h => h) (Or.inl ⟨by rfl, ?_⟩) hS ?_
    rotate_left 1
    · (intro w' hw'; (first | rw [hw'] | (have hw2 := HSF.out w' hw'; (try obtain ⟨hw2, hw3⟩ := hw2)) | skip); go_simp; (try with_reducible rfl))
    simp only [Act.put, List.setIfInBounds_toArray, List.set_cons_zero, List.set_cons_succ]
    refine wpAnyX_S (i := 6) (v := ?_) rfl (by kernel_rfl) (by kernel_rfl) (by kernel_rfl) (by kernel_rfl) (fun _ _ _ h => h) (Or.inl ⟨by rfl, ?_⟩) hS ?_
    rotate_left 1
    · (intro w' hw'; (first | rw [hw'] | (have hw2 := HSF.out w' hw'; (try obtain ⟨hw2, hw3⟩ := hw2)) | skip); go_simp; (try with_reducible rfl))
    simp only [Act.put, List.setIfInBounds_toArray, List.set_cons_zero, List.set_cons_succ]
    refine wpAnyX_S (i := 7) (v := ?_) rfl (by kernel_rfl) (by kernel_rfl) (by kernel_rfl) (by kernel_rfl) (fun _ _ _ h => h) (Or.inl ⟨by rfl, ?_⟩) hS ?_
    rotate_left 1
    · (intro w' hw'; (first | rw [hw'] | (have hw2 := HSF.out w' hw'; (try obtain ⟨hw2, hw3⟩ := hw2)) | skip); go_simp; (try with_reducible rfl))
    simp only [Act.put, List.setIfInBounds_toArray, List.set_cons_zero, List.set_cons_succ]
    refine wpAnyX_S (i := 8) (v := ?_) rfl (by kernel_rfl) (by kernel_rfl) (by kernel_rfl) (by kernel_rfl) (fun _ _ _ h => h) (Or.inl ⟨by rfl, ?_⟩) hS ?_
    rotate_left 1
    · (intro w' hw'; (first | rw [hw'] | (have hw2 := HSF.out w' hw'; (try obtain ⟨hw2, hw3⟩ := hw2)) | skip); go_simp; (try with_reducible rfl))
    simp only [Act.put, List.setIfInBounds_toArray, List.set_cons_zero, List.set_cons_succ]
    refine wpAnyX_S (i := 9) (v := ?_) rfl (by kernel_rfl) (by kernel_rfl) (by kernel_rfl) (by kernel_rfl) (fun _ _ _ h => h) (Or.inl ⟨by rfl, ?_⟩) hS ?_
    rotate_left 1
    · (intro w' hw'; (first | rw [hw'] | (have hw2 := HSF.out w' hw'; (try obtain ⟨hw2, hw3⟩ := hw2)) | skip); go_simp; (try with_reducible rfl))
    simp only [Act.put, List.setIfInBounds_toArray, List.set_cons_zero, List.set_cons_succ]
    refine wpAnyX_S (i := 10) (v := ?_) rfl (by kernel_rfl) (by kernel_rfl) (by kernel_rfl) (by kernel_rfl) (fun _ _ _ h => h) (Or.inl ⟨by rfl, ?_⟩) hS ?_
    rotate_left 1
    · (intro w' hw'; (first | rw [hw'] | (have hw2 := HSF.out w' hw'; (try obtain ⟨hw2, hw3⟩ := hw2)) | skip); go_simp; (try with_reducible rfl))
    simp only [Act.put, List.setIfInBounds_toArray, List.set_cons_zero, List.set_cons_succ]
    refine wpAnyX_S (i := 11) (v := ?_) rfl (by kernel_rfl) (by kernel_rfl) (by kernel_rfl) (by kernel_rfl) (fun _ _ _ h => h) (Or.inl ⟨by rfl, ?_⟩) hS ?_
    rotate_left 1
    · (intro w' hw'; (first | rw [hw'] | (have hw2 := HSF.out w' hw'; (try obtain ⟨hw2, hw3⟩ := hw2)) | skip); go_simp; (try with_reducible rfl))
    simp only [Act.put, List.setIfInBounds_toArray, List.set_cons_zero, List.set_cons_succ]
    refine wpAnyX_S (i := 12) (v := ?_) rfl (by kernel_rfl) (by kernel_rfl) (by kernel_rfl) (by kernel_rfl) (fun _ _ _ h => h) (Or.inl ⟨by rfl, ?_⟩) hS ?_
    rotate_left 1
    · (intro w' hw'; (first | rw [hw'] | (have hw2 := HSF.out w' hw'; (try obtain ⟨hw2, hw3⟩ := hw2)) | skip); go_simp; (try with_reducible rfl))
    simp only [Act.put, List.setIfInBounds_toArray, List.set_cons_zero, List.set_cons_succ]
    refine wpAnyX_S (i := 13) (v := ?_) rfl (by kernel_rfl) (by kernel_rfl) (by kernel_rfl) (by kernel_rfl) (fun _ _ _ h => h) (Or.inl ⟨by rfl, ?_⟩) hS ?_
    rotate_left 1
    · (intro w' hw'; (first | rw [hw'] | (have hw2 := HSF.out w' hw'; (try obtain ⟨hw2, hw3⟩ := hw2)) | skip); go_simp; (try with_reducible rfl))
    simp only [Act.put, List.setIfInBounds_toArray, List.set_cons_zero, List.set_cons_succ]
    refine wpAnyX_S (i := 14) (v := ?_) rfl (by kernel_rfl) (by kernel_rfl) (by kernel_rfl) (by kernel_rfl) (fun _ _ _ h => h) (Or.inl ⟨by rfl, ?_⟩) hS ?_
    rotate_left 1
    · (intro w' hw'; (first | rw [hw'] | (have hw2 := HSF.out w' hw'; (try obtain ⟨hw2, hw3⟩ := hw2)) | skip); go_simp; (try with_reducible rfl))
    simp only [Act.put, List.setIfInBounds_toArray, List.set_cons_zero, List.set_cons_succ]
    refine wpAnyX_S (i := 15) (v := ?_) rfl (by kernel_rfl) (by kernel_rfl) (by kernel_rfl) (by kernel_rfl) (fun _ _ _ h => h) (Or.inl ⟨by rfl, ?_⟩) hS ?_
    rotate_left 1
    · (intro w' hw'; (first | rw [hw'] | (have hw2 := HSF.out w' hw'; (try obtain ⟨hw2, hw3⟩ := hw2)) | skip); go_simp; (try with_reducible rfl))
    simp only [Act.put, List.setIfInBounds_toArray, List.set_cons_zero, List.set_cons_succ]
    refine wpAnyX_S (i := 16) (v := mfV m p8 s8 h8 k8) rfl (by kernel_rfl) (by kernel_rfl) (by kernel_rfl) (by kernel_rfl) (fun _ _ _ h => h) (yieldsIf_loadM (by rfl) 24 (.tmp 8) rfl ⟨g3, 0, none⟩ _ rfl (fun W hW => run_loadP (HGd.out.be hW))) hS ?_
    simp only [Act.put, List.setIfInBounds_toArray, List.set_cons_zero, List.set_cons_succ]
    refine wpAnyX_S (i := 17) (v := mfV m p s h k) rfl (by kernel_rfl) (by kernel_rfl) (by kernel_rfl) (by kernel_rfl) (fun _ _ _ h => h) (yieldsIf_loadM (by rfl) 24 (.tmp 3) rfl ⟨g1, 0, none⟩ _ rfl (fun W hW => run_loadP (HKd.out.be hW))) hS ?_
    simp only [Act.put, List.setIfInBounds_toArray, List.set_cons_zero, List.set_cons_succ]
    refine wpAnyX_oneGM (k := 18) rfl (by kernel_rfl) (by rfl) ?_
    refine wp_of_callZ (f := 16) (args := #[mfV m p8 s8 h8 k8, mfV m p s h k]) (by go_simp) (msame_any m m _ _ _ _ _ _ _ _ v2 (HZd.out.be hS) (HMd.out.be hS)) (fun e v3 hq => ?_)
    obtain ⟨rfl, x3⟩ := hq
    rw [decide_eq_true rfl]
    have hS3 : Below wd.heap.size wd v3 := below_tr hS x3
    refine ⟨_, rfl, fun _ => hS3, ?_⟩
    clear hS hS2 x3
    have hS := hS3
    simp only [Act.put, List.setIfInBounds_toArray, List.set_cons_zero, List.set_cons_succ]
    refine wpAnyX_S (i := 19) (v := ?_) rfl (by kernel_rfl) (by kernel_rfl) (by kernel_rfl) (by kernel_rfl) (fun _ _ _ h => h) (Or.inl ⟨by rfl, ?_⟩) hS ?_
    rotate_left 1
    · (intro w' hw'; (first | rw [hw'] | (have hw2 := HSF.out w' hw'; (try obtain ⟨hw2, hw3⟩ := hw2)) | skip); go_simp; (try with_reducible rfl))
    simp only [Act.put, List.setIfInBounds_toArray, List.set_cons_zero, List.set_cons_succ]
    refine wpAnyX_S (i := 20) (v := ?_) rfl (by kernel_rfl) (by kernel_rfl) (by kernel_rfl) (by kernel_rfl) (fun _ _ _ h => h) (Or.inl ⟨by rfl, ?_⟩) hS ?_
    rotate_left 1
    · (intro w' hw'; (first | rw [hw'] | (have hw2 := HSF.out w' hw'; (try obtain ⟨hw2, hw3⟩ := hw2)) | skip); go_simp; (try with_reducible rfl))
    simp only [Act.put, List.setIfInBounds_toArray, List.set_cons_zero, List.set_cons_succ]
    refine wpAnyX_S (i := 21) (v := mfV m p8 s8 h8 k8) rfl (by kernel_rfl) (by kernel_rfl) (by kernel_rfl) (by kernel_rfl) (fun _ _ _ h => h) (yieldsIf_loadM (by rfl) 24 (.tmp 8) rfl ⟨g3, 0, none⟩ _ rfl (fun W hW => run_loadP (HGd.out.be hW))) hS ?_
    simp only [Act.put, List.setIfInBounds_toArray, List.set_cons_zero, List.set_cons_succ]
    refine wpAnyX_S (i := 23) (v := mfV m (hd 0) (hd 1) (hd 2) (hd 3)) rfl (by kernel_rfl) (by kernel_rfl) (by kernel_rfl) (by kernel_rfl) (fun _ _ _ h => h) (yieldsIf_loadM (by rfl) 31 (.tmp 4) rfl ⟨g2, 0, none⟩ _ rfl (fun W hW => run_loadR (HJd.out.be hW))) hS ?_
    simp only [Act.put, List.setIfInBounds_toArray, List.set_cons_zero, List.set_cons_succ]
    refine wpAnyX_oneGM (k := 22) rfl (by kernel_rfl) (by rfl) ?_
    refine wp_of_callZ (f := 9) (args := #[mfV m p8 s8 h8 k8]) (by go_simp) (of_any m p8 s8 h8 k8 v3 (HZd.out.be hS)) (fun e v4 hq => ?_)
    obtain ⟨x4, he, rfl, hL4⟩ := hq
    have hS4 : Below wd.heap.size wd v4 := below_tr hS x4
    refine ⟨_, rfl, fun _ => hS4, ?_⟩
    have hm4 := of_mfr (HZd.out.be hS) hL4
    clear hS hS3 x4
    have hS := hS4
    simp only [Act.put, List.setIfInBounds_toArray, List.set_cons_zero, List.set_cons_succ]
    refine wpAnyX_oneGM (k := 24) rfl (by kernel_rfl) (by rfl) ?_
    refine wp_of_callZ (f := 8) (args := #[mfV m (he 0) (he 1) (he 2) (he 3), mfV m (hd 0) (hd 1) (hd 2) (hd 3)]) (by go_simp) (rsame_any m m _ _ _ _ _ _ _ _ v4 hm4 (HNd.out.be hS)) (fun e v5 hq => ?_)
    obtain ⟨rfl, x5⟩ := hq
    rw [decide_eq_true rfl]
    have hS5 : Below wd.heap.size wd v5 := below_tr hS x5
    refine ⟨_, rfl, fun _ => hS5, ?_⟩
    have HBE := Sl.mk (HBd.out.trans (hS5.mono HBd.out.size))
    clear hS hS4 x5 hS5 hm4 hL4
    simp only [Act.put, List.setIfInBounds_toArray, List.set_cons_zero, List.set_cons_succ]
    refine wpAnyX_tailF [25, 26] (by kernel_rfl) (by rfl) (by rfl) (by rfl) ?_
    simp only [List.filterMap_cons, List.filterMap_nil, List.getElem?_cons_succ, List.getElem?_cons_zero]
    go_wp2_with fail
    refine NoPanic.normal ?_
    go_wp2_with fail
    go_ret
    exact ⟨rfl, HBE.out⟩
  · have HX := Sl.mk (show TX = [] by rw [← HTX.out, if_neg hE0])
    have h0' : (E != 0) = true := by simpa using hE0
    obtain rfl := HX.out
    have hemp : (bsS ([] : Bs)).toList.isEmpty = true := by rw [bs_list []]; rfl
    clear hE0
    go_wp2_with fail
    refine (HK.out _ HB7.out).mono ?_
    rintro e w8 ⟨rfl, hb8⟩
    have HB8 := Sl.mk (HB7.out.trans (hb8.mono HB7.out.size))
    clear hb8
    go_wp2_with fail
    go_ret
    exact ⟨rfl, HB8.out⟩
set_option maxRecDepth 100000 in
theorem manifesttexts_any {H : Type} {enc : TypeId × Value → H} (W : World) (base : Nat) {v0 : Value} {d0 : DataW H} {p0 : List MemPlace}
    (h0 : DataW.Trod enc Tryz.prog W 0 (fun _ => true) true 31 v0 d0 p0) (o0 : Value.okWide Tryz.prog W .any base 31 v0) (hT : Tb W) (hsh : W.ShapedOpen Tryz.prog) :
    Calls Tryz.prog 4 #[v0] W fun e w' => e = .returned (.bool true) ∧ Below W.heap.size W w' := by
  obtain ⟨m, p, s, h, k, rfl, hI⟩ := open_mf h0 o0
  exact texts_walk m p s h k W hI (em_of hT hsh)
end Go.Proofs.YtmgblbkmbiiofaaGreatDoor

namespace Go.Proofs.YtmgblbkmbiiofaaGreatDoor.manifestTexts
open Go.ChangeShapes Go.WideShapes Go.ChangeAt Go.RowKit
set_option linter.unusedVariables false
set_option maxRecDepth 100000

/-- The start: each listed variable laid, one after another. -/
noncomputable def laidWorld (os : Os) : World := World.laidAll Tryz.prog os Rows.manifestTextsRow.laid

theorem own : ownKnob Tryz.prog.godebug = none := by kernel_rfl
theorem laidOut : laidOutB Tryz.prog = true := by kernel_rfl

theorem contract (H : Type) (enc : TypeId × Value → H) (W : World) (base : Nat) (args : Array Value) (ds gs : List (DataW H)) (before : List MemPlace)
    (hval0 : ∀ (j : Nat) t v, Tryz.f4.params[j]? = some t → args[j]? = some v → Value.okWide Tryz.prog W .any base t v)
    (hW : DataW.Whole enc Tryz.prog Tryz.f4.params.toList Rows.manifestTextsSpec.vars false W args.toList ds gs before) (hL : laidMetH Tryz.prog Rows.manifestTextsRow.laid W) (hsh : W.ShapedOpen Tryz.prog) :
    Calls Tryz.prog 4 args W fun e W' => ∃ v, e = .returned v ∧ Rows.manifestTextsSpec.post enc Tryz.prog Tryz.f4 false true false false W args v W' := by
  have hval : ∀ (j : Nat) t v, Tryz.f4.params[j]? = some t → args[j]? = some v → Value.okWide Tryz.prog W .any base t v := hval0
  have hW' := hW
  obtain ⟨p, q, hA0, hV, rfl, hfz, hnd⟩ := hW
  have hA : DataW.TrodAll enc Tryz.prog W 0 (fun _ => true) true Tryz.f4.params.toList args.toList ds p := hA0
  rw [Tryz.params4] at hA hval
  obtain ⟨v0, vs0, d0, ds0, p0, q0, hargs, rfl, rfl, h0, r0⟩ := trodAll_cons hA
  obtain ⟨rfl, rfl, rfl⟩ := trodAll_nil r0
  obtain rfl : args = #[v0] := by cases args; simp_all
  obtain ⟨rfl, rfl⟩ := trodVars_none hV
  have lt0 : ∀ x ∈ p0, x.block < W.heap.size := by obtain ⟨m, hm⟩ := h0; exact DataW.trod_lt m _ _ _ hm
  refine (manifesttexts_any W base h0 (hval 0 31 v0 rfl rfl) (tabs_of hL) hsh).mono fun e W' ⟨he, bel⟩ => ?_
  subst he
  exact ⟨_, rfl, _, _, _, [], _, [], hW', trodAll_mk1 (shut_bool Tryz.underlying4 _), (trodAll_cons_mk (Below.trod laidOut (by kernel_rfl) (of_decide_eq_true (by kernel_rfl)) h0 bel lt0) trodAll_mk0), rfl, bel.frame _, fun h => by cases h⟩

theorem laid_met (os : Os) : laidMet Tryz.prog Rows.manifestTextsRow.laid ((laidWorld os).forCall (fun _ _ => 0) ⟨#[], #[.agg #[.string ⟨#[]⟩, .string ⟨#[]⟩, .int .i64 0, .slice none 0 0, .slice none 0 0, .slice none 0 0, .slice none 0 0]], []⟩).memory :=
  laidMet_laidAll _ (by kernel_rfl) (by kernel_rfl)
theorem reads (os : Os) {H : Type} (enc : TypeId × Value → H) : ∃ places, DataW.whole enc Tryz.prog ((laidWorld os).forCall (fun _ _ => 0) ⟨#[], #[.agg #[.string ⟨#[]⟩, .string ⟨#[]⟩, .int .i64 0, .slice none 0 0, .slice none 0 0, .slice none 0 0, .slice none 0 0]], []⟩).memory Tryz.f4.params.toList Rows.manifestTextsSpec.vars false (#[.agg #[.string ⟨#[]⟩, .string ⟨#[]⟩, .int .i64 0, .slice none 0 0, .slice none 0 0, .slice none 0 0, .slice none 0 0]] : Array Value).toList 8 = some ([.agg [.lit (.string []), .lit (.string []), .lit (.int .i64 0), .agg [.nil, .nil, .nil, .nil]]], [], places) :=
  ⟨[], by kernel_rfl⟩

set_option maxRecDepth 100000 in
theorem lifted (os : Os) (started : os.Started) (H : Type) (enc : TypeId × Value → H) (F : Stop.Interp) :
    ReturnsInHanded {} Tryz.checked os 4 .any ((OpenSpec.ofChange Rows.manifestTextsSpec).preRow enc Tryz.prog Tryz.f4 Rows.manifestTextsRow.domain false Rows.manifestTextsRow.laid) (((OpenSpec.ofChange Rows.manifestTextsSpec).at F).post enc Tryz.prog Tryz.f4 false true false false) := by
  obtain ⟨places, hx⟩ := reads os enc
  refine returnsInHanded_of_row (C := Tryz.checked) (s := OpenSpec.ofChange Rows.manifestTextsSpec) own started (by kernel_rfl) Tryz.func4
    (witness_row_atRef (enc := enc) (C := Tryz.checked) false (laidWorld os) #[.agg #[.string ⟨#[]⟩, .string ⟨#[]⟩, .int .i64 0, .slice none 0 0, .slice none 0 0, .slice none 0 0, .slice none 0 0]] (World.laidAll_os _ _ _) (by kernel_rfl) (by kernel_rfl) (by kernel_rfl)
      (OpenSpec.preRow_of_cond 8 hx (by kernel_rfl) (fun k hk => by cases hk) (by kernel_rfl) (laid_met os))) ?_
  intro W base args ds gs before hval hW _ _ _ hL hsh _
  exact contract H enc W base args ds gs before hval hW hL hsh

theorem said : Rows.ManifestTextsSaid :=
  OpenClaim.holds_of_cond 4 Tryz.f4 rfl rfl rfl rfl rfl rfl rfl ⟨rfl, rfl, rfl, rfl, rfl⟩ rfl rfl rfl rfl rfl (by kernel_rfl) Tryz.func4 (by kernel_rfl)
    (of_decide_eq_true (by kernel_rfl)) (by unfold Func.isWrapper; first | (rw [if_pos (by decide +kernel)]; kernel_rfl) | (rw [if_neg (by decide +kernel)]; exact ⟨rfl, rfl⟩))
    (fun os started H enc _ F => by rw [OpenClaim.pre_eq_preRow]; exact lifted os started H enc F)

theorem plain (f : FuncId) (fn : Func) (hf : Tryz.pinned.checked.prog.funcNamed "creel/creellaw13.ManifestTexts" = some f) (hfn : Tryz.pinned.checked.prog.funcs[f]? = some fn) :
    false = Tryz.pinned.checked.prog.looks [] ∧ ∀ (j : Nat) t, fn.params[j]? = some t → Tryz.pinned.checked.prog.wantsStandIn t = false := by
  obtain rfl : f = 4 := Option.some.inj ((show Tryz.prog.funcNamed "creel/creellaw13.ManifestTexts" = some 4 by kernel_rfl).symm.trans hf) |>.symm
  obtain rfl : fn = Tryz.f4 := (Option.some.inj (Tryz.func4.symm.trans hfn)).symm
  refine ⟨by kernel_rfl, fun j t ht => ?_⟩
  rw [Tryz.params4] at ht
  have hm := Array.mem_of_getElem? ht
  simp only [List.mem_toArray, List.mem_cons, List.not_mem_nil, or_false] at hm
  rcases hm with rfl
  · exact (show Tryz.prog.wantsStandIn 31 = false by kernel_rfl)

theorem proved : Rows.ManifestTextsCardSaid :=
  Claim7.holds_tied_plain_at .later [] _ _ _ _ said (fun _ h => by cases h) (by kernel_rfl) (fun _ h => by cases h) manifestTexts_row_tie rfl ⟨rfl, rfl⟩ (by kernel_rfl) rfl plain (by kernel_rfl)
end Go.Proofs.YtmgblbkmbiiofaaGreatDoor.manifestTexts
