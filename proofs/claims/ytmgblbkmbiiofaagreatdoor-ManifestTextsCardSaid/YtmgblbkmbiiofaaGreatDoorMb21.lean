/-
  The contract of manifest's Text.
  Whole manifests loaded in regions that draw their order.
  The tables, out of the rows' own condition (manifest).
  ManifestParses at any input.
-/
import Derived.Test.YtmgblbkmbiiofaaGreatDoorMb20
import Derived.Test.YtmgblbkmbiiofaaGreatDoorMb18
import Derived.Test.YtmgblbkmbiiofaaGreatDoorCards
import Derived.Test.YtmgblbkmbiiofaaGreatDoorTie
import Derived.Test.YtmgblbkmbiiofaaGreatDoorMb5
import Derived.Deep.DeepHandedRow
import Derived.Deep.DeepWitnessRowRef
import Derived.Lib.LaidTab
import Derived.Stop.LaidErr
import Derived.Shelf.Vars
import Derived.Test.YtmgblbkmbiiofaaGreatDoorMb2
import Derived.Test.YtmgblbkmbiiofaaGreatDoorMb19
import Derived.ProofKit
import Derived.OpenShut

namespace Go.Proofs.YtmgblbkmbiiofaaGreatDoor
open Go.RowKit
attribute [local go_sem ↓] Go.wp_at_zero Go.wp_at_succ
set_option linter.unusedVariables false

theorem endL_two (L : List Bs) (a b : Bs) : endL L ++ Lib.join [a, b] [32] ++ [10] = endL (L ++ [sp2 a b]) := by rw [join_two, endL_snoc]
theorem endL_three (L : List Bs) (a b c : Bs) : endL L ++ Lib.join [a, b, c] [32] ++ [10] = endL (L ++ [itL a ⟨b, c⟩]) := by rw [join_three, endL_snoc]
def LnPost (bb : Nat) (L : List Bs) (w : World) (e : Ending) (w' : World) : Prop :=
  e = .returned (.tuple #[]) ∧ Bdr w' bb (endL L) ∧ Below bb w w' ∧ Lib.OthersKept 5 (some bb) w w'
theorem line_two (bb gw : Nat) (L : List Bs) (a b : Bs) (w : World) (h : Bdr w bb (endL L)) (hW : Blk w gw 9 #[.string (bsS a), .string (bsS b)]) (hlen : (endL (L ++ [sp2 a b])).length ≤ 1000000) :
    Calls Tryz.prog 28 #[.slice (some ⟨gw, 0, none⟩) 2 2, .pointer (some ⟨bb, 0, none⟩)] w (LnPost bb (L ++ [sp2 a b]) w) :=
  (line_any bb gw (endL L) [a, b] w h hW (by simp) (by rw [← endL_two] at hlen; simp only [List.length_append, List.length_cons, List.length_nil] at hlen; omega)).mono fun e w' ⟨h1, h2, h3, h4⟩ => ⟨h1, by rw [← endL_two]; exact h2, h3, h4⟩
theorem line_three (bb gw : Nat) (L : List Bs) (a b c : Bs) (w : World) (h : Bdr w bb (endL L)) (hW : Blk w gw 9 #[.string (bsS a), .string (bsS b), .string (bsS c)]) (hlen : (endL (L ++ [itL a ⟨b, c⟩])).length ≤ 1000000) :
    Calls Tryz.prog 28 #[.slice (some ⟨gw, 0, none⟩) 3 3, .pointer (some ⟨bb, 0, none⟩)] w (LnPost bb (L ++ [itL a ⟨b, c⟩]) w) :=
  (line_any bb gw (endL L) [a, b, c] w h hW (by simp) (by rw [← endL_three] at hlen; simp only [List.length_append, List.length_cons, List.length_nil] at hlen; omega)).mono fun e w' ⟨h1, h2, h3, h4⟩ => ⟨h1, by rw [← endL_three]; exact h2, h3, h4⟩
def TextPost (w : World) (m : Mf) (e : Ending) (w' : World) : Prop :=
  e = .returned (.tuple #[.string (bsS (if checkM m = 0 then textM m else [])), .int .i64 (checkM m)]) ∧ Below w.heap.size w w'
set_option maxRecDepth 100000 in
set_option maxHeartbeats 32000000 in
theorem text_any (m : Mf) (p s h k : Hd) (w : World) (hE : Em w w.heap.size) (H : MfR w m p s h k) :
    Calls Tryz.prog 11 #[mfV m p s h k] w (TextPost w m) := by
  have HH := Sl.mk H
  have HE := Sl.mk hE
  have HCK := Sl.mk (fun (W : World) (hW : Below w.heap.size w W) => check_any m p s h k W (hE.at_ hW hW.size) (H.be hW))
  unfold CkPost at HCK
  obtain ⟨E, hEE⟩ : ∃ E, checkM m = E := ⟨_, rfl⟩
  rw [hEE] at HCK
  have HEE := Sl.mk hEE
  have HB0 := Sl.mk (below_al (Below.refl w.heap.size w) (.cells (mfC m p s h k).toArray 24))
  have HK0 := Sl.mk (Blk.new w 24 (mfC m p s h k).toArray)
  clear H hE hEE
  obtain ⟨w0, hw0⟩ : ∃ w0, w.alloc (.cells #[.string (bsS m.pkg), .string (bsS m.pub), .int .i64 m.rev, p.v, s.v, h.v, k.v] 24) = w0 := ⟨_, rfl⟩
  have HB := Sl.mk (show Below w.heap.size w w0 by rw [← hw0]; exact HB0.out)
  have HK := Sl.mk (show Blk w0 w.heap.size 24 (mfC m p s h k).toArray by rw [← hw0]; exact HK0.out)
  have hls := fun (W : World) (hW : Blk W w.heap.size 24 (mfC m p s h k).toArray) => show ∀ (j : Nat) v, (mfC m p s h k)[j]? = some v → W.cell? ((⟨w.heap.size, 0, none⟩ : Addr).add j) = some v from fun j v hj => by
    rw [Addr.add_lit, Nat.zero_add, hW.cell j, List.getElem?_toArray]; exact hj
  have hl0 := hls w0 HK.out
  clear HB0 HK0 hls
  unfold mfV
  go_enter Tryz.func11, Tryz.ntmps11
  go_upto_region 1 with fail
  clear hw0
  go_wp2_with (refine ld_mf hl0 rfl (.tmp 1) rfl rfl ?_)
  refine (HCK.out _ HB.out).mono ?_
  rintro e w1 ⟨rfl, hb1⟩
  have HB1 := Sl.mk (HB.out.trans (hb1.mono HB.out.size))
  have HK1 := Sl.mk (HK.out.be hb1)
  clear hb1 hl0
  by_cases h0 : E = 0
  · subst h0
    have HRM := Sl.mk ((check_zero m).1 HEE.out)
    obtain ⟨wB, hwB⟩ : ∃ wB, w1.alloc (.cells #[.pointer none, .slice none 0 0] 72) = wB := ⟨_, rfl⟩
    have HBN := Sl.mk (show Bdr wB w1.heap.size [] by rw [← hwB]; exact builder_new w1)
    have hal := below_al (Below.refl w1.heap.size w1) (.cells #[.pointer none, .slice none 0 0] 72)
    have HBB := Sl.mk (show Below w.heap.size w wB by rw [← hwB]; exact HB1.out.trans (hal.mono HB1.out.size))
    have HKB := Sl.mk (show Blk wB w.heap.size 24 (mfC m p s h k).toArray by rw [← hwB]; exact HK1.out.be hal)
    obtain ⟨bb, hbb⟩ : ∃ bb, w1.heap.size = bb := ⟨_, rfl⟩
    have HLT := Sl.mk (show w.heap.size < bb by rw [← hbb]; exact HK1.out.lt)
    rw [hbb] at HBN
    clear hal
    -- what stands in later worlds
    have HKW := Sl.mk (fun (W : World) (hW : Below bb wB W) => HKB.out.below hW HLT.out)
    have HBW := Sl.mk (fun (W : World) (hW : Below bb wB W) => HBB.out.trans (hW.mono (Nat.le_of_lt HLT.out)))
    go_upto_region 6 with fail
    clear hwB
    have q0 : wB.cell? ⟨w.heap.size, 0, none⟩ = some (.string (bsS m.pkg)) := HKB.out.cell 0
    have HLH := Sl.mk (head_lens HRM.out)
    go_wp2_with fail
    refine (line_two bb _ [] hw0 m.pkg _ (HBN.out.be (below_al (Below.refl _ _) _)) ?_ (by have := HLH.out; simp [endL]; omega)).mono ?_
    · exact Blk.new' (by simp)
    rintro e wc1 ⟨rfl, hd1, hbl1, _⟩
    have HD1 := Sl.mk hd1
    have HL1 := Sl.mk (show Below bb wB wc1 from ((below_al (Below.refl wB.heap.size wB) _).mono (Nat.le_of_lt HBN.out.lt)).trans hbl1)
    have q1 : wc1.cell? ⟨w.heap.size, 1, none⟩ = some (.string (bsS m.pub)) := (HKW.out wc1 HL1.out).cell 1
    clear hd1 hbl1 q0
    go_wp2_with fail
    refine (line_two bb _ ([] ++ [sp2 hw0 m.pkg]) hw1 m.pub _ (HD1.out.be (below_al (Below.refl _ _) _)) ?_ (by have := HLH.out; simp [endL]; omega)).mono ?_
    · exact Blk.new' (by simp)
    rintro e wc2 ⟨rfl, hd2, hbl2, _⟩
    have HD2 := Sl.mk hd2
    have HL2 := Sl.mk (show Below bb wB wc2 from HL1.out.trans (((below_al (Below.refl wc1.heap.size wc1) _).mono (Nat.le_of_lt HD1.out.lt)).trans hbl2))
    have q2 : wc2.cell? ⟨w.heap.size, 2, none⟩ = some (.int .i64 m.rev) := (HKW.out wc2 HL2.out).cell 2
    clear hd2 hbl2 q1
    obtain ⟨nv, hnv, hnv2, _⟩ := HRM.out.rev
    have HIT := Sl.mk (itoa_any m.rev wc2 (by omega) (by omega) (HE.out.at_ (HBW.out wc2 HL2.out) (HBW.out wc2 HL2.out).size))
    clear hnv hnv2
    go_wp2_with fail
    refine HIT.out.mono ?_
    rintro e wi ⟨rfl, hbi⟩
    have HDi := Sl.mk (HD2.out.be hbi)
    have HLi := Sl.mk (show Below bb wB wi from HL2.out.trans (hbi.mono (Nat.le_of_lt HD2.out.lt)))
    clear hbi q2
    go_wp2_with fail
    refine (line_two bb _ ([] ++ [sp2 hw0 m.pkg] ++ [sp2 hw1 m.pub]) hw2 (Lib.itoa m.rev) _ (HDi.out.be (below_al (Below.refl _ _) _)) ?_ (by have := HLH.out; simp [endL]; omega)).mono ?_
    · exact Blk.new' (by simp)
    rintro e wc3 ⟨rfl, hd3, hbl3, _⟩
    have HD3 := Sl.mk (show Bdr wc3 bb (endL (rowsT m 0 0)) by rw [rowsT_zero]; exact hd3)
    have HL3 := Sl.mk (show Below bb wB wc3 from HLi.out.trans (((below_al (Below.refl wi.heap.size wi) _).mono (Nat.le_of_lt HDi.out.lt)).trans hbl3))
    clear hd3 hbl3
    go_wp2_with fail
    refine (lists_blk w.heap.size 0 wc3).mono ?_
    rintro e wl ⟨rfl, hbl, hkl⟩
    have HDl := Sl.mk (HD3.out.be hbl)
    have HLl := Sl.mk (show Below bb wB wl from HL3.out.trans (hbl.mono (Nat.le_of_lt HD3.out.lt)))
    have HKl := Sl.mk hkl
    have HGL := Sl.mk (show bb < wc3.heap.size from HD3.out.lt)
    clear hbl hkl
    go_wp2_with fail
    go_loopg [35] 4 (fun q v35 wr => ∃ i : Nat, q = 4 - i ∧ i ≤ 4 ∧ v35 = .int .i64 i ∧ Sl (Bdr wr bb (endL (rowsT m i 0))) ∧ Sl (Below bb wB wr) ∧ Sl (Blk wr wc3.heap.size 85 (listsC w.heap.size 0).toArray))
    case atStart => exact ⟨0, rfl, by omega, rfl, HDl, HLl, HKl⟩
    case round =>
      obtain ⟨i, hq, hi, rfl, HDr, HLr, HKr⟩ := hrel
      obtain ⟨wo, hwo⟩ : ∃ wo, wo = wr := ⟨_, rfl⟩
      subst hwo
      match i, hi with
      | 0, _ =>
        have hld : ∀ (j : Nat) v, ([.string (bsS wPlug), .pointer (some ⟨w.heap.size, 3, none⟩), .func (.func 63) #[] #[], .bool true] : List Value)[j]? = some v → wo.cell? ((⟨wc3.heap.size, 0, none⟩ : Addr).add j) = some v := fun j v hj => by
          rw [Addr.add_lit, HKr.out.cell (0 + j), List.getElem?_toArray]
          exact listC_at (b := w.heap.size) (o := 0) (k := 0) hj
        obtain ⟨A, n, c, hhd⟩ : ∃ A n c, p = ⟨A, n, c⟩ := ⟨_, _, _, rfl⟩
        have HHD := Sl.mk hhd
        have hn := HH.out.pl.1
        rw [hhd] at hn
        have hn' : n ≤ 1000000 := hn
        clear hhd hn
        have HIt := Sl.mk (fun (W : World) (hW : Below bb wB W) => show Its W A n m.p by
          have h1 := (HH.out.be (HBW.out W hW)).ip
          rw [HHD.out] at h1
          exact h1)
        have HCl := Sl.mk (fun (W : World) (hW : Below bb wB W) => show W.cell? ⟨w.heap.size, 3, none⟩ = some (.slice A n c) by
          have h1 := (HKW.out W hW).cell 3
          exact h1.trans (show some p.v = _ by rw [HHD.out]; rfl))
        go_wp2_with (first
          | (refine ld_l rfl hld rfl (.tmp 37) rfl rfl ?_)
          | (refine wpList_store_fresh rfl 85 (.tmp 8) (.tmp 38) rfl 85 [.string ⟨#[]⟩, .pointer none, .nilFunc, .bool false] [.string (bsS wPlug), .pointer (some ⟨w.heap.size, 3, none⟩), .func (.func 63) #[] #[], .bool true] _ rfl rfl rfl rfl (by rw [lSize]; rfl) (list_one _ _ _ _) ?_; intro w5 hB5 hb5 hs5; have HLB := Sl.mk (show Blk w5 wo.heap.size 85 ([.string (bsS wPlug), .pointer (some ⟨w.heap.size, 3, none⟩), .func (.func 63) #[] #[], .bool true] : List Value).toArray from hB5); have HD5 := Sl.mk (HDr.out.be hb5); have HL5 := Sl.mk (HLr.out.trans (hb5.mono (Nat.le_of_lt HDr.out.lt))); have HK5 := Sl.mk (HKr.out.be hb5); have d1 := hB5.cell 1; have d2 := HCl.out w5 HL5.out; clear hB5 hb5 hs5))
        go_loopg [44] n (fun q v44 wx => ∃ j : Nat, q = n - j ∧ j ≤ n ∧ v44 = .int .i64 j ∧ Sl (Bdr wx bb (endL (rowsT m 0 j))) ∧ Sl (Below bb wB wx) ∧ Sl (Blk wx wc3.heap.size 85 (listsC w.heap.size 0).toArray) ∧ Sl (Blk wx wo.heap.size 85 ([.string (bsS wPlug), .pointer (some ⟨w.heap.size, 3, none⟩), .func (.func 63) #[] #[], .bool true] : List Value).toArray))
        case atStart => exact ⟨0, rfl, Nat.zero_le _, rfl, HD5, HL5, HK5, HLB⟩
        case round =>
          obtain ⟨j, hqj, hj, rfl, HDx, HLx, HKx, HBx⟩ := hrel
          by_cases hlt : j < n
          · obtain ⟨x, hx⟩ : ∃ x, m.p[j]? = some x := ⟨_, List.getElem?_eq_getElem (by rw [(HIt.out _ HLx.out).n_]; exact hlt)⟩
            obtain ⟨ab, ao, rfl, hbl, hldx, _, _⟩ := (HIt.out wr HLx.out).lit hx
            have HRN := Sl.mk (rowsT_next (m := m) (k := 0) (j := j) hx)
            have HLEN := Sl.mk (rowsT_len HRM.out (k := 0) (j := j + 1) (by omega) (by omega))
            obtain ⟨xa, xb⟩ := x
            have hwa := below_al (Below.refl wr.heap.size wr) (.cells #[.string (bsS xa), .string (bsS xb)] 47)
            have hlb0 : (wr.alloc (.cells #[.string (bsS xa), .string (bsS xb)] 47)).cell? ⟨wo.heap.size, 0, none⟩ = some (.string (bsS wPlug)) := (HBx.out.be hwa).cell 0
            have HWA := Sl.mk hwa
            clear hx hwa
            go_wp2_with (refine ld_m hldx rfl (.tmp 46) rfl rfl ?_)
            refine (line_three bb _ (rowsT m 0 j) wPlug xa xb _ (HDx.out.be (below_al HWA.out _)) ?_ (by have h1 := HLEN.out; rw [HRN.out] at h1; exact Nat.le_trans h1 (by decide))).mono ?_
            · exact Blk.new' (by simp)
            rintro e wy ⟨rfl, hdy, hly, hky⟩
            have HDy := Sl.mk (show Bdr wy bb (endL (rowsT m 0 (j + 1))) by rw [HRN.out]; exact hdy)
            have HLy := Sl.mk (HLx.out.trans (((below_al HWA.out _).mono (Nat.le_of_lt HDx.out.lt)).trans hly))
            have HKy := Sl.mk (blk_others hky (HKx.out.be (below_al HWA.out _)) (by have h1 := HGL.out; omega) (by decide))
            have HBy := Sl.mk (blk_others hky (HBx.out.be (below_al HWA.out _)) (by have h1 := HDr.out.lt; omega) (by decide))
            clear hdy hly hky hlb0 hldx
            go_wp2_with fail
            go_roundg (n - (j + 1))
            case measure => omega
            case rel => exact ⟨j + 1, rfl, by omega, by go_num, HDy, HLy, HKy, HBy⟩
          · obtain rfl : j = n := by omega
            have HDz := Sl.mk (show Bdr wr bb (endL (rowsT m 1 0)) by
              rw [rowsT_list]
              have h1 := (HIt.out wr HLx.out).n_
              show Bdr wr bb (endL (rowsT m 0 m.p.length))
              rw [h1]
              exact HDx.out)
            go_wp2_with fail
            go_roundg 3
            case measure => omega
            case rel => exact ⟨1, rfl, by omega, by go_num, HDz, HLx, HKx⟩
      | 1, _ =>
        have hld : ∀ (j : Nat) v, ([.string (bsS wSlot), .pointer (some ⟨w.heap.size, 4, none⟩), .func (.func 63) #[] #[], .bool true] : List Value)[j]? = some v → wo.cell? ((⟨wc3.heap.size, 4, none⟩ : Addr).add j) = some v := fun j v hj => by
          rw [Addr.add_lit, HKr.out.cell (4 + j), List.getElem?_toArray]
          exact listC_at (b := w.heap.size) (o := 0) (k := 1) hj
        obtain ⟨A, n, c, hhd⟩ : ∃ A n c, s = ⟨A, n, c⟩ := ⟨_, _, _, rfl⟩
        have HHD := Sl.mk hhd
        have hn := HH.out.sl.1
        rw [hhd] at hn
        have hn' : n ≤ 1000000 := hn
        clear hhd hn
        have HIt := Sl.mk (fun (W : World) (hW : Below bb wB W) => show Its W A n m.s by
          have h1 := (HH.out.be (HBW.out W hW)).iq
          rw [HHD.out] at h1
          exact h1)
        have HCl := Sl.mk (fun (W : World) (hW : Below bb wB W) => show W.cell? ⟨w.heap.size, 4, none⟩ = some (.slice A n c) by
          have h1 := (HKW.out W hW).cell 4
          exact h1.trans (show some s.v = _ by rw [HHD.out]; rfl))
        go_wp2_with (first
          | (refine ld_l rfl hld rfl (.tmp 37) rfl rfl ?_)
          | (refine wpList_store_fresh rfl 85 (.tmp 8) (.tmp 38) rfl 85 [.string ⟨#[]⟩, .pointer none, .nilFunc, .bool false] [.string (bsS wSlot), .pointer (some ⟨w.heap.size, 4, none⟩), .func (.func 63) #[] #[], .bool true] _ rfl rfl rfl rfl (by rw [lSize]; rfl) (list_one _ _ _ _) ?_; intro w5 hB5 hb5 hs5; have HLB := Sl.mk (show Blk w5 wo.heap.size 85 ([.string (bsS wSlot), .pointer (some ⟨w.heap.size, 4, none⟩), .func (.func 63) #[] #[], .bool true] : List Value).toArray from hB5); have HD5 := Sl.mk (HDr.out.be hb5); have HL5 := Sl.mk (HLr.out.trans (hb5.mono (Nat.le_of_lt HDr.out.lt))); have HK5 := Sl.mk (HKr.out.be hb5); have d1 := hB5.cell 1; have d2 := HCl.out w5 HL5.out; clear hB5 hb5 hs5))
        go_loopg [44] n (fun q v44 wx => ∃ j : Nat, q = n - j ∧ j ≤ n ∧ v44 = .int .i64 j ∧ Sl (Bdr wx bb (endL (rowsT m 1 j))) ∧ Sl (Below bb wB wx) ∧ Sl (Blk wx wc3.heap.size 85 (listsC w.heap.size 0).toArray) ∧ Sl (Blk wx wo.heap.size 85 ([.string (bsS wSlot), .pointer (some ⟨w.heap.size, 4, none⟩), .func (.func 63) #[] #[], .bool true] : List Value).toArray))
        case atStart => exact ⟨0, rfl, Nat.zero_le _, rfl, HD5, HL5, HK5, HLB⟩
        case round =>
          obtain ⟨j, hqj, hj, rfl, HDx, HLx, HKx, HBx⟩ := hrel
          by_cases hlt : j < n
          · obtain ⟨x, hx⟩ : ∃ x, m.s[j]? = some x := ⟨_, List.getElem?_eq_getElem (by rw [(HIt.out _ HLx.out).n_]; exact hlt)⟩
            obtain ⟨ab, ao, rfl, hbl, hldx, _, _⟩ := (HIt.out wr HLx.out).lit hx
            have HRN := Sl.mk (rowsT_next (m := m) (k := 1) (j := j) hx)
            have HLEN := Sl.mk (rowsT_len HRM.out (k := 1) (j := j + 1) (by omega) (by omega))
            obtain ⟨xa, xb⟩ := x
            have hwa := below_al (Below.refl wr.heap.size wr) (.cells #[.string (bsS xa), .string (bsS xb)] 47)
            have hlb0 : (wr.alloc (.cells #[.string (bsS xa), .string (bsS xb)] 47)).cell? ⟨wo.heap.size, 0, none⟩ = some (.string (bsS wSlot)) := (HBx.out.be hwa).cell 0
            have HWA := Sl.mk hwa
            clear hx hwa
            go_wp2_with (refine ld_m hldx rfl (.tmp 46) rfl rfl ?_)
            refine (line_three bb _ (rowsT m 1 j) wSlot xa xb _ (HDx.out.be (below_al HWA.out _)) ?_ (by have h1 := HLEN.out; rw [HRN.out] at h1; exact Nat.le_trans h1 (by decide))).mono ?_
            · exact Blk.new' (by simp)
            rintro e wy ⟨rfl, hdy, hly, hky⟩
            have HDy := Sl.mk (show Bdr wy bb (endL (rowsT m 1 (j + 1))) by rw [HRN.out]; exact hdy)
            have HLy := Sl.mk (HLx.out.trans (((below_al HWA.out _).mono (Nat.le_of_lt HDx.out.lt)).trans hly))
            have HKy := Sl.mk (blk_others hky (HKx.out.be (below_al HWA.out _)) (by have h1 := HGL.out; omega) (by decide))
            have HBy := Sl.mk (blk_others hky (HBx.out.be (below_al HWA.out _)) (by have h1 := HDr.out.lt; omega) (by decide))
            clear hdy hly hky hlb0 hldx
            go_wp2_with fail
            go_roundg (n - (j + 1))
            case measure => omega
            case rel => exact ⟨j + 1, rfl, by omega, by go_num, HDy, HLy, HKy, HBy⟩
          · obtain rfl : j = n := by omega
            have HDz := Sl.mk (show Bdr wr bb (endL (rowsT m 2 0)) by
              rw [rowsT_list]
              have h1 := (HIt.out wr HLx.out).n_
              show Bdr wr bb (endL (rowsT m 1 m.s.length))
              rw [h1]
              exact HDx.out)
            go_wp2_with fail
            go_roundg 2
            case measure => omega
            case rel => exact ⟨2, rfl, by omega, by go_num, HDz, HLx, HKx⟩
      | 2, _ =>
        have hld : ∀ (j : Nat) v, ([.string (bsS wHook), .pointer (some ⟨w.heap.size, 5, none⟩), .func (.func 64) #[] #[], .bool true] : List Value)[j]? = some v → wo.cell? ((⟨wc3.heap.size, 8, none⟩ : Addr).add j) = some v := fun j v hj => by
          rw [Addr.add_lit, HKr.out.cell (8 + j), List.getElem?_toArray]
          exact listC_at (b := w.heap.size) (o := 0) (k := 2) hj
        obtain ⟨A, n, c, hhd⟩ : ∃ A n c, h = ⟨A, n, c⟩ := ⟨_, _, _, rfl⟩
        have HHD := Sl.mk hhd
        have hn := HH.out.hl.1
        rw [hhd] at hn
        have hn' : n ≤ 1000000 := hn
        clear hhd hn
        have HIt := Sl.mk (fun (W : World) (hW : Below bb wB W) => show Its W A n m.h by
          have h1 := (HH.out.be (HBW.out W hW)).ir
          rw [HHD.out] at h1
          exact h1)
        have HCl := Sl.mk (fun (W : World) (hW : Below bb wB W) => show W.cell? ⟨w.heap.size, 5, none⟩ = some (.slice A n c) by
          have h1 := (HKW.out W hW).cell 5
          exact h1.trans (show some h.v = _ by rw [HHD.out]; rfl))
        go_wp2_with (first
          | (refine ld_l rfl hld rfl (.tmp 37) rfl rfl ?_)
          | (refine wpList_store_fresh rfl 85 (.tmp 8) (.tmp 38) rfl 85 [.string ⟨#[]⟩, .pointer none, .nilFunc, .bool false] [.string (bsS wHook), .pointer (some ⟨w.heap.size, 5, none⟩), .func (.func 64) #[] #[], .bool true] _ rfl rfl rfl rfl (by rw [lSize]; rfl) (list_one _ _ _ _) ?_; intro w5 hB5 hb5 hs5; have HLB := Sl.mk (show Blk w5 wo.heap.size 85 ([.string (bsS wHook), .pointer (some ⟨w.heap.size, 5, none⟩), .func (.func 64) #[] #[], .bool true] : List Value).toArray from hB5); have HD5 := Sl.mk (HDr.out.be hb5); have HL5 := Sl.mk (HLr.out.trans (hb5.mono (Nat.le_of_lt HDr.out.lt))); have HK5 := Sl.mk (HKr.out.be hb5); have d1 := hB5.cell 1; have d2 := HCl.out w5 HL5.out; clear hB5 hb5 hs5))
        go_loopg [44] n (fun q v44 wx => ∃ j : Nat, q = n - j ∧ j ≤ n ∧ v44 = .int .i64 j ∧ Sl (Bdr wx bb (endL (rowsT m 2 j))) ∧ Sl (Below bb wB wx) ∧ Sl (Blk wx wc3.heap.size 85 (listsC w.heap.size 0).toArray) ∧ Sl (Blk wx wo.heap.size 85 ([.string (bsS wHook), .pointer (some ⟨w.heap.size, 5, none⟩), .func (.func 64) #[] #[], .bool true] : List Value).toArray))
        case atStart => exact ⟨0, rfl, Nat.zero_le _, rfl, HD5, HL5, HK5, HLB⟩
        case round =>
          obtain ⟨j, hqj, hj, rfl, HDx, HLx, HKx, HBx⟩ := hrel
          by_cases hlt : j < n
          · obtain ⟨x, hx⟩ : ∃ x, m.h[j]? = some x := ⟨_, List.getElem?_eq_getElem (by rw [(HIt.out _ HLx.out).n_]; exact hlt)⟩
            obtain ⟨ab, ao, rfl, hbl, hldx, _, _⟩ := (HIt.out wr HLx.out).lit hx
            have HRN := Sl.mk (rowsT_next (m := m) (k := 2) (j := j) hx)
            have HLEN := Sl.mk (rowsT_len HRM.out (k := 2) (j := j + 1) (by omega) (by omega))
            obtain ⟨xa, xb⟩ := x
            have hwa := below_al (Below.refl wr.heap.size wr) (.cells #[.string (bsS xa), .string (bsS xb)] 47)
            have hlb0 : (wr.alloc (.cells #[.string (bsS xa), .string (bsS xb)] 47)).cell? ⟨wo.heap.size, 0, none⟩ = some (.string (bsS wHook)) := (HBx.out.be hwa).cell 0
            have HWA := Sl.mk hwa
            clear hx hwa
            go_wp2_with (refine ld_m hldx rfl (.tmp 46) rfl rfl ?_)
            refine (line_three bb _ (rowsT m 2 j) wHook xa xb _ (HDx.out.be (below_al HWA.out _)) ?_ (by have h1 := HLEN.out; rw [HRN.out] at h1; exact Nat.le_trans h1 (by decide))).mono ?_
            · exact Blk.new' (by simp)
            rintro e wy ⟨rfl, hdy, hly, hky⟩
            have HDy := Sl.mk (show Bdr wy bb (endL (rowsT m 2 (j + 1))) by rw [HRN.out]; exact hdy)
            have HLy := Sl.mk (HLx.out.trans (((below_al HWA.out _).mono (Nat.le_of_lt HDx.out.lt)).trans hly))
            have HKy := Sl.mk (blk_others hky (HKx.out.be (below_al HWA.out _)) (by have h1 := HGL.out; omega) (by decide))
            have HBy := Sl.mk (blk_others hky (HBx.out.be (below_al HWA.out _)) (by have h1 := HDr.out.lt; omega) (by decide))
            clear hdy hly hky hlb0 hldx
            go_wp2_with fail
            go_roundg (n - (j + 1))
            case measure => omega
            case rel => exact ⟨j + 1, rfl, by omega, by go_num, HDy, HLy, HKy, HBy⟩
          · obtain rfl : j = n := by omega
            have HDz := Sl.mk (show Bdr wr bb (endL (rowsT m 3 0)) by
              rw [rowsT_list]
              have h1 := (HIt.out wr HLx.out).n_
              show Bdr wr bb (endL (rowsT m 2 m.h.length))
              rw [h1]
              exact HDx.out)
            go_wp2_with fail
            go_roundg 1
            case measure => omega
            case rel => exact ⟨3, rfl, by omega, by go_num, HDz, HLx, HKx⟩
      | 3, _ =>
        have hld : ∀ (j : Nat) v, ([.string (bsS wWant), .pointer (some ⟨w.heap.size, 6, none⟩), .func (.func 65) #[] #[], .bool false] : List Value)[j]? = some v → wo.cell? ((⟨wc3.heap.size, 12, none⟩ : Addr).add j) = some v := fun j v hj => by
          rw [Addr.add_lit, HKr.out.cell (12 + j), List.getElem?_toArray]
          exact listC_at (b := w.heap.size) (o := 0) (k := 3) hj
        obtain ⟨A, n, c, hhd⟩ : ∃ A n c, k = ⟨A, n, c⟩ := ⟨_, _, _, rfl⟩
        have HHD := Sl.mk hhd
        have hn := HH.out.wl.1
        rw [hhd] at hn
        have hn' : n ≤ 1000000 := hn
        clear hhd hn
        have HIt := Sl.mk (fun (W : World) (hW : Below bb wB W) => show Its W A n m.w by
          have h1 := (HH.out.be (HBW.out W hW)).iw
          rw [HHD.out] at h1
          exact h1)
        have HCl := Sl.mk (fun (W : World) (hW : Below bb wB W) => show W.cell? ⟨w.heap.size, 6, none⟩ = some (.slice A n c) by
          have h1 := (HKW.out W hW).cell 6
          exact h1.trans (show some k.v = _ by rw [HHD.out]; rfl))
        go_wp2_with (first
          | (refine ld_l rfl hld rfl (.tmp 37) rfl rfl ?_)
          | (refine wpList_store_fresh rfl 85 (.tmp 8) (.tmp 38) rfl 85 [.string ⟨#[]⟩, .pointer none, .nilFunc, .bool false] [.string (bsS wWant), .pointer (some ⟨w.heap.size, 6, none⟩), .func (.func 65) #[] #[], .bool false] _ rfl rfl rfl rfl (by rw [lSize]; rfl) (list_one _ _ _ _) ?_; intro w5 hB5 hb5 hs5; have HLB := Sl.mk (show Blk w5 wo.heap.size 85 ([.string (bsS wWant), .pointer (some ⟨w.heap.size, 6, none⟩), .func (.func 65) #[] #[], .bool false] : List Value).toArray from hB5); have HD5 := Sl.mk (HDr.out.be hb5); have HL5 := Sl.mk (HLr.out.trans (hb5.mono (Nat.le_of_lt HDr.out.lt))); have HK5 := Sl.mk (HKr.out.be hb5); have d1 := hB5.cell 1; have d2 := HCl.out w5 HL5.out; clear hB5 hb5 hs5))
        go_loopg [44] n (fun q v44 wx => ∃ j : Nat, q = n - j ∧ j ≤ n ∧ v44 = .int .i64 j ∧ Sl (Bdr wx bb (endL (rowsT m 3 j))) ∧ Sl (Below bb wB wx) ∧ Sl (Blk wx wc3.heap.size 85 (listsC w.heap.size 0).toArray) ∧ Sl (Blk wx wo.heap.size 85 ([.string (bsS wWant), .pointer (some ⟨w.heap.size, 6, none⟩), .func (.func 65) #[] #[], .bool false] : List Value).toArray))
        case atStart => exact ⟨0, rfl, Nat.zero_le _, rfl, HD5, HL5, HK5, HLB⟩
        case round =>
          obtain ⟨j, hqj, hj, rfl, HDx, HLx, HKx, HBx⟩ := hrel
          by_cases hlt : j < n
          · obtain ⟨x, hx⟩ : ∃ x, m.w[j]? = some x := ⟨_, List.getElem?_eq_getElem (by rw [(HIt.out _ HLx.out).n_]; exact hlt)⟩
            obtain ⟨ab, ao, rfl, hbl, hldx, _, _⟩ := (HIt.out wr HLx.out).lit hx
            have HRN := Sl.mk (rowsT_next (m := m) (k := 3) (j := j) hx)
            have HLEN := Sl.mk (rowsT_len HRM.out (k := 3) (j := j + 1) (by omega) (by omega))
            obtain ⟨xa, xb⟩ := x
            have hwa := below_al (Below.refl wr.heap.size wr) (.cells #[.string (bsS xa), .string (bsS xb)] 47)
            have hlb0 : (wr.alloc (.cells #[.string (bsS xa), .string (bsS xb)] 47)).cell? ⟨wo.heap.size, 0, none⟩ = some (.string (bsS wWant)) := (HBx.out.be hwa).cell 0
            have HWA := Sl.mk hwa
            clear hx hwa
            go_wp2_with (refine ld_m hldx rfl (.tmp 46) rfl rfl ?_)
            refine (line_three bb _ (rowsT m 3 j) wWant xa xb _ (HDx.out.be (below_al HWA.out _)) ?_ (by have h1 := HLEN.out; rw [HRN.out] at h1; exact Nat.le_trans h1 (by decide))).mono ?_
            · exact Blk.new' (by simp)
            rintro e wy ⟨rfl, hdy, hly, hky⟩
            have HDy := Sl.mk (show Bdr wy bb (endL (rowsT m 3 (j + 1))) by rw [HRN.out]; exact hdy)
            have HLy := Sl.mk (HLx.out.trans (((below_al HWA.out _).mono (Nat.le_of_lt HDx.out.lt)).trans hly))
            have HKy := Sl.mk (blk_others hky (HKx.out.be (below_al HWA.out _)) (by have h1 := HGL.out; omega) (by decide))
            have HBy := Sl.mk (blk_others hky (HBx.out.be (below_al HWA.out _)) (by have h1 := HDr.out.lt; omega) (by decide))
            clear hdy hly hky hlb0 hldx
            go_wp2_with fail
            go_roundg (n - (j + 1))
            case measure => omega
            case rel => exact ⟨j + 1, rfl, by omega, by go_num, HDy, HLy, HKy, HBy⟩
          · obtain rfl : j = n := by omega
            have HDz := Sl.mk (show Bdr wr bb (endL (rowsT m 4 0)) by
              rw [rowsT_list]
              have h1 := (HIt.out wr HLx.out).n_
              show Bdr wr bb (endL (rowsT m 3 m.w.length))
              rw [h1]
              exact HDx.out)
            go_wp2_with fail
            go_roundg 0
            case measure => omega
            case rel => exact ⟨4, rfl, by omega, by go_num, HDz, HLx, HKx⟩
      | 4, _ =>
        have HBS := Sl.mk (bstring_any bb bb (endL (rowsT m 4 0)) wo HDr.out (Nat.le_of_lt HDr.out.lt))
        go_wp2_with fail
        refine HBS.out.mono ?_
        rintro e wz ⟨rfl, hbz⟩
        have HBZ := Sl.mk (show Below w.heap.size w wz from (HBW.out wo HLr.out).trans (hbz.mono (Nat.le_of_lt HLT.out)))
        clear hbz
        go_wp2_with fail
        go_ret2
        exact ⟨by rw [HEE.out, if_pos rfl]; unfold textM; rw [← rowsT_end]; rfl, HBZ.out⟩
  · have hE0' : (E != 0) = true := by simpa using h0
    go_wp2_with fail
    go_ret2
    exact ⟨by rw [HEE.out, if_neg h0]; rfl, HB1.out⟩
end Go.Proofs.YtmgblbkmbiiofaaGreatDoor

namespace Go.Proofs.YtmgblbkmbiiofaaGreatDoor
open Go.RowKit
attribute [local go_sem ↓] Go.wp_at_zero Go.wp_at_succ
set_option linter.unusedVariables false

/-- The one operation that is ready, its guard true. -/
theorem wpAnyX_oneGM {P : Program} {md : Region.Mode} {l : List Oper} {S : World → Prop} {Q : Exit → Act → World → Prop} {X : List Nat} {k f : Nat} {s : Array Bool} {o : Oper} {a : Act} {w : World} (ho : l[k]? = some o) (hr : Region.ready md l.toArray s = [k])
    (hg : Region.wanted o (yielded l.toArray a.tmps) = true)
    (h : o.wp P a w (fun a' w' => (X.contains k = false → S w') ∧ wpAnyX P md l.toArray Q S X f (s.setIfInBounds k true) a' w') Q) : wpAnyX P md l.toArray Q S X (f + 1) s a w := by
  refine ⟨fun h0 => (by rw [hr] at h0; cases h0), ?_⟩
  rw [hr]
  intro i hi
  obtain rfl : i = k := by simpa using hi
  have hi' : l.toArray[i]? = some o := by simpa using ho
  unfold wpOp
  simp only [hi', hg, if_true]
  exact .inl h
theorem yieldsIf_loadM {P : Program} {ops : Array Oper} {S : World → Prop} {o : Oper} {a : Act} {v : Value} (hw : Region.wanted o (yielded ops a.tmps) = true) (ty : TypeId) (x : Operand) (ho : o.op = .load ty x) (ad : Addr) (u : Value) (hx : a.eval x = .pointer (some ad))
    (hL : ∀ w, S w → (loadVar ty ad).run P w = .ok u w) (hv : v = u := by rfl) : YieldsIf P ops S o v a := by
  subst hv
  exact .inl ⟨hw, fun w hS => by unfold execOp; simp only [ho, hx, Instr.loadAt, Instr.sureAddr, Sem.run_bind, Sem.run_pure, Result.andThen_ok, hL w hS]⟩
theorem run_loadP {W : World} {g : Nat} {m : Mf} {p s h k : Hd} (hB : Blk W g 24 (mfC m p s h k).toArray) : (loadVar 24 ⟨g, 0, none⟩).run Tryz.prog W = .ok (mfV m p s h k) W :=
  run_loadVar_at W ⟨g, 0, none⟩ 24 (mfC m p s h k) _ (fun j v hv => by rw [Addr.add_lit, Nat.zero_add, hB.cell j, List.getElem?_toArray]; exact hv) Tryz.underlying24 rfl (by rw [mfSize]; rfl)
theorem run_loadR {W : World} {g : Nat} {m : Mf} {p s h k : Hd} (hB : Blk W g 31 (mfC m p s h k).toArray) : (loadVar 31 ⟨g, 0, none⟩).run Tryz.prog W = .ok (mfV m p s h k) W :=
  run_loadVar_at W ⟨g, 0, none⟩ 31 (mfC m p s h k) _ (fun j v hv => by rw [Addr.add_lit, Nat.zero_add, hB.cell j, List.getElem?_toArray]; exact hv) Tryz.underlying31 rfl (by rw [rmSize]; rfl)
theorem blk_at {W : World} {g : Nat} {T : TypeId} {l : List Value} (hB : Blk W g T l.toArray) : ∀ (j : Nat) v, l[j]? = some v → W.cell? ((⟨g, 0, none⟩ : Addr).add j) = some v := fun j v hv => by
  rw [Addr.add_lit, Nat.zero_add, hB.cell j, List.getElem?_toArray]; exact hv
/-- Of's rows, as a manifest in memory. -/
theorem of_mfr {w w' : World} {m : Mf} {p s h k : Hd} {hd : Nat → Hd} (H : MfR w m p s h k) (hL : LsR w' w.heap.size m.at hd) : MfR w' m (hd 0) (hd 1) (hd 2) (hd 3) := by
  have hn : ∀ j, j < 4 → (m.at j).length ≤ 1000000 := fun j hj => by
    have h1 := H.its hj
    rw [h1.1.n_]
    exact h1.2
  exact mfr_ofR hL (fun j hj => by rw [← (hL.own j hj).n_]; exact hn j hj) (fun j hj x hx => (H.its hj).1.len x hx) ⟨H.pkg, H.pub⟩
end Go.Proofs.YtmgblbkmbiiofaaGreatDoor

namespace Go.Proofs.YtmgblbkmbiiofaaGreatDoor
open Go.RowKit Go.ChangeShapes Go.WideShapes Go.ChangeAt

theorem gS : Tryz.prog.globalNamed "strings.asciiSpace" = some 2 := by kernel_rfl
theorem gST : (Tryz.prog.globals[2]?).map (·.type) = some 181 := by kernel_rfl
theorem tab_eq : (Rows.laid_strings_asciiSpace : DataW Unit) = Lib.tabData .u8 Lib.asciiSpaceTab := by kernel_rfl
theorem gPT : (Tryz.prog.globals[1]?).map (·.type) = some 177 := by kernel_rfl
theorem pow_eq : (Rows.laid_internal_strconv_uint64pow10 : DataW Unit) = Lib.tabData .u64 Lib.pow10Tab := by kernel_rfl
/-- The two tables lie. -/
def Tb (W : World) : Prop := Lib.TabIs Tryz.prog W "strings.asciiSpace" .u8 Lib.asciiSpaceTab ∧ Lib.TabIs Tryz.prog W "internal/strconv.uint64pow10" .u64 Lib.pow10Tab
theorem tabs_of {rest : List (String × DataW Unit)} {W : World} (h : laidMet Tryz.prog (("math/bits.deBruijn32tab", Rows.laid_math_bits_deBruijn32tab) :: ("math/bits.deBruijn64tab", Rows.laid_math_bits_deBruijn64tab) :: ("internal/strconv.uint64pow10", Rows.laid_internal_strconv_uint64pow10) :: ("unicode/utf8.acceptRanges", Rows.laid_unicode_utf8_acceptRanges) :: ("unicode.White_Space", Rows.laid_unicode_White_Space) :: ("strings.asciiSpace", Rows.laid_strings_asciiSpace) :: rest) W) : Tb W := by
  have h2 := laidMet.tail (laidMet.tail h)
  have h5 := laidMet.tail (laidMet.tail (laidMet.tail h2))
  rw [pow_eq] at h2
  rw [tab_eq] at h5
  exact ⟨Lib.tabIs_of_head (rest := rest) gS gST Tryz.underlying181 Tryz.underlying5 (by kernel_rfl) (by kernel_rfl) h5,
    Lib.tabIs_of_head pwNamed gPT Tryz.underlying177 Tryz.underlying147 (by kernel_rfl) (by kernel_rfl) h2⟩
theorem em_of {W : World} (h : Tb W) (hsh : W.ShapedOpen Tryz.prog) : Em W W.heap.size := by
  obtain ⟨m, hm⟩ : ∃ m : Int, W.cell? ⟨0, 0, none⟩ = some (.int .i64 m) :=
    cell_of_shapedOpen_int (P := Tryz.prog) (g := 0) (t := 3) (zero := #[.int .i64 0]) hsh (of_decide_eq_true (by kernel_rfl)) (by kernel_rfl) rfl (by kernel_rfl) (by kernel_rfl) Tryz.underlying3
  have h3 := h.1.cell gS 0 (by rw [Lib.asciiSpaceTab_length]; decide)
  have h4 := h.2.cell pwNamed 0 (by decide)
  exact ⟨h.1, cell_lt' h3, h.2, cell_lt' h4, ⟨m, hm⟩, cell_lt' hm⟩

end Go.Proofs.YtmgblbkmbiiofaaGreatDoor

namespace Go.Proofs.YtmgblbkmbiiofaaGreatDoor
open Go.ChangeShapes Go.WideShapes Go.ChangeAt Go.RowKit Go.ChangeMaps
attribute [local go_sem ↓] Go.wp_at_zero Go.wp_at_succ
set_option linter.unusedVariables false
set_option linter.unusedSimpArgs false

theorem parse_ok {s : Bs} {m : Mf} {n : Int} (h : parseM s = (m, n, 0)) : checkM m = 0 := by
  unfold parseM at h
  split at h
  · injection h with _ h; injection h with _ h; cases h
  · split at h
    · injection h with _ h; injection h with _ h; cases h
    · split at h
      · injection h with _ h; injection h with _ h; cases h
      · split at h
        · rename_i h4
          injection h with _ h; injection h with _ h
          exact absurd h h4
        · rename_i h4
          injection h with h1 _
          rw [← h1]; simpa using h4
set_option maxRecDepth 100000 in
set_option maxHeartbeats 32000000 in
theorem parses_walk (s : Bs) (w : World) (hs : s.length ≤ 9223372036854775807) (hE : Em w w.heap.size) : Calls Tryz.prog 3 #[.string (bsS s)] w (RPost w true) := by
  have hz := bs_size s
  obtain ⟨k, hk⟩ : ∃ k : Nat, min (s.length : Int) 5000 = k := ⟨(min (s.length : Int) 5000).toNat, by omega⟩
  have hk2 : k ≤ s.length := by omega
  obtain ⟨q, hq⟩ : ∃ q, s.take k = q := ⟨_, rfl⟩
  have hk3 : (bsS s).extract 0 k = bsS q := by rw [bs_cut, List.drop_zero, Nat.sub_zero, hq]
  have hql : q.length ≤ 5000 := by rw [← hq, List.length_take]; omega
  have HP := Sl.mk (parse_m q w (by omega) hE)
  have HR := Sl.mk (fun W => rparseM_any q W (by omega))
  have HE := Sl.mk hE
  have HLAW := Sl.mk (show ∀ m n, parseM q = (m, n, 0) → textM m = q from fun m n h => by
    have h1 := parse_text (s := q) (by rw [h])
    rw [h] at h1
    exact h1.1)
  have HCK := Sl.mk (fun m n (h : parseM q = (m, n, 0)) => parse_ok h)
  obtain ⟨R, hR⟩ : ∃ R, parseM q = R := ⟨_, rfl⟩
  rw [hR] at HP HR HLAW HCK
  obtain ⟨m, n, E⟩ := R
  have HK := Sl.mk (fun (W : World) (hb : Below w.heap.size w W) => known_any W (hE.all hb))
  unfold RPost at HK
  clear hR hE hq
  go_enter Tryz.func3, Tryz.ntmps3
  go_wp2_with fail
  refine HP.out.mono ?_
  rintro e w1 ⟨hb1, p, q1, r, t, rfl, hm⟩
  have HB1 := Sl.mk hb1
  have HM1 := Sl.mk hm
  clear hb1 hm
  go_wp2_with (refine wpList_store_fresh rfl 24 (.tmp 3) (.tmp 19) rfl 24 [.string ⟨#[]⟩, .string ⟨#[]⟩, .int .i64 0, .slice none 0 0, .slice none 0 0, .slice none 0 0, .slice none 0 0] (mfC m p q1 r t) _ rfl rfl rfl rfl (by rw [mfSize]; rfl) (mfC_one _ _ _ _ _) ?_; intro w2 hB2 hb2 hs2; have HB2 := Sl.mk (HB1.out.trans (hb2.mono HB1.out.size)); have HK2 := Sl.mk hB2; have HM2 := Sl.mk (HM1.out.be hb2); clear hB2 hb2 hs2)
  refine (HR.out _).mono ?_
  rintro e w3 ⟨hb3, p2, q2, r2, t2, rfl, hm⟩
  have HB3 := Sl.mk (HB2.out.trans (hb3.mono HB2.out.size))
  have HK3 := Sl.mk (HK2.out.be hb3)
  have HM3 := Sl.mk (HM2.out.be hb3)
  have HN3 := Sl.mk hm
  clear hb3 hm
  go_wp2_with (refine wpList_store_fresh rfl 31 (.tmp 6) (.tmp 25) rfl 31 [.string ⟨#[]⟩, .string ⟨#[]⟩, .int .i64 0, .slice none 0 0, .slice none 0 0, .slice none 0 0, .slice none 0 0] (mfC m p2 q2 r2 t2) _ rfl rfl rfl rfl (by rw [rmSize]; rfl) (mfC_one _ _ _ _ _) ?_; intro w4 hB4 hb4 hs4; have HB4 := Sl.mk (HB3.out.trans (hb4.mono HB3.out.size)); have HK4 := Sl.mk (HK3.out.be hb4); have HJ4 := Sl.mk hB4; have HM4 := Sl.mk (HM3.out.be hb4); have HN4 := Sl.mk (HN3.out.be hb4); clear hB4 hb4 hs4)
  obtain ⟨g1, hg1⟩ : ∃ g, w1.heap.size = g := ⟨_, rfl⟩
  obtain ⟨g2, hg2⟩ : ∃ g, w3.heap.size = g := ⟨_, rfl⟩
  rw [hg1] at HK4 ⊢
  rw [hg2] at HJ4 ⊢
  obtain ⟨wd, hwd⟩ : ∃ wd, w4.drew = wd := ⟨_, rfl⟩
  have HBd := Sl.mk (show Below w.heap.size w wd by rw [← hwd]; exact HB4.out.drew)
  have HKd := Sl.mk (show Blk wd g1 24 (mfC m p q1 r t).toArray by rw [← hwd]; exact HK4.out.drew)
  have HJd := Sl.mk (show Blk wd g2 31 (mfC m p2 q2 r2 t2).toArray by rw [← hwd]; exact HJ4.out.drew)
  have HMd := Sl.mk (show MfR wd m p q1 r t by rw [← hwd]; exact HM4.out.be (Below.refl _ _).drew)
  have HNd := Sl.mk (show MfR wd m p2 q2 r2 t2 by rw [← hwd]; exact HN4.out.be (Below.refl _ _).drew)
  clear hg1 hg2 HB4 HK4 HJ4 HM4 HN4 HB3 HK3 HM3 HN3 HB2 HK2 HM2 HB1 HM1 HP HR
  refine wp_region_X (fun W => Blk W g1 24 (mfC m p q1 r t).toArray ∧ Blk W g2 31 (mfC m p2 q2 r2 t2).toArray) [13, 14] (by kernel_rfl) (by rw [hwd]; exact ⟨HKd.out, HJd.out⟩) (fun hS => ?_)
  rw [hwd] at hS ⊢
  clear hwd
  refine wpAnyX_S (i := 0) (v := ?_) rfl (by kernel_rfl) (by kernel_rfl) (by kernel_rfl) (by kernel_rfl) (fun _ _ _ h => h) (Or.inl ⟨by rfl, ?_⟩) hS ?_
  rotate_left 1
  · (intro w' hw'; (first | rw [hw'] | (have hw2 := HSF.out w' hw'; (try obtain ⟨hw2, hw3⟩ := hw2)) | skip); go_simp; (try with_reducible rfl))
  simp only [Act.put, List.setIfInBounds_toArray, List.set_cons_zero, List.set_cons_succ]
  refine wpAnyX_S (i := 1) (v := ?_) rfl (by kernel_rfl) (by kernel_rfl) (by kernel_rfl) (by kernel_rfl) (fun _ _ _ h => h) (Or.inl ⟨by rfl, ?_⟩) hS ?_
  rotate_left 1
  · (intro w' hw'; (first | rw [hw'] | (have hw2 := HSF.out w' hw'; (try obtain ⟨hw2, hw3⟩ := hw2)) | skip); go_simp; (try with_reducible rfl))
  simp only [Act.put, List.setIfInBounds_toArray, List.set_cons_zero, List.set_cons_succ]
  refine wpAnyX_S (i := 2) (v := ?_) rfl (by kernel_rfl) (by kernel_rfl) (by kernel_rfl) (by kernel_rfl) (fun _ _ _ h => h) (Or.inl ⟨by rfl, ?_⟩) hS ?_
  rotate_left 1
  · (intro w' hw'; (first | rw [hw'] | (have hw2 := HSF.out w' hw'; (try obtain ⟨hw2, hw3⟩ := hw2)) | skip); go_simp; (try with_reducible rfl))
  simp only [Act.put, List.setIfInBounds_toArray, List.set_cons_zero, List.set_cons_succ]
  refine wpAnyX_S (i := 3) (v := ?_) rfl (by kernel_rfl) (by kernel_rfl) (by kernel_rfl) (by kernel_rfl) (fun _ _ _ h => h) (Or.inl ⟨by rfl, ?_⟩) hS ?_
  rotate_left 1
  · (intro w' hw'; (first | rw [hw'] | (have hw2 := HSF.out w' hw'; (try obtain ⟨hw2, hw3⟩ := hw2)) | skip); go_simp; (try with_reducible rfl))
  simp only [Act.put, List.setIfInBounds_toArray, List.set_cons_zero, List.set_cons_succ]
  refine wpAnyX_S (i := 4) (v := ?_) rfl (by kernel_rfl) (by kernel_rfl) (by kernel_rfl) (by kernel_rfl) (fun _ _ _ h => h) (Or.inl ⟨by rfl, ?_⟩) hS ?_
  rotate_left 1
  · (intro w' hw'; (first | rw [hw'] | (have hw2 := HSF.out w' hw'; (try obtain ⟨hw2, hw3⟩ := hw2)) | skip); go_simp; (try with_reducible rfl))
  simp only [Act.put, List.setIfInBounds_toArray, List.set_cons_zero, List.set_cons_succ]
  refine wpAnyX_S (i := 5) (v := ?_) rfl (by kernel_rfl) (by kernel_rfl) (by kernel_rfl) (by kernel_rfl) (fun _ _ _ h => h) (Or.inl ⟨by rfl, ?_⟩) hS ?_
  rotate_left 1
  · (intro w' hw'; (first | rw [hw'] | (have hw2 := HSF.out w' hw'; (try obtain ⟨hw2, hw3⟩ := hw2)) | skip); go_simp; (try with_reducible rfl))
  simp only [Act.put, List.setIfInBounds_toArray, List.set_cons_zero, List.set_cons_succ]
  refine wpAnyX_S (i := 6) (v := ?_) rfl (by kernel_rfl) (by kernel_rfl) (by kernel_rfl) (by kernel_rfl) (fun _ _ _ h => h) (Or.inl ⟨by rfl, ?_⟩) hS ?_
  rotate_left 1
  · (intro w' hw'; (first | rw [hw'] | (have hw2 := HSF.out w' hw'; (try obtain ⟨hw2, hw3⟩ := hw2)) | skip); go_simp; (try with_reducible rfl))
  simp only [Act.put, List.setIfInBounds_toArray, List.set_cons_zero, List.set_cons_succ]
  refine wpAnyX_S (i := 7) (v := ?_) rfl (by kernel_rfl) (by kernel_rfl) (by kernel_rfl) (by kernel_rfl) (fun _ _ _ h => h) (Or.inl ⟨by rfl, ?_⟩) hS ?_
  rotate_left 1
  · (intro w' hw'; (first | rw [hw'] | (have hw2 := HSF.out w' hw'; (try obtain ⟨hw2, hw3⟩ := hw2)) | skip); go_simp; (try with_reducible rfl))
  simp only [Act.put, List.setIfInBounds_toArray, List.set_cons_zero, List.set_cons_succ]
  refine wpAnyX_S (i := 8) (v := ?_) rfl (by kernel_rfl) (by kernel_rfl) (by kernel_rfl) (by kernel_rfl) (fun _ _ _ h => h) (Or.inl ⟨by rfl, ?_⟩) hS ?_
  rotate_left 1
  · (intro w' hw'; (first | rw [hw'] | (have hw2 := HSF.out w' hw'; (try obtain ⟨hw2, hw3⟩ := hw2)) | skip); go_simp; (try with_reducible rfl))
  simp only [Act.put, List.setIfInBounds_toArray, List.set_cons_zero, List.set_cons_succ]
  refine wpAnyX_S (i := 9) (v := mfV m p q1 r t) rfl (by kernel_rfl) (by kernel_rfl) (by kernel_rfl) (by kernel_rfl) (fun _ _ _ h => h) (yieldsIf_loadM (by rfl) 24 (.tmp 3) rfl ⟨g1, 0, none⟩ _ rfl (fun W hW => run_loadP hW.1)) hS ?_
  simp only [Act.put, List.setIfInBounds_toArray, List.set_cons_zero, List.set_cons_succ]
  refine wpAnyX_S (i := 11) (v := mfV m p2 q2 r2 t2) rfl (by kernel_rfl) (by kernel_rfl) (by kernel_rfl) (by kernel_rfl) (fun _ _ _ h => h) (yieldsIf_loadM (by rfl) 31 (.tmp 6) rfl ⟨g2, 0, none⟩ _ rfl (fun W hW => run_loadR hW.2)) hS ?_
  simp only [Act.put, List.setIfInBounds_toArray, List.set_cons_zero, List.set_cons_succ]
  refine wpAnyX_oneGM (k := 10) rfl (by kernel_rfl) (by rfl) ?_
  refine wp_of_callZ (f := 9) (args := #[mfV m p q1 r t]) (by go_simp) (of_any m p q1 r t wd HMd.out) (fun e v1 hq => ?_)
  obtain ⟨x1, hd, rfl, hL⟩ := hq
  refine ⟨_, rfl, fun _ => ⟨hS.1.be x1, hS.2.be x1⟩, ?_⟩
  simp only [Act.put, List.setIfInBounds_toArray, List.set_cons_zero, List.set_cons_succ]
  refine wpAnyX_oneGM (k := 12) rfl (by kernel_rfl) (by rfl) ?_
  refine wp_of_callZ (f := 8) (args := #[mfV m (hd 0) (hd 1) (hd 2) (hd 3), mfV m p2 q2 r2 t2]) (by go_simp) (rsame_any m m _ _ _ _ _ _ _ _ v1 (of_mfr HMd.out hL) (HNd.out.be x1)) (fun e v2 hq => ?_)
  obtain ⟨rfl, x2⟩ := hq
  rw [decide_eq_true rfl]
  refine ⟨_, rfl, fun _ => ⟨(hS.1.be x1).be x2, (hS.2.be x1).be x2⟩, ?_⟩
  simp only [Act.put, List.setIfInBounds_toArray, List.set_cons_zero, List.set_cons_succ]
  have HB5 := Sl.mk (HBd.out.trans ((below_tr x1 x2).mono HBd.out.size))
  have HM5 := Sl.mk ((HMd.out.be x1).be x2)
  have HK5 := Sl.mk ((hS.1.be x1).be x2)
  clear hS x1 x2 hL
  refine wpAnyX_tailF [13, 14] (by kernel_rfl) (by rfl) (by rfl) (by rfl) ?_
  simp only [List.filterMap_cons, List.filterMap_nil, List.getElem?_cons_succ, List.getElem?_cons_zero]
  go_wp2_with fail
  refine NoPanic.normal ?_
  by_cases h0 : E = 0
  · subst h0
    have HT := Sl.mk (text_any m p q1 r t v2 (HE.out.at_ HB5.out HB5.out.size) HM5.out)
    unfold TextPost at HT
    rw [HCK.out m n rfl, if_pos rfl, HLAW.out m n rfl] at HT
    have hl0 := blk_at HK5.out
    go_wp2_with (refine ld_mf hl0 rfl (.tmp 3) rfl rfl ?_)
    refine HT.out.mono ?_
    rintro e w6 ⟨rfl, hb6⟩
    have HB6 := Sl.mk (HB5.out.trans (hb6.mono HB5.out.size))
    clear hb6 hl0
    go_wp2_with fail
    refine (HK.out _ HB6.out).mono ?_
    rintro e w7 ⟨rfl, hb7⟩
    have HB7 := Sl.mk (HB6.out.trans (hb7.mono HB6.out.size))
    clear hb7
    go_wp2_with fail
    go_ret
    exact ⟨ret_bool (by simp), HB7.out⟩
  · have h0' : (E != 0) = true := by simpa using h0
    clear h0
    go_wp2_with fail
    refine (HK.out _ HB5.out).mono ?_
    rintro e w7 ⟨rfl, hb7⟩
    have HB7 := Sl.mk (HB5.out.trans (hb7.mono HB5.out.size))
    clear hb7
    go_wp2_with fail
    go_ret
    exact ⟨rfl, HB7.out⟩
set_option maxRecDepth 100000 in
theorem manifestparses_any {H : Type} {enc : TypeId × Value → H} (W : World) (base : Nat) {v0 : Value} {d0 : DataW H} {p0 : List MemPlace}
    (h0 : DataW.Trod enc Tryz.prog W 0 (fun _ => true) true 9 v0 d0 p0) (o0 : Value.okWide Tryz.prog W .any base 9 v0) (hT : Tb W) (hsh : W.ShapedOpen Tryz.prog) :
    Calls Tryz.prog 3 #[v0] W fun e w' => e = .returned (.bool true) ∧ Below W.heap.size W w' := by
  obtain ⟨s, rfl, -, -, ws⟩ := open_string Tryz.underlying9 o0 h0
  unfold maxLen at ws
  have h := parses_walk s.data.toList W (Nat.le_trans (Nat.le_of_eq Array.length_toList) ws) (em_of hT hsh)
  rw [bs_of] at h
  exact h
end Go.Proofs.YtmgblbkmbiiofaaGreatDoor
