/-
  The contract of manifest's Text.
  Whole manifests loaded in regions that draw their order.
  A manifest that comes in.
-/
import Derived.Test.YtmgblbkmbiiofaaDoorMd19
import Derived.Test.YtmgblbkmbiiofaaDoorMd18
import Derived.Test.YtmgblbkmbiiofaaDoorMd2
import Derived.ProofKit
import Derived.OpenShut
import Derived.Lib.SmallJoins
import Derived.Deep.Slices
import Derived.Shelf.Vars

namespace Go.Proofs.YtmgblbkmbiiofaaDoor
open Go.RowKit
attribute [local go_sem ↓] Go.wp_at_zero Go.wp_at_succ
set_option linter.unusedVariables false

theorem endL_two (L : List Bs) (a b : Bs) : endL L ++ Lib.join [a, b] [32] ++ [10] = endL (L ++ [sp2 a b]) := by rw [join_two, endL_snoc]
theorem endL_three (L : List Bs) (a b c : Bs) : endL L ++ Lib.join [a, b, c] [32] ++ [10] = endL (L ++ [itL a ⟨b, c⟩]) := by rw [join_three, endL_snoc]
def LnPost (bb : Nat) (L : List Bs) (w : World) (e : Ending) (w' : World) : Prop :=
  e = .returned (.tuple #[]) ∧ Bdr w' bb (endL L) ∧ Below bb w w' ∧ Lib.OthersKept 5 (some bb) w w'
theorem line_two (bb gw : Nat) (L : List Bs) (a b : Bs) (w : World) (h : Bdr w bb (endL L)) (hW : Blk w gw 9 #[.string (bsS a), .string (bsS b)]) (hlen : (endL (L ++ [sp2 a b])).length ≤ 1000000) :
    Calls Tryd.prog 12 #[.slice (some ⟨gw, 0, none⟩) 2 2, .pointer (some ⟨bb, 0, none⟩)] w (LnPost bb (L ++ [sp2 a b]) w) :=
  (line_any bb gw (endL L) [a, b] w h hW (by simp) (by rw [← endL_two] at hlen; simp only [List.length_append, List.length_cons, List.length_nil] at hlen; omega)).mono fun e w' ⟨h1, h2, h3, h4⟩ => ⟨h1, by rw [← endL_two]; exact h2, h3, h4⟩
theorem line_three (bb gw : Nat) (L : List Bs) (a b c : Bs) (w : World) (h : Bdr w bb (endL L)) (hW : Blk w gw 9 #[.string (bsS a), .string (bsS b), .string (bsS c)]) (hlen : (endL (L ++ [itL a ⟨b, c⟩])).length ≤ 1000000) :
    Calls Tryd.prog 12 #[.slice (some ⟨gw, 0, none⟩) 3 3, .pointer (some ⟨bb, 0, none⟩)] w (LnPost bb (L ++ [itL a ⟨b, c⟩]) w) :=
  (line_any bb gw (endL L) [a, b, c] w h hW (by simp) (by rw [← endL_three] at hlen; simp only [List.length_append, List.length_cons, List.length_nil] at hlen; omega)).mono fun e w' ⟨h1, h2, h3, h4⟩ => ⟨h1, by rw [← endL_three]; exact h2, h3, h4⟩
def TextPost (w : World) (m : Mf) (e : Ending) (w' : World) : Prop :=
  e = .returned (.tuple #[.string (bsS (if checkM m = 0 then textM m else [])), .int .i64 (checkM m)]) ∧ Below w.heap.size w w'
set_option maxRecDepth 100000 in
set_option maxHeartbeats 32000000 in
theorem text_any (m : Mf) (p s h k : Hd) (w : World) (hE : Em w w.heap.size) (H : MfR w m p s h k) :
    Calls Tryd.prog 5 #[mfV m p s h k] w (TextPost w m) := by
  have HH := Sl.mk H
  have HE := Sl.mk hE
  have HCK := Sl.mk (fun (W : World) (hW : Below w.heap.size w W) => check_any m p s h k W (hE.at_ hW hW.size) (H.be hW))
  unfold CkPost at HCK
  obtain ⟨E, hEE⟩ : ∃ E, checkM m = E := ⟨_, rfl⟩
  rw [hEE] at HCK
  have HEE := Sl.mk hEE
  have HB0 := Sl.mk (below_al (Below.refl w.heap.size w) (.cells (mfC m p s h k).toArray 28))
  have HK0 := Sl.mk (Blk.new w 28 (mfC m p s h k).toArray)
  clear H hE hEE
  obtain ⟨w0, hw0⟩ : ∃ w0, w.alloc (.cells #[.string (bsS m.pkg), .string (bsS m.pub), .int .i64 m.rev, p.v, s.v, h.v, k.v] 28) = w0 := ⟨_, rfl⟩
  have HB := Sl.mk (show Below w.heap.size w w0 by rw [← hw0]; exact HB0.out)
  have HK := Sl.mk (show Blk w0 w.heap.size 28 (mfC m p s h k).toArray by rw [← hw0]; exact HK0.out)
  have hls := fun (W : World) (hW : Blk W w.heap.size 28 (mfC m p s h k).toArray) => show ∀ (j : Nat) v, (mfC m p s h k)[j]? = some v → W.cell? ((⟨w.heap.size, 0, none⟩ : Addr).add j) = some v from fun j v hj => by
    rw [Addr.add_lit, Nat.zero_add, hW.cell j, List.getElem?_toArray]; exact hj
  have hl0 := hls w0 HK.out
  clear HB0 HK0 hls
  unfold mfV
  go_enter Tryd.func5, Tryd.ntmps5
  go_upto_region 1 with fail
  clear hw0
  go_wp2_with (refine ld_mf hl0 rfl (.tmp 1) rfl rfl ?_)
  refine (HCK.out _ HB.out).mono ?_
  rintro e w1 ⟨rfl, hb1⟩
  have HB1 := Sl.mk (HB.out.trans (hb1.mono HB.out.size))
  have HK1 := Sl.mk (HK.out.be hb1)
  clear hb1 hl0
  by_cases h0 : E = 0
  · subst h0
    have HRM := Sl.mk ((check_zero m).1 HEE.out)
    obtain ⟨wB, hwB⟩ : ∃ wB, w1.alloc (.cells #[.pointer none, .slice none 0 0] 45) = wB := ⟨_, rfl⟩
    have HBN := Sl.mk (show Bdr wB w1.heap.size [] by rw [← hwB]; exact builder_new w1)
    have hal := below_al (Below.refl w1.heap.size w1) (.cells #[.pointer none, .slice none 0 0] 45)
    have HBB := Sl.mk (show Below w.heap.size w wB by rw [← hwB]; exact HB1.out.trans (hal.mono HB1.out.size))
    have HKB := Sl.mk (show Blk wB w.heap.size 28 (mfC m p s h k).toArray by rw [← hwB]; exact HK1.out.be hal)
    obtain ⟨bb, hbb⟩ : ∃ bb, w1.heap.size = bb := ⟨_, rfl⟩
    have HLT := Sl.mk (show w.heap.size < bb by rw [← hbb]; exact HK1.out.lt)
    rw [hbb] at HBN
    clear hal
    -- what stands in later worlds
    have HKW := Sl.mk (fun (W : World) (hW : Below bb wB W) => HKB.out.below hW HLT.out)
    have HBW := Sl.mk (fun (W : World) (hW : Below bb wB W) => HBB.out.trans (hW.mono (Nat.le_of_lt HLT.out)))
    go_upto_region 6 with fail
    clear hwB
    have q0 : wB.cell? ⟨w.heap.size, 0, none⟩ = some (.string (bsS m.pkg)) := HKB.out.cell 0
    have HLH := Sl.mk (head_lens HRM.out)
    go_wp2_with fail
    refine (line_two bb _ [] hw0 m.pkg _ (HBN.out.be (below_al (Below.refl _ _) _)) ?_ (by have := HLH.out; simp [endL]; omega)).mono ?_
    · exact Blk.new' (by simp)
    rintro e wc1 ⟨rfl, hd1, hbl1, _⟩
    have HD1 := Sl.mk hd1
    have HL1 := Sl.mk (show Below bb wB wc1 from ((below_al (Below.refl wB.heap.size wB) _).mono (Nat.le_of_lt HBN.out.lt)).trans hbl1)
    have q1 : wc1.cell? ⟨w.heap.size, 1, none⟩ = some (.string (bsS m.pub)) := (HKW.out wc1 HL1.out).cell 1
    clear hd1 hbl1 q0
    go_wp2_with fail
    refine (line_two bb _ ([] ++ [sp2 hw0 m.pkg]) hw1 m.pub _ (HD1.out.be (below_al (Below.refl _ _) _)) ?_ (by have := HLH.out; simp [endL]; omega)).mono ?_
    · exact Blk.new' (by simp)
    rintro e wc2 ⟨rfl, hd2, hbl2, _⟩
    have HD2 := Sl.mk hd2
    have HL2 := Sl.mk (show Below bb wB wc2 from HL1.out.trans (((below_al (Below.refl wc1.heap.size wc1) _).mono (Nat.le_of_lt HD1.out.lt)).trans hbl2))
    have q2 : wc2.cell? ⟨w.heap.size, 2, none⟩ = some (.int .i64 m.rev) := (HKW.out wc2 HL2.out).cell 2
    clear hd2 hbl2 q1
    obtain ⟨nv, hnv, hnv2, _⟩ := HRM.out.rev
    have HIT := Sl.mk (itoa_any m.rev wc2 (by omega) (by omega) (HE.out.at_ (HBW.out wc2 HL2.out) (HBW.out wc2 HL2.out).size))
    clear hnv hnv2
    go_wp2_with fail
    refine HIT.out.mono ?_
    rintro e wi ⟨rfl, hbi⟩
    have HDi := Sl.mk (HD2.out.be hbi)
    have HLi := Sl.mk (show Below bb wB wi from HL2.out.trans (hbi.mono (Nat.le_of_lt HD2.out.lt)))
    clear hbi q2
    go_wp2_with fail
    refine (line_two bb _ ([] ++ [sp2 hw0 m.pkg] ++ [sp2 hw1 m.pub]) hw2 (Lib.itoa m.rev) _ (HDi.out.be (below_al (Below.refl _ _) _)) ?_ (by have := HLH.out; simp [endL]; omega)).mono ?_
    · exact Blk.new' (by simp)
    rintro e wc3 ⟨rfl, hd3, hbl3, _⟩
    have HD3 := Sl.mk (show Bdr wc3 bb (endL (rowsT m 0 0)) by rw [rowsT_zero]; exact hd3)
    have HL3 := Sl.mk (show Below bb wB wc3 from HLi.out.trans (((below_al (Below.refl wi.heap.size wi) _).mono (Nat.le_of_lt HDi.out.lt)).trans hbl3))
    clear hd3 hbl3
    go_wp2_with fail
    refine (lists_blk w.heap.size 0 wc3).mono ?_
    rintro e wl ⟨rfl, hbl, hkl⟩
    have HDl := Sl.mk (HD3.out.be hbl)
    have HLl := Sl.mk (show Below bb wB wl from HL3.out.trans (hbl.mono (Nat.le_of_lt HD3.out.lt)))
    have HKl := Sl.mk hkl
    have HGL := Sl.mk (show bb < wc3.heap.size from HD3.out.lt)
    clear hbl hkl
    go_wp2_with fail
    go_loopg [35] 4 (fun q v35 wr => ∃ i : Nat, q = 4 - i ∧ i ≤ 4 ∧ v35 = .int .i64 i ∧ Sl (Bdr wr bb (endL (rowsT m i 0))) ∧ Sl (Below bb wB wr) ∧ Sl (Blk wr wc3.heap.size 60 (listsC w.heap.size 0).toArray))
    case atStart => exact ⟨0, rfl, by omega, rfl, HDl, HLl, HKl⟩
    case round =>
      obtain ⟨i, hq, hi, rfl, HDr, HLr, HKr⟩ := hrel
      obtain ⟨wo, hwo⟩ : ∃ wo, wo = wr := ⟨_, rfl⟩
      subst hwo
      match i, hi with
      | 0, _ =>
        have hld : ∀ (j : Nat) v, ([.string (bsS wPlug), .pointer (some ⟨w.heap.size, 3, none⟩), .func (.func 30) #[] #[], .bool true] : List Value)[j]? = some v → wo.cell? ((⟨wc3.heap.size, 0, none⟩ : Addr).add j) = some v := fun j v hj => by
          rw [Addr.add_lit, HKr.out.cell (0 + j), List.getElem?_toArray]
          exact listC_at (b := w.heap.size) (o := 0) (k := 0) hj
        obtain ⟨A, n, c, hhd⟩ : ∃ A n c, p = ⟨A, n, c⟩ := ⟨_, _, _, rfl⟩
        have HHD := Sl.mk hhd
        have hn := HH.out.pl.1
        rw [hhd] at hn
        have hn' : n ≤ 1000000 := hn
        clear hhd hn
        have HIt := Sl.mk (fun (W : World) (hW : Below bb wB W) => show Its W A n m.p by
          have h1 := (HH.out.be (HBW.out W hW)).ip
          rw [HHD.out] at h1
          exact h1)
        have HCl := Sl.mk (fun (W : World) (hW : Below bb wB W) => show W.cell? ⟨w.heap.size, 3, none⟩ = some (.slice A n c) by
          have h1 := (HKW.out W hW).cell 3
          exact h1.trans (show some p.v = _ by rw [HHD.out]; rfl))
        go_wp2_with (first
          | (refine ld_l rfl hld rfl (.tmp 37) rfl rfl ?_)
          | (refine wpList_store_fresh rfl 60 (.tmp 8) (.tmp 38) rfl 60 [.string ⟨#[]⟩, .pointer none, .nilFunc, .bool false] [.string (bsS wPlug), .pointer (some ⟨w.heap.size, 3, none⟩), .func (.func 30) #[] #[], .bool true] _ rfl rfl rfl rfl (by rw [lSize]; rfl) (list_one _ _ _ _) ?_; intro w5 hB5 hb5 hs5; have HLB := Sl.mk (show Blk w5 wo.heap.size 60 ([.string (bsS wPlug), .pointer (some ⟨w.heap.size, 3, none⟩), .func (.func 30) #[] #[], .bool true] : List Value).toArray from hB5); have HD5 := Sl.mk (HDr.out.be hb5); have HL5 := Sl.mk (HLr.out.trans (hb5.mono (Nat.le_of_lt HDr.out.lt))); have HK5 := Sl.mk (HKr.out.be hb5); have d1 := hB5.cell 1; have d2 := HCl.out w5 HL5.out; clear hB5 hb5 hs5))
        go_loopg [44] n (fun q v44 wx => ∃ j : Nat, q = n - j ∧ j ≤ n ∧ v44 = .int .i64 j ∧ Sl (Bdr wx bb (endL (rowsT m 0 j))) ∧ Sl (Below bb wB wx) ∧ Sl (Blk wx wc3.heap.size 60 (listsC w.heap.size 0).toArray) ∧ Sl (Blk wx wo.heap.size 60 ([.string (bsS wPlug), .pointer (some ⟨w.heap.size, 3, none⟩), .func (.func 30) #[] #[], .bool true] : List Value).toArray))
        case atStart => exact ⟨0, rfl, Nat.zero_le _, rfl, HD5, HL5, HK5, HLB⟩
        case round =>
          obtain ⟨j, hqj, hj, rfl, HDx, HLx, HKx, HBx⟩ := hrel
          by_cases hlt : j < n
          · obtain ⟨x, hx⟩ : ∃ x, m.p[j]? = some x := ⟨_, List.getElem?_eq_getElem (by rw [(HIt.out _ HLx.out).n_]; exact hlt)⟩
            obtain ⟨ab, ao, rfl, hbl, hldx, _, _⟩ := (HIt.out wr HLx.out).lit hx
            have HRN := Sl.mk (rowsT_next (m := m) (k := 0) (j := j) hx)
            have HLEN := Sl.mk (rowsT_len HRM.out (k := 0) (j := j + 1) (by omega) (by omega))
            obtain ⟨xa, xb⟩ := x
            have hwa := below_al (Below.refl wr.heap.size wr) (.cells #[.string (bsS xa), .string (bsS xb)] 62)
            have hlb0 : (wr.alloc (.cells #[.string (bsS xa), .string (bsS xb)] 62)).cell? ⟨wo.heap.size, 0, none⟩ = some (.string (bsS wPlug)) := (HBx.out.be hwa).cell 0
            have HWA := Sl.mk hwa
            clear hx hwa
            go_wp2_with (refine ld_m hldx rfl (.tmp 46) rfl rfl ?_)
            refine (line_three bb _ (rowsT m 0 j) wPlug xa xb _ (HDx.out.be (below_al HWA.out _)) ?_ (by have h1 := HLEN.out; rw [HRN.out] at h1; exact Nat.le_trans h1 (by decide))).mono ?_
            · exact Blk.new' (by simp)
            rintro e wy ⟨rfl, hdy, hly, hky⟩
            have HDy := Sl.mk (show Bdr wy bb (endL (rowsT m 0 (j + 1))) by rw [HRN.out]; exact hdy)
            have HLy := Sl.mk (HLx.out.trans (((below_al HWA.out _).mono (Nat.le_of_lt HDx.out.lt)).trans hly))
            have HKy := Sl.mk (blk_others hky (HKx.out.be (below_al HWA.out _)) (by have h1 := HGL.out; omega) (by decide))
            have HBy := Sl.mk (blk_others hky (HBx.out.be (below_al HWA.out _)) (by have h1 := HDr.out.lt; omega) (by decide))
            clear hdy hly hky hlb0 hldx
            go_wp2_with fail
            go_roundg (n - (j + 1))
            case measure => omega
            case rel => exact ⟨j + 1, rfl, by omega, by go_num, HDy, HLy, HKy, HBy⟩
          · obtain rfl : j = n := by omega
            have HDz := Sl.mk (show Bdr wr bb (endL (rowsT m 1 0)) by
              rw [rowsT_list]
              have h1 := (HIt.out wr HLx.out).n_
              show Bdr wr bb (endL (rowsT m 0 m.p.length))
              rw [h1]
              exact HDx.out)
            go_wp2_with fail
            go_roundg 3
            case measure => omega
            case rel => exact ⟨1, rfl, by omega, by go_num, HDz, HLx, HKx⟩
      | 1, _ =>
        have hld : ∀ (j : Nat) v, ([.string (bsS wSlot), .pointer (some ⟨w.heap.size, 4, none⟩), .func (.func 30) #[] #[], .bool true] : List Value)[j]? = some v → wo.cell? ((⟨wc3.heap.size, 4, none⟩ : Addr).add j) = some v := fun j v hj => by
          rw [Addr.add_lit, HKr.out.cell (4 + j), List.getElem?_toArray]
          exact listC_at (b := w.heap.size) (o := 0) (k := 1) hj
        obtain ⟨A, n, c, hhd⟩ : ∃ A n c, s = ⟨A, n, c⟩ := ⟨_, _, _, rfl⟩
        have HHD := Sl.mk hhd
        have hn := HH.out.sl.1
        rw [hhd] at hn
        have hn' : n ≤ 1000000 := hn
        clear hhd hn
        have HIt := Sl.mk (fun (W : World) (hW : Below bb wB W) => show Its W A n m.s by
          have h1 := (HH.out.be (HBW.out W hW)).iq
          rw [HHD.out] at h1
          exact h1)
        have HCl := Sl.mk (fun (W : World) (hW : Below bb wB W) => show W.cell? ⟨w.heap.size, 4, none⟩ = some (.slice A n c) by
          have h1 := (HKW.out W hW).cell 4
          exact h1.trans (show some s.v = _ by rw [HHD.out]; rfl))
        go_wp2_with (first
          | (refine ld_l rfl hld rfl (.tmp 37) rfl rfl ?_)
          | (refine wpList_store_fresh rfl 60 (.tmp 8) (.tmp 38) rfl 60 [.string ⟨#[]⟩, .pointer none, .nilFunc, .bool false] [.string (bsS wSlot), .pointer (some ⟨w.heap.size, 4, none⟩), .func (.func 30) #[] #[], .bool true] _ rfl rfl rfl rfl (by rw [lSize]; rfl) (list_one _ _ _ _) ?_; intro w5 hB5 hb5 hs5; have HLB := Sl.mk (show Blk w5 wo.heap.size 60 ([.string (bsS wSlot), .pointer (some ⟨w.heap.size, 4, none⟩), .func (.func 30) #[] #[], .bool true] : List Value).toArray from hB5); have HD5 := Sl.mk (HDr.out.be hb5); have HL5 := Sl.mk (HLr.out.trans (hb5.mono (Nat.le_of_lt HDr.out.lt))); have HK5 := Sl.mk (HKr.out.be hb5); have d1 := hB5.cell 1; have d2 := HCl.out w5 HL5.out; clear hB5 hb5 hs5))
        go_loopg [44] n (fun q v44 wx => ∃ j : Nat, q = n - j ∧ j ≤ n ∧ v44 = .int .i64 j ∧ Sl (Bdr wx bb (endL (rowsT m 1 j))) ∧ Sl (Below bb wB wx) ∧ Sl (Blk wx wc3.heap.size 60 (listsC w.heap.size 0).toArray) ∧ Sl (Blk wx wo.heap.size 60 ([.string (bsS wSlot), .pointer (some ⟨w.heap.size, 4, none⟩), .func (.func 30) #[] #[], .bool true] : List Value).toArray))
        case atStart => exact ⟨0, rfl, Nat.zero_le _, rfl, HD5, HL5, HK5, HLB⟩
        case round =>
          obtain ⟨j, hqj, hj, rfl, HDx, HLx, HKx, HBx⟩ := hrel
          by_cases hlt : j < n
          · obtain ⟨x, hx⟩ : ∃ x, m.s[j]? = some x := ⟨_, List.getElem?_eq_getElem (by rw [(HIt.out _ HLx.out).n_]; exact hlt)⟩
            obtain ⟨ab, ao, rfl, hbl, hldx, _, _⟩ := (HIt.out wr HLx.out).lit hx
            have HRN := Sl.mk (rowsT_next (m := m) (k := 1) (j := j) hx)
            have HLEN := Sl.mk (rowsT_len HRM.out (k := 1) (j := j + 1) (by omega) (by omega))
            obtain ⟨xa, xb⟩ := x
            have hwa := below_al (Below.refl wr.heap.size wr) (.cells #[.string (bsS xa), .string (bsS xb)] 62)
            have hlb0 : (wr.alloc (.cells #[.string (bsS xa), .string (bsS xb)] 62)).cell? ⟨wo.heap.size, 0, none⟩ = some (.string (bsS wSlot)) := (HBx.out.be hwa).cell 0
            have HWA := Sl.mk hwa
            clear hx hwa
            go_wp2_with (refine ld_m hldx rfl (.tmp 46) rfl rfl ?_)
            refine (line_three bb _ (rowsT m 1 j) wSlot xa xb _ (HDx.out.be (below_al HWA.out _)) ?_ (by have h1 := HLEN.out; rw [HRN.out] at h1; exact Nat.le_trans h1 (by decide))).mono ?_
            · exact Blk.new' (by simp)
            rintro e wy ⟨rfl, hdy, hly, hky⟩
            have HDy := Sl.mk (show Bdr wy bb (endL (rowsT m 1 (j + 1))) by rw [HRN.out]; exact hdy)
            have HLy := Sl.mk (HLx.out.trans (((below_al HWA.out _).mono (Nat.le_of_lt HDx.out.lt)).trans hly))
            have HKy := Sl.mk (blk_others hky (HKx.out.be (below_al HWA.out _)) (by have h1 := HGL.out; omega) (by decide))
            have HBy := Sl.mk (blk_others hky (HBx.out.be (below_al HWA.out _)) (by have h1 := HDr.out.lt; omega) (by decide))
            clear hdy hly hky hlb0 hldx
            go_wp2_with fail
            go_roundg (n - (j + 1))
            case measure => omega
            case rel => exact ⟨j + 1, rfl, by omega, by go_num, HDy, HLy, HKy, HBy⟩
          · obtain rfl : j = n := by omega
            have HDz := Sl.mk (show Bdr wr bb (endL (rowsT m 2 0)) by
              rw [rowsT_list]
              have h1 := (HIt.out wr HLx.out).n_
              show Bdr wr bb (endL (rowsT m 1 m.s.length))
              rw [h1]
              exact HDx.out)
            go_wp2_with fail
            go_roundg 2
            case measure => omega
            case rel => exact ⟨2, rfl, by omega, by go_num, HDz, HLx, HKx⟩
      | 2, _ =>
        have hld : ∀ (j : Nat) v, ([.string (bsS wHook), .pointer (some ⟨w.heap.size, 5, none⟩), .func (.func 31) #[] #[], .bool true] : List Value)[j]? = some v → wo.cell? ((⟨wc3.heap.size, 8, none⟩ : Addr).add j) = some v := fun j v hj => by
          rw [Addr.add_lit, HKr.out.cell (8 + j), List.getElem?_toArray]
          exact listC_at (b := w.heap.size) (o := 0) (k := 2) hj
        obtain ⟨A, n, c, hhd⟩ : ∃ A n c, h = ⟨A, n, c⟩ := ⟨_, _, _, rfl⟩
        have HHD := Sl.mk hhd
        have hn := HH.out.hl.1
        rw [hhd] at hn
        have hn' : n ≤ 1000000 := hn
        clear hhd hn
        have HIt := Sl.mk (fun (W : World) (hW : Below bb wB W) => show Its W A n m.h by
          have h1 := (HH.out.be (HBW.out W hW)).ir
          rw [HHD.out] at h1
          exact h1)
        have HCl := Sl.mk (fun (W : World) (hW : Below bb wB W) => show W.cell? ⟨w.heap.size, 5, none⟩ = some (.slice A n c) by
          have h1 := (HKW.out W hW).cell 5
          exact h1.trans (show some h.v = _ by rw [HHD.out]; rfl))
        go_wp2_with (first
          | (refine ld_l rfl hld rfl (.tmp 37) rfl rfl ?_)
          | (refine wpList_store_fresh rfl 60 (.tmp 8) (.tmp 38) rfl 60 [.string ⟨#[]⟩, .pointer none, .nilFunc, .bool false] [.string (bsS wHook), .pointer (some ⟨w.heap.size, 5, none⟩), .func (.func 31) #[] #[], .bool true] _ rfl rfl rfl rfl (by rw [lSize]; rfl) (list_one _ _ _ _) ?_; intro w5 hB5 hb5 hs5; have HLB := Sl.mk (show Blk w5 wo.heap.size 60 ([.string (bsS wHook), .pointer (some ⟨w.heap.size, 5, none⟩), .func (.func 31) #[] #[], .bool true] : List Value).toArray from hB5); have HD5 := Sl.mk (HDr.out.be hb5); have HL5 := Sl.mk (HLr.out.trans (hb5.mono (Nat.le_of_lt HDr.out.lt))); have HK5 := Sl.mk (HKr.out.be hb5); have d1 := hB5.cell 1; have d2 := HCl.out w5 HL5.out; clear hB5 hb5 hs5))
        go_loopg [44] n (fun q v44 wx => ∃ j : Nat, q = n - j ∧ j ≤ n ∧ v44 = .int .i64 j ∧ Sl (Bdr wx bb (endL (rowsT m 2 j))) ∧ Sl (Below bb wB wx) ∧ Sl (Blk wx wc3.heap.size 60 (listsC w.heap.size 0).toArray) ∧ Sl (Blk wx wo.heap.size 60 ([.string (bsS wHook), .pointer (some ⟨w.heap.size, 5, none⟩), .func (.func 31) #[] #[], .bool true] : List Value).toArray))
        case atStart => exact ⟨0, rfl, Nat.zero_le _, rfl, HD5, HL5, HK5, HLB⟩
        case round =>
          obtain ⟨j, hqj, hj, rfl, HDx, HLx, HKx, HBx⟩ := hrel
          by_cases hlt : j < n
          · obtain ⟨x, hx⟩ : ∃ x, m.h[j]? = some x := ⟨_, List.getElem?_eq_getElem (by rw [(HIt.out _ HLx.out).n_]; exact hlt)⟩
            obtain ⟨ab, ao, rfl, hbl, hldx, _, _⟩ := (HIt.out wr HLx.out).lit hx
            have HRN := Sl.mk (rowsT_next (m := m) (k := 2) (j := j) hx)
            have HLEN := Sl.mk (rowsT_len HRM.out (k := 2) (j := j + 1) (by omega) (by omega))
            obtain ⟨xa, xb⟩ := x
            have hwa := below_al (Below.refl wr.heap.size wr) (.cells #[.string (bsS xa), .string (bsS xb)] 62)
            have hlb0 : (wr.alloc (.cells #[.string (bsS xa), .string (bsS xb)] 62)).cell? ⟨wo.heap.size, 0, none⟩ = some (.string (bsS wHook)) := (HBx.out.be hwa).cell 0
            have HWA := Sl.mk hwa
            clear hx hwa
            go_wp2_with (refine ld_m hldx rfl (.tmp 46) rfl rfl ?_)
            refine (line_three bb _ (rowsT m 2 j) wHook xa xb _ (HDx.out.be (below_al HWA.out _)) ?_ (by have h1 := HLEN.out; rw [HRN.out] at h1; exact Nat.le_trans h1 (by decide))).mono ?_
            · exact Blk.new' (by simp)
            rintro e wy ⟨rfl, hdy, hly, hky⟩
            have HDy := Sl.mk (show Bdr wy bb (endL (rowsT m 2 (j + 1))) by rw [HRN.out]; exact hdy)
            have HLy := Sl.mk (HLx.out.trans (((below_al HWA.out _).mono (Nat.le_of_lt HDx.out.lt)).trans hly))
            have HKy := Sl.mk (blk_others hky (HKx.out.be (below_al HWA.out _)) (by have h1 := HGL.out; omega) (by decide))
            have HBy := Sl.mk (blk_others hky (HBx.out.be (below_al HWA.out _)) (by have h1 := HDr.out.lt; omega) (by decide))
            clear hdy hly hky hlb0 hldx
            go_wp2_with fail
            go_roundg (n - (j + 1))
            case measure => omega
            case rel => exact ⟨j + 1, rfl, by omega, by go_num, HDy, HLy, HKy, HBy⟩
          · obtain rfl : j = n := by omega
            have HDz := Sl.mk (show Bdr wr bb (endL (rowsT m 3 0)) by
              rw [rowsT_list]
              have h1 := (HIt.out wr HLx.out).n_
              show Bdr wr bb (endL (rowsT m 2 m.h.length))
              rw [h1]
              exact HDx.out)
            go_wp2_with fail
            go_roundg 1
            case measure => omega
            case rel => exact ⟨3, rfl, by omega, by go_num, HDz, HLx, HKx⟩
      | 3, _ =>
        have hld : ∀ (j : Nat) v, ([.string (bsS wWant), .pointer (some ⟨w.heap.size, 6, none⟩), .func (.func 32) #[] #[], .bool false] : List Value)[j]? = some v → wo.cell? ((⟨wc3.heap.size, 12, none⟩ : Addr).add j) = some v := fun j v hj => by
          rw [Addr.add_lit, HKr.out.cell (12 + j), List.getElem?_toArray]
          exact listC_at (b := w.heap.size) (o := 0) (k := 3) hj
        obtain ⟨A, n, c, hhd⟩ : ∃ A n c, k = ⟨A, n, c⟩ := ⟨_, _, _, rfl⟩
        have HHD := Sl.mk hhd
        have hn := HH.out.wl.1
        rw [hhd] at hn
        have hn' : n ≤ 1000000 := hn
        clear hhd hn
        have HIt := Sl.mk (fun (W : World) (hW : Below bb wB W) => show Its W A n m.w by
          have h1 := (HH.out.be (HBW.out W hW)).iw
          rw [HHD.out] at h1
          exact h1)
        have HCl := Sl.mk (fun (W : World) (hW : Below bb wB W) => show W.cell? ⟨w.heap.size, 6, none⟩ = some (.slice A n c) by
          have h1 := (HKW.out W hW).cell 6
          exact h1.trans (show some k.v = _ by rw [HHD.out]; rfl))
        go_wp2_with (first
          | (refine ld_l rfl hld rfl (.tmp 37) rfl rfl ?_)
          | (refine wpList_store_fresh rfl 60 (.tmp 8) (.tmp 38) rfl 60 [.string ⟨#[]⟩, .pointer none, .nilFunc, .bool false] [.string (bsS wWant), .pointer (some ⟨w.heap.size, 6, none⟩), .func (.func 32) #[] #[], .bool false] _ rfl rfl rfl rfl (by rw [lSize]; rfl) (list_one _ _ _ _) ?_; intro w5 hB5 hb5 hs5; have HLB := Sl.mk (show Blk w5 wo.heap.size 60 ([.string (bsS wWant), .pointer (some ⟨w.heap.size, 6, none⟩), .func (.func 32) #[] #[], .bool false] : List Value).toArray from hB5); have HD5 := Sl.mk (HDr.out.be hb5); have HL5 := Sl.mk (HLr.out.trans (hb5.mono (Nat.le_of_lt HDr.out.lt))); have HK5 := Sl.mk (HKr.out.be hb5); have d1 := hB5.cell 1; have d2 := HCl.out w5 HL5.out; clear hB5 hb5 hs5))
        go_loopg [44] n (fun q v44 wx => ∃ j : Nat, q = n - j ∧ j ≤ n ∧ v44 = .int .i64 j ∧ Sl (Bdr wx bb (endL (rowsT m 3 j))) ∧ Sl (Below bb wB wx) ∧ Sl (Blk wx wc3.heap.size 60 (listsC w.heap.size 0).toArray) ∧ Sl (Blk wx wo.heap.size 60 ([.string (bsS wWant), .pointer (some ⟨w.heap.size, 6, none⟩), .func (.func 32) #[] #[], .bool false] : List Value).toArray))
        case atStart => exact ⟨0, rfl, Nat.zero_le _, rfl, HD5, HL5, HK5, HLB⟩
        case round =>
          obtain ⟨j, hqj, hj, rfl, HDx, HLx, HKx, HBx⟩ := hrel
          by_cases hlt : j < n
          · obtain ⟨x, hx⟩ : ∃ x, m.w[j]? = some x := ⟨_, List.getElem?_eq_getElem (by rw [(HIt.out _ HLx.out).n_]; exact hlt)⟩
            obtain ⟨ab, ao, rfl, hbl, hldx, _, _⟩ := (HIt.out wr HLx.out).lit hx
            have HRN := Sl.mk (rowsT_next (m := m) (k := 3) (j := j) hx)
            have HLEN := Sl.mk (rowsT_len HRM.out (k := 3) (j := j + 1) (by omega) (by omega))
            obtain ⟨xa, xb⟩ := x
            have hwa := below_al (Below.refl wr.heap.size wr) (.cells #[.string (bsS xa), .string (bsS xb)] 62)
            have hlb0 : (wr.alloc (.cells #[.string (bsS xa), .string (bsS xb)] 62)).cell? ⟨wo.heap.size, 0, none⟩ = some (.string (bsS wWant)) := (HBx.out.be hwa).cell 0
            have HWA := Sl.mk hwa
            clear hx hwa
            go_wp2_with (refine ld_m hldx rfl (.tmp 46) rfl rfl ?_)
            refine (line_three bb _ (rowsT m 3 j) wWant xa xb _ (HDx.out.be (below_al HWA.out _)) ?_ (by have h1 := HLEN.out; rw [HRN.out] at h1; exact Nat.le_trans h1 (by decide))).mono ?_
            · exact Blk.new' (by simp)
            rintro e wy ⟨rfl, hdy, hly, hky⟩
            have HDy := Sl.mk (show Bdr wy bb (endL (rowsT m 3 (j + 1))) by rw [HRN.out]; exact hdy)
            have HLy := Sl.mk (HLx.out.trans (((below_al HWA.out _).mono (Nat.le_of_lt HDx.out.lt)).trans hly))
            have HKy := Sl.mk (blk_others hky (HKx.out.be (below_al HWA.out _)) (by have h1 := HGL.out; omega) (by decide))
            have HBy := Sl.mk (blk_others hky (HBx.out.be (below_al HWA.out _)) (by have h1 := HDr.out.lt; omega) (by decide))
            clear hdy hly hky hlb0 hldx
            go_wp2_with fail
            go_roundg (n - (j + 1))
            case measure => omega
            case rel => exact ⟨j + 1, rfl, by omega, by go_num, HDy, HLy, HKy, HBy⟩
          · obtain rfl : j = n := by omega
            have HDz := Sl.mk (show Bdr wr bb (endL (rowsT m 4 0)) by
              rw [rowsT_list]
              have h1 := (HIt.out wr HLx.out).n_
              show Bdr wr bb (endL (rowsT m 3 m.w.length))
              rw [h1]
              exact HDx.out)
            go_wp2_with fail
            go_roundg 0
            case measure => omega
            case rel => exact ⟨4, rfl, by omega, by go_num, HDz, HLx, HKx⟩
      | 4, _ =>
        have HBS := Sl.mk (bstring_any bb bb (endL (rowsT m 4 0)) wo HDr.out (Nat.le_of_lt HDr.out.lt))
        go_wp2_with fail
        refine HBS.out.mono ?_
        rintro e wz ⟨rfl, hbz⟩
        have HBZ := Sl.mk (show Below w.heap.size w wz from (HBW.out wo HLr.out).trans (hbz.mono (Nat.le_of_lt HLT.out)))
        clear hbz
        go_wp2_with fail
        go_ret2
        exact ⟨by rw [HEE.out, if_pos rfl]; unfold textM; rw [← rowsT_end]; rfl, HBZ.out⟩
  · have hE0' : (E != 0) = true := by simpa using h0
    go_wp2_with fail
    go_ret2
    exact ⟨by rw [HEE.out, if_neg h0]; rfl, HB1.out⟩
end Go.Proofs.YtmgblbkmbiiofaaDoor

namespace Go.Proofs.YtmgblbkmbiiofaaDoor
open Go.RowKit
attribute [local go_sem ↓] Go.wp_at_zero Go.wp_at_succ
set_option linter.unusedVariables false

/-- The one operation that is ready, its guard true. -/
theorem wpAnyX_oneGM {P : Program} {md : Region.Mode} {l : List Oper} {S : World → Prop} {Q : Exit → Act → World → Prop} {X : List Nat} {k f : Nat} {s : Array Bool} {o : Oper} {a : Act} {w : World} (ho : l[k]? = some o) (hr : Region.ready md l.toArray s = [k])
    (hg : Region.wanted o (yielded l.toArray a.tmps) = true)
    (h : o.wp P a w (fun a' w' => (X.contains k = false → S w') ∧ wpAnyX P md l.toArray Q S X f (s.setIfInBounds k true) a' w') Q) : wpAnyX P md l.toArray Q S X (f + 1) s a w := by
  refine ⟨fun h0 => (by rw [hr] at h0; cases h0), ?_⟩
  rw [hr]
  intro i hi
  obtain rfl : i = k := by simpa using hi
  have hi' : l.toArray[i]? = some o := by simpa using ho
  unfold wpOp
  simp only [hi', hg, if_true]
  exact .inl h
theorem yieldsIf_loadM {P : Program} {ops : Array Oper} {S : World → Prop} {o : Oper} {a : Act} {v : Value} (hw : Region.wanted o (yielded ops a.tmps) = true) (ty : TypeId) (x : Operand) (ho : o.op = .load ty x) (ad : Addr) (u : Value) (hx : a.eval x = .pointer (some ad))
    (hL : ∀ w, S w → (loadVar ty ad).run P w = .ok u w) (hv : v = u := by rfl) : YieldsIf P ops S o v a := by
  subst hv
  exact .inl ⟨hw, fun w hS => by unfold execOp; simp only [ho, hx, Instr.loadAt, Instr.sureAddr, Sem.run_bind, Sem.run_pure, Result.andThen_ok, hL w hS]⟩
theorem run_loadP {W : World} {g : Nat} {m : Mf} {p s h k : Hd} (hB : Blk W g 28 (mfC m p s h k).toArray) : (loadVar 28 ⟨g, 0, none⟩).run Tryd.prog W = .ok (mfV m p s h k) W :=
  run_loadVar_at W ⟨g, 0, none⟩ 28 (mfC m p s h k) _ (fun j v hv => by rw [Addr.add_lit, Nat.zero_add, hB.cell j, List.getElem?_toArray]; exact hv) Tryd.underlying28 rfl (by rw [mfSize]; rfl)
theorem run_loadR {W : World} {g : Nat} {m : Mf} {p s h k : Hd} (hB : Blk W g 25 (mfC m p s h k).toArray) : (loadVar 25 ⟨g, 0, none⟩).run Tryd.prog W = .ok (mfV m p s h k) W :=
  run_loadVar_at W ⟨g, 0, none⟩ 25 (mfC m p s h k) _ (fun j v hv => by rw [Addr.add_lit, Nat.zero_add, hB.cell j, List.getElem?_toArray]; exact hv) Tryd.underlying25 rfl (by rw [rmSize]; rfl)
theorem blk_at {W : World} {g : Nat} {T : TypeId} {l : List Value} (hB : Blk W g T l.toArray) : ∀ (j : Nat) v, l[j]? = some v → W.cell? ((⟨g, 0, none⟩ : Addr).add j) = some v := fun j v hv => by
  rw [Addr.add_lit, Nat.zero_add, hB.cell j, List.getElem?_toArray]; exact hv
/-- Of's rows, as a manifest in memory. -/
theorem of_mfr {w w' : World} {m : Mf} {p s h k : Hd} {hd : Nat → Hd} (H : MfR w m p s h k) (hL : LsR w' w.heap.size m.at hd) : MfR w' m (hd 0) (hd 1) (hd 2) (hd 3) := by
  have hn : ∀ j, j < 4 → (m.at j).length ≤ 1000000 := fun j hj => by
    have h1 := H.its hj
    rw [h1.1.n_]
    exact h1.2
  exact mfr_ofR hL (fun j hj => by rw [← (hL.own j hj).n_]; exact hn j hj) (fun j hj x hx => (H.its hj).1.len x hx) ⟨H.pkg, H.pub⟩
end Go.Proofs.YtmgblbkmbiiofaaDoor

namespace Go.Proofs.YtmgblbkmbiiofaaDoor
open Go.ChangeShapes Go.WideShapes Go.ChangeAt Go.RowKit Go.ChangeMaps Go.Deep Go.Joins

theorem two_list : ∀ {cs : List Value}, cs.length = 2 → ∃ v0 v1, cs = [v0, v1]
  | [a, b], _ => ⟨a, b, rfl⟩
theorem one_list : ∀ {cs : List Value}, cs.length = 1 → ∃ v0, cs = [v0]
  | [a], _ => ⟨a, rfl⟩
theorem itsC_split : ∀ (l : List It) (j : Nat) (v : Value), (itsC l)[j]? = some v → ∃ i k r, j = i * 2 + k ∧ l[i]? = some r ∧ (itC r)[k]? = some v
  | [], j, v, h => by simp [itsC] at h
  | x :: l, j, v, h => by
    simp only [itsC, List.flatMap_cons] at h
    rcases Nat.lt_or_ge j (itC x).length with hlt | hge
    · rw [List.getElem?_append_left hlt] at h
      exact ⟨0, j, x, by simp, by simp, h⟩
    · rw [List.getElem?_append_right hge] at h
      obtain ⟨i, k, r, h1, h2, h3⟩ := itsC_split l _ v h
      rw [itC_len] at h1 hge
      exact ⟨i + 1, k, r, by omega, by simpa using h2, h3⟩
theorem bs_len (s : ByteArray) : s.data.toList.length = s.size := Array.length_toList
theorem it_cells {H : Type} {enc : TypeId × Value → H} {W : World} {fuel : Nat} {cs : List Value} {x : DataW H × List MemPlace} (h : DataW.trod enc Tryd.prog W 0 (fun _ => true) true fuel 65 cs = some x) : ∃ r : It, cs = itC r ∧ r.a.length ≤ 9223372036854775807 ∧ r.b.length ≤ 9223372036854775807 := by
  have hcD : Tryd.prog.cellsOf 9 = 1 := by kernel_rfl
  have hcE : Tryd.prog.cellsOf 65 = 2 := by kernel_rfl
  obtain ⟨xs, n, -, -, hl, hx, hf⟩ := DataW.trod_struct Tryd.underlying65 h
  rw [hcE] at hl
  have hx3 : xs.length = 2 := hx
  have g : ∀ i, i < 2 → ∃ y, xs[i]? = some y := fun i hi => ⟨_, List.getElem?_eq_getElem (by omega)⟩
  obtain ⟨y0, e0⟩ := g 0 (by omega)
  obtain ⟨y1, e1⟩ := g 1 (by omega)
  have f0 := hf 0 _ rfl
  have f1 := hf 1 _ rfl
  rw [e0] at f0
  rw [e1] at f1
  obtain ⟨v0, v1, rfl⟩ := two_list hl
  have f0' : DataW.trod enc Tryd.prog W 0 (fun _ => true) true n 9 (([v0, v1].drop 0).take (Tryd.prog.cellsOf 9)) = some y0 := f0
  have f1' : DataW.trod enc Tryd.prog W 0 (fun _ => true) true n 9 (([v0, v1].drop 1).take (Tryd.prog.cellsOf 9)) = some y1 := f1
  rw [hcD] at f0' f1'
  obtain ⟨s, hs, -, hws⟩ := DataW.trod_string Tryd.underlying9 f0'
  obtain ⟨t, ht, -, hwt⟩ := DataW.trod_string Tryd.underlying9 f1'
  injection hs with hs
  injection ht with ht
  subst hs ht
  exact ⟨⟨s.data.toList, t.data.toList⟩, by unfold itC; simp only; rw [bs_of, bs_of], Nat.le_trans (Nat.le_of_eq (bs_len s)) hws, Nat.le_trans (Nat.le_of_eq (bs_len t)) hwt⟩
theorem list_ofP {α : Type} {P : Nat → α → Prop} : ∀ (n : Nat), (∀ i, i < n → ∃ r, P i r) → ∃ l : List α, l.length = n ∧ ∀ i r, l[i]? = some r → P i r
  | 0, _ => ⟨[], rfl, fun i r h => by simp at h⟩
  | n + 1, h => by
    obtain ⟨l, h1, h2⟩ := list_ofP n (fun i hi => h i (by omega))
    obtain ⟨r, hr⟩ := h n (by omega)
    refine ⟨l ++ [r], by simp [h1], fun i r' hi => ?_⟩
    rcases Nat.lt_or_ge i l.length with hlt | hge
    · rw [List.getElem?_append_left hlt] at hi
      exact h2 i r' hi
    · rw [List.getElem?_append_right hge] at hi
      have hi0 : i - l.length = 0 := by
        rcases Nat.eq_zero_or_pos (i - l.length) with e | e
        · exact e
        · rw [List.getElem?_eq_none (by simp; omega)] at hi; cases hi
      rw [hi0] at hi
      simp at hi
      subst hi
      have : i = n := by omega
      subst this
      exact hr
/-- A list of items that comes in. -/
structure ItI (w : World) (p : Hd) (l : List It) : Prop where
  row : Reads w w.heap.size 2 p.A p.n (itsC l)
  nb : p.n ≤ 9223372036854775807
  tx : ∀ x ∈ l, x.a.length ≤ 9223372036854775807 ∧ x.b.length ≤ 9223372036854775807
set_option maxRecDepth 100000 in
theorem open_its {H : Type} {enc : TypeId × Value → H} {W : World} {fuel : Nat} {v : Value} {x : DataW H × List MemPlace} (h : DataW.trod enc Tryd.prog W 0 (fun _ => true) true fuel 22 [v] = some x) :
    ∃ (p : Hd) (l : List It), v = p.v ∧ ItI W p l := by
  have hcE : Tryd.prog.cellsOf 65 = 2 := by kernel_rfl
  rcases open_slice Tryd.underlying22 h with ⟨hcs, -⟩ | ⟨a, len, cap, m, n, D, Pl, hcs, -, hl, hm, hmm, -, hi⟩
  · injection hcs with hcs
    subst hcs
    exact ⟨⟨none, 0, 0⟩, [], rfl, ⟨Reads.none_, by show 0 ≤ _; omega, fun x hx => by cases hx⟩⟩
  · injection hcs with hcs
    subst hcs
    rw [if_pos rfl] at hmm
    rw [hcE] at hi
    unfold maxLen at hm
    obtain ⟨l, h1, h2⟩ := list_ofP (P := fun i (x : It) => W.cells? 0 (a.add (i * 2)) 2 = some (itC x) ∧ x.a.length ≤ 9223372036854775807 ∧ x.b.length ≤ 9223372036854775807) len (fun i hil => by
      obtain ⟨cs', hc, ht⟩ := hi i (by omega)
      obtain ⟨r, rfl, hr⟩ := it_cells ht
      exact ⟨r, hc, hr⟩)
    refine ⟨⟨some a, len, cap⟩, l, rfl, ⟨⟨by rw [itsC_len, h1], fun hn => ⟨a, rfl, ?_, fun j u hu => ?_⟩⟩, by show len ≤ _; omega, fun x hx => ?_⟩⟩
    · obtain ⟨r, hr⟩ : ∃ r, l[0]? = some r := ⟨_, List.getElem?_eq_getElem (by have : 0 < len := hn; omega)⟩
      obtain ⟨_, hcl, hat⟩ := World.cells?_some (h2 0 r hr).1
      have h3 := hat 0 (by omega)
      have h4 := cell_lt' (h3.trans (show (itC r)[0]? = some _ from rfl))
      rw [block_of_add, block_of_add] at h4
      exact h4
    · obtain ⟨i, k, r, rfl, hr, hk⟩ := itsC_split l j u hu
      obtain ⟨_, hcl, hat⟩ := World.cells?_some (h2 i r hr).1
      have hk4 : k < 2 := by have := (List.getElem?_eq_some_iff.1 hk).1; rw [itC_len] at this; exact this
      have h3 := hat k hk4
      rw [add_of_add] at h3
      rw [h3, hk]
    · obtain ⟨i, hx2⟩ := List.mem_iff_getElem?.1 hx
      exact (h2 i x hx2).2
theorem seven_list : ∀ {cs : List Value}, cs.length = 7 → ∃ v0 v1 v2 v3 v4 v5 v6, cs = [v0, v1, v2, v3, v4, v5, v6]
  | [a, b, c, d, e, f, g], _ => ⟨a, b, c, d, e, f, g, rfl⟩
set_option maxRecDepth 100000 in
theorem open_mf {H : Type} {enc : TypeId × Value → H} {W : World} {base : Nat} {v : Value} {d : DataW H} {p : List MemPlace}
    (h : DataW.Trod enc Tryd.prog W 0 (fun _ => true) true 25 v d p) (o : Value.okWide Tryd.prog W .any base 25 v) :
    ∃ (m : Mf) (p s h k : Hd), v = mfV m p s h k ∧ MfI W m p s h k := by
  have hu := Tryd.underlying25
  have hc1 : Tryd.prog.cellsOf 3 = 1 := by kernel_rfl
  have hcS : Tryd.prog.cellsOf 9 = 1 := by kernel_rfl
  have hcL : Tryd.prog.cellsOf 22 = 1 := by kernel_rfl
  have hcA : Tryd.prog.cellsOf 23 = 4 := by kernel_rfl
  have hcR : Tryd.prog.cellsOf 25 = 7 := by kernel_rfl
  obtain ⟨cs, rfl⟩ : ∃ cs, v = .agg cs := by
    simp only [Value.okWide, hu] at o
    obtain ⟨cs, h1, -⟩ := o
    exact ⟨cs, h1⟩
  obtain ⟨fuel, hf⟩ := h
  simp only [Value.cells] at hf
  obtain ⟨xs, n, -, -, hl, hx, hf⟩ := DataW.trod_struct hu hf
  rw [hcR] at hl
  have hx3 : xs.length = 4 := hx
  have g : ∀ i, i < 4 → ∃ y, xs[i]? = some y := fun i hi => ⟨_, List.getElem?_eq_getElem (by omega)⟩
  obtain ⟨y0, e0⟩ := g 0 (by omega)
  obtain ⟨y1, e1⟩ := g 1 (by omega)
  obtain ⟨y2, e2⟩ := g 2 (by omega)
  obtain ⟨y3, e3⟩ := g 3 (by omega)
  have f0 := hf 0 _ rfl
  have f1 := hf 1 _ rfl
  have f2 := hf 2 _ rfl
  have f3 := hf 3 _ rfl
  rw [e0] at f0
  rw [e1] at f1
  rw [e2] at f2
  rw [e3] at f3
  obtain ⟨v0, v1, v2, v3, v4, v5, v6, hcs⟩ := seven_list hl
  obtain rfl : cs = #[v0, v1, v2, v3, v4, v5, v6] := by rw [← hcs]
  have f0' : DataW.trod enc Tryd.prog W 0 (fun _ => true) true n 9 (([v0, v1, v2, v3, v4, v5, v6].drop 0).take (Tryd.prog.cellsOf 9)) = some y0 := f0
  have f1' : DataW.trod enc Tryd.prog W 0 (fun _ => true) true n 9 (([v0, v1, v2, v3, v4, v5, v6].drop 1).take (Tryd.prog.cellsOf 9)) = some y1 := f1
  have f2' : DataW.trod enc Tryd.prog W 0 (fun _ => true) true n 3 (([v0, v1, v2, v3, v4, v5, v6].drop 2).take (Tryd.prog.cellsOf 3)) = some y2 := f2
  have f3' : DataW.trod enc Tryd.prog W 0 (fun _ => true) true n 23 (([v0, v1, v2, v3, v4, v5, v6].drop 3).take (Tryd.prog.cellsOf 23)) = some y3 := f3
  rw [hcS] at f0' f1'
  rw [hc1] at f2'
  rw [hcA] at f3'
  obtain ⟨s, hs, -, hws⟩ := DataW.trod_string Tryd.underlying9 f0'
  obtain ⟨t, ht, -, hwt⟩ := DataW.trod_string Tryd.underlying9 f1'
  obtain ⟨r, hr, -, -⟩ := DataW.trod_int Tryd.underlying3 f2'
  obtain ⟨zs, q, -, -, -, hzx, hz⟩ := DataW.trod_array Tryd.underlying23 f3'
  rw [hcL] at hz
  have gz : ∀ i, i < 4 → ∃ y, zs[i]? = some y := fun i hi => ⟨_, List.getElem?_eq_getElem (by omega)⟩
  obtain ⟨z0, k0⟩ := gz 0 (by omega)
  obtain ⟨z1, k1⟩ := gz 1 (by omega)
  obtain ⟨z2, k2⟩ := gz 2 (by omega)
  obtain ⟨z3, k3⟩ := gz 3 (by omega)
  have g0 : DataW.trod enc Tryd.prog W 0 (fun _ => true) true q 22 [v3] = some z0 := (hz 0 (by omega)).trans k0
  have g1 : DataW.trod enc Tryd.prog W 0 (fun _ => true) true q 22 [v4] = some z1 := (hz 1 (by omega)).trans k1
  have g2 : DataW.trod enc Tryd.prog W 0 (fun _ => true) true q 22 [v5] = some z2 := (hz 2 (by omega)).trans k2
  have g3 : DataW.trod enc Tryd.prog W 0 (fun _ => true) true q 22 [v6] = some z3 := (hz 3 (by omega)).trans k3
  obtain ⟨p0, l0, rfl, i0⟩ := open_its g0
  obtain ⟨p1, l1, rfl, i1⟩ := open_its g1
  obtain ⟨p2, l2, rfl, i2⟩ := open_its g2
  obtain ⟨p3, l3, rfl, i3⟩ := open_its g3
  injection hs with hs
  injection ht with ht
  injection hr with hr
  subst hs ht hr
  refine ⟨⟨s.data.toList, t.data.toList, r, l0, l1, l2, l3⟩, p0, p1, p2, p3, ?_, ⟨i0.row, i1.row, i2.row, i3.row, ⟨i0.nb, i1.nb, i2.nb, i3.nb⟩, fun j hj x hx => ?_, Nat.le_trans (Nat.le_of_eq (bs_len s)) hws, Nat.le_trans (Nat.le_of_eq (bs_len t)) hwt⟩⟩
  · unfold mfV
    simp only
    rw [bs_of, bs_of]
  · match j, hj with
    | 0, _ => exact i0.tx x hx
    | 1, _ => exact i1.tx x hx
    | 2, _ => exact i2.tx x hx
    | 3, _ => exact i3.tx x hx
end Go.Proofs.YtmgblbkmbiiofaaDoor
