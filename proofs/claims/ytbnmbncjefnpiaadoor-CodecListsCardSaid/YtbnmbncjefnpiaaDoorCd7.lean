/-
  The walk of CodecLists.
-/
import Derived.Test.YtbnmbncjefnpiaaDoorCd6
namespace Go.Proofs.YtbnmbncjefnpiaaDoor
open Go.RowKit
attribute [local go_sem ↓] Go.wp_at_zero Go.wp_at_succ

/-- What is known of the values of a right list. -/
structure ElC (L : List Vc) : Prop where
  all : ∀ y ∈ L, allV y = true
  chk : ∀ y ∈ L, chkV y 1 = 0
  dep : ∀ y ∈ L, depV y ≤ 8
  len : (encL L).length ≤ 6240
theorem elC_of {L : List Vc} {D : Nat} (h : EncC (.mk 2 0 [] L) true D 0) (hD : D ≤ 8) : ElC L := by
  have h1 := h.all
  simp only [allV, Bool.and_eq_true] at h1
  have h2 := h.dep
  rw [depV, if_pos rfl] at h2
  have h3 := h.len
  rw [encV, if_neg (by decide), if_neg (by decide), if_pos rfl] at h3
  have hd : ∀ y ∈ L, depV y ≤ 7 := fun y hy => by have := depL_mem y hy; omega
  exact ⟨allL_mem h1.2, fun y hy => (chk_of y 1 (by decide)).1 (allL_mem h1.2 y hy) (by have := hd y hy; omega), fun y hy => by have := hd y hy; omega, by simp at h3; omega⟩
theorem encL_mem {L : List Vc} {i : Nat} {y : Vc} (h : L[i]? = some y) : (encV y).length ≤ (encL L).length := by
  have h1 := encL_take_len L (i + 1)
  rw [take_one h, encL_app, List.length_append] at h1
  simp only [encL, List.append_nil] at h1
  omega
theorem vsOf_at {l : List Vx} {i : Nat} {x : Vx} (h : l[i]? = some x) : (vsOf l)[i]? = some x.v := by
  rw [vsOf_map, List.getElem?_map, h]; rfl
theorem numL_at {L : List Vc} (h : numL L) {i : Nat} {y : Vc} (hi : L[i]? = some y) : numV y := numL_mem h y (List.mem_of_getElem? hi)

set_option maxRecDepth 100000 in
set_option maxHeartbeats 8000000 in
theorem lists_walk (A : Option Addr) (n c : Nat) (l : List Tx) (w : World) (hI : Toks w A n l) (hP : Pw w w.heap.size) :
    Calls Tryd.prog 3 #[.slice A n c] w fun e w' => e = .returned (.bool true) ∧ Below w.heap.size w w' := by
  have HB := Sl.mk (build_any A n c l w hI)
  have hC := encC_of (q := l.map Tx.t) (fun t ht => by
    obtain ⟨x, hx, rfl⟩ := List.mem_map.1 ht
    exact ⟨(hI.ok x hx).n1, (hI.ok x hx).n2⟩)
  have HP := Sl.mk hP
  clear hI hP
  unfold BldPost at HB
  obtain ⟨L, hV⟩ : ∃ L, valB (l.map Tx.t) = .mk 2 0 [] L := ⟨_, rfl⟩
  obtain ⟨OK, hOK⟩ : ∃ OK, (runB (l.map Tx.t)).ok = OK := ⟨_, rfl⟩
  obtain ⟨D, hD⟩ : ∃ D, (runB (l.map Tx.t)).d = D := ⟨_, rfl⟩
  rw [hV, hOK, hD] at HB hC
  obtain ⟨E, hE⟩ : ∃ E, chkV (.mk 2 0 [] L) 1 = E := ⟨_, rfl⟩
  rw [hE] at hC
  have HC := Sl.mk hC
  have HKN := Sl.mk (fun W (hW : Below w.heap.size w W) => known_any W ((HP.out.be hW).mono hW.size))
  clear hC hV hOK hD hE
  go_enter Tryd.func3, Tryd.ntmps3
  go_wp2_with fail
  refine HB.out.mono ?_
  rintro e w1 ⟨x, rfl, hxv, hxk, hB1⟩
  clear HB
  have hxi1 : VxIn w1 x := VxOk.mono (fun g hg => hg.2) _ hxk
  have HXB := Sl.mk (enc_byte x hxi1)
  have HXV := Sl.mk hxv
  have HNUM := Sl.mk (VxOk.num x hxk)
  obtain ⟨k7, n7, pb7, b7, cb7, pl7, l7, cl7⟩ := x
  have hxe : k7 = 2 ∧ n7 = 0 ∧ b7 = [] ∧ vsOf l7 = L := by
    rw [Vx.v] at hxv
    injection hxv with h1 h2 h3 h4
    exact ⟨h1, h2, h3, h4⟩
  obtain ⟨hk7, hn7, hb7, hl7⟩ := hxe
  subst hk7 hn7 hb7
  have HVL := Sl.mk hl7
  rw [vxC_mk]
  rw [show ([] : List Nat).length = 0 from rfl]
  obtain ⟨ll, hll⟩ : ∃ ll, l7.length = ll := ⟨_, rfl⟩
  rw [hll]
  have HLL := Sl.mk hll
  have hba := below_al (Below.refl w1.heap.size w1) (.cells #[.int .i64 2, .int .i64 0, .slice pb7 0 cb7, .slice pl7 ll cl7] 26)
  have hX2 := Blk.new w1 26 #[.int .i64 2, .int .i64 0, .slice pb7 0 cb7, .slice pl7 ll cl7]
  have hxi2 := hxi1.be hba
  have hE2 := below_tr hB1 hba
  clear hxk hxi1 hxv hB1 hl7 hll
  obtain ⟨w2, hw2⟩ : ∃ w2, w1.alloc (.cells #[.int .i64 2, .int .i64 0, .slice pb7 0 cb7, .slice pl7 ll cl7] 26) = w2 := ⟨_, rfl⟩
  rw [hw2] at hX2 hxi2 hE2
  have HW2 := Sl.mk hw2
  have HXI2 := Sl.mk hxi2
  clear hw2 hba hxi2
  rcases HC.out.cs with ⟨rfl, rfl⟩ | ⟨rfl, rfl, hD⟩ | ⟨rfl, rfl, hD⟩ | ⟨rfl, rfl, hD⟩
  · go_wp2_with fail
    rw [HW2.out]
    refine (HKN.out w2 hE2).mono ?_
    rintro e w7 ⟨rfl, hB7⟩
    have hE7 := below_tr hE2 hB7
    clear hX2 hE2 hB7
    go_wp2_with fail
    go_ret
    exact ⟨rfl, hE7⟩
  · go_wp2_with fail
    rw [HW2.out]
    refine (HKN.out w2 hE2).mono ?_
    rintro e w7 ⟨rfl, hB7⟩
    have hE7 := below_tr hE2 hB7
    clear hX2 hE2 hB7
    go_wp2_with fail
    go_ret
    exact ⟨rfl, hE7⟩
  · have hDi : (8 : Int) < (D : Int) := by omega
    go_wp2_with fail
    rw [HW2.out]
    refine (HKN.out w2 hE2).mono ?_
    rintro e w7 ⟨rfl, hB7⟩
    have hE7 := below_tr hE2 hB7
    clear hX2 hE2 hB7
    go_wp2_with fail
    go_ret
    exact ⟨rfl, hE7⟩
  · have hDi : ¬ (8 : Int) < (D : Int) := by omega
    have HEL := Sl.mk (elC_of HC.out hD)
    have HEN := Sl.mk (encode_any (.mk 2 0 pb7 [] cb7 pl7 l7 cl7) w2 HXI2.out ((HP.out.be hE2).mono hE2.size) (by rw [HXV.out]; exact encF_len HC.out))
    rw [vxC_mk, HXV.out, HLL.out] at HEN
    rw [show ([] : List Nat).length = 0 from rfl] at HEN
    have hpts := HXI2.out.parts
    have hll6 := hpts.2.2.ll
    have hlc6 := hpts.2.2.lc
    rw [HLL.out] at hll6 hlc6
    clear hpts
    go_wp2_with fail
    rw [HW2.out]
    go_wp2_with (refine ld_vxG hX2 (by rfl) (.tmp 3) rfl rfl ?_)
    refine HEN.out.mono ?_
    rintro e w3 ⟨A3, n3, c3, rfl, hn3, ho3, hB3⟩
    rw [HC.out.e]
    have HB23 := Sl.mk hB3.size
    have HWS := Sl.mk (Nat.le_trans hE2.size hB3.size)
    have hen : encF (.mk 2 0 [] L) = 40 :: (encL L ++ [41]) := by unfold encF; rw [if_pos HC.out.e, encV, if_neg (by decide), if_neg (by decide), if_pos rfl]
    rw [hen] at hn3 ho3
    have hX3 := hX2.be hB3
    have hE3 := below_tr hE2 hB3
    have HV3 := Sl.mk ((HXI2.out.be hB3).parts.2.1)
    rw [HLL.out] at HV3
    have hn3' : n3 = (encL L).length + 2 := by rw [← hn3]; simp
    have HN3 := Sl.mk hn3'
    obtain ⟨g3, c3', hA3, hg3, hg3l, hcell3⟩ := ownCells ho3 (by omega)
    injection hA3 with hA3 _ hc3
    subst hA3 hc3
    have hcap3 := ownCapS ho3
    have HR3 := Sl.mk (Reads.of_own ho3)
    have hwb := below_al (Below.refl w3.heap.size w3) (.cells #[.int .u8 40] 5)
    have hX4 := hX3.alloc (.cells #[.int .u8 40] 5)
    have hE4 := below_tr hE3 hwb
    have ho1 := World.ownsRow_lit (base := w3.heap.size) (e := 5) (size := 1) w3 #[.int .u8 40] 1 (Nat.le_refl _) (by unfold maxLen; omega) rfl
    obtain ⟨w4, hw4⟩ : ∃ w4, w3.alloc (.cells #[.int .u8 40] 5) = w4 := ⟨_, rfl⟩
    rw [hw4] at hX4 hE4 ho1 hwb
    have HW4 := Sl.mk hw4
    have HO1 := Sl.mk ho1
    have HB34 := Sl.mk hwb
    clear hX2 hE2 hB3 hen hn3 ho3 hX3 hE3 hwb hn3' ho1 hw4 HEN hcell3 hg3l hg3
    obtain ⟨u0, hu0, hu1, hu2, hu3⟩ := info_parts u8Info
    have HU := Sl.mk (And.intro hu0 (And.intro hu1 (And.intro hu2 hu3)))
    have HLN := Sl.mk (show L.length = ll by have := congrArg List.length HVL.out; rw [vsOf_len, HLL.out] at this; exact this.symm)
    have HNL := Sl.mk (show numL L by have := HNUM.out; rw [HXV.out, numV] at this; exact this.2)
    have HBY := Sl.mk (show ∀ b ∈ encL L, b < 256 from fun b hb => by
      have := HXB.out b
      rw [HXV.out, encV, if_neg (by decide), if_neg (by decide), if_pos rfl] at this
      exact this (by simp [hb]))
    clear hu0 hu1 hu2 hu3
    go_wp2_with fail
    rw [HW4.out]
    go_loopw [8, 9] (fun v8 v9 wr => ∃ (i q cq : Nat) (Aq : Option Addr), i ≤ ll ∧ v9 = .int .i64 i ∧ v8 = .slice Aq q cq ∧ Blk wr w1.heap.size 26 #[.int .i64 2, .int .i64 0, .slice pb7 0 cb7, .slice pl7 ll cl7] ∧ Below w.heap.size w wr ∧
      Sl (wr.ownsRow w3.heap.size 5 1 (.slice Aq q cq) q (u8s (40 :: encL (L.take i))) ∧ q = (encL (L.take i)).length + 1 ∧ Below w3.heap.size w3 wr)) (fun _ v9 _ => ll - (intOf v9).toNat)
    case atStart => exact ⟨0, 1, 1, _, Nat.zero_le _, rfl, rfl, hX4, hE4, ⟨HO1.out, rfl, HB34.out⟩⟩
    case round =>
      obtain ⟨i, q, cq, Aq, hi, rfl, rfl, hX, hB, HS⟩ := hrel
      have x3 := hX.cell 3
      clear hX4 hE4
      obtain ⟨hown, hq, hb3⟩ := HS.out
      have hqm : q ≤ 6241 := by have := encL_take_len L i; have := HEL.out.len; omega
      by_cases hil : i < ll
      · obtain ⟨y, hy⟩ : ∃ y, l7[i]? = some y := ⟨_, List.getElem?_eq_getElem (by rw [HLL.out]; exact hil)⟩
        have hyL : L[i]? = some y.v := by rw [← HVL.out]; exact vsOf_at hy
        have hym := List.mem_of_getElem? hyL
        obtain ⟨ad, hpl, hadb, hld, hok⟩ := (HV3.out.be hb3).at_ hy
        subst hpl
        have hck := HEL.out.chk y.v hym
        have hef : encF y.v = encV y.v := by unfold encF; rw [if_pos hck]
        have hlm := encL_mem hyL
        have hlen := HEL.out.len
        have HC1 := Sl.mk (encode_any y wr hok ((HP.out.be hB).mono hB.size) (by rw [hef]; omega))
        have HCK := Sl.mk hck
        have HEF := Sl.mk hef
        have HY := Sl.mk hyL
        have HOWN := Sl.mk hown
        have HQ := Sl.mk hq
        have HB3 := Sl.mk hb3
        have hsw := hb3.size
        have hqy : q + (encV y.v).length ≤ 6241 := by
          have h1 := encL_take_len L (i + 1)
          rw [take_one hyL, encL_app, List.length_append] at h1
          simp only [encL, List.append_nil] at h1
          omega
        obtain ⟨k', n', pb', b', cb', pl', l2, cl'⟩ := y
        rw [vxC_mk] at *
        clear hy hyL hym hadb hok hck hef hlm hlen hown hq hb3 HS
        go_wp2_with (refine ld_vxl hld rfl (.tmp 49) rfl rfl ?_)
        refine HC1.out.mono ?_
        rintro e w5 ⟨A5, n5, c5, rfl, hn5, ho5, hB5⟩
        rw [HCK.out]
        rw [HEF.out] at hn5 ho5
        have hX5 := hX.be hB5
        have hE5 := below_tr hB hB5
        have hb35 := below_tr HB3.out hB5
        have ho2 := own_below HOWN.out hB5
        have hr5 := Reads.of_own ho5
        have hs5 := hB5.size
        have HN5 := Sl.mk hn5
        rw [hn5] at hqy
        obtain ⟨hu0, hu1, hu2, hu3⟩ := HU.out
        clear hX hB hB5 ho5 hn5 HC1 x3 hld
        go_wp2_with (at_builtin; refine wpList_append_any _ rfl (.tmp 56) (.tmp 57) 23 rfl w3.heap.size 5 u0 (.int .u8 0) 1 1 Tryd.underlying23 hu0 hu1 hu2 hu3 rfl (by decide) _ q _ rfl ho2 w5.heap.size A5 n5 c5 _ rfl hr5 (u8s_one _) (by unfold maxLen; omega) (by omega) (by omega) ?_)
        intro v6 w6 ho6 hg6 _
        obtain ⟨A6, c6, rfl⟩ := ownForm ho6
        have hw13 : w1.heap.size < w3.heap.size := Nat.lt_of_lt_of_le (by rw [← HW2.out]; simp) HB23.out
        have hX6 := hX5.grown hg6 (fun e => by have := (ho2.lt _ e.symm).1; omega)
        have hE6 := hE5.grown hg6 hE5.size (fun g e => Nat.le_trans HWS.out (ho2.lt g e).1)
        have hb36 := hb35.grown hg6 hb35.size (fun g e => (ho2.lt g e).1)
        have HF := Sl.mk (show w6.ownsRow w3.heap.size 5 1 (.slice A6 (q + n5) c6) (q + n5) (u8s (40 :: encL (L.take (i + 1)))) ∧ q + n5 = (encL (L.take (i + 1))).length + 1 ∧ Below w3.heap.size w3 w6 by
          rw [take_one HY.out, encL_app]
          simp only [encL, List.append_nil]
          refine ⟨?_, by rw [List.length_append, HQ.out, ← HN5.out]; omega, hb36⟩
          rw [show u8s (40 :: (encL (L.take i) ++ encV (Vx.mk k' n' pb' b' cb' pl' l2 cl').v)) = u8s (40 :: encL (L.take i)) ++ u8s (encV (Vx.mk k' n' pb' b' cb' pl' l2 cl').v) by simp [u8s]]
          exact ho6)
        clear hX5 hE5 ho2 hr5 hu0 hu1 hu2 hu3 ho6 hg6 hb35 hb36 hw13
        go_wp2_with fail
        go_roundw
        case rel => exact ⟨i + 1, q + n5, c6, A6, by omega, by go_num, rfl, hX6, hE6, HF⟩
        case measure => simp [intOf]; omega
      · obtain rfl : i = ll := by omega
        have hba := below_al (Below.refl wr.heap.size wr) (.cells #[.int .u8 41] 5)
        have ho2 := own_below hown hba
        rw [List.take_of_length_le (by rw [HLN.out]; exact Nat.le_refl _)] at ho2 hq
        have hX2 := hX.be hba
        have hE2 := below_tr hB hba
        have hb32 := below_tr hb3 hba
        have hRi : Reads (wr.alloc (.cells #[.int .u8 41] 5)) (wr.heap.size + 1) 1 (some ⟨wr.heap.size, 0, none⟩) 1 (u8s [41]) := ⟨rfl, fun _ => ⟨_, rfl, Nat.lt_succ_self _, fun j u hu => by rw [ad_zero, (Blk.new _ _ _).cell j]; simpa [u8s] using hu⟩⟩
        obtain ⟨hu0, hu1, hu2, hu3⟩ := HU.out
        have hsw := hb3.size
        have HQ := Sl.mk hq
        clear hX hown hq HS hB hba hb3
        go_wp2_with (at_builtin; refine wpList_append_any _ rfl (.tmp 59) (.tmp 60) 23 rfl w3.heap.size 5 u0 (.int .u8 0) 1 1 Tryd.underlying23 hu0 hu1 hu2 hu3 rfl (by decide) _ q _ rfl ho2 (wr.heap.size + 1) _ 1 1 (u8s [41]) rfl hRi (u8s_one _) (by unfold maxLen; omega) (by omega) (by simp; omega) ?_)
        intro v6 w6 ho6 hg6 _
        obtain ⟨A6, c6, rfl⟩ := ownForm ho6
        have hw13 : w1.heap.size < w3.heap.size := Nat.lt_of_lt_of_le (by rw [← HW2.out]; simp) HB23.out
        have hX6 := hX2.grown hg6 (fun e => by have := (ho2.lt _ e.symm).1; omega)
        have hE6 := hE2.grown hg6 hE2.size (fun g e => Nat.le_trans HWS.out (ho2.lt g e).1)
        have hb36 := hb32.grown hg6 hb32.size (fun g e => (ho2.lt g e).1)
        have hr6 := Reads.of_own ho6
        rw [show u8s (40 :: encL L) ++ u8s [41] = u8s (40 :: (encL L ++ [41])) by simp [u8s]] at hr6
        have hr3 := (HR3.out.below hb36).more hb36.size
        have hn3 := HN3.out
        have hlen := HEL.out.len
        have HSAME := Sl.mk (bsame_any A6 (some ⟨g3, 0, none⟩) (q + 1) c6 n3 c3 (40 :: (encL L ++ [41])) (40 :: (encL L ++ [41])) w6 (by omega) (by omega) hr6 hr3)
        rw [show eqB (40 :: (encL L ++ [41])) (40 :: (encL L ++ [41])) = true from decide_eq_true rfl] at HSAME
        clear ho2 hX2 hE2 hb32 hRi hu0 hu1 hu2 hu3 ho6 hg6 hr6 hr3 hw13 hn3 hlen x3
        go_wp2_with fail
        refine HSAME.out.mono ?_
        rintro e w7 ⟨rfl, kk, hw7⟩
        have hbd : Below w6.heap.size w6 w7 := by rw [hw7]; exact below_drN (Below.refl _ _) kk
        have hX7 := hX6.be hbd
        have hE7 := below_tr hE6 hbd
        have HB37 := Sl.mk (below_tr hb36 hbd)
        obtain ⟨m, hm⟩ : ∃ m, (encL L).length = m := ⟨_, rfl⟩
        have hn3 : n3 = m + 2 := by rw [HN3.out, hm]
        have hm1 : (n3 : Int) - 1 = ((m + 1 : Nat) : Int) := by omega
        have hm2 : (1 : Int) ≤ ((m + 1 : Nat) : Int) := by omega
        have hm3 : ((m + 1 : Nat) : Int) ≤ (c3 : Int) := by omega
        have hm4 : ¬ c3 = 1 := by omega
        have HM := Sl.mk hm
        clear hX6 hE6 hbd hw7 hb36 HSAME hm hn3
        have hr7 : Reads w7 w7.heap.size 1 (some ⟨g3, 1, none⟩) m (u8s (encL L)) := by
          have h1 := cut_any HR3.out (j := 1) (m := m) (A' := some ⟨g3, 1, none⟩) (bb := encL L) (by omega) hcap3.1 (.inl (by simp [Addr.add])) (by
            show (encL L ++ [41]).take m = encL L
            rw [← HM.out, List.take_left])
          exact (h1.below HB37.out).more HB37.out.size
        have HR7 := Sl.mk hr7
        clear hr7
        go_wp2_with fail
        go_loopw [12, 13] (fun v12 v13 wx => ∃ (k nr cr : Nat) (Ar : Option Addr), k ≤ i ∧ v13 = .int .i64 k ∧ v12 = .slice Ar nr cr ∧ Blk wx w1.heap.size 26 #[.int .i64 2, .int .i64 0, .slice pb7 0 cb7, .slice pl7 i cl7] ∧ Below w.heap.size w wx ∧
          Sl (Below w3.heap.size w3 wx ∧ Reads wx wx.heap.size 1 Ar nr (u8s (encL (L.drop k))) ∧ nr ≤ cr)) (fun _ v13 _ => i - (intOf v13).toNat)
        case atStart => exact ⟨0, m, c3 - 1, _, Nat.zero_le _, rfl, rfl, hX7, hE7, ⟨HB37.out, by rw [List.drop_zero]; exact HR7.out, by omega⟩⟩
        case round =>
          clear hX7 hE7
          obtain ⟨k, nr, cr, Ar, hk, rfl, rfl, hX, hB, HS⟩ := hrel
          have x3 := hX.cell 3
          obtain ⟨hb3, hrd, hnc⟩ := HS.out
          have hnl : (encL (L.drop k)).length = nr := by have := hrd.1; rw [u8s_len] at this; omega
          by_cases hki : k < i
          · obtain ⟨y, hy⟩ : ∃ y, l7[k]? = some y := ⟨_, List.getElem?_eq_getElem (by rw [HLL.out]; exact hki)⟩
            have hyL : L[k]? = some y.v := by rw [← HVL.out]; exact vsOf_at hy
            have hym := List.mem_of_getElem? hyL
            have hsplit : encL (L.drop k) = encV y.v ++ encL (L.drop (k + 1)) := by rw [drop_one hyL, encL]
            have hfull : encL L = encL (L.take k) ++ encL (L.drop k) := by rw [← encL_app, List.take_append_drop]
            have hnr : nr ≤ 6240 := by
              have h1 := congrArg List.length hfull
              rw [List.length_append] at h1
              have := HEL.out.len
              omega
            have HC1 := Sl.mk (next_ok y.v Ar nr cr (encL (L.drop k)) (encL (L.drop (k + 1))) wr (HEL.out.all y.v hym) (numL_at HNL.out hyL) (HEL.out.dep y.v hym) hsplit (by omega) hnc (fun b hb => HBY.out b (by rw [hfull]; exact List.mem_append_right _ hb)) hrd)
            have HY := Sl.mk hy
            have HB3 := Sl.mk hb3
            have hk0 : (0 : Int) ≤ (k : Int) := by omega
            have hki' : (k : Int) < (i : Int) := by omega
            clear hy hyL hym hsplit hfull hnr hb3 hrd hnc hnl HS
            go_wp2_with fail
            refine HC1.out.mono ?_
            rintro e w9 ⟨z, A9, q9, c9, rfl, hzv, hzk, hq9, ho9, hB9⟩
            have HZV := Sl.mk hzv
            have hzi : VxIn w9 z := VxOk.mono (fun g hg => hg.2) _ hzk
            obtain ⟨k8, n8, pb8, b8, cb8, pl8, l8, cl8⟩ := z
            rw [vxC_mk]
            have hba := below_al (Below.refl w9.heap.size w9) (.cells #[.int .i64 k8, .int .i64 n8, .slice pb8 b8.length cb8, .slice pl8 l8.length cl8] 26)
            have hT := Blk.new w9 26 #[.int .i64 k8, .int .i64 n8, .slice pb8 b8.length cb8, .slice pl8 l8.length cl8]
            have hb9 := below_tr hB9 hba
            have hX10 := hX.be hb9
            have hE10 := below_tr hB hb9
            have hb310 := below_tr HB3.out hb9
            have hzi10 := hzi.be hba
            have ho10 := own_below ho9 hba
            obtain ⟨w10, hw10⟩ : ∃ w10, w9.alloc (.cells #[.int .i64 k8, .int .i64 n8, .slice pb8 b8.length cb8, .slice pl8 l8.length cl8] 26) = w10 := ⟨_, rfl⟩
            rw [hw10] at hT hX10 hE10 hb310 hzi10 ho10
            have HW10 := Sl.mk hw10
            obtain ⟨ad, hpl, hadb, hld, hok⟩ := (HV3.out.be hb310).at_ HY.out
            subst hpl
            have HSM := Sl.mk (fun nq => same_any (.mk k8 n8 pb8 b8 cb8 pl8 l8 cl8) y (w10.drewN nq) (hzi10.be (below_drN (Below.refl _ _) nq)) (hok.be (below_drN (Below.refl _ _) nq)))
            have HLA := Sl.mk (load_blk hT (d := .struct _) Tryd.underlying26 rfl vxSize)
            have HQ9 := Sl.mk hq9
            obtain ⟨ky, ny, pby, by_, cby, ply, ly, cly⟩ := y
            rw [vxC_mk] at hld
            have HLB := Sl.mk (show ∀ w', (∃ kk, w' = w10.drewN kk) → (loadVar 26 (ad.add (k * 4))).run Tryd.prog w' = .ok (.agg #[.int .i64 ky, .int .i64 ny, .slice pby by_.length cby, .slice ply ly.length cly]) w' from fun w' ⟨kk, hkk⟩ => by
              subst hkk
              exact run_loadVar_at _ _ 26 [.int .i64 ky, .int .i64 ny, .slice pby by_.length cby, .slice ply ly.length cly] _ hld Tryd.underlying26 rfl vxSize)
            simp only [HZV.out, (eqV_iff _ _).2 rfl, vxC_mk] at HSM
            have HF := Sl.mk (And.intro hX10 (And.intro hE10 (And.intro hb310 ho10)))
            have x3 := hX10.cell 3
            clear hw10 hld hok hadb hzi hzi10 hT hzv hzk hq9 ho9 hB9 hba hb9 hX hB HC1 hX10 hE10 hb310 ho10
            go_wp2_with fail
            rw [HW10.out]
            refine wp_region_quiet_tail 9 (by kernel_rfl) (by kernel_rfl) ?_
            simp only [List.take_succ_cons, List.take_zero, List.drop_succ_cons, List.drop_zero]
            repeat (any_goals (first | (first | refine wpQuiet_loadW (by rfl) 26 (.tmp 14) rfl ⟨w9.heap.size, 0, none⟩ _ rfl HLA.out ?_ | refine wpQuiet_loadW (by rfl) 26 (.tmp 90) rfl (ad.add (k * 4)) _ rfl HLB.out ?_) | go_big_quiet_step (fail) | quiet_step (fail)))
            refine wpQuiet_nil ?_
            intro _ hw'
            obtain ⟨nq, hw''⟩ := hw'
            subst hw''
            go_wp2_with fail
            refine (HSM.out nq).mono ?_
            rintro e w11 ⟨rfl, hB11⟩
            have hbq := below_tr (below_drN (Below.refl w10.heap.size w10) nq) hB11
            have hX11 := HF.out.1.be hbq
            have hE11 := below_tr HF.out.2.1 hbq
            have HF2 := Sl.mk (And.intro (below_tr HF.out.2.2.1 hbq) (And.intro (Reads.of_own (own_below HF.out.2.2.2 hbq)) (ownCapS HF.out.2.2.2).1))
            clear hbq hB11 x3 HLA HLB HSM
            go_wp2_with fail
            go_roundw
            case rel => exact ⟨k + 1, q9, c9, A9, by omega, by go_num, rfl, hX11, hE11, HF2⟩
            case measure => simp [intOf]; omega
          · obtain rfl : k = i := by omega
            have hnr0 : nr = 0 := by
              rw [← hnl, List.drop_of_length_le (by rw [HLN.out]; exact Nat.le_refl _)]
              rfl
            subst hnr0
            clear hb3 hrd hnc hnl HS
            go_wp2_with fail
            refine (HKN.out wr hB).mono ?_
            rintro e w9 ⟨rfl, hB9⟩
            have hE9 := below_tr hB hB9
            clear hX hB hB9 x3
            go_wp2_with fail
            go_ret
            exact ⟨rfl, hE9⟩

end Go.Proofs.YtbnmbncjefnpiaaDoor
