/-
  The contract of codec.At.
-/
import Derived.Test.YtbnmbncjefnpiaaDoorCdI
namespace Go.Proofs.YtbnmbncjefnpiaaDoor
open Go.RowKit
attribute [local go_sem ↓] Go.wp_at_zero Go.wp_at_succ

def intsV (l : List Int) : List Value := l.map (Value.int .i64)
theorem intsV_len (l : List Int) : (intsV l).length = l.length := by simp [intsV]
def AtPost (w : World) (r : Option Vc) (e : Ending) (w' : World) : Prop := Below w.heap.size w w' ∧ match r with
  | none => e = .returned (.tuple #[.agg #[.int .i64 0, .int .i64 0, .slice none 0 0, .slice none 0 0], .int .i64 7])
  | some y => ∃ x' : Vx, e = .returned (.tuple #[.agg (vxC x').toArray, .int .i64 0]) ∧ x'.v = copN 8 y ∧ VxIn w' x'

set_option maxRecDepth 100000 in
set_option maxHeartbeats 2000000 in
theorem at_any (x0 : Vx) (A : Option Addr) (q d : Nat) (p : List Int) (w : World) (hx : VxIn w x0) (hq : p.length = q) (hqm : q ≤ 1000000) (hp : Reads w w.heap.size 1 A q (intsV p)) :
    Calls Tryd.prog 12 #[.agg (vxC x0).toArray, .slice A q d] w (AtPost w (atV x0.v p)) := by
  have hE := below_al (below_al (Below.refl w.heap.size w) (.cells (vxC x0).toArray 26)) (.cells #[.int .i64 0, .int .i64 0, .slice none 0 0, .slice none 0 0] 26)
  have hX := (Blk.new w 26 (vxC x0).toArray).alloc (.cells #[.int .i64 0, .int .i64 0, .slice none 0 0, .slice none 0 0] 26)
  have hZ : Blk ((w.alloc (.cells (vxC x0).toArray 26)).alloc (.cells #[.int .i64 0, .int .i64 0, .slice none 0 0, .slice none 0 0] 26)) (w.heap.size + 1) 26 #[.int .i64 0, .int .i64 0, .slice none 0 0, .slice none 0 0] := Blk.new' (by simp)
  have HP := Sl.mk hp
  have HQ := Sl.mk hq
  have HX := Sl.mk hx
  clear hp hq hx
  have hb0 := Sl.mk (show ∃ y : Vx, y = x0 ∧ VxIn w y from ⟨x0, rfl, HX.out⟩)
  obtain ⟨vv, hvv⟩ : ∃ vv, x0.v = vv := ⟨_, rfl⟩
  have HV := Sl.mk hvv
  rw [hvv]
  clear hvv
  obtain ⟨k, n, pb, b, cb, pl, l, cl⟩ := x0
  rw [vxC_mk] at *
  have hws : (w.alloc (.cells [Value.int .i64 k, .int .i64 n, .slice pb b.length cb, .slice pl l.length cl].toArray 26)).heap.size = w.heap.size + 1 := by simp
  go_enter Tryd.func12, Tryd.ntmps12
  go_wp2_with fail
  go_loopw [7, 10] (fun _ v10 wr => ∃ (i : Nat) (x : Vx), i ≤ q ∧ v10 = .int .i64 i ∧ Blk wr w.heap.size 26 (vxC x).toArray ∧ Blk wr (w.heap.size + 1) 26 #[.int .i64 0, .int .i64 0, .slice none 0 0, .slice none 0 0] ∧ Below w.heap.size w wr ∧ Sl (VxIn w x ∧ atV vv p = atV x.v (p.drop i) ∧ w.heap.size + 2 ≤ wr.heap.size)) (fun _ v10 _ => q - (intOf v10).toNat)
  case atStart => exact ⟨0, .mk k n pb b cb pl l cl, Nat.zero_le _, rfl, hX, hZ, hE, ⟨HX.out, by rw [HV.out]; rfl, by simp⟩⟩
  case round =>
    obtain ⟨i, x, hi, rfl, hX, hZ, hB, HS⟩ := hrel
    obtain ⟨k', n', pb', b', cb', pl', l', cl'⟩ := x
    rw [vxC_mk] at hX
    have c0 := hX.cell 0
    have c3 := hX.cell 3
    by_cases hil : i < q
    · obtain ⟨j, hj⟩ : ∃ j, p[i]? = some j := ⟨_, List.getElem?_eq_getElem (by rw [HQ.out]; exact hil)⟩
      obtain ⟨ad, u, rfl, hadb, hu, hcu⟩ := (HP.out.below hB).at_ hil
      obtain rfl : u = .int .i64 j := by
        unfold intsV at hu
        rw [List.getElem?_map, hj] at hu
        simpa using hu.symm
      have hll := (HS.out.1.parts).2.2.ll
      have hlc := (HS.out.1.parts).2.2.lc
      obtain ⟨ll, hlle⟩ : ∃ ll, l'.length = ll := ⟨_, rfl⟩
      have HLL := Sl.mk hlle
      rw [hlle] at hX c3 hll hlc
      have hs2 := HS.out.2.2
      have hz0 := hZ.cell 0
      by_cases hk : k' = 2
      · by_cases hj0 : j < 0
        · have hbad : ¬ ((Vx.mk k' n' pb' b' cb' pl' l' cl').v.k = 2 ∧ 0 ≤ j ∧ j < (Vx.mk k' n' pb' b' cb' pl' l' cl').v.l.length) := fun h => by omega
          subst hk
          clear hlle
          have HNo := Sl.mk (show atV vv p = none by rw [HS.out.2.1, drop_one hj]; unfold atV; rw [if_neg hbad])
          clear hbad hj
          go_wp2_with (refine st_vx hZ rfl (.tmp 4) (.tmp 28) rfl 0 0 none 0 0 none 0 0 rfl (by rfl) rfl ?_)
          intro w4 hZ4 hG4 _
          have hE4 := below_only hB hG4 hB.size (by omega)
          clear hG4
          go_wp2_with fail
          refine bodyPost_ret (v := .tuple #[.agg #[.int .i64 0, .int .i64 0, .slice none 0 0, .slice none 0 0], .int .i64 7]) (res_cell_tmp Tryd.results12 _ _ _ rfl hZ4 Tryd.underlying26 vxSize rfl) rfl ?_
          rw [HNo.out]
          exact ⟨hE4, rfl⟩
        · by_cases hjl : j < (ll : Int)
          · obtain ⟨m, hm⟩ : ∃ m : Nat, j = m := ⟨j.toNat, by omega⟩
            subst hm
            obtain ⟨y, hy⟩ : ∃ y, l'[m]? = some y := ⟨_, List.getElem?_eq_getElem (by omega)⟩
            subst hk
            have hV := (HS.out.1.parts).2.1
            obtain ⟨ad2, hpl, hbl, hld, hok⟩ := hV.at_ hy
            have HNX := Sl.mk (show atV vv p = atV y.v (p.drop (i + 1)) by
              rw [HS.out.2.1, drop_one hj]
              have h1 : (2 : Int) = 2 ∧ (0 : Int) ≤ (m : Int) ∧ (m : Int) < ((vsOf l').length : Nat) := ⟨rfl, by omega, by rw [vsOf_len]; omega⟩
              show (if (2 : Int) = 2 ∧ (0 : Int) ≤ (m : Int) ∧ (m : Int) < ((vsOf l').length : Nat) then (match (vsOf l')[(m : Int).toNat]? with | some x => atV x (p.drop (i + 1)) | none => none) else none) = _
              rw [if_pos h1, Int.toNat_natCast, vsOf_map, List.getElem?_map, hy]
              rfl)
            have HOK := Sl.mk hok
            subst hpl
            have hld2 : ∀ j v, (vxC y)[j]? = some v → wr.cell? ((ad2.add (m * 4)).add j) = some v := fun j v hv => (hB.cell (by rw [block_of_add, block_of_add]; exact hbl)).trans (hld j v hv)
            obtain ⟨k7, n7, pb7, b7, cb7, pl7, l7, cl7⟩ := y
            rw [vxC_mk] at hld2
            have hmll : (m : Int) < (ll : Int) := hjl
            have hml : m < ll := by omega
            clear hy hok hj hld hV hlle hj0
            go_wp2_with (first | refine ld_vxl hld2 rfl (.tmp 32) rfl rfl ?_ | refine st_vx hX rfl (.tmp 2) (.tmp 33) rfl k7 n7 pb7 b7.length cb7 pl7 l7.length cl7 rfl (by rfl) rfl ?_)
            intro w4 hX4 hG4 _
            have hE4 := below_only hB hG4 hB.size (Nat.le_refl _)
            have hZ4 := blk_only hZ hG4 (by omega)
            have HN := Sl.mk (show VxIn w (.mk k7 n7 pb7 b7 cb7 pl7 l7 cl7) ∧ atV vv p = atV (Vx.v (.mk k7 n7 pb7 b7 cb7 pl7 l7 cl7)) (p.drop (i + 1)) ∧ w.heap.size + 2 ≤ w4.heap.size from ⟨HOK.out, HNX.out, Nat.le_trans hs2 hG4.size⟩)
            clear hG4 hB hX hZ
            go_wp2_with fail
            go_roundw
            case rel => exact ⟨i + 1, .mk k7 n7 pb7 b7 cb7 pl7 l7 cl7, by omega, by go_num, hX4, hZ4, hE4, HN⟩
            case measure => simp [intOf]; omega
          · have hbad : ¬ ((Vx.mk k' n' pb' b' cb' pl' l' cl').v.k = 2 ∧ 0 ≤ j ∧ j < (Vx.mk k' n' pb' b' cb' pl' l' cl').v.l.length) := fun h => by
              have h2 := h.2.2
              have h3 : (Vx.mk k' n' pb' b' cb' pl' l' cl').v.l.length = ll := by rw [Vx.v]; show (vsOf l').length = ll; rw [vsOf_len, hlle]
              rw [h3] at h2; omega
            subst hk
            clear hlle
            have HNo := Sl.mk (show atV vv p = none by rw [HS.out.2.1, drop_one hj]; unfold atV; rw [if_neg hbad])
            clear hbad hj
            go_wp2_with (refine st_vx hZ rfl (.tmp 4) (.tmp 28) rfl 0 0 none 0 0 none 0 0 rfl (by rfl) rfl ?_)
            intro w4 hZ4 hG4 _
            have hE4 := below_only hB hG4 hB.size (by omega)
            clear hG4
            go_wp2_with fail
            refine bodyPost_ret (v := .tuple #[.agg #[.int .i64 0, .int .i64 0, .slice none 0 0, .slice none 0 0], .int .i64 7]) (res_cell_tmp Tryd.results12 _ _ _ rfl hZ4 Tryd.underlying26 vxSize rfl) rfl ?_
            rw [HNo.out]
            exact ⟨hE4, rfl⟩
      · have hbad : ¬ ((Vx.mk k' n' pb' b' cb' pl' l' cl').v.k = 2 ∧ 0 ≤ j ∧ j < (Vx.mk k' n' pb' b' cb' pl' l' cl').v.l.length) := fun h => hk h.1
        have hkn : (k' != 2) = true := bne_iff_ne.2 hk
        clear hlle
        have HNo := Sl.mk (show atV vv p = none by rw [HS.out.2.1, drop_one hj]; unfold atV; rw [if_neg hbad])
        clear hbad hj
        go_wp2_with (refine st_vx hZ rfl (.tmp 4) (.tmp 28) rfl 0 0 none 0 0 none 0 0 rfl (by rfl) rfl ?_)
        intro w4 hZ4 hG4 _
        have hE4 := below_only hB hG4 hB.size (by omega)
        clear hG4
        go_wp2_with fail
        refine bodyPost_ret (v := .tuple #[.agg #[.int .i64 0, .int .i64 0, .slice none 0 0, .slice none 0 0], .int .i64 7]) (res_cell_tmp Tryd.results12 _ _ _ rfl hZ4 Tryd.underlying26 vxSize rfl) rfl ?_
        rw [HNo.out]
        exact ⟨hE4, rfl⟩
    · obtain rfl : i = q := by omega
      have HNX := Sl.mk (show atV vv p = some (Vx.mk k' n' pb' b' cb' pl' l' cl').v by
        rw [HS.out.2.1, List.drop_of_length_le (by rw [HQ.out]; omega)]; rfl)
      have HCP := Sl.mk (copied_any 8 (.mk k' n' pb' b' cb' pl' l' cl') wr (Nat.le_refl _) (HS.out.1.be hB))
      rw [vxC_mk] at HCP
      have hs2 := HS.out.2.2
      go_wp2_with (refine ld_vx0 hX rfl (.tmp 2) rfl rfl rfl ?_)
      refine HCP.out.mono ?_
      rintro e w2 ⟨x', rfl, hxv, hxok, hB2⟩
      have hZ2 := hZ.be hB2
      have hE2 := hB.trans (hB2.mono hB.size)
      have HXV := Sl.mk hxv
      have HXK := Sl.mk hxok
      have hs3 := hB2.size
      obtain ⟨k7, n7, pb7, b7, cb7, pl7, l7, cl7⟩ := x'
      rw [vxC_mk]
      clear hX hZ hB hB2 hxv hxok HCP c0 c3
      go_wp2_with (refine st_vx hZ2 rfl (.tmp 4) (.tmp 36) rfl k7 n7 pb7 b7.length cb7 pl7 l7.length cl7 rfl (by rfl) rfl ?_)
      intro w4 hZ4 hG4 _
      have hE4 := below_only hE2 hG4 hE2.size (by omega)
      have HG4 := Sl.mk hG4
      clear hG4
      go_wp2_with fail
      refine bodyPost_ret (v := .tuple #[.agg #[.int .i64 k7, .int .i64 n7, .slice pb7 b7.length cb7, .slice pl7 l7.length cl7], .int .i64 0]) (res_cell_tmp Tryd.results12 _ _ _ rfl hZ4 Tryd.underlying26 vxSize rfl) rfl ?_
      rw [HNX.out]
      refine ⟨hE4, .mk k7 n7 pb7 b7 cb7 pl7 l7 cl7, rfl, HXV.out, ?_⟩
      have h1 := VxOk.only HXK.out HG4.out (fun g hg => ⟨hg.2, fun e => by injection e; omega⟩)
      exact VxOk.mono (fun g hg => Nat.lt_of_lt_of_le hg.2 HG4.out.size) _ h1

end Go.Proofs.YtbnmbncjefnpiaaDoor
