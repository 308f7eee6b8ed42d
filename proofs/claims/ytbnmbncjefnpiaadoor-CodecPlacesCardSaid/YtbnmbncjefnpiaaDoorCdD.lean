/-
  The contract of codec.check.
-/
import Derived.Test.YtbnmbncjefnpiaaDoorCdC
namespace Go.Proofs.YtbnmbncjefnpiaaDoor
open Go.RowKit
attribute [local go_sem ↓] Go.wp_at_zero Go.wp_at_succ

theorem chk_cases (v : Vc) (d : Nat) : chkV v d = 0 ∨ chkV v d = 17 ∨ chkV v d = 18 := by
  rcases chk_or v d with h | h | h
  · exact .inl h.1
  · exact .inr (.inl h)
  · exact .inr (.inr h.1)

set_option maxRecDepth 100000 in
set_option maxHeartbeats 1000000 in
theorem check_any (x : Vx) : ∀ (d : Nat) (w : World), d ≤ 9 → VxIn w x →
    Calls Tryd.prog 21 #[.agg (vxC x).toArray, .int .i64 d] w fun e w' => e = .returned (.int .i64 (chkV x.v d)) ∧ Below w.heap.size w w' := by
  induction x using Vx.ind_ with
  | h k n pb b cb pl l cl ih =>
    intro d w hd hx
    show Calls Tryd.prog 21 #[.agg #[.int .i64 k, .int .i64 n, .slice pb b.length cb, .slice pl l.length cl], .int .i64 d] w fun e w' => e = .returned (.int .i64 (chkV (.mk k n b (vsOf l)) d)) ∧ Below w.heap.size w w'
    have hE := below_al (Below.refl w.heap.size w) (.cells #[.int .i64 k, .int .i64 n, .slice pb b.length cb, .slice pl l.length cl] 26)
    obtain ⟨-, hL, hN⟩ := hx.parts
    have hl := hN.ll
    have hbl := hN.bl
    obtain ⟨hlc, hlm⟩ := hN.lc
    have HL := Sl.mk hL
    clear hL hN hx
    have hKN : kindB k n b (vsOf l) = kindN k n b.length l.length := by rw [kindN_eq, vsOf_len]
    obtain ⟨ll, hll⟩ : ∃ ll, l.length = ll := ⟨_, rfl⟩
    have HLL := Sl.mk hll
    rw [hll] at hl hlc hE hKN ⊢
    obtain ⟨bl, hb⟩ : ∃ bl, b.length = bl := ⟨_, rfl⟩
    rw [hb] at hE hKN hbl ⊢
    clear hb hll
    have HK := Sl.mk (kind_any k n pb bl cb pl ll cl (w.alloc (.cells #[.int .i64 k, .int .i64 n, .slice pb bl cb, .slice pl ll cl] 26)) hbl hl)
    have hB := Blk.new w 26 #[.int .i64 k, .int .i64 n, .slice pb bl cb, .slice pl ll cl]
    cases hkk : kindN k n bl ll
    · have HC := Sl.mk (show chkV (.mk k n b (vsOf l)) d = 17 by rw [chkV, hKN, hkk, if_pos rfl])
      rw [hkk] at HK
      clear hKN hkk
      go_enter Tryd.func21, Tryd.ntmps21
      go_wp2_with fail
      refine HK.out.mono ?_
      rintro e w1 ⟨rfl, hB1⟩
      have hE1 := below_tr hE hB1
      clear hE hB1
      go_wp2_with fail
      go_ret
      exact ⟨by rw [HC.out]; rfl, hE1⟩
    · rw [hkk] at HK hKN
      clear hkk
      by_cases h8 : k = 2 ∧ 8 < d
      · have HC := Sl.mk (show chkV (.mk k n b (vsOf l)) d = 18 by rw [chkV, hKN, if_neg (by simp), if_pos h8])
        obtain ⟨rfl, h8⟩ := h8
        clear hKN
        go_enter Tryd.func21, Tryd.ntmps21
        go_wp2_with fail
        refine HK.out.mono ?_
        rintro e w1 ⟨rfl, hB1⟩
        have hE1 := below_tr hE hB1
        have hX := hB.be hB1
        have c0 := hX.cell 0
        clear hE hB1 hX hB
        go_wp2_with fail
        go_ret
        exact ⟨by rw [HC.out]; rfl, hE1⟩
      · have HC := Sl.mk (show chkV (.mk k n b (vsOf l)) d = chkL (vsOf l) (d + 1) by rw [chkV, hKN, if_neg (by simp), if_neg h8])
        have hlz : ll = 0 ∨ d + 1 ≤ 9 := by
          by_cases hk2 : k = 2
          · right; omega
          · left
            have := kind_leaf hKN hk2
            have h2 := vsOf_len l
            rw [this] at h2
            rw [← HLL.out, ← h2]; rfl
        obtain ⟨D, hD⟩ : ∃ D, d + 1 = D := ⟨_, rfl⟩
        have hDi : (d : Int) + 1 = (D : Int) := by omega
        have HCD := Sl.mk hD
        rw [hD] at HC hlz
        clear hKN hD
        go_enter Tryd.func21, Tryd.ntmps21
        go_wp2_with fail
        refine HK.out.mono ?_
        rintro e w1 ⟨rfl, hB1⟩
        have hE1 := below_tr hE hB1
        have hX := hB.be hB1
        have c0 := hX.cell 0
        have c3 := hX.cell 3
        clear hE hB1 hX hB
        by_cases hk2 : k = 2
        · subst hk2
          have hd8 : ¬ 8 < d := fun h => h8 ⟨rfl, h⟩
          have hdi : ¬ (8 : Int) < (d : Int) := by omega
          go_wp2_with fail
          go_loopw [6, 7, 23] (fun _ _ v23 wr => ∃ i : Nat, i ≤ ll ∧ v23 = .int .i64 i ∧ Sl (chkL (vsOf l) D = chkL (vsOf (l.drop i)) D) ∧ Below w.heap.size w wr) (fun _ _ v23 _ => ll - (intOf v23).toNat)
          case atStart => exact ⟨0, Nat.zero_le _, rfl, ⟨rfl⟩, hE1⟩
          case round =>
            obtain ⟨i, hi, rfl, HZ, hB⟩ := hrel
            by_cases hil : i < ll
            · obtain ⟨x, hx⟩ : ∃ x, l[i]? = some x := ⟨_, List.getElem?_eq_getElem (by rw [HLL.out]; exact hil)⟩
              obtain ⟨ad, hpl, hbl, hld, hok⟩ := (HL.out.be hB).at_ hx
              subst hpl
              have HXI := Sl.mk hx
              have hD9 : D ≤ 9 := by omega
              have hz := HZ.out
              rw [drop_one hx, vsOf, chkL] at hz
              have HCS := Sl.mk (chk_cases x.v D)
              have HM := Sl.mk (List.mem_of_getElem? hx)
              have HR := Sl.mk (show ∀ W, Below wr.heap.size wr W → Calls Tryd.prog 21 #[.agg (vxC x).toArray, .int .i64 D] W fun e w' => e = .returned (.int .i64 (chkV x.v D)) ∧ Below W.heap.size W w' from fun W hW => ih x HM.out D W hD9 (hok.be hW))
              obtain ⟨k', n', pb', b', cb', pl', l', cl'⟩ := x
              rw [vxC_mk] at HR
              have hwa := below_al (Below.refl wr.heap.size wr) (.cells #[.int .i64 k', .int .i64 n', .slice pb' b'.length cb', .slice pl' l'.length cl'] 26)
              obtain ⟨E, hE⟩ : ∃ E, chkV (Vx.v (.mk k' n' pb' b' cb' pl' l' cl')) D = E := ⟨_, rfl⟩
              rw [hE] at hz HR HCS
              clear hx hok hE
              go_wp2_with (refine ld_vxl hld rfl (.tmp 25) rfl rfl ?_)
              refine (HR.out _ hwa).mono ?_
              rintro e w2 ⟨rfl, hB2⟩
              have hE2 := below_tr hB (below_tr hwa hB2)
              clear hB hld hwa hB2 HZ HR
              by_cases hz0 : E = 0
              · subst hz0
                rw [if_pos rfl] at hz
                have HZ2 := Sl.mk hz
                clear hz HCS
                go_wp2_with fail
                go_roundw
                case rel => exact ⟨i + 1, by omega, by go_num, HZ2, hE2⟩
                case measure => simp [intOf]; omega
              · rw [if_neg hz0] at hz
                have HZ2 := Sl.mk hz
                have hne : (E != 0) = true := by simpa using hz0
                clear hz HCS
                go_wp2_with fail
                go_ret
                exact ⟨by rw [HC.out, HZ2.out]; rfl, hE2⟩
            · obtain rfl : i = ll := by omega
              have HN := Sl.mk (show chkL (vsOf l) D = 0 by
                rw [HZ.out, List.drop_of_length_le (by rw [HLL.out]; omega)]; rfl)
              go_wp2_with fail
              go_ret
              exact ⟨by rw [HC.out, HN.out]; rfl, hB⟩
        · have hk3 : (k == 2) = false := by simpa using hk2
          go_wp2_with fail
          go_loopw [6, 7, 23] (fun _ _ v23 wr => ∃ i : Nat, i ≤ ll ∧ v23 = .int .i64 i ∧ Sl (chkL (vsOf l) D = chkL (vsOf (l.drop i)) D) ∧ Below w.heap.size w wr) (fun _ _ v23 _ => ll - (intOf v23).toNat)
          case atStart => exact ⟨0, Nat.zero_le _, rfl, ⟨rfl⟩, hE1⟩
          case round =>
            obtain ⟨i, hi, rfl, HZ, hB⟩ := hrel
            by_cases hil : i < ll
            · obtain ⟨x, hx⟩ : ∃ x, l[i]? = some x := ⟨_, List.getElem?_eq_getElem (by rw [HLL.out]; exact hil)⟩
              obtain ⟨ad, hpl, hbl, hld, hok⟩ := (HL.out.be hB).at_ hx
              subst hpl
              have HXI := Sl.mk hx
              have hD9 : D ≤ 9 := by omega
              have hz := HZ.out
              rw [drop_one hx, vsOf, chkL] at hz
              have HCS := Sl.mk (chk_cases x.v D)
              have HM := Sl.mk (List.mem_of_getElem? hx)
              have HR := Sl.mk (show ∀ W, Below wr.heap.size wr W → Calls Tryd.prog 21 #[.agg (vxC x).toArray, .int .i64 D] W fun e w' => e = .returned (.int .i64 (chkV x.v D)) ∧ Below W.heap.size W w' from fun W hW => ih x HM.out D W hD9 (hok.be hW))
              obtain ⟨k', n', pb', b', cb', pl', l', cl'⟩ := x
              rw [vxC_mk] at HR
              have hwa := below_al (Below.refl wr.heap.size wr) (.cells #[.int .i64 k', .int .i64 n', .slice pb' b'.length cb', .slice pl' l'.length cl'] 26)
              obtain ⟨E, hE⟩ : ∃ E, chkV (Vx.v (.mk k' n' pb' b' cb' pl' l' cl')) D = E := ⟨_, rfl⟩
              rw [hE] at hz HR HCS
              clear hx hok hE
              go_wp2_with (refine ld_vxl hld rfl (.tmp 25) rfl rfl ?_)
              refine (HR.out _ hwa).mono ?_
              rintro e w2 ⟨rfl, hB2⟩
              have hE2 := below_tr hB (below_tr hwa hB2)
              clear hB hld hwa hB2 HZ HR
              by_cases hz0 : E = 0
              · subst hz0
                rw [if_pos rfl] at hz
                have HZ2 := Sl.mk hz
                clear hz HCS
                go_wp2_with fail
                go_roundw
                case rel => exact ⟨i + 1, by omega, by go_num, HZ2, hE2⟩
                case measure => simp [intOf]; omega
              · rw [if_neg hz0] at hz
                have HZ2 := Sl.mk hz
                have hne : (E != 0) = true := by simpa using hz0
                clear hz HCS
                go_wp2_with fail
                go_ret
                exact ⟨by rw [HC.out, HZ2.out]; rfl, hE2⟩
            · obtain rfl : i = ll := by omega
              have HN := Sl.mk (show chkL (vsOf l) D = 0 by
                rw [HZ.out, List.drop_of_length_le (by rw [HLL.out]; omega)]; rfl)
              go_wp2_with fail
              go_ret
              exact ⟨by rw [HC.out, HN.out]; rfl, hB⟩

end Go.Proofs.YtbnmbncjefnpiaaDoor
