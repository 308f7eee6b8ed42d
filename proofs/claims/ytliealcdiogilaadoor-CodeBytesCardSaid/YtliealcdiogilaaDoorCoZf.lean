/-
  Decode, of a right program's bytes.
-/
import Derived.Test.YtliealcdiogilaaDoorCoZe
namespace Go.Proofs.YtliealcdiogilaaDoor
open Go.RowKit
attribute [local go_sem ↓] Go.wp_at_zero Go.wp_at_succ

theorem bytesIn_of {w : World} {B n : Nat} {A : Option Addr} {d : List Nat} (h : Reads w B 1 A n (u8s d)) : Lib.BytesIn w A n (d.map Int.ofNat) := by
  rcases Nat.eq_zero_or_pos n with h0 | h0
  · subst h0; exact Lib.BytesIn.nil _ _ _
  · obtain ⟨ad, rfl, _, hc⟩ := h.2 h0
    have hl : d.length = n := by have := h.1; simpa [u8s] using this
    exact Lib.BytesIn.of_cells (fun i hi => hc i _ (by simp [u8s, List.getD_eq_getElem?_getD, List.getElem?_map, List.getElem?_eq_getElem (show i < d.length by omega)]))
def DecPost (w : World) (l : List Ci) (e : Ending) (w' : World) : Prop :=
  ∃ A c, e = .returned (.tuple #[.slice A l.length c, .int .i64 l.length, .int .i64 0]) ∧ w'.ownsRow w.heap.size 45 3 (.slice A l.length c) l.length (isC l) ∧ Below w.heap.size w w'
theorem Rst.grow {w w' : World} {B rb : Nat} {R : List Nat} {row : Option Nat} (h : Rst w B rb R) (k : w.grownBy w' row) (hr : ∀ g, row = some g → rb < g) : Rst w' B rb R := by
  obtain ⟨A, c, q1, q2, q3⟩ := h.blk
  have hle := h.le
  have hl := h.lt
  exact ⟨⟨A, c, q1.grown k (by intro e; have := hr rb e.symm; omega), q2.grown k (by omega) (fun x hx => by have := hr x hx; omega), q3⟩, h.le⟩
theorem pre_ok (l : List Ci) : Lib.hasPrefix (Lib.bytesOf ((encB l).map Int.ofNat)) (Lib.bytesOf [72, 79, 79, 75]) = true := by
  unfold encB
  simp [Lib.bytesOf, Lib.hasPrefix]
theorem enc_drop (l : List Ci) (i : Nat) (x : Ci) (h : l[i]? = some x) : (l.drop i).flatMap encI = encI x ++ (l.drop (i + 1)).flatMap encI := by
  have hi : i < l.length := (List.getElem?_eq_some_iff.1 h).1
  rw [List.drop_eq_getElem_cons hi, List.flatMap_cons]
  rw [List.getElem?_eq_getElem hi] at h
  rw [Option.some.inj h]
set_option maxRecDepth 100000 in
set_option maxHeartbeats 4000000 in
theorem decode_ok (A : Option Addr) (n c : Nat) (l : List Ci) (w : World) (hr : (chkF l).2 = 0) (hnc : n ≤ c) (hc : c ≤ 9223372036854775807) (hR : Reads w w.heap.size 1 A n (u8s (encB l))) (hSp : Spw w w.heap.size) :
    Calls Tryd.prog 19 #[.slice A n c] w (DecPost w l) := by
  obtain ⟨j0, hj0, hy0, hy1, hy2⟩ := info_parts iInfo
  obtain ⟨hl200, hri, hchk⟩ := chk_zero hr
  have hN : n = (encB l).length := by have := hR.1; rw [u8s_len] at this; omega
  have hE : encB l = [72, 79, 79, 75] ++ (l.length :: l.flatMap encI) := by unfold encB; simp
  have hn5 : 5 ≤ n := by rw [hN, hE]; simp
  obtain ⟨b, o, rfl⟩ : ∃ b o, A = some ⟨b, o, none⟩ := by
    obtain ⟨ad, e', _, hcc⟩ := hR.2 (by omega)
    have hlen : 0 < (u8s (encB l)).length := by rw [u8s_len]; omega
    have e := addr_lit (hcc 0 _ (List.getElem?_eq_getElem hlen))
    exact ⟨ad.block, ad.off, by rw [← e]; exact e'⟩
  obtain ⟨wa, hwa⟩ : ∃ wa, w.alloc (.cells #[.int .u8 72, .int .u8 79, .int .u8 79, .int .u8 75] 5 (4, 5)) = wa := ⟨_, rfl⟩
  have hBa : Below w.heap.size w wa := by rw [← hwa]; exact below_al (Below.refl _ _) _
  have hza : wa.heap.size = w.heap.size + 1 := by rw [← hwa]; simp
  have hca : ∀ i, i < 4 → wa.cell? ((⟨w.heap.size, 0, none⟩ : Addr).add i) = some (.int .u8 ([72, 79, 79, 75].getD i 0)) := fun i hi => by
    rw [← hwa, show (⟨w.heap.size, 0, none⟩ : Addr).add i = ⟨w.heap.size, i, none⟩ by unfold Addr.add; split <;> simp_all, World.cell?_alloc_mark]
    match i, hi with
    | 0, _ => rfl
    | 1, _ => rfl
    | 2, _ => rfl
    | 3, _ => rfl
  have HP := Sl.mk (bytes_HasPrefix_all (some ⟨b, o, none⟩) (some ⟨w.heap.size, 0, none⟩) n c 4 4 ((encB l).map Int.ofNat) [72, 79, 79, 75] wa (by rw [List.length_map]; exact hN.symm) rfl hnc (bytesIn_of (hR.below hBa)) (Lib.BytesIn.of_cells hca))
  rw [pre_ok] at HP
  have hc4 : ¬ c = 4 := by omega
  have hRa : Reads wa w.heap.size 1 (some ⟨b, o + 4, none⟩) (n - 4) (u8s (l.length :: l.flatMap encI)) := by
    have h := (hR.below hBa).cut (k := 4) (cap := c) (by omega) (by omega)
    rw [if_neg hc4] at h
    have e : (u8s (encB l)).drop (4 * 1) = u8s (l.length :: l.flatMap encI) := by rw [hE]; simp [u8s]
    rw [e] at h
    have e2 : (some ⟨b, o, none⟩ : Option Addr).map (·.add (4 * 1)) = some ⟨b, o + 4, none⟩ := by simp [Addr.add]
    rw [e2] at h
    exact h
  obtain ⟨rb, hrb⟩ : ∃ rb, wa.heap.size = rb := ⟨_, rfl⟩
  obtain ⟨wb, hwb⟩ : ∃ wb, wa.alloc (.cells #[.slice (some ⟨b, o + 4, none⟩) (n - 4) (c - 4), .bool false] 78) = wb := ⟨_, rfl⟩
  have hLen : n - 4 = (l.length :: l.flatMap encI).length := by rw [hN, hE]; simp
  have hB0 : Blk wb rb 78 #[.slice (some ⟨b, o + 4, none⟩) (n - 4) (c - 4), .bool false] := by rw [← hwb, ← hrb]; exact Blk.new _ _ _
  have hBb : Below w.heap.size w wb := by rw [← hwb]; exact below_al hBa _
  have hBab : Below wa.heap.size wa wb := by rw [← hwb]; exact below_al (Below.refl _ _) _
  have hRb : Rst wb w.heap.size rb (l.length :: l.flatMap encI) := by
    refine ⟨⟨some ⟨b, o + 4, none⟩, c - 4, by rw [← hLen]; exact hB0, ?_, by rw [← hLen]; omega, by omega⟩, by omega⟩
    rw [← hLen]
    exact hRa.below (hBab.mono (by omega))
  have HO := Sl.mk (one_ok w.heap.size rb l.length (l.flatMap encI) wb (by omega) hRb)
  have HBb := Sl.mk hBb
  have HSP := Sl.mk hSp
  have HRI := Sl.mk hri
  have HCK := Sl.mk hchk
  have HLB := Sl.mk (show rb < wb.heap.size by rw [← hwb, ← hrb]; simp)
  have HZA := Sl.mk (show rb = w.heap.size + 1 by omega)
  obtain ⟨m, hm⟩ : ∃ m, l.length = m := ⟨_, rfl⟩
  have HM := Sl.mk hm
  rw [hm] at HO hl200
  have HRBE := Sl.mk hrb
  clear hR hSp hri hchk hN hE hRa hLen hB0 hBb hRb hca hBa hr hm hBab hza hrb
  have HWA := Sl.mk hwa
  have HWB := Sl.mk hwb
  clear hwa hwb
  go_enter Tryd.func19, Tryd.ntmps19
  have kc := fun (w : World) (C : Array Value) (n c : Nat) => Lib.run_convert_bytes_const (P := Tryd.prog) w 47 5 C n c Tryd.underlying47 Tryd.underlying5
  go_wp2_with fail
  rw [HWA.out]
  refine HP.out.mono ?_
  rintro e w1 ⟨rfl, hw1⟩
  subst hw1
  clear HP kc
  go_wp2_with fail
  rw [HWB.out, HRBE.out]
  refine HO.out.mono ?_
  rintro e w2 ⟨rfl, h2, g2, z2⟩
  obtain ⟨A2, c2, hB2, _, _, _⟩ := h2.blk
  have q1 := hB2.cell 1
  have HS2 := Sl.mk h2
  have HE2 := Sl.mk (show Below w.heap.size w w2 from HBb.out.grown g2 (by have := HBb.out.size; omega) (fun x hx => by injection hx with hx; have := HZA.out; omega))
  have HZ2 := Sl.mk (show rb < w2.heap.size by have := HLB.out; omega)
  clear h2 g2 z2 hB2 HO HBb HWA HWB HRBE HLB
  go_wp2_with fail
  go_loopg [7, 29] m (fun q v7 v29 wr => ∃ (i : Nat) (A7 : Option Addr) (c7 : Nat), q = m - i ∧ i ≤ m ∧ v29 = .int .i64 i ∧ v7 = .slice A7 i c7 ∧ Rst wr w.heap.size rb ((l.drop i).flatMap encI) ∧ wr.ownsRow (rb + 1) 45 3 (.slice A7 i c7) i (isC (l.take i)) ∧ Below w.heap.size w wr)
  case atStart => exact ⟨0, none, 0, rfl, Nat.zero_le _, rfl, rfl, by rw [List.drop_zero]; exact HS2.out, World.ownsRow_nil _ _ _ _, HE2.out⟩
  case round =>
    clear HS2 HE2 HZ2 q1
    obtain ⟨i, A7, c7, hq, hi, rfl, rfl, hS, hO, hE⟩ := hrel
    by_cases hlt : i < m
    · obtain ⟨x, hx⟩ : ∃ x, l[i]? = some x := ⟨_, List.getElem?_eq_getElem (by rw [HM.out]; exact hlt)⟩
      rw [enc_drop l i x hx] at hS
      have HIN := Sl.mk (instr_any w.heap.size rb x ((l.drop (i + 1)).flatMap encI) wr (m : Nat) (by omega) (by have := HRI.out i x hx; rw [HM.out] at this; exact this) (HSP.out.be hE) hS)
      have hsn := isC_snoc l i x hx
      have HSN := Sl.mk hsn
      have HQ := Sl.mk (show m - (i + 1) < gk ∧ i + 1 ≤ m by omega)
      have HO := Sl.mk hO
      have HE := Sl.mk hE
      have HRB := Sl.mk hS.lt
      obtain ⟨op, k0, s⟩ := x
      clear hx hS hO hE hsn hq hi
      go_wp2_with fail
      refine HIN.out.mono ?_
      rintro e w3 ⟨rfl, h3, g3⟩
      have hO3 : w3.ownsRow (rb + 1) 45 3 (.slice A7 i c7) i (isC (l.take i)) := HO.out.kept g3 (by
        cases hv : (Value.slice A7 i c7).ownBlock with
        | none => exact .inl rfl
        | some g => exact .inr (fun e => by have := ownGe HO.out hv; injection e with e; omega))
      have hE3 : Below w.heap.size w w3 := HE.out.grown g3 HE.out.size (fun x hx => by injection hx with hx; have := HZA.out; omega)
      have hal := below_al (Below.refl w3.heap.size w3) (.cells #[.int .i64 op, .int .i64 k0, .string (bsS s)] 45)
      have hB3 := Blk.new w3 45 #[.int .i64 op, .int .i64 k0, .string (bsS s)]
      obtain ⟨w4, hw4⟩ : ∃ w4, w3.alloc (.cells #[.int .i64 op, .int .i64 k0, .string (bsS s)] 45) = w4 := ⟨_, rfl⟩
      obtain ⟨tb, htb⟩ : ∃ tb, w3.heap.size = tb := ⟨_, rfl⟩
      have HTB := Sl.mk htb
      have HW4 := Sl.mk hw4
      have HZ3 := Sl.mk (show rb < w3.heap.size by have := g3.size; have := HRB.out; omega)
      have hS4 := h3.be hal
      have hO4 := own_below hO3 hal
      have hE4 := below_tr hE3 hal
      rw [hw4] at hB3 hS4 hO4 hE4
      obtain ⟨A4, c4, hB4, _, _, _⟩ := hS4.blk
      have q1 := hB4.cell 1
      rw [htb] at hB3
      have hc3 : ∀ j v, (iC ⟨op, k0, s⟩)[j]? = some v → w4.cell? ((⟨tb, 0, none⟩ : Addr).add j) = some v := fun j v hv => by
        rw [show (⟨tb, 0, none⟩ : Addr).add j = ⟨tb, j, none⟩ by unfold Addr.add; split <;> simp_all, hB3.cell j]
        simpa [iC] using hv
      have HC3 := Sl.mk hc3
      have HS4 := Sl.mk hS4
      have HO4 := Sl.mk hO4
      have HE4 := Sl.mk hE4
      clear h3 g3 hO3 hE3 hal hB3 hS4 hO4 hE4 hB4 hc3 HIN HO HE hw4 htb HRB
      go_upto_region 12 with fail
      rw [HW4.out, HTB.out]
      go_upto_region 16 with fail
      go_wp2_with (first | (refine ld_i HC3.out rfl (.tmp 9) rfl rfl ?_) | (refine wpList_append_any _ rfl (.tmp 47) (.tmp 49) 30 rfl (rb + 1) 45 j0 (.agg #[.int .i64 0, .int .i64 0, .string ⟨#[]⟩]) 3 32 Tryd.underlying30 hj0 hy0 hy1 hy2 rfl (by decide) (.slice A7 i c7) i (isC (l.take i)) rfl (HO4.out.alloc _) (w4.heap.size + 1) _ 1 1 [.int .i64 op, .int .i64 k0, .string (bsS s)] rfl (reads_row3 w4 _ _ _ _ (Nat.lt_succ_self _)) (by intro u hu; simp at hu; rcases hu with rfl | rfl | rfl <;> rfl) (by unfold maxLen; omega) (by omega) ?_ ?_; (have := HS4.out.lt; have := (below_al (Below.refl w4.heap.size w4) (.cells #[.int .i64 op, .int .i64 k0, .string (bsS s)] 45)).size; omega); (intro v7 w7 ho7 hg7 _; have HE7 := Sl.mk ((below_al HE4.out (.cells #[.int .i64 op, .int .i64 k0, .string (bsS s)] 45)).grown hg7 (below_al HE4.out _).size (fun q hq => by have := ownGe HO4.out hq; have := HZA.out; omega)); have HS7 := Sl.mk ((HS4.out.be (below_al (Below.refl w4.heap.size w4) (.cells #[.int .i64 op, .int .i64 k0, .string (bsS s)] 45))).grow hg7 (fun q hq => by have := ownGe HO4.out hq; omega)); rw [← HSN.out] at ho7; have HO7 := Sl.mk ho7; obtain ⟨A9, c9, hv7⟩ := ownForm ho7; subst hv7; clear ho7 hg7)))
      go_roundg (m - (i + 1))
      case measure => exact HQ.out.1
      case rel => exact ⟨i + 1, A9, c9, rfl, HQ.out.2, by go_num, rfl, HS7.out, HO7.out, HE7.out⟩
    · obtain rfl : i = m := by omega
      have hdr : (l.drop i).flatMap encI = [] := by rw [← HM.out, List.drop_length]; rfl
      have htk : l.take i = l := by rw [← HM.out, List.take_length]
      rw [hdr] at hS
      rw [htk] at hO
      obtain ⟨A4, c4, hB4, _, _, _⟩ := hS.blk
      have q0 : wr.cell? ⟨rb, 0, none⟩ = some (.slice A4 0 c4) := hB4.cell 0
      have hI : Is wr A7 i l := ⟨Reads.of_own hO, fun x hx => by
        obtain ⟨j, hj⟩ := List.mem_iff_getElem?.1 hx
        exact Nat.le_trans (right_text (HRI.out j x hj)) (by omega)⟩
      have HCA := Sl.mk (check_any A7 i c7 l wr (by omega) hI ((HSP.out.be hE).mono hE.size))
      unfold CkPost at HCA
      rw [HCK.out, HM.out] at HCA
      have HO := Sl.mk hO
      have HE := Sl.mk hE
      clear hS hO hE hB4 hI hdr htk hq hi hlt
      go_wp2_with fail
      refine HCA.out.mono ?_
      rintro e w5 ⟨rfl, hb5⟩
      have HB5 := Sl.mk hb5
      clear hb5
      go_wp2_with fail
      go_ret3
      exact ⟨A7, c7, by rw [HM.out]; rfl, by rw [HM.out]; exact Go.Joins.ownsRow_le (own_below HO.out HB5.out) (base' := w.heap.size) (by have := HZA.out; omega), below_tr HE.out HB5.out⟩
end Go.Proofs.YtliealcdiogilaaDoor
