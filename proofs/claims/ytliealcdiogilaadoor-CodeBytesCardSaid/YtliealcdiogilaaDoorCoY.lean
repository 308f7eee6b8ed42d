/-
  The contract of the reference's Encode.
-/
import Derived.Test.YtliealcdiogilaaDoorCoX
import Derived.Lib.ConvBytes
namespace Go.Proofs.YtliealcdiogilaaDoor
open Go.RowKit
attribute [local go_sem ↓] Go.wp_at_zero Go.wp_at_succ

set_option maxHeartbeats 4000000 in
theorem rnumber_any (op : Int) (w : World) :
    Calls Tryd.prog 18 #[.int .i64 op] w fun e w' => e = .returned (.bool (numB op)) ∧ w' = w := by
  by_cases h1 : op = 1
  · subst h1
    go_enter Tryd.func18, Tryd.ntmps18
    go_wp2_with fail
    go_ret
    exact ⟨rfl, rfl⟩
  · by_cases h2 : op = 11
    · subst h2
      go_enter Tryd.func18, Tryd.ntmps18
      go_wp2_with fail
      go_ret
      exact ⟨rfl, rfl⟩
    · by_cases h3 : op = 12
      · subst h3
        go_enter Tryd.func18, Tryd.ntmps18
        go_wp2_with fail
        go_ret
        exact ⟨rfl, rfl⟩
      · by_cases h4 : op = 21
        · subst h4
          go_enter Tryd.func18, Tryd.ntmps18
          go_wp2_with fail
          go_ret
          exact ⟨rfl, rfl⟩
        · have b1 : (op == 1) = false := beq_eq_false_iff_ne.2 h1
          have b2 : (op == 11) = false := beq_eq_false_iff_ne.2 h2
          have b3 : (op == 12) = false := beq_eq_false_iff_ne.2 h3
          have b4 : (op == 21) = false := beq_eq_false_iff_ne.2 h4
          have HR := Sl.mk (show numB op = false by unfold numB; rw [b1, b2, b3, b4]; rfl)
          clear h1 h2 h3 h4
          go_enter Tryd.func18, Tryd.ntmps18
          go_wp2_with fail
          go_ret
          exact ⟨by rw [HR.out]; rfl, rfl⟩
theorem conv_bys (s : ByteArray) (w : World) : (convert 9 47 (.string s)).run Tryd.prog w = .ok (.slice (some ⟨w.heap.size, 0, none⟩) s.size (grownCap w s.size 0 5)) (Lib.bytesWorld w 5 s) :=
  Lib.run_convert_string_bytes w _ _ _ s Tryd.underlying9 Tryd.underlying47 Tryd.underlying5
theorem bys_below (s : ByteArray) (w : World) : Below w.heap.size w (Lib.bytesWorld w 5 s) := ⟨rfl, rfl, rfl, by rw [Lib.bytesWorld_size]; omega, fun k hk => Lib.bytesWorld_at_old w _ s k hk⟩
theorem bys_reads (s : List UInt8) (w : World) : Reads (Lib.bytesWorld w 5 (bsS s)) (w.heap.size + 1) 1 (some ⟨w.heap.size, 0, none⟩) s.length (u8s (s.map UInt8.toNat)) :=
  ⟨by simp [u8s], fun _ => ⟨_, rfl, Nat.lt_succ_self _, fun j u hu => by
    have hj : j < (u8s (s.map UInt8.toNat)).length := (List.getElem?_eq_some_iff.1 hu).1
    rw [u8s_len, List.length_map] at hj
    rw [show (⟨w.heap.size, 0, none⟩ : Addr).add j = ⟨w.heap.size, j, none⟩ by unfold Addr.add; split <;> simp_all, Lib.bytesWorld_cell w _ (bsS s) j (by rw [bs_size]; exact hj), ← hu]
    simp [u8s, bsS, hj]⟩⟩
set_option maxRecDepth 100000 in
set_option maxHeartbeats 16000000 in
theorem rencode_any (A : Option Addr) (n c : Nat) (l : List Ci) (w : World) (hn2 : n ≤ 200) (hI : Is w A n l) (hR : ∀ x ∈ l, rightI x (n : Nat) = true) :
    Calls Tryd.prog 21 #[.slice A n c] w fun e w' => ∃ A' c', e = .returned (.slice A' (encB l).length c') ∧ w'.ownsRow w.heap.size 5 1 (.slice A' (encB l).length c') (encB l).length (u8s (encB l)) ∧ Below w.heap.size w w' := by
  obtain ⟨i0, hi0, hz0, hz1, hz2⟩ := info_parts u8Info
  have HN := Sl.mk hI.n_
  have HI : Sl (Ib w w.heap.size A n l) := Sl.mk ⟨hI.row, hI.len⟩
  have HRR := Sl.mk hR
  have hwn : IntKind.u8.wrap (n : Int) = n := IntWalk.u8_in _ (by omega)
  have hB0 : Blk (w.alloc (.cells #[.int .u8 72, .int .u8 79, .int .u8 79, .int .u8 75, .int .u8 (n : Nat)] 5)) w.heap.size 5 (u8s [72, 79, 79, 75, n]).toArray := Blk.new w _ _
  have HE0 := Sl.mk (below_al (Below.refl w.heap.size w) (.cells #[.int .u8 72, .int .u8 79, .int .u8 79, .int .u8 75, .int .u8 (n : Nat)] 5))
  have HO0 := Sl.mk (own_lit (n := 5) hB0 rfl (Nat.le_refl _) (by omega))
  clear hI hR hB0
  go_enter Tryd.func21, Tryd.ntmps21
  go_wp2_with fail
  go_loopg [3, 4] n (fun q v3 v4 wr => ∃ (i : Nat) (A6 : Option Addr) (c6 : Nat), q = n - i ∧ i ≤ n ∧ v4 = .int .i64 i ∧ v3 = .slice A6 (encP l i).length c6 ∧ wr.ownsRow w.heap.size 5 1 (.slice A6 (encP l i).length c6) (encP l i).length (u8s (encP l i)) ∧ Below w.heap.size w wr)
  case atStart => exact ⟨0, some ⟨w.heap.size, 0, none⟩, 5, rfl, Nat.zero_le _, rfl, rfl, by have := HO0.out; unfold encP; rw [HN.out]; simpa using this, HE0.out⟩
  case round =>
    clear HO0 HE0
    obtain ⟨i, A6, c6, hq, hi, rfl, rfl, hO, hE⟩ := hrel
    by_cases hlt : i < n
    · obtain ⟨x, hx⟩ : ∃ x, l[i]? = some x := ⟨_, List.getElem?_eq_getElem (by rw [HN.out]; exact hlt)⟩
      obtain ⟨ab, ao, rfl, hbl, hld, hsl⟩ := HI.out.lit hx
      have hPL := encP_len HRR.out i
      obtain ⟨P, hP⟩ : ∃ P, encP l i = P := ⟨_, rfl⟩
      have HP2 := Sl.mk (show encP l (i + 1) = P ++ encI x by rw [encP_step hx, hP])
      rw [hP] at hO hPL
      rw [hP]
      have hR := HRR.out x (List.mem_of_getElem? hx)
      obtain ⟨op, m, s⟩ := x
      obtain ⟨ho1, ho2⟩ := right_word hR
      obtain ⟨k, rfl⟩ : ∃ k : Nat, op = k := ⟨op.toNat, by omega⟩
      obtain ⟨hm1, hm2⟩ := right_num hR (by omega)
      obtain ⟨j, rfl⟩ : ∃ j : Nat, m = j := ⟨m.toNat, by omega⟩
      have hs60 := right_text hR
      have hwk : IntKind.u8.wrap (k : Int) = k := IntWalk.u8_in _ (by omega)
      have HQ := Sl.mk (show n - (i + 1) < gk ∧ i + 1 ≤ n by omega)
      have HC : Sl (∀ W, Below w.heap.size w W → W.cell? ⟨ab, ao + i * 3, none⟩ = some (.int .i64 k) ∧ W.cell? ⟨ab, ao + i * 3 + 1, none⟩ = some (.int .i64 j) ∧ W.cell? ⟨ab, ao + i * 3 + 2, none⟩ = some (.string (bsS s))) := Sl.mk (fun W hW => by
        have h0 := hld 0 _ rfl
        have h1 := hld 1 _ rfl
        have h2 := hld 2 _ rfl
        rw [Addr.add_lit] at h0 h1 h2
        exact ⟨(hW.cell (p := ⟨ab, ao + i * 3, none⟩) hbl).trans h0, (hW.cell (p := ⟨ab, ao + i * 3 + 1, none⟩) hbl).trans h1, (hW.cell (p := ⟨ab, ao + i * 3 + 2, none⟩) hbl).trans h2⟩)
      have g0 := (HC.out wr hE).1
      have HO := Sl.mk hO
      have HE := Sl.mk hE
      have hPl2 : P.length ≤ 20000 := by omega
      have HNU := Sl.mk (fun W => rnumber_any (k : Int) W)
      clear hx hR hP hO hE hq hsl hld hPL
      go_wp2_with (refine wpList_append_any _ rfl (.tmp 15) (.tmp 22) 47 rfl w.heap.size 5 i0 (.int .u8 0) 1 1 Tryd.underlying47 hi0 hz0 hz1 hz2 rfl (by decide) (.slice A6 P.length c6) P.length (u8s P) rfl (HO.out.alloc _) (wr.heap.size + 1) _ 1 1 [.int .u8 k] rfl (reads_new1 wr _ _ (Nat.lt_succ_self _)) (by intro u hu; simp at hu; subst hu; rfl) (by unfold maxLen; omega) (by omega) ?_ ?_; exact Nat.le_trans HE.out.size (below_al (Below.refl wr.heap.size wr) _).size; (intro v7 w7 ho7 hg7 _; have HE7 := Sl.mk ((HE.out.alloc HE.out.size (.cells #[.int .u8 k] 5)).grown hg7 (Nat.le_trans HE.out.size (below_al (Below.refl wr.heap.size wr) _).size) (fun q hq => ownGe HO.out hq)); have HO7 := Sl.mk ho7; obtain ⟨A7, c7, hv7⟩ := ownForm ho7; subst hv7; have q0 := (HC.out w7 HE7.out).1; clear ho7 hg7))
      refine (HNU.out _).mono ?_
      rintro e w8 ⟨rfl, rfl⟩
      have q2 := (HC.out w8 HE7.out).2.2
      clear HNU g0 HO HE
      cases hnb : numB (k : Int)
      · by_cases hk2 : k = 2
        · subst hk2
          have HX := Sl.mk (show encI ⟨((2 : Nat) : Int), (j : Int), s⟩ = 2 :: s.length :: s.map UInt8.toNat by
            unfold encI; simp only; rw [if_neg (by decide), if_pos (by decide)]; rfl)
          have HP3 := Sl.mk (show encP l (i + 1) = P ++ [2] ++ [s.length] ++ s.map UInt8.toNat by rw [HP2.out, HX.out]; simp)
          have hz := bs_size s
          have hws : IntKind.u8.wrap (s.length : Int) = s.length := IntWalk.u8_in _ (by omega)
          clear hnb
          go_wp2_with (refine wpList_append_any _ rfl (.tmp 53) (.tmp 61) 47 rfl w.heap.size 5 i0 (.int .u8 0) 1 1 Tryd.underlying47 hi0 hz0 hz1 hz2 rfl (by decide) (.slice A7 (P.length + 1) c7) (P.length + 1) _ rfl (HO7.out.alloc _) (w8.heap.size + 1) _ 1 1 [.int .u8 (s.length : Nat)] rfl (reads_new1 w8 _ _ (Nat.lt_succ_self _)) (by intro u hu; simp at hu; subst hu; rfl) (by unfold maxLen; omega) (by omega) ?_ ?_; exact Nat.le_trans HE7.out.size (below_al (Below.refl w8.heap.size w8) _).size; (intro v9 w9 ho9 hg9 _; have HE9 := Sl.mk ((HE7.out.alloc HE7.out.size (.cells #[.int .u8 (s.length : Nat)] 5)).grown hg9 (Nat.le_trans HE7.out.size (below_al (Below.refl w8.heap.size w8) _).size) (fun q hq => ownGe HO7.out hq)); have HO9 := Sl.mk ho9; obtain ⟨A9, c9, hv9⟩ := ownForm ho9; subst hv9; have q9 := (HC.out w9 HE9.out).2.2; clear ho9 hg9))
          rw [conv_bys (bsS s) w9]
          have HEb := Sl.mk (HE9.out.trans ((bys_below (bsS s) w9).mono HE9.out.size))
          have HOb := Sl.mk (own_below HO9.out (bys_below (bsS s) w9))
          have HRb := Sl.mk (bys_reads s w9)
          obtain ⟨wb, hwb⟩ : ∃ wb, Lib.bytesWorld w9 5 (bsS s) = wb := ⟨_, rfl⟩
          have hsb : w9.heap.size + 1 ≤ wb.heap.size := by rw [← hwb, Lib.bytesWorld_size]; exact Nat.le_refl _
          rw [hwb] at HEb HOb HRb ⊢
          rw [hz]
          obtain ⟨gc, hgc⟩ : ∃ gc, grownCap w9 s.length 0 5 = gc := ⟨_, rfl⟩
          rw [hgc]
          clear hwb hgc q9
          go_wp2_with (refine wpList_append_any _ rfl (.tmp 63) (.tmp 69) 47 rfl w.heap.size 5 i0 (.int .u8 0) 1 1 Tryd.underlying47 hi0 hz0 hz1 hz2 rfl (by decide) (.slice A9 (P.length + 1 + 1) c9) (P.length + 1 + 1) _ rfl HOb.out (w9.heap.size + 1) _ s.length gc (u8s (s.map UInt8.toNat)) rfl HRb.out (u8s_one _) (by unfold maxLen; omega) (by omega) ?_ ?_; exact HEb.out.size; (intro v10 w10 ho10 hg10 _; have HE10 := Sl.mk (HEb.out.grown hg10 HEb.out.size (fun q hq => ownGe HOb.out hq)); have HO10 := Sl.mk ho10; obtain ⟨A10, c10, hv10⟩ := ownForm ho10; subst hv10; clear ho10 hg10))
          go_roundg (n - (i + 1))
          case measure => exact HQ.out.1
          case rel => exact ⟨i + 1, A10, c10, rfl, HQ.out.2, by go_num, by rw [HP3.out]; simp; omega, by rw [HP3.out]; exact own_to HO10.out _ (by simp; omega) (by simp [u8s]), HE10.out⟩
        · have HX := Sl.mk (show encI ⟨(k : Int), (j : Int), s⟩ = [k] by
            unfold encI; simp only; rw [if_neg (by rw [hnb]; simp), if_neg (by omega), Int.toNat_natCast])
          have hkb : ((k : Int) == 2) = false := by simp; omega
          have HP3 := Sl.mk (show encP l (i + 1) = P ++ [k] by rw [HP2.out, HX.out])
          clear hnb hk2
          go_wp2_with fail
          go_roundg (n - (i + 1))
          case measure => exact HQ.out.1
          case rel => exact ⟨i + 1, A7, c7, rfl, HQ.out.2, by go_num, by rw [HP3.out]; simp, by rw [HP3.out]; exact own_to HO7.out _ (by simp) (by simp [u8s]), HE7.out⟩
      · have HX := Sl.mk (show encI ⟨(k : Int), (j : Int), s⟩ = [k, j / 256, j % 256] by
          unfold encI; simp only; rw [if_pos hnb, Int.toNat_natCast, Int.toNat_natCast])
        have HP3 := Sl.mk (show encP l (i + 1) = P ++ [k] ++ [j / 256, j % 256] by rw [HP2.out, HX.out]; simp)
        have HNB := Sl.mk hnb
        clear hnb
        go_upto_region 7 with fail
        refine wp_region_noPanic ?_
        refine wp_region_takes (n := 15) (Below w.heap.size w) (by kernel_rfl) (by kernel_rfl) (fun _ _ _ _ _ h => h) HE7.out.drew ?_
        iterate 15 (refine wpTake_step ?_ (by rfl) (fun w' hw' => ?_) ?_; rotate_left 1; (obtain ⟨c0, c1, c2⟩ := HC.out w' hw'; go_simp; rfl); rotate_left 1)
        simp only [Act.put, List.setIfInBounds_toArray, List.set_cons_zero, List.set_cons_succ]
        have hv1 : IntKind.u8.wrap (IntKind.i64.wrap ((j : Int) / 256)) = ((j / 256 : Nat) : Int) := by rw [IntWalk.i64_in _ (by omega), IntWalk.u8_in _ (by omega)]; rfl
        have hv2 : IntKind.u8.wrap ((j : Int).tmod 256) = ((j % 256 : Nat) : Int) := by rw [IntWalk.rem_in _ _ (by omega), IntWalk.u8_in _ (by omega)]; rfl
        rw [hv1, hv2]
        obtain ⟨wd, hwd⟩ : ∃ wd, ({ w8 with drawn := w8.drawn + 1 } : World) = wd := ⟨_, rfl⟩
        have hOd : wd.ownsRow w.heap.size 5 1 (.slice A7 (P.length + 1) c7) (P.length + 1) (u8s P ++ [.int .u8 k]) := by rw [← hwd]; exact HO7.out
        have hEd : Below w.heap.size w wd := by rw [← hwd]; exact HE7.out.drew
        rw [hwd]
        clear hwd HO7 HE7 q0 q2 hv1 hv2
        have hBa := hEd.alloc hEd.size (.cells #[.int .u8 ((j / 256 : Nat) : Int), .int .u8 ((j % 256 : Nat) : Int)] 5)
        refine wpAnyH_oneL (k := 15) rfl (by kernel_rfl) rfl ?_
        refine wp_of_run (v := .slice (some ⟨wd.heap.size, 0, none⟩) 2 2) (w' := wd.alloc (.cells #[.int .u8 ((j / 256 : Nat) : Int), .int .u8 ((j % 256 : Nat) : Int)] 5)) (by go_simp) ⟨hBa, ?_⟩
        simp only [Act.put, List.setIfInBounds_toArray, List.set_cons_zero, List.set_cons_succ]
        refine wpAnyH_oneL (k := 16) rfl (by kernel_rfl) rfl ?_
        refine wp_append_any _ (.tmp 30) (.tmp 45) 47 rfl w.heap.size 5 i0 (.int .u8 0) 1 1 Tryd.underlying47 hi0 hz0 hz1 hz2 rfl (by decide) (.slice A7 (P.length + 1) c7) (P.length + 1) _ rfl (hOd.alloc _) (wd.heap.size + 1) _ 2 2 [.int .u8 ((j / 256 : Nat) : Int), .int .u8 ((j % 256 : Nat) : Int)] rfl (reads_new2 wd _ _ _ (Nat.lt_succ_self _)) (by intro u hu; simp at hu; rcases hu with rfl | rfl <;> rfl) (by unfold maxLen; omega) (by omega) hBa.size ?_
        intro v9 w9 ho9 hg9 _
        have hE9 := hBa.grown hg9 hBa.size (fun q hq => ownGe hOd hq)
        obtain ⟨A9, c9, hv9⟩ := ownForm ho9
        subst hv9
        refine ⟨hE9, ?_⟩
        simp only [Act.put, List.setIfInBounds_toArray, List.set_cons_zero, List.set_cons_succ]
        refine wpAnyH_oneL (k := 17) rfl (by kernel_rfl) rfl ?_
        refine wp_of_run (v := .slice A9 (P.length + 1 + 2) c9) (w' := w9) (by go_simp) ⟨hE9, ?_⟩
        simp only [Act.put, List.setIfInBounds_toArray, List.set_cons_zero, List.set_cons_succ]
        refine wpAnyH_done (by kernel_rfl) ?_ _
        refine NoPanic.normal ?_
        have HO9 := Sl.mk ho9
        have HE9 := Sl.mk hE9
        have g9 := (HC.out w9 hE9).1
        have hk2 : ((k : Int) == 2) = false := by
          have : k ≠ 2 := fun e => by subst e; exact absurd HNB.out (by decide)
          simp; omega
        clear hOd hEd hBa ho9 hg9 hE9
        go_wp2_with fail
        go_roundg (n - (i + 1))
        case measure => exact HQ.out.1
        case rel => exact ⟨i + 1, A9, c9, rfl, HQ.out.2, by go_num, by rw [HP3.out]; simp, by rw [HP3.out]; exact own_to HO9.out _ (by simp) (by simp [u8s]), HE9.out⟩
    · obtain rfl : i = n := by omega
      have hfin : encP l i = encB l := by unfold encP encB; rw [← HN.out, List.take_length]
      rw [hfin] at hO ⊢
      have HO := Sl.mk hO
      have HE := Sl.mk hE
      clear hO hE hfin hq hi hlt
      go_wp2_with fail
      go_ret
      exact ⟨A6, c6, rfl, HO.out, HE.out⟩
end Go.Proofs.YtliealcdiogilaaDoor
