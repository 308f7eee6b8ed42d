/-
  The contract of creelref23.Add.
-/
import Derived.Test.YtkmdhmnjohlnaaaRevRA
namespace Go.Proofs.Ytkmdhmnjohlnaaa
open Go.RowKit
attribute [local go_sem ↓] Go.wp_at_zero Go.wp_at_succ

def sliceLen : Value → Nat
  | .slice _ n _ => n
  | _ => 0

set_option maxRecDepth 100000 in
set_option maxHeartbeats 8000000 in
theorem radd_any (s1 s2 : ByteArray) (a : Int) (A : Option Addr) (n c : Nat) (l : List Rv) (r : Rv) (w : World) (h1 : s1.size ≤ 9223372036854775807) (h2 : s2.size ≤ 9223372036854775807) (hn : n ≤ 1000000) (hR : Reads w w.heap.size 34 A n (revC l)) :
    Calls Try.prog 11 #[.agg #[.string s1, .string s2, .int .i64 a, .slice A n c], .agg (rvC r).toArray] w (RAddPost w s1 s2 a l r) := by
  have hl := reads_n hR
  have HL := Sl.mk hl
  obtain ⟨w0, hw0⟩ : ∃ w0, ((w.alloc (.cells #[.string s1, .string s2, .int .i64 a, .slice A n c] 24)).alloc (.cells (rvC r).toArray 27)).alloc (.cells #[.string { data := #[] }, .string { data := #[] }, .int .i64 0, .slice none 0 0] 24) = w0 := ⟨_, rfl⟩
  have hE0 := below_al (below_al (below_al (Below.refl w.heap.size w) (.cells #[.string s1, .string s2, .int .i64 a, .slice A n c] 24)) (.cells (rvC r).toArray 27)) (.cells #[.string { data := #[] }, .string { data := #[] }, .int .i64 0, .slice none 0 0] 24)
  have hX0 := ((Blk.new w 24 #[.string s1, .string s2, .int .i64 a, .slice A n c]).alloc (.cells (rvC r).toArray 27)).alloc (.cells #[.string { data := #[] }, .string { data := #[] }, .int .i64 0, .slice none 0 0] 24)
  have hV0 := (Blk.new' (w := w.alloc (.cells #[.string s1, .string s2, .int .i64 a, .slice A n c] 24)) (g := w.heap.size + 1) (t := 27) (cs := (rvC r).toArray) (by simp)).alloc (.cells #[.string { data := #[] }, .string { data := #[] }, .int .i64 0, .slice none 0 0] 24)
  have hZ0 := Blk.new' (w := (w.alloc (.cells #[.string s1, .string s2, .int .i64 a, .slice A n c] 24)).alloc (.cells (rvC r).toArray 27)) (g := w.heap.size + 2) (t := 24) (cs := #[.string { data := #[] }, .string { data := #[] }, .int .i64 0, .slice none 0 0]) (by simp)
  rw [hw0] at hE0 hX0 hV0 hZ0
  have HR := Sl.mk hR
  have hK0 : AK w w0 s1 s2 a A n c r none [] 0 none [] 0 := ⟨hX0, hV0, hZ0, ⟨World.ownsRow_nil _ _ _ _, World.ownsRow_nil _ _ _ _, fun x hx => by simp [Value.ownBlock] at hx⟩, hE0⟩
  have hR0 := Sl.mk ((hR.below hE0).more hE0.size)
  clear hR hX0 hV0 hZ0 hE0
  go_enter Try.func11, Try.ntmps11
  go_wp2_with (refine ld_pkR hK0.P rfl (.tmp 2) rfl rfl rfl ?_)
  clear hw0
  refine (rcheck_any s1 s2 a A n c l _ h1 h2 hn hR0.out).mono ?_
  rintro e w1 ⟨rfl, hB1⟩
  have hK1 := hK0.be hB1
  clear hK0 hB1 hR0
  by_cases hC : checkF s1 s2 a l = 0
  · have HC := Sl.mk hC
    have hn3 := (check_parts hC).2.2.2.1
    have hn1 := (check_parts hC).2.2.1
    have HG := Sl.mk (check_parts hC).2.2.2.2.1
    rw [hl] at hn3 hn1
    rw [hC]
    clear hC
    have hRl := rfind_any r.no A n c l w1 hn ((HR.out.below hK1.below).more hK1.below.size)
    obtain ⟨c0, c1', c2', c3⟩ := hK1.P.c4
    have d0 := hK1.V.rv0
    by_cases hix : idxR r.no l < l.length
    · have hp : placeF r.no l = ((idxR r.no l : Nat) : Int) := by unfold placeF; rw [if_pos hix]
      have HT := Sl.mk (show addE s1 s2 a l r = 8 by unfold addE; rw [if_neg (by rw [HC.out]; simp), if_pos hix])
      rw [hp] at hRl
      obtain ⟨kx, hkx⟩ : ∃ kx, idxR r.no l = kx := ⟨_, rfl⟩
      rw [hkx] at hRl
      clear hp hix hkx hl
      go_wp2_with fail
      refine hRl.mono ?_
      rintro e w2 ⟨rfl, rfl⟩
      clear c0 c1' c2' c3 d0
      go_wp2_with (refine st_pkR hK1.Z rfl (.tmp 4) (.tmp 23) rfl ⟨#[]⟩ ⟨#[]⟩ 0 none 0 0 rfl rfl rfl ?_)
      intro w4 hZ4 hG4 _
      have hE4 := below_only hK1.below hG4 hK1.below.size (by omega)
      go_wp2_with fail
      refine bodyPost_ret (res_cell_tmp2 Try.results11 _ _ _ rfl hZ4 Try.underlying24 infoRef rfl rfl) rfl ?_
      exact ⟨hE4, .inl ⟨by rw [HT.out]; simp, by rw [HT.out]; rfl⟩⟩
    · have hp : placeF r.no l = -1 := by unfold placeF; rw [if_neg hix]
      obtain ⟨k, rfl⟩ : ∃ k, n = k + 1 := ⟨n - 1, by omega⟩
      obtain ⟨rl, hrl⟩ : ∃ rl, l[k]? = some rl := ⟨_, List.getElem?_eq_getElem (by omega)⟩
      have HE := Sl.mk (addE_of HC.out hix hl hrl)
      have HNR := Sl.mk (not_has hix)
      rw [hp] at hRl
      obtain ⟨ad, rfl, hbl, hld, hd0⟩ := reads_load (HR.out.below hK1.below) hrl
      have d33 := hK1.V.rv33
      clear hp hix hld hrl hl
      go_wp2_with fail
      refine hRl.mono ?_
      rintro e w2 ⟨rfl, rfl⟩
      have hk0 : (0 : Int) ≤ (k : Int) := by omega
      have hk1 : (k : Int) < ((k : Int) + 1) := by omega
      go_wp2_with fail
      go_cut [50] (fun v wx => v = .bool (badB r rl) ∧ ∃ q, wx = w1.drewN q)
      case first =>
        cases e1 : decide (r.no ≤ rl.no)
        · cases e2 : decide (999999 < r.no)
          · cases e3 : decide (r.size < 0)
            · cases e4 : decide (131072 < r.size)
              · go_quiet (fail)
                go_wp2_with fail
                go_meet
                exact ⟨by simp [badB, e1, e2, e3, e4], _, rfl⟩
              · go_quiet (fail)
                go_wp2_with fail
                go_meet
                exact ⟨by simp [badB, e1, e2, e3, e4], _, rfl⟩
            · go_quiet (fail)
              go_wp2_with fail
              go_meet
              exact ⟨by simp [badB, e1, e2, e3], _, rfl⟩
          · go_quiet (fail)
            go_wp2_with fail
            go_meet
            exact ⟨by simp [badB, e1, e2], _, rfl⟩
        · go_quiet (fail)
          go_wp2_with fail
          go_meet
          exact ⟨by simp [badB, e1], _, rfl⟩
      case rest =>
        obtain ⟨rfl, q, rfl⟩ := hcut
        have hKq := hK1.dr q
        have c3q : (w1.drewN q).cell? ⟨w.heap.size, 3, none⟩ = some (.slice (some ad) (k + 1) c) := c3
        have d0q : (w1.drewN q).cell? ⟨w.heap.size + 1, 0, none⟩ = some (.int .i64 r.no) := d0
        obtain ⟨wz, hwz⟩ : ∃ wz, w1.drewN q = wz := ⟨_, rfl⟩
        rw [hwz] at hKq c3q d0q ⊢
        clear hwz hK1 c0 c1' c2' c3 d0 hRl hd0 d33
        cases eB : badB r rl
        · have HT := Sl.mk (show addE s1 s2 a l r = 0 by rw [HE.out, eB]; rfl)
          go_wp2_with fail
          obtain ⟨K, hK⟩ : ∃ K, l ++ [r] = K := ⟨_, rfl⟩
          have hKl : K.length = k + 1 + 1 := by rw [← hK]; simp [HL.out]
          have HK := Sl.mk hK
          have HKL := Sl.mk hKl
          clear hK
          go_cut [8] (fun v8 wx => ∃ A2 c2, v8 = .slice A2 K.length c2 ∧ AK w wx s1 s2 a (some ad) (k + 1) c r none [] 0 A2 K c2)
          case first =>
            have hu36 := Try.underlying27
            have hi36 : (Try.prog.info? 27).map (·.size) = some (rvC r).length := by rw [infoRvR, rvC_len]
            have hKd := hKq.be (Below.refl wz.heap.size wz).drew
            obtain ⟨wd, hwd⟩ : ∃ wd, wz.drew = wd := ⟨_, rfl⟩
            rw [hwd] at hKd
            have hltZ := hKd.Z.lt
            have hS : ∀ W, Below wd.heap.size wd W → W.cell? ⟨w.heap.size, 3, none⟩ = some (.slice (some ad) (k + 1) c) ∧ W.rangeAt (w.heap.size + 1) 0 (rvC r) := fun W hb => ⟨(hKd.P.be hb).cell 3, blk_range (hKd.V.be hb)⟩
            have hSd0 := hS _ (Below.refl _ _)
            have hRd := Sl.mk ((HR.out.below hKd.below).more hKd.below.size)
            have hfold := fold_rv r #[.int .i64 0, .int .u8 0, .int .u8 0, .int .u8 0, .int .u8 0, .int .u8 0, .int .u8 0, .int .u8 0, .int .u8 0, .int .u8 0, .int .u8 0, .int .u8 0, .int .u8 0, .int .u8 0, .int .u8 0, .int .u8 0, .int .u8 0, .int .u8 0, .int .u8 0, .int .u8 0, .int .u8 0, .int .u8 0, .int .u8 0, .int .u8 0, .int .u8 0, .int .u8 0, .int .u8 0, .int .u8 0, .int .u8 0, .int .u8 0, .int .u8 0, .int .u8 0, .int .u8 0, .int .i64 0] (by rfl)
            have h34 := rvC_len r
            have hKn : 0 + (k + 1) = k + 1 := by omega
            have hKn2 : (k + 1) + 1 = K.length := by omega
            have hfin : ∀ A9 c9 W9, W9.ownsRow wd.heap.size 27 34 (.slice A9 K.length c9) K.length (revC (l ++ [r])) → Below wd.heap.size wd W9 → AK w W9 s1 s2 a (some ad) (k + 1) c r none [] 0 A9 K c9 := fun A9 c9 W9 ho hb => by
              have hk9 := hKd.be hb
              rw [HK.out] at ho
              exact ⟨hk9.P, hk9.V, hk9.Z, ⟨World.ownsRow_nil _ _ _ _, own_mono ho (by omega), fun x hx => by simp [Value.ownBlock] at hx⟩, hk9.below⟩
            refine wp_region_noPanic ?_
            refine wp_region_held_drew (S := fun W => W.cell? ⟨w.heap.size, 3, none⟩ = some (.slice (some ad) (k + 1) c) ∧ W.rangeAt (w.heap.size + 1) 0 (rvC r)) (by kernel_rfl) (by rw [hwd]; exact hSd0) (fun hSd => ?_)
            rw [hwd] at hSd ⊢
            clear hwd hKq
            refine wpAnyH_takeL (i := 1) (v := .pointer (some ⟨w.heap.size, 3, none⟩)) rfl (by kernel_rfl) (by kernel_rfl) (by kernel_rfl) (fun _ _ _ h => h) (.inl ⟨by rfl, fun w' _ => by go_simp⟩) hSd ?_
            simp only [Act.put, List.setIfInBounds_toArray, List.set_cons_zero, List.set_cons_succ]
            refine wpAnyH_takeL (i := 2) (v := .slice (some ad) (k + 1) c) rfl (by kernel_rfl) (by kernel_rfl) (by kernel_rfl) (fun _ _ _ h => h) (.inl ⟨by rfl, fun w' hw' => by obtain ⟨q1, -⟩ := hw'; go_simp⟩) hSd ?_
            simp only [Act.put, List.setIfInBounds_toArray, List.set_cons_zero, List.set_cons_succ]
            refine wpAnyH_takeL (i := 4) (v := .agg (rvC r).toArray) rfl (by kernel_rfl) (by kernel_rfl) (by kernel_rfl) (fun _ _ _ h => h) (yieldsIf_load_mid (by rfl) 27 (.tmp 3) rfl (w.heap.size + 1) 0 rfl (rvC r) _ (fun _ hw' => hw'.2) hu36 rfl hi36) hSd ?_
            simp only [Act.put, List.setIfInBounds_toArray, List.set_cons_zero, List.set_cons_succ]
            refine wpAnyH_twoL (i := 0) (j := 5) rfl rfl (by kernel_rfl) rfl rfl ?_ ?_
            · have hBa := below_al (Below.refl wd.heap.size wd) (.cells #[] 27)
              have hoa := own_empty wd 27 34
              have hsa : (wd.alloc (.cells #[] 27)).heap.size = wd.heap.size + 1 := by simp
              refine wp_of_run (v := .slice (some ⟨wd.heap.size, 0, none⟩) 0 0) (w' := wd.alloc (.cells #[] 27)) (by go_simp) ⟨hS _ hBa, ?_⟩
              simp only [Act.put, List.setIfInBounds_toArray, List.set_cons_zero, List.set_cons_succ]
              obtain ⟨wa, hwa⟩ : ∃ wa, wd.alloc (.cells #[] 27) = wa := ⟨_, rfl⟩
              rw [hwa] at hBa hoa hsa ⊢
              clear hwa
              refine wpAnyH_twoL (i := 3) (j := 5) rfl rfl (by kernel_rfl) rfl rfl ?_ ?_
              · refine wp_apR (.tmp 52) (.tmp 54) rfl (l1 := []) (l2 := l) rfl hoa rfl (hRd.out.below hBa) hKn (by omega) (by omega) (fun A3 c3 W3 hown3 hB3 hG3 => ?_)
                have hBb := hBa.trans hB3
                refine ⟨hS _ hBb, ?_⟩
                simp only [Act.put, List.setIfInBounds_toArray, List.set_cons_zero, List.set_cons_succ]
                refine wpAnyH_oneL (k := 5) rfl (by kernel_rfl) rfl ?_
                have hBc := below_al hBb (.cells (rvC r).toArray 27)
                refine wp_of_run (v := .slice (some ⟨W3.heap.size, 0, none⟩) 1 1) (w' := W3.alloc (.cells (rvC r).toArray 27)) (by go_simp) ⟨hS _ hBc, ?_⟩
                simp only [Act.put, List.setIfInBounds_toArray, List.set_cons_zero, List.set_cons_succ]
                refine wpAnyH_oneL (k := 6) rfl (by kernel_rfl) rfl ?_
                refine wp_apR (.tmp 55) (.tmp 57) rfl (l1 := [] ++ l) (l2 := [r]) rfl (hown3.alloc _) rfl (reads_blkR (Blk.new W3 27 _)) hKn2 (by omega) hBc.size (fun A4 c4 W4 hown4 hB4 hG4 => ?_)
                have hBd := hBc.trans hB4
                refine ⟨hS _ hBd, ?_⟩
                simp only [Act.put, List.setIfInBounds_toArray, List.set_cons_zero, List.set_cons_succ]
                refine wpAnyH_oneL (k := 7) rfl (by kernel_rfl) rfl ?_
                refine wp_of_run (v := .slice A4 K.length c4) (w' := W4) (by rfl) ⟨hS _ hBd, ?_⟩
                simp only [Act.put, List.setIfInBounds_toArray, List.set_cons_zero, List.set_cons_succ]
                refine wpAnyH_done (by kernel_rfl) ?_ _
                refine NoPanic.normal ?_
                (try go_wp2_with fail)
                go_meet
                exact ⟨A4, c4, rfl, hfin _ _ _ hown4 hBd⟩
              · have hBc := below_al hBa (.cells (rvC r).toArray 27)
                have hVc := Blk.new wa 27 (rvC r).toArray
                refine wp_of_run (v := .slice (some ⟨wa.heap.size, 0, none⟩) 1 1) (w' := wa.alloc (.cells (rvC r).toArray 27)) (by go_simp) ⟨hS _ hBc, ?_⟩
                simp only [Act.put, List.setIfInBounds_toArray, List.set_cons_zero, List.set_cons_succ]
                refine wpAnyH_oneL (k := 3) rfl (by kernel_rfl) rfl ?_
                refine wp_apR (.tmp 52) (.tmp 54) rfl (l1 := []) (l2 := l) rfl (hoa.alloc _) rfl (hRd.out.below hBc) hKn (by omega) hBc.size (fun A3 c3 W3 hown3 hB3 hG3 => ?_)
                have hBb := hBc.trans hB3
                have hV3 := hVc.grown hG3 (fun e => by have := own_lt hoa e.symm; omega)
                refine ⟨hS _ hBb, ?_⟩
                simp only [Act.put, List.setIfInBounds_toArray, List.set_cons_zero, List.set_cons_succ]
                refine wpAnyH_oneL (k := 6) rfl (by kernel_rfl) rfl ?_
                refine wp_apR (.tmp 55) (.tmp 57) rfl (l1 := [] ++ l) (l2 := [r]) rfl hown3 rfl (reads_blkR hV3) hKn2 (by omega) hBb.size (fun A4 c4 W4 hown4 hB4 hG4 => ?_)
                have hBd := hBb.trans hB4
                refine ⟨hS _ hBd, ?_⟩
                simp only [Act.put, List.setIfInBounds_toArray, List.set_cons_zero, List.set_cons_succ]
                refine wpAnyH_oneL (k := 7) rfl (by kernel_rfl) rfl ?_
                refine wp_of_run (v := .slice A4 K.length c4) (w' := W4) (by rfl) ⟨hS _ hBd, ?_⟩
                simp only [Act.put, List.setIfInBounds_toArray, List.set_cons_zero, List.set_cons_succ]
                refine wpAnyH_done (by kernel_rfl) ?_ _
                refine NoPanic.normal ?_
                (try go_wp2_with fail)
                go_meet
                exact ⟨A4, c4, rfl, hfin _ _ _ hown4 hBd⟩
            · have hBa := below_al (Below.refl wd.heap.size wd) (.cells (rvC r).toArray 27)
              have hVa := Blk.new wd 27 (rvC r).toArray
              have hsa : (wd.alloc (.cells (rvC r).toArray 27)).heap.size = wd.heap.size + 1 := by simp
              refine wp_of_run (v := .slice (some ⟨wd.heap.size, 0, none⟩) 1 1) (w' := wd.alloc (.cells (rvC r).toArray 27)) (by go_simp) ⟨hS _ hBa, ?_⟩
              simp only [Act.put, List.setIfInBounds_toArray, List.set_cons_zero, List.set_cons_succ]
              obtain ⟨wa, hwa⟩ : ∃ wa, wd.alloc (.cells (rvC r).toArray 27) = wa := ⟨_, rfl⟩
              rw [hwa] at hBa hVa hsa ⊢
              clear hwa
              refine wpAnyH_oneL (k := 0) rfl (by kernel_rfl) rfl ?_
              have hBc := below_al hBa (.cells #[] 27)
              have hVc := hVa.alloc (.cells #[] 27)
              have hoc := own_mono (b' := wd.heap.size) (own_empty wa 27 34) (by omega)
              refine wp_of_run (v := .slice (some ⟨wa.heap.size, 0, none⟩) 0 0) (w' := wa.alloc (.cells #[] 27)) (by go_simp) ⟨hS _ hBc, ?_⟩
              simp only [Act.put, List.setIfInBounds_toArray, List.set_cons_zero, List.set_cons_succ]
              refine wpAnyH_oneL (k := 3) rfl (by kernel_rfl) rfl ?_
              refine wp_apR (.tmp 52) (.tmp 54) rfl (l1 := []) (l2 := l) rfl hoc rfl (hRd.out.below hBc) hKn (by omega) hBc.size (fun A3 c3 W3 hown3 hB3 hG3 => ?_)
              have hBb := hBc.trans hB3
              have hV3 := hVc.grown hG3 (fun e => by have := ownGe (own_empty wa 27 34) e.symm; omega)
              refine ⟨hS _ hBb, ?_⟩
              simp only [Act.put, List.setIfInBounds_toArray, List.set_cons_zero, List.set_cons_succ]
              refine wpAnyH_oneL (k := 6) rfl (by kernel_rfl) rfl ?_
              refine wp_apR (.tmp 55) (.tmp 57) rfl (l1 := [] ++ l) (l2 := [r]) rfl hown3 rfl (reads_blkR hV3) hKn2 (by omega) hBb.size (fun A4 c4 W4 hown4 hB4 hG4 => ?_)
              have hBd := hBb.trans hB4
              refine ⟨hS _ hBd, ?_⟩
              simp only [Act.put, List.setIfInBounds_toArray, List.set_cons_zero, List.set_cons_succ]
              refine wpAnyH_oneL (k := 7) rfl (by kernel_rfl) rfl ?_
              refine wp_of_run (v := .slice A4 K.length c4) (w' := W4) (by rfl) ⟨hS _ hBd, ?_⟩
              simp only [Act.put, List.setIfInBounds_toArray, List.set_cons_zero, List.set_cons_succ]
              refine wpAnyH_done (by kernel_rfl) ?_ _
              refine NoPanic.normal ?_
              (try go_wp2_with fail)
              go_meet
              exact ⟨A4, c4, rfl, hfin _ _ _ hown4 hBd⟩
          case rest =>
            obtain ⟨A2, c2, rfl, hKw⟩ := hcut
            clear hKq c3q d0q hKl
            go_wp2_with fail
            go_loopw [8, 9] (fun s8 s9 wr => ∃ (A1 : Option Addr) (G : List Rv) (c1 : Nat) (A2 : Option Addr) (K' : List Rv) (c2 : Nat), s8 = .slice A2 K'.length c2 ∧ s9 = .slice A1 G.length c1 ∧ AK w wr s1 s2 a (some ad) (k + 1) c r A1 G c1 A2 K' c2 ∧
              Sl ((G = [] ∧ K' = K) ∨ (G = addL true a l r ∧ K' = addL false a l r ∧ K'.length ≤ 3))) (fun s8 _ _ => sliceLen s8)
            case atStart => exact ⟨none, [], 0, A2, K, c2, rfl, rfl, hKw, ⟨.inl ⟨rfl, rfl⟩⟩⟩
            case round =>
              obtain ⟨A1, G, c1, A2', K', c2', rfl, rfl, hKr, HO⟩ := hrel
              clear hKw
              by_cases h4 : 3 < K'.length
              · have e1 : decide ((3 : Int) < K'.length) = true := by simp; omega
                obtain ⟨rfl, rfl⟩ : G = [] ∧ K' = K := by
                  rcases HO.out with h | h
                  · exact h
                  · omega
                have HK2 := Sl.mk (show k = 2 by have := HKL.out; omega)
                have HL3 := Sl.mk (show l.length = 3 by rw [HL.out, HK2.out])
                obtain ⟨c0, c1'', c2'', c3⟩ := hKr.P.c4
                have d0 := hKr.V.rv0
                clear HO
                go_wp2_with fail
                go_loopw [10] (fun s10 wi => ∃ i q : Nat, i ≤ 1 ∧ s10 = .int .i64 i ∧ wi = wr.drewN q ∧ Sl (i = 1 → ∀ x, (l ++ [r])[0]? = some x → x.no = a)) (fun s10 _ => 2 - (intOf s10).toNat)
                case atStart => exact ⟨0, 0, by omega, rfl, rfl, ⟨fun h => by omega⟩⟩
                case round =>
                  obtain ⟨i, q, hi, rfl, rfl, HP⟩ := hrel
                  obtain ⟨y, hy⟩ : ∃ y, K'[i]? = some y := ⟨_, List.getElem?_eq_getElem (show i < K'.length by omega)⟩
                  have HY := Sl.mk hy
                  obtain ⟨yd, rfl, hybl, hyld, hyd0⟩ := reads_load (Reads.of_own hKr.rows.own2) hy
                  have hi0 : (0 : Int) ≤ (i : Int) := by omega
                  have hi1 : (i : Int) < (K'.length : Int) := by omega
                  clear hy
                  cases eA : (y.no == a)
                  · have hym : y ∈ l := by
                      have hy' := HY.out
                      rw [← HK.out, List.getElem?_append_left (by rw [HL3.out]; omega)] at hy'
                      exact List.mem_of_getElem? hy'
                    have eN : (y.no == r.no) = false := by simpa using HNR.out y hym
                    have HAT := Sl.mk (addL_at HG.out HL3.out HNR.out hi HP.out (by rw [HK.out]; exact HY.out) eA)
                    rw [HK.out] at HAT
                    clear hym
                    go_wp2_with fail
                    go_quiet (fail)
                    have hKv := (hKr.dr q).dr nq
                    have hyldv : ∀ j v, (rvC y)[j]? = some v → ((wr.drewN q).drewN nq).cell? ((yd.add (i * 34)).add j) = some v := hyld
                    obtain ⟨wv, hwv⟩ : ∃ wv, (wr.drewN q).drewN nq = wv := ⟨_, rfl⟩
                    rw [hwv] at hKv hyldv ⊢
                    clear hwv hKr hyld hyd0 c0 c1'' c2'' c3 d0
                    obtain ⟨i0, hi0', hz0, hz1, hz2⟩ := info_parts rvInfoR
                    have h34 := rvC_len y
                    have hfold := fold_rv y #[.int .i64 0, .int .u8 0, .int .u8 0, .int .u8 0, .int .u8 0, .int .u8 0, .int .u8 0, .int .u8 0, .int .u8 0, .int .u8 0, .int .u8 0, .int .u8 0, .int .u8 0, .int .u8 0, .int .u8 0, .int .u8 0, .int .u8 0, .int .u8 0, .int .u8 0, .int .u8 0, .int .u8 0, .int .u8 0, .int .u8 0, .int .u8 0, .int .u8 0, .int .u8 0, .int .u8 0, .int .u8 0, .int .u8 0, .int .u8 0, .int .u8 0, .int .u8 0, .int .u8 0, .int .i64 0] (by rfl)
                    go_wp2_with (first | refine ld_elR hyldv rfl (.tmp 85) rfl rfl ?_ | (at_builtin; refine wpList_append_anyG _ rfl (.tmp 82) (.tmp 87) 22 rfl (w.heap.size + 3) 27 i0 zeroRv 34 48 Try.underlying22 hi0' hz0 hz1 hz2 (by rfl) (by decide) _ _ _ rfl (hKv.rows.own1.alloc _) (wv.heap.size + 1) _ 1 1 (rvC y) rfl (reads_oneR wv y) (rvC_one y) (by unfold maxLen; decide) (by decide) (by have := hKv.Z.lt; simp; omega) ?_))
                    intro v3 w3 hown3 hG3 hb3
                    obtain ⟨A3, c3q, rfl⟩ := ownForm hown3
                    have hB3 : Below (w.heap.size + 3) wv w3 := ((Below.refl _ wv).alloc (by have := hKv.Z.lt; omega) _).grown hG3 (by have := hKv.Z.lt; simp; omega) (fun x hx => ownGe hKv.rows.own1 hx)
                    have hrows3 : Rows2R w3 (w.heap.size + 3) (.slice A3 1 c3q) [y] (.slice (some yd) K'.length c2') K' := by
                      refine ⟨by simpa [revC] using hown3, own_keep (hKv.rows.own2.alloc _) hG3 (fun x hx e => hKv.rows.ne x hx e), fun x hx e2 => ?_⟩
                      have hx1 := own_lt hKv.rows.own2 e2
                      rcases hb3 with e | e
                      · exact hKv.rows.ne x (e ▸ hx) e2
                      · have hx' : some x = some (wv.heap.size + 1) := hx.symm.trans e
                        injection hx' with hx'
                        omega
                    have hK3 : AK w w3 s1 s2 a (some ad) (k + 1) c r A3 [y] c3q (some yd) K' c2' := ⟨hKv.P.below hB3 (by omega), hKv.V.below hB3 (by omega), hKv.Z.below hB3 (by omega), hrows3, hKv.below.trans (hB3.mono (by omega))⟩
                    clear hKv hown3 hG3 hb3 hB3 hyldv hfold hrows3
                    obtain ⟨g2, cq, hv2, hcq, -, -⟩ := own_cap hK3.rows.own2 (by omega)
                    injection hv2 with hA2 _ hcc
                    injection hA2 with hA2
                    subst hA2 hcc
                    obtain ⟨K4, hK4⟩ : ∃ K4, K'.take i ++ K'.drop (i + 1) = K4 := ⟨_, rfl⟩
                    have hK4l : K4.length = 3 := by rw [← hK4]; have h7 := HKL.out; have h8 := HK2.out; simp; omega
                    have HK4 := Sl.mk hK4
                    have HK4L := Sl.mk hK4l
                    rw [hK4] at HAT
                    have hKe : K'.length = 4 := by rw [HKL.out, HK2.out]
                    clear hK4 hK4l
                    go_wp2_with fail
                    have hRk := (Reads.of_own hK3.rows.own2)
                    have hRt := Sl.mk (reads_takeS hRk (show i ≤ K'.length by omega))
                    have hRc := Sl.mk (hRk.cut (k := i + 1) (cap := c2') (by omega) hcq)
                    have hEk : (4 - (i + 1)) = K'.length - (i + 1) := by rw [hKe]
                    have hlen4 : i + (4 - (i + 1)) = K4.length := by have := HK4L.out; omega
                    have hi0i : 0 + i = i := Nat.zero_add i
                    have hltZ := hK3.Z.lt
                    obtain ⟨wd, hwd⟩ : ∃ wd, w3.drew = wd := ⟨_, rfl⟩
                    have hK5 := hK3.be (Below.refl w3.heap.size w3).drew
                    have hRt5 : Reads wd wd.heap.size 34 (some ⟨g2, 0, none⟩) i (revC (K'.take i)) := by
                      rw [← hwd, ← revC_take]; exact hRt.out
                    have hRc5 : Reads wd wd.heap.size 34 (some ((⟨g2, 0, none⟩ : Addr).add ((i + 1) * 34))) (4 - (i + 1)) (revC (K'.drop (i + 1))) := by
                      rw [← hwd, ← revC_drop, hEk]
                      have h := hRc.out
                      rw [if_neg (by omega)] at h
                      exact h
                    rw [hwd] at hK5
                    have hsz5 : w3.heap.size = wd.heap.size := by rw [← hwd]; rfl
                    have hRt6 := Sl.mk hRt5
                    have hRc6 := Sl.mk hRc5
                    clear hRk hRt hRc hEk hRt5 hRc5
                    refine wp_region_noPanic ?_
                    refine wp_region_held_drew (S := fun _ => True) (by kernel_rfl) True.intro (fun _ => ?_)
                    rw [hwd]
                    clear hwd hK3
                    refine wpAnyH_takeL (i := 1) (v := .slice (some ⟨g2, 0, none⟩) 4 c2') rfl (by kernel_rfl) (by kernel_rfl) (by kernel_rfl) (fun _ _ _ h => h) (.inl ⟨by rfl, fun w' _ => by go_simp⟩) True.intro ?_
                    simp only [Act.put, List.setIfInBounds_toArray, List.set_cons_zero, List.set_cons_succ]
                    refine wpAnyH_takeL (i := 2) (v := .int .i64 i) rfl (by kernel_rfl) (by kernel_rfl) (by kernel_rfl) (fun _ _ _ h => h) (.inl ⟨by rfl, fun w' _ => by go_simp⟩) True.intro ?_
                    simp only [Act.put, List.setIfInBounds_toArray, List.set_cons_zero, List.set_cons_succ]
                    refine wpAnyH_takeL (i := 3) (v := .slice (some ⟨g2, 0, none⟩) i c2') rfl (by kernel_rfl) (by kernel_rfl) (by kernel_rfl) (fun _ _ _ h => h) (.inl ⟨by rfl, fun w' _ => by go_simp; intro hh; omega⟩) True.intro ?_
                    simp only [Act.put, List.setIfInBounds_toArray, List.set_cons_zero, List.set_cons_succ]
                    refine wpAnyH_takeL (i := 5) (v := .slice (some ⟨g2, 0, none⟩) 4 c2') rfl (by kernel_rfl) (by kernel_rfl) (by kernel_rfl) (fun _ _ _ h => h) (.inl ⟨by rfl, fun w' _ => by go_simp⟩) True.intro ?_
                    simp only [Act.put, List.setIfInBounds_toArray, List.set_cons_zero, List.set_cons_succ]
                    refine wpAnyH_takeL (i := 6) (v := .int .i64 i) rfl (by kernel_rfl) (by kernel_rfl) (by kernel_rfl) (fun _ _ _ h => h) (.inl ⟨by rfl, fun w' _ => by go_simp⟩) True.intro ?_
                    simp only [Act.put, List.setIfInBounds_toArray, List.set_cons_zero, List.set_cons_succ]
                    refine wpAnyH_takeL (i := 7) (v := .int .i64 (i + 1)) rfl (by kernel_rfl) (by kernel_rfl) (by kernel_rfl) (fun _ _ _ h => h) (.inl ⟨by rfl, fun w' _ => by go_simp; rcases Nat.le_one_iff_eq_zero_or_eq_one.1 hi with rfl | rfl <;> rfl⟩) True.intro ?_
                    simp only [Act.put, List.setIfInBounds_toArray, List.set_cons_zero, List.set_cons_succ]
                    refine wpAnyH_takeL (i := 8) (v := .slice (some ((⟨g2, 0, none⟩ : Addr).add ((i + 1) * 34))) (4 - (i + 1)) (c2' - (i + 1))) rfl (by kernel_rfl) (by kernel_rfl) (by kernel_rfl) (fun _ _ _ h => h) (.inl ⟨by rfl, fun w' _ => by go_simp; rw [if_pos (by omega), if_neg (by omega)]⟩) True.intro ?_
                    simp only [Act.put, List.setIfInBounds_toArray, List.set_cons_zero, List.set_cons_succ]
                    refine wpAnyH_oneL (k := 0) rfl (by kernel_rfl) rfl ?_
                    have hBa := below_al (Below.refl wd.heap.size wd) (.cells #[] 27)
                    have hoa := own_empty wd 27 34
                    refine wp_of_run (v := .slice (some ⟨wd.heap.size, 0, none⟩) 0 0) (w' := wd.alloc (.cells #[] 27)) (by go_simp) ⟨True.intro, ?_⟩
                    simp only [Act.put, List.setIfInBounds_toArray, List.set_cons_zero, List.set_cons_succ]
                    refine wpAnyH_oneL (k := 4) rfl (by kernel_rfl) rfl ?_
                    refine wp_apR (.tmp 89) (.tmp 92) rfl (l1 := []) (l2 := K'.take i) rfl hoa rfl (hRt6.out.below hBa) hi0i (by omega) hBa.size (fun A5 c5 W5 hown5 hB5 hG5 => ?_)
                    have hBb := hBa.trans hB5
                    refine ⟨True.intro, ?_⟩
                    simp only [Act.put, List.setIfInBounds_toArray, List.set_cons_zero, List.set_cons_succ]
                    refine wpAnyH_oneL (k := 9) rfl (by kernel_rfl) rfl ?_
                    refine wp_apR (.tmp 93) (.tmp 97) rfl (l1 := [] ++ K'.take i) (l2 := K'.drop (i + 1)) rfl hown5 rfl (hRc6.out.below hBb) hlen4 (by have := HK4L.out; omega) hBb.size (fun A6 c6 W6 hown6 hB6 hG6 => ?_)
                    have hBc := hBb.trans hB6
                    refine ⟨True.intro, ?_⟩
                    simp only [Act.put, List.setIfInBounds_toArray, List.set_cons_zero, List.set_cons_succ]
                    refine wpAnyH_oneL (k := 10) rfl (by kernel_rfl) rfl ?_
                    refine wp_of_run (v := .slice A6 K4.length c6) (w' := W6) (by rfl) ⟨True.intro, ?_⟩
                    simp only [Act.put, List.setIfInBounds_toArray, List.set_cons_zero, List.set_cons_succ]
                    refine wpAnyH_done (by kernel_rfl) ?_ _
                    refine NoPanic.normal ?_
                    have hK6 := hK5.be hBc
                    have hown7 : W6.ownsRow wd.heap.size 27 34 (.slice A6 K4.length c6) K4.length (revC K4) := by
                      have h := hown6
                      rw [List.nil_append, HK4.out] at h
                      exact h
                    have hK7 : AK w W6 s1 s2 a (some ad) (k + 1) c r A3 [y] c3q A6 K4 c6 := ⟨hK6.P, hK6.V, hK6.Z, ⟨hK6.rows.own1, own_mono hown7 (by have := hK5.Z.lt; omega), fun x hx e2 => by
                      have hx1 := own_lt hK5.rows.own1 hx
                      have hx2 := ownGe hown7 e2
                      omega⟩, hK6.below⟩
                    clear hK6 hown7 hown6 hown5 hB5 hB6 hG5 hG6 hBa hBb hBc hoa hK5
                    (try go_wp2_with fail)
                    go_roundw
                    case rel => exact ⟨A3, [y], c3q, A6, K4, c6, rfl, rfl, hK7, ⟨.inr ⟨HAT.out.1.symm, HAT.out.2.symm, by have := HK4L.out; omega⟩⟩⟩
                    case measure => have := HK4L.out; simp [sliceLen]; omega
                  · have hi00 : i = 0 := by
                      rcases Nat.le_one_iff_eq_zero_or_eq_one.1 hi with h | h
                      · exact h
                      · subst h
                        have := good_two (a := a) (r := r) HG.out HL3.out (HP.out rfl) (y := y) (by rw [HK.out]; exact HY.out)
                        rw [this] at eA; cases eA
                    have HI0 := Sl.mk hi00
                    have HP1 := Sl.mk (show i + 1 = 1 → ∀ x, (l ++ [r])[0]? = some x → x.no = a from fun _ x hx => by
                      have hy' := HY.out
                      rw [hi00] at hy'
                      rw [HK.out, hy'] at hx; injection hx with hx; subst hx; simpa using eA)
                    clear hi00
                    go_wp2_with fail
                    go_quiet (fail)
                    go_wp2_with fail
                    exact ⟨⟨i + 1, _, by have := HI0.out; omega, by go_num, rfl, HP1⟩, by simp [intOf]; omega⟩
              · have e1 : decide ((3 : Int) < K'.length) = false := by simp; omega
                obtain ⟨rfl, rfl⟩ : G = addL true a l r ∧ K' = addL false a l r := by
                  rcases HO.out with ⟨h5, h6⟩ | ⟨h5, h6, _⟩
                  · have hl2 : l.length ≤ 2 := by
                      have e5 := HKL.out
                      have e6 := HL.out
                      rw [← h6] at e5
                      omega
                    have hs := addL_small (a := a) (r := r) hl2
                    rw [hs.1, hs.2, HK.out]
                    exact ⟨h5, h6⟩
                  · exact ⟨h5, h6⟩
                clear HO h4
                obtain ⟨L1, hL1⟩ : ∃ L1, addL true a l r = L1 := ⟨_, rfl⟩
                obtain ⟨L2, hL2⟩ : ∃ L2, addL false a l r = L2 := ⟨_, rfl⟩
                rw [hL1, hL2] at hKr
                simp only [hL1, hL2] at e1 ⊢
                have HL1 := Sl.mk hL1
                have HL2 := Sl.mk hL2
                clear hL1 hL2
                obtain ⟨c0, c1'', c2'', c3⟩ := hKr.P.c4
                have d0 := hKr.V.rv0
                have hfV : w.heap.size + 1 ≠ w.heap.size := by omega
                have hfZ : w.heap.size + 2 ≠ w.heap.size := by omega
                go_wp2_with fail
                go_cut [99] (fun _ wx => AK w wx s1 s2 r.no A2' L2.length c2' r A1 L1 c1 A2' L2 c2')
                case first =>
                  have hKd := hKr.be (Below.refl wr.heap.size wr).drew
                  obtain ⟨wd, hwd⟩ : ∃ wd, wr.drew = wd := ⟨_, rfl⟩
                  rw [hwd] at hKd
                  have hSd0 := hKd.V.rv0
                  refine wp_region_noPanic ?_
                  refine wp_region_held_drew (S := fun W => W.cell? ⟨w.heap.size + 1, 0, none⟩ = some (.int .i64 r.no)) (by kernel_rfl) (by rw [hwd]; exact hSd0) (fun hSd => ?_)
                  rw [hwd] at hSd ⊢
                  clear hwd hKr c0 c1'' c2'' c3 d0
                  refine wpAnyH_takeL (i := 0) (v := .slice A2' L2.length c2') rfl (by kernel_rfl) (by kernel_rfl) (by kernel_rfl) (fun _ _ _ h => h) (.inl ⟨by rfl, fun w' _ => by go_simp⟩) hSd ?_
                  simp only [Act.put, List.setIfInBounds_toArray, List.set_cons_zero, List.set_cons_succ]
                  refine wpAnyH_takeL (i := 1) (v := .pointer (some ⟨w.heap.size + 1, 0, none⟩)) rfl (by kernel_rfl) (by kernel_rfl) (by kernel_rfl) (fun _ _ _ h => h) (.inl ⟨by rfl, fun w' _ => by go_simp⟩) hSd ?_
                  simp only [Act.put, List.setIfInBounds_toArray, List.set_cons_zero, List.set_cons_succ]
                  refine wpAnyH_takeL (i := 2) (v := .int .i64 r.no) rfl (by kernel_rfl) (by kernel_rfl) (by kernel_rfl) (fun _ _ _ h => h) (.inl ⟨by rfl, fun w' hw' => by go_simp⟩) hSd ?_
                  simp only [Act.put, List.setIfInBounds_toArray, List.set_cons_zero, List.set_cons_succ]
                  refine wpAnyH_takeL (i := 3) (v := .pointer (some ⟨w.heap.size, 3, none⟩)) rfl (by kernel_rfl) (by kernel_rfl) (by kernel_rfl) (fun _ _ _ h => h) (.inl ⟨by rfl, fun w' _ => by go_simp⟩) hSd ?_
                  simp only [Act.put, List.setIfInBounds_toArray, List.set_cons_zero, List.set_cons_succ]
                  have f3 := hKd.P.frozen 3
                  have hc3 := hKd.P.cell 3
                  have hP4 : Blk (wd.setCell ⟨w.heap.size, 3, none⟩ (.slice A2' L2.length c2')) w.heap.size 24 #[.string s1, .string s2, .int .i64 a, .slice A2' L2.length c2'] := blk_set _ _ _ _ 3 _ _ hKd.P rfl
                  have hP5 : Blk ((wd.setCell ⟨w.heap.size, 3, none⟩ (.slice A2' L2.length c2')).setCell ⟨w.heap.size, 2, none⟩ (.int .i64 r.no)) w.heap.size 24 #[.string s1, .string s2, .int .i64 r.no, .slice A2' L2.length c2'] := blk_set _ _ _ _ 2 _ _ hP4 rfl
                  have hV4 := hKd.V.far (p := ⟨w.heap.size, 3, none⟩) hfV (.slice A2' L2.length c2')
                  have hV5 := hV4.far (p := ⟨w.heap.size, 2, none⟩) hfV (.int .i64 r.no)
                  have hZ4 := hKd.Z.far (p := ⟨w.heap.size, 3, none⟩) hfZ (.slice A2' L2.length c2')
                  have hZ5 := hZ4.far (p := ⟨w.heap.size, 2, none⟩) hfZ (.int .i64 r.no)
                  have hG := only_setCell (only_setCell (only_refl wd (some w.heap.size)) 3 (.slice A2' L2.length c2')) 2 (.int .i64 r.no)
                  have hE5 : Below w.heap.size w ((wd.setCell ⟨w.heap.size, 3, none⟩ (.slice A2' L2.length c2')).setCell ⟨w.heap.size, 2, none⟩ (.int .i64 r.no)) := below_only hKd.below hG hKd.below.size (Nat.le_refl _)
                  have hrows5 := hKd.rows.far hG (by omega)
                  refine wpAnyH_oneL (k := 4) rfl (by kernel_rfl) rfl ?_
                  refine wp_of_skip (w' := wd.setCell ⟨w.heap.size, 3, none⟩ (.slice A2' L2.length c2')) (by go_simp) ⟨hV4.rv0, ?_⟩
                  simp only [Act.put]
                  have f2 := hP4.frozen 2
                  have hc2 := hP4.cell 2
                  refine wpAnyH_oneL (k := 5) rfl (by kernel_rfl) rfl ?_
                  refine wp_of_run (v := .pointer (some ⟨w.heap.size, 2, none⟩)) (w' := wd.setCell ⟨w.heap.size, 3, none⟩ (.slice A2' L2.length c2')) (by go_simp) ⟨hV4.rv0, ?_⟩
                  simp only [Act.put, List.setIfInBounds_toArray, List.set_cons_zero, List.set_cons_succ]
                  refine wpAnyH_oneL (k := 6) rfl (by kernel_rfl) rfl ?_
                  refine wp_of_skip (w' := (wd.setCell ⟨w.heap.size, 3, none⟩ (.slice A2' L2.length c2')).setCell ⟨w.heap.size, 2, none⟩ (.int .i64 r.no)) (by go_simp) ⟨hV5.rv0, ?_⟩
                  simp only [Act.put]
                  refine wpAnyH_done (by kernel_rfl) ?_ _
                  refine NoPanic.normal ?_
                  (try go_wp2_with fail)
                  go_meet
                  exact ⟨hP5, hV5, hZ5, hrows5, hE5⟩
                case rest =>
                  clear hKr c0 c1'' c2'' c3 d0
                  go_wp2_with (first | refine ld_pkR hcut.P rfl (.tmp 2) rfl rfl rfl ?_ | refine st_pkR hcut.Z rfl (.tmp 4) (.tmp 104) rfl s1 s2 r.no A2' L2.length c2' rfl rfl rfl ?_)
                  intro w5 hZ5 hG5 _
                  have hE5 := below_only hcut.below hG5 hcut.below.size (by omega)
                  have hrows5 := hcut.rows.far hG5 (by omega)
                  go_wp2_with fail
                  refine bodyPost_ret (res_cell_tmp2 Try.results11 _ _ _ rfl hZ5 Try.underlying24 infoRef rfl rfl) rfl ?_
                  refine ⟨hE5, .inr ⟨HT.out, A1, c1, A2', c2', by rw [HL1.out, HL2.out]; rfl, ?_⟩⟩
                  rw [HL1.out, HL2.out]
                  exact ⟨own_mono hrows5.own1 (by omega), own_mono hrows5.own2 (by omega), hrows5.ne⟩
        · have HT := Sl.mk (show addE s1 s2 a l r = 1 by rw [HE.out, eB]; rfl)
          clear c3q d0q
          go_wp2_with (refine st_pkR hKq.Z rfl (.tmp 4) (.tmp 51) rfl ⟨#[]⟩ ⟨#[]⟩ 0 none 0 0 rfl rfl rfl ?_)
          intro w4 hZ4 hG4 _
          have hE4 := below_only hKq.below hG4 hKq.below.size (by omega)
          go_wp2_with fail
          refine bodyPost_ret (res_cell_tmp2 Try.results11 _ _ _ rfl hZ4 Try.underlying24 infoRef rfl rfl) rfl ?_
          exact ⟨hE4, .inl ⟨by rw [HT.out]; simp, by rw [HT.out]; rfl⟩⟩
  · have HC := Sl.mk hC
    have HT := Sl.mk (show addE s1 s2 a l r = checkF s1 s2 a l by unfold addE; rw [if_pos hC])
    have hne' : (((checkF s1 s2 a l : Nat) : Int) != 0) = true := by simpa using hC
    obtain ⟨E, hE⟩ : ∃ E, ((checkF s1 s2 a l : Nat) : Int) = E := ⟨_, rfl⟩
    have HEE := Sl.mk hE
    rw [hE] at hne' ⊢
    clear hC hE
    go_wp2_with (refine st_pkR hK1.Z rfl (.tmp 4) (.tmp 15) rfl ⟨#[]⟩ ⟨#[]⟩ 0 none 0 0 rfl rfl rfl ?_)
    intro w3 hZ3 hG3 _
    have hE3 := below_only hK1.below hG3 hK1.below.size (by omega)
    go_wp2_with fail
    refine bodyPost_ret (res_cell_tmp2 Try.results11 _ _ _ rfl hZ3 Try.underlying24 infoRef rfl rfl) rfl ?_
    exact ⟨hE3, .inl ⟨by rw [HT.out]; exact HC.out, by rw [HT.out, HEE.out]; rfl⟩⟩

end Go.Proofs.Ytkmdhmnjohlnaaa
