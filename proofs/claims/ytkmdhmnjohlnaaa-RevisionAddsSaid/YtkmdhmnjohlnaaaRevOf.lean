/-
  The contract of creellaw10.Of.
-/
import Derived.Test.YtkmdhmnjohlnaaaRevR
namespace Go.Proofs.Ytkmdhmnjohlnaaa
open Go.RowKit

set_option maxRecDepth 100000 in
set_option maxHeartbeats 4000000 in
theorem of10_any (s1 s2 : ByteArray) (a : Int) (A : Option Addr) (n c : Nat) (l : List Rv) (w : World) (hn : n ≤ 1000000) (hR : Reads w w.heap.size 34 A n (revC l)) :
    Calls Try.prog 8 #[.agg #[.string s1, .string s2, .int .i64 a, .slice A n c]] w fun e w' => ∃ (A' : Option Addr) (c' : Nat),
      e = .returned (.agg #[.string s1, .string s2, .int .i64 a, .slice A' n c']) ∧ w'.ownsRow w.heap.size 27 34 (.slice A' n c') n (revC l) ∧ Below w.heap.size w w' := by
  have hl := reads_n hR
  obtain ⟨w0, hw0⟩ : ∃ w0, (w.alloc (.cells #[.string s1, .string s2, .int .i64 a, .slice A n c] 30)).alloc (.cells #[.string { data := #[] }, .string { data := #[] }, .int .i64 0, .slice none 0 0] 24) = w0 := ⟨_, rfl⟩
  have hE0 := below_al (below_al (Below.refl w.heap.size w) (.cells #[.string s1, .string s2, .int .i64 a, .slice A n c] 30)) (.cells #[.string { data := #[] }, .string { data := #[] }, .int .i64 0, .slice none 0 0] 24)
  have hX0 := (Blk.new w 30 #[.string s1, .string s2, .int .i64 a, .slice A n c]).alloc (.cells #[.string { data := #[] }, .string { data := #[] }, .int .i64 0, .slice none 0 0] 24)
  have hZ0 := Blk.new' (w := w.alloc (.cells #[.string s1, .string s2, .int .i64 a, .slice A n c] 30)) (g := w.heap.size + 1) (t := 24) (cs := #[.string { data := #[] }, .string { data := #[] }, .int .i64 0, .slice none 0 0]) (by simp)
  have hs0 : ((w.alloc (.cells #[.string s1, .string s2, .int .i64 a, .slice A n c] 30)).alloc (.cells #[.string { data := #[] }, .string { data := #[] }, .int .i64 0, .slice none 0 0] 24)).heap.size = w.heap.size + 2 := by simp
  rw [hw0] at hE0 hX0 hZ0 hs0
  have HRw := Sl.mk hR
  clear hR
  obtain ⟨c0, c1, c2, c3⟩ := hX0.c4
  go_enter Try.func8, Try.ntmps8
  have Hs0 := Sl.mk hs0
  clear hs0
  go_wp2_with (refine st_pknR rfl (.tmp 3) (.tmp 11) rfl s1 s2 a none 0 0 rfl rfl ?_)
  intro wc hP0 hB0 hsc
  have hP : Blk wc (w.heap.size + 2) 24 #[.string s1, .string s2, .int .i64 a, .slice none 0 0] := by rw [← Hs0.out]; exact hP0
  have hX := hX0.be hB0
  have hZ := hZ0.be hB0
  have hE := below_tr hE0 hB0
  rw [Hs0.out] at *
  clear hw0 hP0 hB0 hsc hX0 hZ0 hE0 c0 c1 c2 c3
  go_wp2_with fail
  go_loopw [4] (fun s4 wr => ∃ (i : Nat) (A' : Option Addr) (c' : Nat), i ≤ n ∧ s4 = .int .i64 i ∧ Blk wr (w.heap.size + 2) 24 #[.string s1, .string s2, .int .i64 a, .slice A' i c'] ∧
    wr.ownsRow (w.heap.size + 3) 27 34 (.slice A' i c') i (revC (l.take i)) ∧ Blk wr w.heap.size 30 #[.string s1, .string s2, .int .i64 a, .slice A n c] ∧ Blk wr (w.heap.size + 1) 24 #[.string { data := #[] }, .string { data := #[] }, .int .i64 0, .slice none 0 0] ∧ Below w.heap.size w wr) (fun s4 _ => n - (intOf s4).toNat)
  case atStart => exact ⟨0, none, 0, by omega, rfl, hP, World.ownsRow_nil _ _ _ _, hX, hZ, hE⟩
  case round =>
    obtain ⟨i, A', c', hin, rfl, hP, hown, hX, hZ, hE⟩ := hrel
    obtain ⟨c0, c1, c2, c3⟩ := hX.c4
    by_cases hin' : i < n
    · · have e1 : decide ((i : Int) < n) = true := by simp; omega
        obtain ⟨r, hr⟩ : ∃ r, l[i]? = some r := ⟨_, List.getElem?_eq_getElem (by rw [hl]; exact hin')⟩
        obtain ⟨ad, rfl, hbl, hld, hd0⟩ := reads_load (HRw.out.below hE) hr
        have HT := Sl.mk (take_snoc hr)
        have hSr := src_of c3 hld
        clear hr hd0 hld
        go_wp2_with fail
        obtain ⟨i0, hi0, hz0, hz1, hz2⟩ := info_parts rvInfoR
        have hzs : zeroRv.cells.size = 34 := by rfl
        have h63 : i + 1 ≤ maxLen := by unfold maxLen; omega
        have hby : (i + 1) * 48 ≤ 140737488355328 := by omega
        have hsz := hP.lt
        have hbase : w.heap.size + 3 ≤ (wr.drew.alloc (.cells (rvC r).toArray 27)).heap.size := by
          show _ ≤ (wr.alloc (.cells (rvC r).toArray 27)).heap.size
          simp; omega
        have hEb : (ad.add (i * 34)).block < w.heap.size := by rw [block_of_add]; exact hbl
        have hown8 : (wr.drew.alloc (.cells (rvC r).toArray 27)).ownsRow (w.heap.size + 3) 27 34 (.slice A' i c') i (revC (l.take i)) := own_below (own_below hown (Below.refl wr.heap.size wr).drew) (below_al (Below.refl _ _) _)
        have hP8 : Blk (wr.drew.alloc (.cells (rvC r).toArray 27)) (w.heap.size + 2) 24 #[.string s1, .string s2, .int .i64 a, .slice A' i c'] := hP.drew.alloc _
        have hB8 : Below (w.heap.size + 2) wr.drew (wr.drew.alloc (.cells (rvC r).toArray 27)) := (Below.refl _ wr.drew).alloc (by show w.heap.size + 2 ≤ wr.heap.size; omega) _
        have c3p := hP.drew.cell 3
        have c3q := hP8.cell 3
        have c3w := hP.cell 3
        have h34 := rvC_len r
        have hfold := fold_rv r #[.int .i64 0, .int .u8 0, .int .u8 0, .int .u8 0, .int .u8 0, .int .u8 0, .int .u8 0, .int .u8 0, .int .u8 0, .int .u8 0, .int .u8 0, .int .u8 0, .int .u8 0, .int .u8 0, .int .u8 0, .int .u8 0, .int .u8 0, .int .u8 0, .int .u8 0, .int .u8 0, .int .u8 0, .int .u8 0, .int .u8 0, .int .u8 0, .int .u8 0, .int .u8 0, .int .u8 0, .int .u8 0, .int .u8 0, .int .u8 0, .int .u8 0, .int .u8 0, .int .u8 0, .int .i64 0] (by rfl)
        have hik : (0 : Int) ≤ (i : Int) := by omega
        have hik2 : (i : Int) < (n : Int) := by omega
        have hS8 := (hSr.keep (B := w.heap.size + 2) (Below.refl _ wr).drew (by omega) (by omega)).keep (B := w.heap.size + 2) (W' := wr.drew.alloc (.cells (rvC r).toArray 27)) hB8 (by omega) (by omega)
        refine wp_region_noPanic ?_
        refine wp_region_held_drew (S := SrcS w.heap.size (some ad) n c (ad.add (i * 34)) r) (by kernel_rfl) (hSr.keep (B := w.heap.size + 2) (Below.refl _ wr).drew (by omega) (by omega)) (fun hSd => ?_)
        refine wpAnyH_takeL (i := 0) (v := .pointer (some ⟨w.heap.size + 2, 3, none⟩)) rfl (by kernel_rfl) (by kernel_rfl) (by kernel_rfl) (fun _ _ _ h => h) (.inl ⟨by rfl, fun w' hw' => by go_simp⟩) hSd ?_
        simp only [Act.put, List.setIfInBounds_toArray, List.set_cons_zero, List.set_cons_succ]
        refine wpAnyH_takeL (i := 2) (v := .pointer (some ⟨w.heap.size, 3, none⟩)) rfl (by kernel_rfl) (by kernel_rfl) (by kernel_rfl) (fun _ _ _ h => h) (.inl ⟨by rfl, fun w' hw' => by go_simp⟩) hSd ?_
        simp only [Act.put, List.setIfInBounds_toArray, List.set_cons_zero, List.set_cons_succ]
        refine wpAnyH_takeL (i := 3) (v := .slice (some ad) n c) rfl (by kernel_rfl) (by kernel_rfl) (by kernel_rfl) (fun _ _ _ h => h) (.inl ⟨by rfl, fun w' hw' => by have q1 := hw'.sl; have q2 := hw'.no; have q3 := hw'.size; clear hw'; go_simp⟩) hSd ?_
        simp only [Act.put, List.setIfInBounds_toArray, List.set_cons_zero, List.set_cons_succ]
        refine wpAnyH_takeL (i := 4) (v := .int .i64 i) rfl (by kernel_rfl) (by kernel_rfl) (by kernel_rfl) (fun _ _ _ h => h) (.inl ⟨by rfl, fun w' hw' => by go_simp⟩) hSd ?_
        simp only [Act.put, List.setIfInBounds_toArray, List.set_cons_zero, List.set_cons_succ]
        refine wpAnyH_takeL (i := 5) (v := .pointer (some (ad.add (i * 34)))) rfl (by kernel_rfl) (by kernel_rfl) (by kernel_rfl) (fun _ _ _ h => h) (.inl ⟨by rfl, fun w' hw' => by go_simp⟩) hSd ?_
        simp only [Act.put, List.setIfInBounds_toArray, List.set_cons_zero, List.set_cons_succ]
        refine wpAnyH_takeL (i := 6) (v := .pointer (some (ad.add (i * 34)))) rfl (by kernel_rfl) (by kernel_rfl) (by kernel_rfl) (fun _ _ _ h => h) (.inl ⟨by rfl, fun w' hw' => by go_simp⟩) hSd ?_
        simp only [Act.put, List.setIfInBounds_toArray, List.set_cons_zero, List.set_cons_succ]
        refine wpAnyH_takeL (i := 7) (v := .int .i64 r.no) rfl (by kernel_rfl) (by kernel_rfl) (by kernel_rfl) (fun _ _ _ h => h) (.inl ⟨by rfl, fun w' hw' => by have q1 := hw'.sl; have q2 := hw'.no; have q3 := hw'.size; clear hw'; go_simp⟩) hSd ?_
        simp only [Act.put, List.setIfInBounds_toArray, List.set_cons_zero, List.set_cons_succ]
        refine wpAnyH_takeL (i := 8) (v := .pointer (some ⟨w.heap.size, 3, none⟩)) rfl (by kernel_rfl) (by kernel_rfl) (by kernel_rfl) (fun _ _ _ h => h) (.inl ⟨by rfl, fun w' hw' => by go_simp⟩) hSd ?_
        simp only [Act.put, List.setIfInBounds_toArray, List.set_cons_zero, List.set_cons_succ]
        refine wpAnyH_takeL (i := 9) (v := .slice (some ad) n c) rfl (by kernel_rfl) (by kernel_rfl) (by kernel_rfl) (fun _ _ _ h => h) (.inl ⟨by rfl, fun w' hw' => by have q1 := hw'.sl; have q2 := hw'.no; have q3 := hw'.size; clear hw'; go_simp⟩) hSd ?_
        simp only [Act.put, List.setIfInBounds_toArray, List.set_cons_zero, List.set_cons_succ]
        refine wpAnyH_takeL (i := 10) (v := .int .i64 i) rfl (by kernel_rfl) (by kernel_rfl) (by kernel_rfl) (fun _ _ _ h => h) (.inl ⟨by rfl, fun w' hw' => by go_simp⟩) hSd ?_
        simp only [Act.put, List.setIfInBounds_toArray, List.set_cons_zero, List.set_cons_succ]
        refine wpAnyH_takeL (i := 11) (v := .pointer (some (ad.add (i * 34)))) rfl (by kernel_rfl) (by kernel_rfl) (by kernel_rfl) (fun _ _ _ h => h) (.inl ⟨by rfl, fun w' hw' => by go_simp⟩) hSd ?_
        simp only [Act.put, List.setIfInBounds_toArray, List.set_cons_zero, List.set_cons_succ]
        refine wpAnyH_takeL (i := 12) (v := .pointer (some ⟨(ad.add (i * 34)).block, (ad.add (i * 34)).off + 1, none⟩)) rfl (by kernel_rfl) (by kernel_rfl) (by kernel_rfl) (fun _ _ _ h => h) (.inl ⟨by rfl, fun w' hw' => by go_simp⟩) hSd ?_
        simp only [Act.put, List.setIfInBounds_toArray, List.set_cons_zero, List.set_cons_succ]
        refine wpAnyH_takeL (i := 13) (v := .agg (r.seal_.map (Value.int .u8)).toArray) rfl (by kernel_rfl) (by kernel_rfl) (by kernel_rfl) (fun _ _ _ h => h) (yieldsIf_load_at (by rfl) 25 (.tmp 31) rfl _ rfl (r.seal_.map (Value.int .u8)) _ (fun _ hw' => hw'.seal_) Try.underlying25 rfl (by rw [infoSeal]; simp [r.h])) hSd ?_
        simp only [Act.put, List.setIfInBounds_toArray, List.set_cons_zero, List.set_cons_succ]
        refine wpAnyH_takeL (i := 14) (v := .pointer (some ⟨w.heap.size, 3, none⟩)) rfl (by kernel_rfl) (by kernel_rfl) (by kernel_rfl) (fun _ _ _ h => h) (.inl ⟨by rfl, fun w' hw' => by go_simp⟩) hSd ?_
        simp only [Act.put, List.setIfInBounds_toArray, List.set_cons_zero, List.set_cons_succ]
        refine wpAnyH_takeL (i := 15) (v := .slice (some ad) n c) rfl (by kernel_rfl) (by kernel_rfl) (by kernel_rfl) (fun _ _ _ h => h) (.inl ⟨by rfl, fun w' hw' => by have q1 := hw'.sl; have q2 := hw'.no; have q3 := hw'.size; clear hw'; go_simp⟩) hSd ?_
        simp only [Act.put, List.setIfInBounds_toArray, List.set_cons_zero, List.set_cons_succ]
        refine wpAnyH_takeL (i := 16) (v := .int .i64 i) rfl (by kernel_rfl) (by kernel_rfl) (by kernel_rfl) (fun _ _ _ h => h) (.inl ⟨by rfl, fun w' hw' => by go_simp⟩) hSd ?_
        simp only [Act.put, List.setIfInBounds_toArray, List.set_cons_zero, List.set_cons_succ]
        refine wpAnyH_takeL (i := 17) (v := .pointer (some (ad.add (i * 34)))) rfl (by kernel_rfl) (by kernel_rfl) (by kernel_rfl) (fun _ _ _ h => h) (.inl ⟨by rfl, fun w' hw' => by go_simp⟩) hSd ?_
        simp only [Act.put, List.setIfInBounds_toArray, List.set_cons_zero, List.set_cons_succ]
        refine wpAnyH_takeL (i := 18) (v := .pointer (some ⟨(ad.add (i * 34)).block, (ad.add (i * 34)).off + 33, none⟩)) rfl (by kernel_rfl) (by kernel_rfl) (by kernel_rfl) (fun _ _ _ h => h) (.inl ⟨by rfl, fun w' hw' => by go_simp⟩) hSd ?_
        simp only [Act.put, List.setIfInBounds_toArray, List.set_cons_zero, List.set_cons_succ]
        refine wpAnyH_takeL (i := 19) (v := .int .i64 r.size) rfl (by kernel_rfl) (by kernel_rfl) (by kernel_rfl) (fun _ _ _ h => h) (.inl ⟨by rfl, fun w' hw' => by have q1 := hw'.sl; have q2 := hw'.no; have q3 := hw'.size; clear hw'; go_simp⟩) hSd ?_
        simp only [Act.put, List.setIfInBounds_toArray, List.set_cons_zero, List.set_cons_succ]
        refine wpAnyH_takeL (i := 20) (v := .agg (rvC r).toArray) rfl (by kernel_rfl) (by kernel_rfl) (by kernel_rfl) (fun _ _ _ h => h) (.inl ⟨by rfl, fun w' _ => by unfold execOp; simp only [List.map_toArray, List.map_cons, List.map_nil]; exact by_build (build_rvR r w')⟩) hSd ?_
        simp only [Act.put, List.setIfInBounds_toArray, List.set_cons_zero, List.set_cons_succ]
        refine wpAnyH_twoL (i := 1) (j := 21) rfl rfl (by kernel_rfl) rfl rfl ?_ ?_
        · refine wp_of_run (v := .slice A' i c') (w' := wr.drew) (by go_simp) ⟨hSd, ?_⟩
          simp only [Act.put, List.setIfInBounds_toArray, List.set_cons_zero, List.set_cons_succ]
          refine wpAnyH_oneL (k := 21) rfl (by kernel_rfl) rfl ?_
          refine wp_of_run (v := .slice (some ⟨wr.heap.size, 0, none⟩) 1 1) (w' := wr.drew.alloc (.cells (rvC r).toArray 27)) (by go_simp) ⟨hS8, ?_⟩
          simp only [Act.put, List.setIfInBounds_toArray, List.set_cons_zero, List.set_cons_succ]
          refine wpAnyH_oneL (k := 22) rfl (by kernel_rfl) rfl ?_
          refine wp_append_any _ (.tmp 20) (.tmp 40) 22 rfl (w.heap.size + 3) 27 i0 zeroRv 34 48 Try.underlying22 hi0 hz0 hz1 hz2 hzs (by decide) _ _ _ rfl hown8 (wr.heap.size + 1) _ 1 1 (rvC r) rfl (reads_oneR wr.drew r) (rvC_one r) h63 hby hbase ?_
          intro v9 w9 hown9 hG9 hb9
          obtain ⟨A9, c9, rfl⟩ := ownForm hown9
          have hB9 : Below (w.heap.size + 2) wr.drew w9 := hB8.grown hG9 (by have := hB8.size; omega) (fun x hx => by have := ownGe hown8 hx; omega)
          have hP9 := hP8.grown hG9 (fun e => by have := ownGe hown8 e.symm; omega)
          have q3 := hP9.cell 3
          have p3 := hP9.frozen 3
          have hP10 : Blk (w9.setCell ⟨w.heap.size + 2, 3, none⟩ (.slice A9 (i + 1) c9)) (w.heap.size + 2) 24 #[.string s1, .string s2, .int .i64 a, .slice A9 (i + 1) c9] := blk_set _ _ _ _ 3 _ _ hP9 rfl
          have hO10 := hown9.kept (only_setCell (only_refl w9 (some (w.heap.size + 2))) 3 (.slice A9 (i + 1) c9)) (ownNe hown9 (by omega))
          have hB10 : Below (w.heap.size + 2) wr.drew (w9.setCell ⟨w.heap.size + 2, 3, none⟩ (.slice A9 (i + 1) c9)) := below_only hB9 (only_setCell (only_refl w9 (some (w.heap.size + 2))) 3 _) (by have := hB9.size; have := hP.lt; show w.heap.size + 2 ≤ w9.heap.size; have h5 : wr.drew.heap.size = wr.heap.size := rfl; omega) (Nat.le_refl _)
          have hS9 := hSd.keep hB9 (by omega) (by omega)
          have hS10 := hSd.keep hB10 (by omega) (by omega)
          refine ⟨hS9, ?_⟩
          simp only [Act.put, List.setIfInBounds_toArray, List.set_cons_zero, List.set_cons_succ]
          refine wpAnyH_oneL (k := 23) rfl (by kernel_rfl) rfl ?_
          refine wp_of_run (v := .pointer (some ⟨w.heap.size + 2, 3, none⟩)) (w' := w9) (by go_simp) ⟨hS9, ?_⟩
          simp only [Act.put, List.setIfInBounds_toArray, List.set_cons_zero, List.set_cons_succ]
          refine wpAnyH_oneL (k := 24) rfl (by kernel_rfl) rfl ?_
          refine wp_of_skip (w' := w9.setCell ⟨w.heap.size + 2, 3, none⟩ (.slice A9 (i + 1) c9)) (by go_simp) ⟨hS10, ?_⟩
          simp only [Act.put]
          refine wpAnyH_done (by kernel_rfl) ?_ _
          refine NoPanic.normal ?_
          have hX10 := hX.drew.below hB10 (by omega)
          have hZ10 := hZ.drew.below hB10 (by omega)
          have hE10 := hE.drew.trans (hB10.mono (by omega))
          clear hSd hS9 hS10 hB9 hB10 hP9 hown9 hown8 hG9 hb9 q3 p3
          go_wp2_with fail
          go_roundw
          case rel => exact ⟨i + 1, A9, c9, by omega, by go_num, hP10, by rw [HT.out, revC_append]; simpa [revC] using hO10, hX10, hZ10, hE10⟩
          case measure => simp [intOf]; omega
        · refine wp_of_run (v := .slice (some ⟨wr.heap.size, 0, none⟩) 1 1) (w' := wr.drew.alloc (.cells (rvC r).toArray 27)) (by go_simp) ⟨hS8, ?_⟩
          simp only [Act.put, List.setIfInBounds_toArray, List.set_cons_zero, List.set_cons_succ]
          refine wpAnyH_oneL (k := 1) rfl (by kernel_rfl) rfl ?_
          refine wp_of_run (v := .slice A' i c') (w' := wr.drew.alloc (.cells (rvC r).toArray 27)) (by go_simp) ⟨hS8, ?_⟩
          simp only [Act.put, List.setIfInBounds_toArray, List.set_cons_zero, List.set_cons_succ]
          refine wpAnyH_oneL (k := 22) rfl (by kernel_rfl) rfl ?_
          refine wp_append_any _ (.tmp 20) (.tmp 40) 22 rfl (w.heap.size + 3) 27 i0 zeroRv 34 48 Try.underlying22 hi0 hz0 hz1 hz2 hzs (by decide) _ _ _ rfl hown8 (wr.heap.size + 1) _ 1 1 (rvC r) rfl (reads_oneR wr.drew r) (rvC_one r) h63 hby hbase ?_
          intro v9 w9 hown9 hG9 hb9
          obtain ⟨A9, c9, rfl⟩ := ownForm hown9
          have hB9 : Below (w.heap.size + 2) wr.drew w9 := hB8.grown hG9 (by have := hB8.size; omega) (fun x hx => by have := ownGe hown8 hx; omega)
          have hP9 := hP8.grown hG9 (fun e => by have := ownGe hown8 e.symm; omega)
          have q3 := hP9.cell 3
          have p3 := hP9.frozen 3
          have hP10 : Blk (w9.setCell ⟨w.heap.size + 2, 3, none⟩ (.slice A9 (i + 1) c9)) (w.heap.size + 2) 24 #[.string s1, .string s2, .int .i64 a, .slice A9 (i + 1) c9] := blk_set _ _ _ _ 3 _ _ hP9 rfl
          have hO10 := hown9.kept (only_setCell (only_refl w9 (some (w.heap.size + 2))) 3 (.slice A9 (i + 1) c9)) (ownNe hown9 (by omega))
          have hB10 : Below (w.heap.size + 2) wr.drew (w9.setCell ⟨w.heap.size + 2, 3, none⟩ (.slice A9 (i + 1) c9)) := below_only hB9 (only_setCell (only_refl w9 (some (w.heap.size + 2))) 3 _) (by have := hB9.size; have := hP.lt; show w.heap.size + 2 ≤ w9.heap.size; have h5 : wr.drew.heap.size = wr.heap.size := rfl; omega) (Nat.le_refl _)
          have hS9 := hSd.keep hB9 (by omega) (by omega)
          have hS10 := hSd.keep hB10 (by omega) (by omega)
          refine ⟨hS9, ?_⟩
          simp only [Act.put, List.setIfInBounds_toArray, List.set_cons_zero, List.set_cons_succ]
          refine wpAnyH_oneL (k := 23) rfl (by kernel_rfl) rfl ?_
          refine wp_of_run (v := .pointer (some ⟨w.heap.size + 2, 3, none⟩)) (w' := w9) (by go_simp) ⟨hS9, ?_⟩
          simp only [Act.put, List.setIfInBounds_toArray, List.set_cons_zero, List.set_cons_succ]
          refine wpAnyH_oneL (k := 24) rfl (by kernel_rfl) rfl ?_
          refine wp_of_skip (w' := w9.setCell ⟨w.heap.size + 2, 3, none⟩ (.slice A9 (i + 1) c9)) (by go_simp) ⟨hS10, ?_⟩
          simp only [Act.put]
          refine wpAnyH_done (by kernel_rfl) ?_ _
          refine NoPanic.normal ?_
          have hX10 := hX.drew.below hB10 (by omega)
          have hZ10 := hZ.drew.below hB10 (by omega)
          have hE10 := hE.drew.trans (hB10.mono (by omega))
          clear hSd hS9 hS10 hB9 hB10 hP9 hown9 hown8 hG9 hb9 q3 p3
          go_wp2_with fail
          go_roundw
          case rel => exact ⟨i + 1, A9, c9, by omega, by go_num, hP10, by rw [HT.out, revC_append]; simpa [revC] using hO10, hX10, hZ10, hE10⟩
          case measure => simp [intOf]; omega
    · obtain rfl : i = n := by omega
      have hX' := Sl.mk hX
      clear hX HRw
      go_wp2_with (first | refine ld_pkR hP rfl (.tmp 3) rfl rfl rfl ?_ | refine st_pkR hZ rfl (.tmp 2) (.tmp 43) rfl s1 s2 a A' i c' rfl rfl rfl ?_)
      intro w5 hZ5 hG5 _
      have hO5 := hown.kept hG5 (ownNe hown (by omega))
      have hE5 := below_only hE hG5 hE.size (by omega)
      go_wp2_with fail
      refine bodyPost_ret (v := .agg #[.string s1, .string s2, .int .i64 a, .slice A' i c']) (res_cell Try.results8 _ _ _ rfl hZ5 Try.underlying24 infoRef) rfl ?_
      have ht : l.take i = l := List.take_of_length_le (by omega)
      rw [ht] at hO5
      exact ⟨A', c', rfl, own_mono hO5 (by omega), hE5⟩

end Go.Proofs.Ytkmdhmnjohlnaaa
