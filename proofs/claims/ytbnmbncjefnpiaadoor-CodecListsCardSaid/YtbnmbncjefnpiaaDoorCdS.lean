/-
  The contracts of codec.Int, codec.Text, codec.Of.
-/
import Derived.Test.YtbnmbncjefnpiaaDoorCdR
namespace Go.Proofs.YtbnmbncjefnpiaaDoor
open Go.RowKit
attribute [local go_sem ↓] Go.wp_at_zero Go.wp_at_succ

def vxInt (n : Int) : Vx := .mk 0 n none [] 0 none [] 0
theorem vxInt_ok (w : World) (S : Nat → Prop) (n : Int) (h0 : -9223372036854775808 ≤ n) (h1 : n ≤ 9223372036854775807) : VxOk w S (vxInt n) :=
  VxOk.iff.2 ⟨RdC.nil, RdC.nil, ⟨h0, h1, by omega, by omega, ⟨Nat.le_refl _, by simp⟩, ⟨Nat.le_refl _, by simp⟩, by simp, by simp, fun x hx => nomatch hx⟩, fun x hx => nomatch hx⟩
theorem int_any (n : Int) (w : World) :
    Calls Tryd.prog 19 #[.int .i64 n] w fun e w' => e = .returned (.agg #[.int .i64 0, .int .i64 n, .slice none 0 0, .slice none 0 0]) ∧ Below w.heap.size w w' := by
  have hZ := Blk.new w 26 #[.int .i64 0, .int .i64 0, .slice none 0 0, .slice none 0 0]
  have hE := below_al (Below.refl w.heap.size w) (.cells #[.int .i64 0, .int .i64 0, .slice none 0 0, .slice none 0 0] 26)
  go_enter Tryd.func19, Tryd.ntmps19
  go_wp2_with (refine st_vx hZ rfl (.tmp 2) (.tmp 4) rfl 0 n none 0 0 none 0 0 rfl (by rfl) rfl ?_)
  intro w4 hZ4 hG4 _
  have hE4 := below_only hE hG4 hE.size (Nat.le_refl _)
  clear hG4 hE hZ
  go_wp2_with fail
  exact bodyPost_ret (v := .agg #[.int .i64 0, .int .i64 n, .slice none 0 0, .slice none 0 0]) (res_cell Tryd.results19 _ _ _ rfl hZ4 Tryd.underlying26 vxSize) rfl ⟨rfl, hE4⟩

def TextPost (w : World) (b : List Nat) (e : Ending) (w' : World) : Prop :=
  ∃ (A : Option Addr) (c : Nat), e = .returned (.agg (vxC (.mk 1 0 A b c none [] 0)).toArray) ∧ VxOk w' (fun g => w.heap.size ≤ g ∧ g < w'.heap.size) (.mk 1 0 A b c none [] 0) ∧ Below w.heap.size w w'
set_option maxRecDepth 100000 in
theorem text_any (S : ByteArray) (w : World) (hS : S.size ≤ 1000000) :
    Calls Tryd.prog 20 #[.string S] w (TextPost w (bys S)) := by
  have hZ := (Blk.new w 26 #[.int .i64 0, .int .i64 0, .slice none 0 0, .slice none 0 0])
  have hE := below_al (Below.refl w.heap.size w) (.cells #[.int .i64 0, .int .i64 0, .slice none 0 0, .slice none 0 0] 26)
  have hws : (w.alloc (.cells #[.int .i64 0, .int .i64 0, .slice none 0 0, .slice none 0 0] 26)).heap.size = w.heap.size + 1 := by simp
  obtain ⟨w1, hw1⟩ : ∃ w1, w.alloc (.cells #[.int .i64 0, .int .i64 0, .slice none 0 0, .slice none 0 0] 26) = w1 := ⟨_, rfl⟩
  have HW1 := Sl.mk hw1
  rw [hw1] at hZ hE hws
  clear hw1
  have hB := bys_below S w1
  have hR := bys_reads1 S w1 _ rfl
  have hcap : S.size ≤ grownCap w1 S.size 0 5 ∧ grownCap w1 S.size 0 5 ≤ 9223372036854775807 := ⟨grownCap_ge _ _ _ _, grownCap_le_maxLen _ _ _ _ (by unfold maxLen; omega)⟩
  have hbz := Lib.bytesWorld_size w1 5 S
  have HSZ := Sl.mk hbz
  have HC := Sl.mk hcap
  have HR := Sl.mk hR
  have hby : ∀ x ∈ bys S, x < 256 := fun x hx => by
    obtain ⟨y, _, rfl⟩ := List.mem_map.1 hx
    exact y.toNat_lt
  have HBL := Sl.mk (bys_len S)
  rw [hws] at HR HSZ
  clear hR hcap hbz
  go_enter Tryd.func20, Tryd.ntmps20
  go_wp2_with fail
  rw [HW1.out, conv_bys, hws]
  obtain ⟨cp, hcp⟩ : ∃ cp, grownCap w1 S.size 0 5 = cp := ⟨_, rfl⟩
  rw [hcp] at HC ⊢
  obtain ⟨w2, hw2⟩ : ∃ w2, Lib.bytesWorld w1 5 S = w2 := ⟨_, rfl⟩
  rw [hw2] at HR HSZ hB ⊢
  have hZ2 := hZ.be hB
  have hE2 := below_tr hE hB
  clear hcp hw2 HW1 hZ hE hB
  go_wp2_with (refine st_vx hZ2 rfl (.tmp 2) (.tmp 5) rfl 1 0 (some ⟨w.heap.size + 1, 0, none⟩) S.size cp none 0 0 rfl (by rfl) rfl ?_)
  intro w4 hZ4 hG4 _
  have hE4 := below_only hE2 hG4 hE2.size (Nat.le_refl _)
  have HG4 := Sl.mk hG4
  clear hG4 hE2 hZ2
  go_wp2_with fail
  refine bodyPost_ret (v := .agg #[.int .i64 1, .int .i64 0, .slice (some ⟨w.heap.size + 1, 0, none⟩) S.size cp, .slice none 0 0]) (res_cell Tryd.results20 _ _ _ rfl hZ4 Tryd.underlying26 vxSize) rfl ?_
  have hs24 := HG4.out.size
  have hs2 := HSZ.out
  refine ⟨some ⟨w.heap.size + 1, 0, none⟩, cp, by rw [vxC_mk, HBL.out]; rfl, ?_, hE4⟩
  have h1 : VxOk w2 (fun g => g = w.heap.size + 1) (.mk 1 0 (some ⟨w.heap.size + 1, 0, none⟩) (bys S) cp none [] 0) := by
    refine VxOk.iff.2 ⟨?_, RdC.nil, ⟨by omega, by omega, by omega, by omega, by rw [HBL.out]; exact HC.out, ⟨Nat.le_refl _, by simp⟩, by rw [HBL.out]; exact hS, by simp, hby⟩, fun x hx => nomatch hx⟩
    rw [HBL.out]
    refine ⟨HR.out.1, fun hn => ?_⟩
    obtain ⟨ad, e, _, hc⟩ := HR.out.2 hn
    exact ⟨ad, e, by injection e with e; rw [← e], hc⟩
  have h2 := h1.only HG4.out (fun g hg => ⟨by omega, fun e => by injection e; omega⟩)
  exact VxOk.mono (fun g hg => ⟨by omega, by omega⟩) _ h2

set_option maxRecDepth 100000 in
set_option maxHeartbeats 2000000 in
theorem of_any (l : List Vx) (pl : Option Addr) (ll cl : Nat) (w : World) (hlle : l.length = ll) (hll : ll ≤ 1000000) (hlc : ll ≤ cl) (hlm : cl ≤ 9223372036854775807) (hl : Vxs w pl ll l) :
    Calls Tryd.prog 18 #[.slice pl ll cl] w (CopPost w (.mk 2 0 [] ((vsOf l).map (copN 8)))) := by
  have HLL := Sl.mk hlle
  have hB0 := below_al (below_al (Below.refl w.heap.size w) (.cells #[.int .i64 0, .int .i64 0, .slice none 0 0, .slice none 0 0] 26)) (.cells #[.int .i64 2, .int .i64 0, .slice none 0 0, .slice none 0 0] 26)
  have hZ0 := (Blk.new w 26 #[.int .i64 0, .int .i64 0, .slice none 0 0, .slice none 0 0]).alloc (.cells #[.int .i64 2, .int .i64 0, .slice none 0 0, .slice none 0 0] 26)
  have hX0 : Blk ((w.alloc (.cells #[.int .i64 0, .int .i64 0, .slice none 0 0, .slice none 0 0] 26)).alloc (.cells #[.int .i64 2, .int .i64 0, .slice none 0 0, .slice none 0 0] 26)) (w.heap.size + 1) 26 #[.int .i64 2, .int .i64 0, .slice none 0 0, .slice none 0 0] := Blk.new' (by simp)
  have hs0 : ((w.alloc (.cells #[.int .i64 0, .int .i64 0, .slice none 0 0, .slice none 0 0] 26)).alloc (.cells #[.int .i64 2, .int .i64 0, .slice none 0 0, .slice none 0 0] 26)).heap.size = w.heap.size + 2 := by simp
  have hws : (w.alloc (.cells #[.int .i64 0, .int .i64 0, .slice none 0 0, .slice none 0 0] 26)).heap.size = w.heap.size + 1 := by simp
  obtain ⟨w3, hw3⟩ : ∃ w3, (w.alloc (.cells #[.int .i64 0, .int .i64 0, .slice none 0 0, .slice none 0 0] 26)).alloc (.cells #[.int .i64 2, .int .i64 0, .slice none 0 0, .slice none 0 0] 26) = w3 := ⟨_, rfl⟩
  rw [hw3] at hB0 hZ0 hX0 hs0
  have HW3 := Sl.mk hw3
  clear hw3
  have HLw := Sl.mk hl
  clear hl hlle
  obtain ⟨i0, hi0, hz0, hz1, hz2⟩ := info_parts vxInfo
  have HINF := Sl.mk (And.intro hi0 (And.intro hz0 (And.intro hz1 hz2)))
  clear hi0 hz0 hz1 hz2
  go_enter Tryd.func18, Tryd.ntmps18
  go_wp2_with fail
  rw [HW3.out]
  go_loopw [9] (fun v9 wr => ∃ (i c' : Nat) (A' : Option Addr) (l' : List Vx), i ≤ ll ∧ v9 = .int .i64 i ∧ Blk wr (w.heap.size + 1) 26 #[.int .i64 2, .int .i64 0, .slice none 0 0, .slice A' i c'] ∧ Blk wr w.heap.size 26 #[.int .i64 0, .int .i64 0, .slice none 0 0, .slice none 0 0] ∧ Below w.heap.size w wr ∧
      Sl (wr.ownsRow (w.heap.size + 2) 26 4 (.slice A' i c') i (vxsC l') ∧ l'.length = i ∧ l'.map Vx.v = (vsOf (l.take i)).map (copN 8) ∧ w.heap.size + 2 ≤ wr.heap.size ∧
        ∀ x ∈ l', VxOk wr (fun g => w.heap.size + 2 ≤ g ∧ g < wr.heap.size ∧ some g ≠ Value.ownBlock (.slice A' i c')) x)) (fun v9 _ => ll - (intOf v9).toNat)
  case atStart => exact ⟨0, 0, none, [], Nat.zero_le _, rfl, hX0, hZ0, hB0, ⟨World.ownsRow_nil _ _ _ _, rfl, rfl, by omega, fun x hx => nomatch hx⟩⟩
  case round =>
    obtain ⟨i, c', A', l', hi, rfl, hX, hZ, hB, HS⟩ := hrel
    have hX3 := hX.cell 3
    by_cases hil : i < ll
    · obtain ⟨x, hx⟩ : ∃ x, l[i]? = some x := ⟨_, List.getElem?_eq_getElem (by rw [HLL.out]; exact hil)⟩
      obtain ⟨ad, hpl, hbl, hld, hok⟩ := (HLw.out.be hB).at_ hx
      subst hpl
      have HXI := Sl.mk hx
      have hwa := below_al (Below.refl wr.heap.size wr) (.cells (vxC x).toArray 26)
      have hBn := Blk.new wr 26 (vxC x).toArray
      have HCP := Sl.mk (show ∀ W, Below wr.heap.size wr W → Calls Tryd.prog 27 #[.agg (vxC x).toArray, .int .i64 8] W (CopPost W (copN 8 x.v)) from fun W hW => copied_any 8 x W (Nat.le_refl _) (hok.be hW))
      obtain ⟨k', n', pb', b', cb', pl', l2, cl'⟩ := x
      rw [vxC_mk] at *
      have hXa := hX.be hwa
      have hZa := hZ.be hwa
      clear hx hok
      go_wp2_with (refine ld_vxl hld rfl (.tmp 11) rfl rfl ?_)
      have CEL : (#[Value.int .i64 k', .int .i64 n', .slice pb' b'.length cb', .slice pl' l2.length cl'] : Array Value) = [Value.int .i64 k', .int .i64 n', .slice pb' b'.length cb', .slice pl' l2.length cl'].toArray := rfl
      have hsa : (wr.alloc (.cells #[.int .i64 k', .int .i64 n', .slice pb' b'.length cb', .slice pl' l2.length cl'] 26)).heap.size = wr.heap.size + 1 := by simp
      obtain ⟨wd, hwd⟩ : ∃ wd, (wr.alloc (.cells #[.int .i64 k', .int .i64 n', .slice pb' b'.length cb', .slice pl' l2.length cl'] 26)).drew = wd := ⟨_, rfl⟩
      have hXd : Blk wd (w.heap.size + 1) 26 #[.int .i64 2, .int .i64 0, .slice none 0 0, .slice A' i c'] := by rw [← hwd]; exact hXa.drew
      have hZd : Blk wd w.heap.size 26 #[.int .i64 0, .int .i64 0, .slice none 0 0, .slice none 0 0] := by rw [← hwd]; exact hZa.drew
      have hNd : Blk wd wr.heap.size 26 #[.int .i64 k', .int .i64 n', .slice pb' b'.length cb', .slice pl' l2.length cl'] := by rw [← hwd]; exact hBn.drew
      have hEd : Below wr.heap.size wr wd := by rw [← hwd]; exact hwa.drew
      have hsd : wd.heap.size = wr.heap.size + 1 := by rw [← hwd]; exact hsa
      have HSF : Sl (∀ W, Below wd.heap.size wd W → W.cell? ⟨w.heap.size + 1, 3, none⟩ = some (.slice A' i c')) := Sl.mk (fun W hW => (hXd.be hW).cell 3)
      have HLV : Sl (∀ W, Below wd.heap.size wd W → (loadVar 26 ⟨wr.heap.size, 0, none⟩).run Tryd.prog W = .ok (.agg #[.int .i64 k', .int .i64 n', .slice pb' b'.length cb', .slice pl' l2.length cl']) W) := Sl.mk (fun W hW =>
        run_loadVar_at W ⟨wr.heap.size, 0, none⟩ 26 [.int .i64 k', .int .i64 n', .slice pb' b'.length cb', .slice pl' l2.length cl'] _ (fun j v hv => by
          have e2 : (⟨wr.heap.size, 0, none⟩ : Addr).add j = ⟨wr.heap.size, j, none⟩ := by unfold Addr.add; split <;> simp_all
          rw [e2, (hNd.be hW).cell j]; simpa using hv) Tryd.underlying26 rfl vxSize)
      refine wp_region_X (fun W => Below wd.heap.size wd W) [5, 6, 7] (by kernel_rfl) (by rw [hwd]; exact Below.refl _ _) (fun hS => ?_)
      rw [hwd] at hS ⊢
      clear hwd hX hZ hXa hZa hBn hwa hX3 hld hsa
      refine wpAnyX_S (i := 0) (v := ?_) rfl (by kernel_rfl) (by kernel_rfl) (by kernel_rfl) (by kernel_rfl) (fun _ _ _ h => h) (Or.inl ⟨by rfl, ?_⟩) hS ?_
      rotate_left 1
      · (intro w' hw'; (first | rw [hw'] | (have hw2 := HSF.out w' hw') | skip); go_simp; (try with_reducible rfl))
      simp only [Act.put, List.setIfInBounds_toArray, List.set_cons_zero, List.set_cons_succ]
      refine wpAnyX_S (i := 1) (v := ?_) rfl (by kernel_rfl) (by kernel_rfl) (by kernel_rfl) (by kernel_rfl) (fun _ _ _ h => h) (Or.inl ⟨by rfl, ?_⟩) hS ?_
      rotate_left 1
      · (intro w' hw'; (first | rw [hw'] | (have hw2 := HSF.out w' hw') | skip); go_simp; (try with_reducible rfl))
      simp only [Act.put, List.setIfInBounds_toArray, List.set_cons_zero, List.set_cons_succ]
      refine wpAnyX_S (i := 2) (v := .agg #[.int .i64 k', .int .i64 n', .slice pb' b'.length cb', .slice pl' l2.length cl']) rfl (by kernel_rfl) (by kernel_rfl) (by kernel_rfl) (by kernel_rfl) (fun _ _ _ h => h) (yieldsIf_loadA (by rfl) 26 (.tmp 5) rfl ⟨wr.heap.size, 0, none⟩ _ rfl (fun w' hw' => HLV.out w' hw')) hS ?_
      simp only [Act.put, List.setIfInBounds_toArray, List.set_cons_zero, List.set_cons_succ]
      refine wpAnyX_oneL (k := 3) rfl (by kernel_rfl) rfl ?_
      refine wp_of_call (f := 27) (args := #[.agg #[.int .i64 k', .int .i64 n', .slice pb' b'.length cb', .slice pl' l2.length cl'], .int .i64 8]) (by go_simp) (HCP.out wd hEd) (fun e w2 hq => ?_)
      obtain ⟨x', rfl, hxv, hxok, hB2⟩ := hq
      have hs2 := hB2.size
      have HXV := Sl.mk hxv
      have HXK := Sl.mk hxok
      obtain ⟨k7, n7, pb7, b7, cb7, pl7, l7, cl7⟩ := x'
      refine ⟨_, rfl, fun _ => hB2, ?_⟩
      simp only [Act.put, List.setIfInBounds_toArray, List.set_cons_zero, List.set_cons_succ]
      have hS2 := hB2
      refine wpAnyX_oneL (k := 4) rfl (by kernel_rfl) rfl ?_
      refine wp_of_run (v := .slice (some ⟨w2.heap.size, 0, none⟩) 1 1) (w' := w2.alloc (.cells #[.int .i64 k7, .int .i64 n7, .slice pb7 b7.length cb7, .slice pl7 l7.length cl7] 26)) (by rw [vxC_mk]; go_simp) ⟨fun _ => hS2.alloc hS2.size _, ?_⟩
      simp only [Act.put, List.setIfInBounds_toArray, List.set_cons_zero, List.set_cons_succ]
      refine wpAnyX_tailF [5, 6, 7] (by kernel_rfl) (by rfl) (by rfl) (by rfl) ?_
      simp only [List.filterMap_cons, List.filterMap_nil, List.getElem?_cons_succ, List.getElem?_cons_zero]
      obtain ⟨hz0, hz1, hz2, hz3⟩ := HINF.out
      have hBa := below_tr hB2 (below_al (Below.refl w2.heap.size w2) (.cells #[.int .i64 k7, .int .i64 n7, .slice pb7 b7.length cb7, .slice pl7 l7.length cl7] 26))
      obtain ⟨hro, hll', hmap, hsz, hkid⟩ := HS.out
      have hro2 := own_below hro (below_tr hEd hBa)
      have hXe := (hXd.be hBa)
      have hZe := (hZd.be hBa)
      have hEe := (hB.trans ((below_tr hEd hBa).mono hB.size))
      have hRx : Reads (w2.alloc (.cells #[.int .i64 k7, .int .i64 n7, .slice pb7 b7.length cb7, .slice pl7 l7.length cl7] 26)) (w2.heap.size + 1) 4 (some ⟨w2.heap.size, 0, none⟩) 1 (vxC (.mk k7 n7 pb7 b7 cb7 pl7 l7 cl7)) := ⟨rfl, fun _ => ⟨_, rfl, Nat.lt_succ_self _, fun j u hu => by
        have e2 : (⟨w2.heap.size, 0, none⟩ : Addr).add j = ⟨w2.heap.size, j, none⟩ := by unfold Addr.add; split <;> simp_all
        rw [e2, (Blk.new _ _ _).cell j]; simpa [vxC_mk] using hu⟩⟩
      have hHS := HS
      clear HS hkid hmap
      refine wpList_append_anyG _ rfl (.tmp 14) (.tmp 17) 24 rfl (w.heap.size + 2) 26 i0 (.agg #[.int .i64 0, .int .i64 0, .slice none 0 0, .slice none 0 0]) 4 64 Tryd.underlying24 hz0 hz1 hz2 hz3 (by rfl) (by decide) _ i (vxsC l') rfl hro2 (w2.heap.size + 1) _ 1 1 (vxC (.mk k7 n7 pb7 b7 cb7 pl7 l7 cl7)) rfl hRx (vxC_one _) (by unfold maxLen; omega) (by omega) (by simp; omega) ?_
      intro v4 w4 ho4 hg4 hv4
      obtain ⟨A4, c4, rfl⟩ := ownForm ho4
      have hwe : (w2.alloc (.cells #[.int .i64 k7, .int .i64 n7, .slice pb7 b7.length cb7, .slice pl7 l7.length cl7] 26)).heap.size = w2.heap.size + 1 := by simp
      have hX4 := hXe.grown hg4 (fun e => by have := ownGe hro2 e.symm; omega)
      have hZ4 := hZe.grown hg4 (fun e => by have := ownGe hro2 e.symm; omega)
      have hE4 := hEe.grown hg4 (by omega) (fun g e => by have := ownGe hro2 e; omega)
      have hX5 : Blk (w4.setCell ⟨w.heap.size + 1, 3, none⟩ (.slice A4 (i + 1) c4)) (w.heap.size + 1) 26 #[.int .i64 2, .int .i64 0, .slice none 0 0, .slice A4 (i + 1) c4] := blk_set _ _ _ _ 3 _ _ hX4 rfl
      have hg5 : w4.grownBy (w4.setCell ⟨w.heap.size + 1, 3, none⟩ (.slice A4 (i + 1) c4)) (some (w.heap.size + 1)) := only_setCell (only_refl w4 _) 3 _
      have hZ5 := hZ4.grown hg5 (fun e => by injection e; omega)
      have hE5 := below_only hE4 hg5 hE4.size (by omega)
      have ho5 := ho4.kept hg5 (ownNe ho4 (by omega))
      have hw5 := hg5.size
      have hw4 := hg4.size
      have HF := Sl.mk (show (w4.setCell ⟨w.heap.size + 1, 3, none⟩ (.slice A4 (i + 1) c4)).ownsRow (w.heap.size + 2) 26 4 (.slice A4 (i + 1) c4) (i + 1) (vxsC (l' ++ [.mk k7 n7 pb7 b7 cb7 pl7 l7 cl7])) ∧ (l' ++ [Vx.mk k7 n7 pb7 b7 cb7 pl7 l7 cl7]).length = i + 1 ∧ (l' ++ [Vx.mk k7 n7 pb7 b7 cb7 pl7 l7 cl7]).map Vx.v = (vsOf (l.take (i + 1))).map (copN 8) ∧ w.heap.size + 2 ≤ (w4.setCell ⟨w.heap.size + 1, 3, none⟩ (.slice A4 (i + 1) c4)).heap.size ∧
          ∀ x ∈ l' ++ [Vx.mk k7 n7 pb7 b7 cb7 pl7 l7 cl7], VxOk (w4.setCell ⟨w.heap.size + 1, 3, none⟩ (.slice A4 (i + 1) c4)) (fun g => w.heap.size + 2 ≤ g ∧ g < (w4.setCell ⟨w.heap.size + 1, 3, none⟩ (.slice A4 (i + 1) c4)).heap.size ∧ some g ≠ Value.ownBlock (.slice A4 (i + 1) c4)) x by
        obtain ⟨-, -, hmap, -, hkid⟩ := hHS.out
        refine ⟨by rw [vxsC_app, vxsC_one']; exact ho5, by rw [List.length_append, hll']; rfl, ?_, by omega, fun x hx => ?_⟩
        · rw [List.map_append, hmap, take_one HXI.out, vsOf_app, List.map_append]
          simp only [List.map_cons, List.map_nil, vsOf, HXV.out]
        · rcases List.mem_append.1 hx with hx | hx
          · have h1 := hkid x hx
            have h2 : VxOk (w2.alloc (.cells #[.int .i64 k7, .int .i64 n7, .slice pb7 b7.length cb7, .slice pl7 l7.length cl7] 26)) (fun g => w.heap.size + 2 ≤ g ∧ g < wr.heap.size ∧ some g ≠ Value.ownBlock (.slice A' i c')) x := VxOk.keep (fun p hp => (below_tr hEd hBa).cell hp.2.1) x h1
            have h3 := h2.only hg4 (fun g hg => ⟨by omega, hg.2.2⟩)
            have h4 := h3.only hg5 (fun g hg => ⟨by omega, fun e => by injection e; omega⟩)
            refine VxOk.mono (fun g hg => ⟨hg.1, by omega, ?_⟩) x h4
            rcases hv4 with e | e
            · rw [e]; exact hg.2.2
            · rw [e]; intro e'; injection e'; omega
          · obtain rfl : x = _ := by simpa using hx
            have h1 := HXK.out
            have h2 : VxOk (w2.alloc (.cells #[.int .i64 k7, .int .i64 n7, .slice pb7 b7.length cb7, .slice pl7 l7.length cl7] 26)) (fun g => wd.heap.size ≤ g ∧ g < w2.heap.size) _ := VxOk.keep (fun p hp => (below_al (Below.refl w2.heap.size w2) _).cell hp.2) _ h1
            have h3 := h2.only hg4 (fun g hg => ⟨by omega, fun e => by
              have := (hro.lt g e.symm).2
              omega⟩)
            have h4 := h3.only hg5 (fun g hg => ⟨by omega, fun e => by injection e; omega⟩)
            refine VxOk.mono (fun g hg => ⟨by omega, by omega, ?_⟩) _ h4
            rcases hv4 with e | e
            · rw [e]; intro e'; have := (hro.lt g e'.symm).2; omega
            · rw [e]; intro e'; injection e'; omega)
      have x3 := hX4.cell 3
      have y3 := hX4.frozen 3
      clear hz0 hz1 hz2 hz3 hRx hS hS2 hB2 hXd hZd hNd hEd HSF HLV hro2 hXe hZe hEe hX4 hZ4 hE4 hg5 ho5 hg4 hv4 ho4 hro hBa hHS
      go_wp2_with fail
      refine NoPanic.normal ?_
      go_wp2_with fail
      go_roundw
      case rel => exact ⟨i + 1, c4, A4, _, by omega, by go_num, hX5, hZ5, hE5, HF⟩
      case measure => simp [intOf]; omega
    · obtain rfl : i = ll := by omega
      go_wp2_with (first | refine ld_vx0 hX rfl (.tmp 3) rfl rfl rfl ?_ | refine st_vx hZ rfl (.tmp 2) (.tmp 21) rfl 2 0 none 0 0 A' i c' rfl rfl rfl ?_)
      intro w4 hZ4 hG4 _
      have hE4 := below_only hB hG4 hB.size (by omega)
      have HG4 := Sl.mk hG4
      clear hG4
      go_wp2_with fail
      refine bodyPost_ret (v := .agg #[.int .i64 2, .int .i64 0, .slice none 0 0, .slice A' i c']) (res_cell Tryd.results18 _ _ _ rfl hZ4 Tryd.underlying26 vxSize) rfl ?_
      obtain ⟨hro, hll', hmap, hsz, hkid⟩ := HS.out
      refine ⟨.mk 2 0 none [] 0 A' l' c', by rw [vxC_mk, hll']; rfl, ?_, ?_, hE4⟩
      · rw [Vx.v, vsOf_map, hmap, List.take_of_length_le (by rw [HLL.out]; omega)]
      · have hr3 := hro.kept HG4.out (ownNe hro (by omega))
        have hs := HG4.out.size
        refine VxOk.iff.2 ⟨RdC.nil, by rw [hll']; exact RdC.own hr3 fun g _ h1 h2 => ⟨by omega, h2⟩, ⟨by omega, by omega, by omega, by omega, ⟨Nat.le_refl _, by simp⟩, by rw [hll']; exact ownCapS hr3, by simp, by omega, fun x hx => nomatch hx⟩, fun x hx => ?_⟩
        exact VxOk.mono (fun g h => ⟨by omega, by omega⟩) x ((hkid x hx).only HG4.out fun g h => ⟨h.2.1, fun e => by injection e; omega⟩)

end Go.Proofs.YtbnmbncjefnpiaaDoor
