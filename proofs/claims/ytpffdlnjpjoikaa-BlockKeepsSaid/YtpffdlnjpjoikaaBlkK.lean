/-
  known: the chapter's example.
-/
import Derived.Test.YtpffdlnjpjoikaaBlkL
namespace Go.Proofs.Ytpffdlnjpjoikaa
open Go.RowKit

def kw (no : Nat) (c : Int) : Wt := ⟨no, allV c, allV_len c⟩
def kS1 : DSt := { new0 2 with line := [kw 0 1], wr := 1 }
def kS2 : DSt := { new0 2 with line := [kw 0 1, kw 0 2], wr := 2 }
def kS3 : DSt := { new0 2 with line := [kw 0 1, kw 0 2, kw 1 3], wr := 3 }
def kS4 : DSt := { new0 2 with off := true, laid := allV 1 ++ allV 3, line := [], wr := 3 }
theorem k_lay : layF (fun i => hasI [0, 2] i) (new0 2).laid kS3.line 3 = allV 1 ++ allV 3 := by decide +kernel
theorem k_cnt : cntF (fun i => hasI [0, 2] i) 3 = 2 := by decide +kernel
theorem k_read : readF kS3 0 = allV 2 := by decide +kernel

theorem Blk.reads64 {w : World} {g : Nat} {c : Int} (h : Blk w g 5 (bsC (allV c)).toArray) : Reads w w.heap.size 1 (some ⟨g, 0, none⟩) 64 (bsC (allV c)) := reads_blk h (allV_len c).symm

theorem k4 {w W : World} {g : Nat} {O : Nat → Prop} (h : Ks w W g { kS3 with off := true, laid := layF (fun i => hasI [0, 2] i) kS3.laid kS3.line kS3.line.length, line := [] } O) : Ks w W g kS4 O := by
  have e : ({ kS3 with off := true, laid := layF (fun i => hasI [0, 2] i) kS3.laid kS3.line kS3.line.length, line := [] } : DSt) = kS4 := by
    unfold kS4
    rw [← k_lay]
    rfl
  rw [← e]; exact h
theorem own_of_blk {w : World} {g n base : Nat} {l : List Int} (h : Blk w g 5 (bsC l).toArray) (hn : n = l.length) (hb : base ≤ g) (hm : n ≤ 1000000) : w.ownsRow base 5 1 (.slice (some ⟨g, 0, none⟩) n n) n (bsC l) :=
  ⟨by rw [bsC_len]; omega, .inr ⟨g, n, _, rfl, hb, h, Nat.le_refl _, by unfold maxLen; omega, by simp [bsC_len, hn], by simp; exact List.take_of_length_le (by rw [bsC_len]; omega)⟩⟩

set_option maxRecDepth 100000 in
set_option maxHeartbeats 8000000 in
theorem known_any (w : World) : Calls Try.prog 15 #[] w fun e w' => e = .returned (.bool true) ∧ Below w.heap.size w w' := by
  go_enter Try.func15, Try.ntmps15
  go_wp2_with fail
  refine (knew 2 w (w0 := w) (by omega) (by omega) (Below.refl _ _)).mono ?_
  rintro e w1 ⟨g, rfl, hK1, hB1⟩
  go_wp2_with fail
  refine (all_any 1 _).mono ?_
  rintro e w2 ⟨rfl, hX2, hB2⟩
  have hK2 := hK1.be hB2
  clear hK1 hB1 hB2
  go_wp2_with fail
  refine (kwrite hK2 _ 64 0 (allV 1) (allV_len _) rfl (by decide) (by decide) (by decide) hX2.reads64).mono ?_
  rintro e w3 ⟨rfl, hK3, -⟩
  clear hK2 hX2
  go_wp2_with fail
  refine (all_any 2 _).mono ?_
  rintro e w4 ⟨rfl, hX4, hB4⟩
  have hK4 := hK3.be hB4
  clear hK3 hB4
  go_wp2_with fail
  refine (kwrite hK4 _ 64 0 (allV 2) (allV_len _) rfl (by decide) (by decide) (by decide) hX4.reads64).mono ?_
  rintro e w5 ⟨rfl, hK5, -⟩
  clear hK4 hX4
  go_wp2_with fail
  refine (all_any 3 _).mono ?_
  rintro e w6 ⟨rfl, hX6, hB6⟩
  have hK6 := hK5.be hB6
  clear hK5 hB6
  go_wp2_with fail
  refine (kwrite hK6 _ 64 1 (allV 3) (allV_len _) rfl (by decide) (by decide) (by decide) hX6.reads64).mono ?_
  rintro e w7 ⟨rfl, hK7, -⟩
  have hK7' : Ks w w7 g kS3 (fun _ => False) := hK7
  clear hK6 hX6 hK7
  go_wp2_with fail
  refine (kread hK7' 0 rfl (by decide) (by decide) (by decide)).mono ?_
  rintro e w8 ⟨Ar, cr, rfl, hR8, hB8, hAr⟩
  rw [k_read] at hR8
  obtain ⟨ar, rfl, har, -⟩ := hR8.2 (by omega)
  have hK8 := hK7'.add hB8 (hAr ar rfl) har
  clear hK7' hB8 hAr
  have hK9 := hK8.add ((Below.refl w8.heap.size w8).alloc (Nat.le_refl _) (.cells #[.int .i64 0, .int .i64 2] 3)) (Nat.le_refl _) (by simp)
  have hR9 : Reads (w8.alloc (.cells #[.int .i64 0, .int .i64 2] 3)) (w8.alloc (.cells #[.int .i64 0, .int .i64 2] 3)).heap.size 1 (some ar) 64 (bsC (allV 2)) := (hR8.alloc (Nat.le_refl _) _).more (by simp)
  have hRk : Reads (w8.alloc (.cells #[.int .i64 0, .int .i64 2] 3)) (w8.alloc (.cells #[.int .i64 0, .int .i64 2] 3)).heap.size 1 (some ⟨w8.heap.size, 0, none⟩) 2 (isC [0, 2]) := (reads_newL w8 (isC [0, 2]) 3 (by simp))
  have hH := hK9.ex
  have HK9 := Sl.mk hK9
  have HR9 := Sl.mk hR9
  have HRk := Sl.mk hRk
  clear hK8 hK9 hR8 hR9 hRk hH
  go_wp2_with fail
  refine (kcrash HK9.out (some ⟨w8.heap.size, 0, none⟩) 2 2 [0, 2] (by decide) (by decide) (by decide) (by decide) HRk.out (fun _ ad e => by cases e; exact .inl (.inr rfl))).mono ?_
  rintro e w10 ⟨rfl, hK10, hk10⟩
  have hR10 := hK10.reads HR9.out hk10 (fun ad e => by cases e; exact .inl (.inr rfl))
  rw [show kS3.line.length = 3 from rfl, k_cnt]
  have hK11 := k4 hK10
  clear hK10 hk10 HK9 HR9 HRk
  go_wp2_with fail
  refine (klaid hK11 (by decide)).mono ?_
  rintro e w12 ⟨A12, c12, rfl, hO12, hB12⟩
  have hR12 := (hR10.below hB12).more hB12.size
  have hK12 := hK11.be hB12
  have hL12 := Reads.of_own hO12
  clear hR10 hK11 hO12 hB12
  go_wp2_with fail
  refine (all_any 2 _).mono ?_
  rintro e w13 ⟨rfl, hX13, hB13⟩
  have hR13 := (hR12.below hB13).more hB13.size
  have hK13 := hK12.be hB13
  have hL13 := (hL12.below hB13).more hB13.size
  clear hR12 hK12 hL12 hB13
  go_wp2_with fail
  refine (same_any _ _ 64 64 _ _ _ _ _ (by omega) hR13 hX13.reads64).mono ?_
  rintro e w14 ⟨rfl, hB14⟩
  have hK14 := hK13.be hB14
  have hL14 := (hL13.below hB14).more hB14.size
  rw [show sameB (allV 2) (allV 2) = true by simp [sameB]]
  clear hR13 hK13 hL13 hB14 hX13
  go_wp2_with fail
  refine (kon hK14).mono ?_
  rintro e w15 ⟨rfl, rfl⟩
  go_wp2_with fail
  refine (all_any 1 _).mono ?_
  rintro e w16 ⟨rfl, hX16, hB16⟩
  have hge14 := hK14.below.size
  have hK16 := hK14.be hB16
  have hL14' := hL14
  clear hK14 hL14
  go_wp2_with fail
  refine (all_any 3 _).mono ?_
  rintro e w17 ⟨rfl, hX17, hB17⟩
  have hK17 := hK16.be hB17
  have hL17 := (hL14'.below hB16).below (hB17.mono hB16.size)
  have hX16' := hX16.be hB17
  have hs16 := hB16.size
  have hs17 := hB17.size
  have hlt16 := hX16.lt
  obtain ⟨i0, hi0, hz0, hz1, hz2⟩ := info_parts infoU8
  have hO := own_of_blk (base := w.heap.size) hX16' (n := 64) (allV_len 1).symm (by omega) (by omega)
  have hR3 := hX17.reads64
  have HO := Sl.mk hO
  have HR3 := Sl.mk hR3
  have HK := Sl.mk hK17
  have HL := Sl.mk hL17
  clear hO hR3 hK17 hL17 hK16 hL14' hX16 hX16' hX17 hB16 hB17
  go_wp2_with (at_builtin; refine wpList_append_anyG _ (by rfl) (.tmp 69) (.tmp 70) 30 rfl w.heap.size 5 i0 (.int .u8 0) 1 1 Try.underlying30 hi0 hz0 hz1 hz2 (by rfl) (by decide) (.slice (some ⟨w14.heap.size, 0, none⟩) 64 64) 64 (bsC (allV 1)) rfl HO.out w17.heap.size _ 64 _ _ rfl HR3.out (bsC_one _) (by unfold maxLen; omega) (by omega) (by omega) ?_)
  intro v1 w18 hown1 hG1 hb1
  have hBw : Below w.heap.size w17 w18 := (Below.refl _ w17).grown hG1 (by omega) (fun k h => ownGe HO.out h)
  have e1 : bsC (allV 1) ++ bsC (allV 3) = bsC kS4.laid := by simp [kS4, bsC]
  rw [e1] at hown1
  obtain ⟨A1, c1, rfl⟩ := ownForm hown1
  have hL18 := (HL.out.grown hG1 (by omega) (fun k e => by cases e; exact Nat.le_refl _)).more (B' := w18.heap.size) (by have := hG1.size; omega)
  have hL19 := Reads.of_own hown1
  have hBk := HK.out.below.trans hBw
  clear hown1 hG1 hb1 hBw e1 HK HL
  go_wp2_with fail
  refine (same_any _ _ _ 128 _ _ _ _ _ (by decide) hL18 hL19).mono ?_
  rintro e w19 ⟨rfl, hB19⟩
  rw [show sameB kS4.laid kS4.laid = true by simp [sameB]]
  have hfin := hBk.trans (hB19.mono hBk.size)
  clear hL18 hL19 hBk hB19
  go_wp2_with fail
  go_ret
  exact ⟨rfl, hfin⟩

end Go.Proofs.Ytpffdlnjpjoikaa
