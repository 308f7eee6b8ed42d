/-
  The contracts of Sum and Of.
-/
import Derived.Test.YticcphppnmoogaaDoorDigWrite
namespace Go.Proofs.YticcphppnmoogaaDoor
open Go.RowKit
attribute [local go_sem ↓] Go.wp_at_zero Go.wp_at_succ

def padK (n : Nat) : Nat := (119 - n % 64) % 64
def lenF (n i : Nat) : Nat := n * 8 / 2 ^ (8 * (7 - i)) % 256
def lenB (n : Nat) : List Nat := (List.range 8).map (lenF n)
def sumF (s : StT) : List Nat := bytesF (feedS s (128 :: List.replicate (padK s.2.2) 0 ++ lenB s.2.2)).1
def totOf (w : World) (g : Nat) : Nat := match w.cell? ⟨g, 72, none⟩ with
  | some (.int _ n) => n.toNat
  | _ => 0
theorem tot_of {w : World} {g : Nat} {s : StT} (hs : okS s) (h : St w g s) : totOf w g = s.2.2 := by
  unfold totOf
  rw [blk_at h (strC_n hs.1 hs.2)]
  simp

set_option maxRecDepth 100000 in
set_option maxHeartbeats 4000000 in
theorem sum_of (p : Value) (s : StT) (w : World) (hs : okS s) (hn : s.2.2 ≤ 100000000000) (hT : Tabs w)
    (hF : ∀ w1, Below w.heap.size w w1 → Calls Tryd.prog 41 #[p] w1 fun e w' => e = .returned (.pointer (some ⟨w1.heap.size, 0, none⟩)) ∧ St w' w1.heap.size s ∧ Below w1.heap.size w1 w') :
    Calls Tryd.prog 28 #[p] w fun e w' => e = .returned (.agg (u8s (sumF s)).toArray) ∧ Below w.heap.size w w' := by
  have HF := Sl.mk hF
  have hT0 := hT.1
  clear hF
  obtain ⟨n, hnn⟩ : ∃ n, s.2.2 = n := ⟨_, rfl⟩
  have HNN := hide hnn
  rw [hnn] at hn
  clear hnn
  go_enter Tryd.func28, Tryd.ntmps28
  go_wp2_with fail
  obtain ⟨wa, hwa⟩ : ∃ wa, w.alloc (.cells (z8 32).toArray 45) = wa := ⟨_, rfl⟩
  have hZ : Blk wa w.heap.size 45 (z8 32).toArray := by rw [← hwa]; exact Blk.new _ _ _
  have hBa : Below w.heap.size w wa := by rw [← hwa]; exact below_al (Below.refl _ _) _
  have hsa : wa.heap.size = w.heap.size + 1 := by rw [← hwa]; simp
  have hcall : Calls Tryd.prog 41 #[p] (w.alloc (.cells (z8 32).toArray 45)) fun e w' => e = .returned (.pointer (some ⟨wa.heap.size, 0, none⟩)) ∧ St w' wa.heap.size s ∧ Below wa.heap.size wa w' := by
    rw [hwa]; exact HF.out wa hBa
  refine hcall.mono ?_
  clear hcall
  rintro e w1 ⟨rfl, hS1, hB1⟩
  have hZ1 := hZ.be hB1
  obtain ⟨g, hg⟩ : ∃ g, wa.heap.size = g := ⟨_, rfl⟩
  rw [hg] at hS1 hB1 hsa ⊢
  have hB2 : Below w.heap.size w w1 := hBa.trans (hB1.mono (by omega))
  have hT1 := hT.below hB2 hT.1
  have hgw : w.heap.size < g := by omega
  have hcn := blk_at hS1 (strC_n hs.1 hs.2)
  rw [HNN.out] at hcn
  clear hwa hBa hsa hZ hg hB1 hT
  go_wp2_with fail
  refine (one_any g s 128 _ hs (by rw [HNN.out]; omega) (by omega) hT1 hS1).mono ?_
  rintro e w2 ⟨rfl, hS2, hG2⟩
  have hZ2 := blk_only hZ1 hG2 (by omega)
  have hB3 := below_only hB2 hG2 hB2.size (by omega)
  have hT2 := hT1.only hG2 (by omega)
  clear hS1 hG2 hZ1 hB2 hT1 hcn
  go_wp2_with fail
  go_loopw [14] (fun _ wr => ∃ j : Nat, j ≤ padK n ∧ St wr g (feedS s (128 :: List.replicate j 0)) ∧ Blk wr w.heap.size 45 (z8 32).toArray ∧ Below w.heap.size w wr ∧ Tabs wr) (fun _ wr => n + 65 - totOf wr g)
  case atStart => exact ⟨0, by omega, hS2, hZ2, hB3, hT2⟩
  case round =>
    obtain ⟨j, hj, hSj, hZj, hBj, hTj⟩ := hrel
    clear hS2 hZ2 hB3 hT2
    have hok := feedS_ok hs (128 :: List.replicate j 0)
    have hfn : (feedS s (128 :: List.replicate j 0)).2.2 = n + 1 + j := by rw [feedS_n, HNN.out]; simp; omega
    have hcn := blk_at hSj (strC_n hok.1 hok.2)
    rw [hfn] at hcn
    have htot := tot_of hok hSj
    rw [hfn] at htot
    have HTOT := Sl.mk htot
    have HFN := Sl.mk hfn
    have hpk : padK n ≤ 63 := by unfold padK; omega
    clear htot hfn
    by_cases hjl : j < padK n
    · have ht : (((n + 1 + j : Nat) : Int) % 64 != 56) = true := by
        have : (n + 1 + j) % 64 ≠ 56 := by unfold padK at hjl; omega
        simp; omega
      have ht2 : (((n : Int) + 1 + (j : Int)) % 64 != 56) = true := by rw [← ht]; simp
      have hsn : feedS s (128 :: List.replicate (j + 1) 0) = oneS (feedS s (128 :: List.replicate j 0)) 0 := by
        rw [← feedS_snoc, List.replicate_succ']; rfl
      have HSN := Sl.mk hsn
      clear hsn
      go_wp2_with fail
      refine (one_any g _ 0 _ hok (by rw [HFN.out]; omega) (by omega) hTj hSj).mono ?_
      rintro e w3 ⟨rfl, hS3, hG3⟩
      go_wp2_with fail
      go_roundw
      case rel => exact ⟨j + 1, by omega, by rw [HSN.out]; exact hS3, blk_only hZj hG3 (by omega), below_only hBj hG3 hBj.size (by omega), hTj.only hG3 (by omega)⟩
      case measure =>
        have e1 := tot_of (oneS_ok hok) hS3
        rw [oneS_n, HFN.out] at e1
        rw [e1, HTOT.out]; omega
    · obtain rfl : j = padK n := by omega
      have ht : (((n + 1 + padK n : Nat) : Int) % 64 != 56) = false := by
        have : (n + 1 + padK n) % 64 = 56 := by unfold padK; omega
        simp; omega
      have ht2 : (((n : Int) + 1 + (padK n : Int)) % 64 != 56) = false := by rw [← ht]; simp
      clear hjl hj
      go_wp2_with fail
      obtain ⟨wo, hwo⟩ : ∃ wo, wo = wr := ⟨_, rfl⟩
      subst hwo
      obtain ⟨C, hC⟩ : ∃ C, 128 :: List.replicate (padK n) 0 = C := ⟨_, rfl⟩
      have hCl : C.length ≤ 64 := by rw [← hC]; simp; omega
      have HC := Sl.mk hC
      rw [hC] at hSj
      have hS0 : St wo g (feedS s (C ++ (List.range 0).map (lenF n))) := by simpa using hSj
      clear hcn ht ht2 hok HTOT HFN hC hSj
      go_loopw [22] (fun v22 wr => ∃ i : Nat, i ≤ 8 ∧ v22 = .int .i64 i ∧ St wr g (feedS s (C ++ (List.range i).map (lenF n))) ∧ Blk wr w.heap.size 45 (z8 32).toArray ∧ Below w.heap.size w wr ∧ Tabs wr) (fun v22 _ => 8 - (intOf v22).toNat)
      case atStart => exact ⟨0, by omega, rfl, hS0, hZj, hBj, hTj⟩
      case round =>
        obtain ⟨i, hi, rfl, hSi, hZi, hBi, hTi⟩ := hrel
        clear hS0 hZj hBj hTj
        have hok := feedS_ok hs (C ++ (List.range i).map (lenF n))
        by_cases hlt : i < 8
        · have hsn : feedS s (C ++ (List.range (i + 1)).map (lenF n)) = oneS (feedS s (C ++ (List.range i).map (lenF n))) (lenF n i) := by
            rw [← feedS_snoc, List.range_succ, List.map_append, List.append_assoc]; rfl
          have HSN := Sl.mk hsn
          have hb : (n : Int) * 8 / 2 ^ (8 * (7 - i)) % 256 = ((lenF n i : Nat) : Int) := by unfold lenF; simp
          have HB := Sl.mk hb
          have hnn : (feedS s (C ++ (List.range i).map (lenF n))).2.2 ≤ 1000000000000 := by
            rw [feedS_n, HNN.out]; simp; omega
          clear hsn hb
          go_wp2_with fail
          rw [HB.out]
          refine (one_any g _ (lenF n i) _ hok hnn (by omega) hTi hSi).mono ?_
          rintro e w3 ⟨rfl, hS3, hG3⟩
          go_wp2_with fail
          go_roundw
          case rel => exact ⟨i + 1, by omega, by go_num, by rw [HSN.out]; exact hS3, blk_only hZi hG3 (by omega), below_only hBi hG3 hBi.size (by omega), hTi.only hG3 (by omega)⟩
          case measure => simp [intOf]; omega
        · obtain rfl : i = 8 := by omega
          have hfin : bytesF (feedS s (C ++ (List.range 8).map (lenF n))).1 = sumF s := by
            unfold sumF lenB
            rw [HNN.out, ← HC.out]
          have HFIN := Sl.mk hfin
          clear hfin
          go_wp2_with fail
          refine (bytes_any g _ _ _ _ hok.1 hSi).mono ?_
          rintro e w5 ⟨rfl, hB5⟩
          rw [HFIN.out]
          have hZ5 := hZi.be hB5
          have hE5 := below_tr hBi hB5
          have hlen : (u8s (sumF s)).length = 32 := by simp [u8s, sumF, bytesF]
          have HL := Sl.mk hlen
          clear hlen hB5
          go_wp2_with ((refine wpList_store_blk rfl 45 (.tmp 2) (.tmp 39) rfl w.heap.size 0 45 (z8 32) (u8s (sumF s)) hZ5 rfl rfl (by rw [HL.out]; simp [z8]) (by rw [info32, HL.out]) (u8s_one _) ?_))
          intro w6 hB6 hG6 hs6
          have hB7 : Blk w6 w.heap.size 45 (u8s (sumF s)).toArray := by
            have e : u8s (sumF s) ++ (z8 32).drop (u8s (sumF s)).length = u8s (sumF s) := by rw [HL.out]; simp [z8]
            first
              | rwa [e] at hB6
              | (rw [HL.out] at e; rwa [e] at hB6)
          have hE : Below w.heap.size w w6 := below_only hE5 hG6 hE5.size (Nat.le_refl _)
          clear hB6 hG6 hs6
          go_wp2_with fail
          refine bodyPost_ret (v := .agg (u8s (sumF s)).toArray) (results_cell_row Tryd.results28 _ _ w.heap.size 45 (u8s (sumF s)).toArray (0, 0) _ rfl hB7 Tryd.underlying45 rfl (by rw [info32]; simp [HL.out])) rfl ?_
          exact ⟨rfl, hE⟩

theorem sum_nil (w : World) (hT : Tabs w) : Calls Tryd.prog 28 #[.pointer none] w fun e w' => e = .returned (.agg (u8s (sumF zS)).toArray) ∧ Below w.heap.size w w' :=
  sum_of _ zS w zS_ok (by decide) hT fun w1 _ => fork_nil w1
theorem sum_any (g : Nat) (s : StT) (w : World) (hs : okS s) (hn : s.2.2 ≤ 100000000000) (hT : Tabs w) (hS : St w g s) :
    Calls Tryd.prog 28 #[.pointer (some ⟨g, 0, none⟩)] w fun e w' => e = .returned (.agg (u8s (sumF s)).toArray) ∧ Below w.heap.size w w' :=
  sum_of _ s w hs hn hT fun w1 hb => fork_any g s w1 hs (hS.be hb)

/-- The digest of bytes. -/
def shaF (cs : List Nat) : List Nat := sumF (feedS zS cs)
theorem shaF_len (cs : List Nat) : (shaF cs).length = 32 := by simp [shaF, sumF, bytesF]

set_option maxRecDepth 100000 in
set_option maxHeartbeats 4000000 in
theorem of_any (A : Option Addr) (c : Nat) (L : List (List Nat)) (S : Nat → Prop) (w : World) (hn : L.flatten.length ≤ 10000000000) (hLn : L.length ≤ 10000000000) (hT : Tabs w) (hL : RdSS w S A L) (hS : ∀ b, S b → b < w.heap.size) :
    Calls Tryd.prog 15 #[.slice A L.length c] w fun e w' => e = .returned (.agg (u8s (shaF L.flatten)).toArray) ∧ Below w.heap.size w w' := by
  have hz := zero73
  have hT0 := hT.1
  obtain ⟨m, hm⟩ : ∃ m, L.length = m := ⟨_, rfl⟩
  have HM := hide hm
  have HN := Sl.mk hn
  have HL := Sl.mk hL
  have HS := Sl.mk hS
  rw [hm] at hLn ⊢
  clear hm hn hL hS
  go_enter Tryd.func15, Tryd.ntmps15
  go_wp2_with fail
  obtain ⟨wa, hwa⟩ : ∃ wa, w.alloc (.cells (z8 32).toArray 45) = wa := ⟨_, rfl⟩
  have hZ : Blk wa w.heap.size 45 (z8 32).toArray := by rw [← hwa]; exact Blk.new _ _ _
  have hBa : Below w.heap.size w wa := by rw [← hwa]; exact below_al (Below.refl _ _) _
  have hsa : wa.heap.size = w.heap.size + 1 := by rw [← hwa]; simp
  obtain ⟨wb, hwb⟩ : ∃ wb, wa.alloc (.cells (strC zS.1 zS.2.1 zS.2.2).toArray 69) = wb := ⟨_, rfl⟩
  have hSt : St wb (w.heap.size + 1) zS := by rw [← hwb]; exact Blk.new' hsa.symm
  have hZb : Blk wb w.heap.size 45 (z8 32).toArray := by rw [← hwb]; exact hZ.alloc _
  have hBb : Below w.heap.size w wb := by rw [← hwb]; exact below_al hBa _
  have hsb : wb.heap.size = w.heap.size + 2 := by rw [← hwb]; simp [hsa]
  have hTb := hT.below hBb hT.1
  have hcall := write_any (w.heap.size + 1) zS A c L S wb zS_ok (by have := HN.out; show 0 + _ ≤ _; omega) (by rw [HM.out]; omega) (by omega) hTb hSt
    (HL.out.keep fun p hp => hBb.cell (HS.out _ hp)) (fun b hb => by have := HS.out b hb; exact ⟨by omega, by omega⟩)
  rw [HM.out, ← hwb, ← hwa] at hcall
  refine hcall.mono ?_
  clear hcall
  rintro e w2 ⟨rfl, hS2, hG2⟩
  rw [hwa, hwb] at hG2
  have hZ2 := blk_only hZb hG2 (by omega)
  have hB2 := below_only hBb hG2 (by omega) (by omega)
  have hT2 := hTb.only hG2 (by omega)
  clear hwa hwb hZ hBa hsa hSt hZb hBb hTb hG2 hsb
  go_wp2_with fail
  refine (sum_any (w.heap.size + 1) _ _ (feedS_ok zS_ok _) (by rw [feedS_n]; have := HN.out; show 0 + _ ≤ _; omega) hT2 hS2).mono ?_
  rintro e w5 ⟨rfl, hB5⟩
  have hZ5 := hZ2.be hB5
  have hE5 := below_tr hB2 hB5
  have hlen : (u8s (shaF L.flatten)).length = 32 := by rw [u8s_len, shaF_len]
  have HLE := Sl.mk hlen
  have hfold : sumF (feedS zS L.flatten) = shaF L.flatten := rfl
  rw [hfold]
  clear hlen hB5 hfold
  go_wp2_with ((refine wpList_store_blk rfl 45 (.tmp 2) (.tmp 7) rfl w.heap.size 0 45 (z8 32) (u8s (shaF L.flatten)) hZ5 rfl rfl (by rw [HLE.out]; simp [z8]) (by rw [info32, HLE.out]) (u8s_one _) ?_))
  intro w6 hB6 hG6 hs6
  have hB7 : Blk w6 w.heap.size 45 (u8s (shaF L.flatten)).toArray := by
    have e : u8s (shaF L.flatten) ++ (z8 32).drop (u8s (shaF L.flatten)).length = u8s (shaF L.flatten) := by rw [HLE.out]; simp [z8]
    first
      | rwa [e] at hB6
      | (rw [HLE.out] at e; rwa [e] at hB6)
  have hE : Below w.heap.size w w6 := below_only hE5 hG6 hE5.size (Nat.le_refl _)
  clear hB6 hG6 hs6
  go_wp2_with fail
  refine bodyPost_ret (v := .agg (u8s (shaF L.flatten)).toArray) (results_cell_row Tryd.results15 _ _ w.heap.size 45 (u8s (shaF L.flatten)).toArray (0, 0) _ rfl hB7 Tryd.underlying45 rfl (by rw [info32]; simp [HLE.out])) rfl ?_
  exact ⟨rfl, hE⟩

end Go.Proofs.YticcphppnmoogaaDoor
